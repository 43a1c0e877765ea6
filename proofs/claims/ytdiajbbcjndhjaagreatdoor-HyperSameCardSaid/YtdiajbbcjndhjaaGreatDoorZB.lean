/- What may be forgotten; single facts; an executor that says what it leans on. -/
import Derived.Test.YtdiajbbcjndhjaaGreatDoorZA
namespace Go.Xa
open Go.RowKit

/-! ### Forgetting -/
def D.lt1 (n : Nat) : D → Bool
  | .agg cs => cs.all (D.lt0 n)
  | d => d.lt0 n
def D.ltv (n : Nat) : D → Bool
  | .agg cs => cs.all (D.lt0 n)
  | .tup vs => vs.all (D.lt1 n)
  | .fn _ a b => a.all (D.lt0 n) && b.all (D.lt0 n)
  | d => d.lt0 n
theorem Rep.lt1 {M : Mem} {β β' : Bt} {n : Nat} (hb : ∀ i o, i < n → β i = some o → β' i = some o) {v : Value} {d : D} (h : Rep M β v d) (hf : d.lt1 n = true) : Rep M β' v d := by
  cases d with
  | agg cs =>
    cases h with
    | agg hl hr hk => exact .agg hl (fun i v d hv hd => (hr i v d hv hd).lt0 hb (List.all_eq_true.1 hf d (List.mem_of_getElem? hd))) hk
  | _ => exact h.lt0 hb hf
theorem Rep.ltv {M : Mem} {β β' : Bt} {n : Nat} (hb : ∀ i o, i < n → β i = some o → β' i = some o) {v : Value} {d : D} (h : Rep M β v d) (hf : d.ltv n = true) : Rep M β' v d := by
  cases d with
  | agg cs => exact h.lt1 hb hf
  | tup vs =>
    cases h with
    | tup hl hr => exact .tup hl fun i v d hv hd => (hr i v d hv hd).lt1 hb (List.all_eq_true.1 hf d (List.mem_of_getElem? hd))
  | fn g a b =>
    simp only [D.ltv, Bool.and_eq_true, List.all_eq_true] at hf
    cases h with
    | fn h1 h2 hr1 hr2 => exact .fn h1 h2 (fun i v d hv hd => (hr1 i v d hv hd).lt0 hb (hf.1 d (List.mem_of_getElem? hd))) (fun i v d hv hd => (hr2 i v d hv hd).lt0 hb (hf.2 d (List.mem_of_getElem? hd)))
  | _ => exact h.lt0 hb hf
def forgetGo (m : Nat) : Nat → List D → List D
  | _, [] => []
  | i, d :: ts => (if m.testBit i then .undef else d) :: forgetGo m (i + 1) ts
theorem forgetGo_get {m : Nat} : ∀ (ts : List D) (i j : Nat), (forgetGo m i ts)[j]? = (ts[j]?).map fun d => if m.testBit (i + j) then .undef else d
  | [], i, j => by simp [forgetGo]
  | d :: ts, i, j => by
    cases j with
    | zero => simp [forgetGo]
    | succ j =>
      simp only [forgetGo, List.getElem?_cons_succ]
      rw [forgetGo_get ts (i + 1) j, show i + 1 + j = i + (j + 1) by omega]
theorem forgetGo_len {m : Nat} : ∀ (ts : List D) (i : Nat), (forgetGo m i ts).length = ts.length
  | [], _ => rfl
  | d :: ts, i => by simp [forgetGo, forgetGo_len ts (i + 1)]
/-- Some temporaries are forgotten, and the blocks behind a number. -/
def St.weak (m k : Nat) (st : St) : St := { st with ts := forgetGo m 0 st.ts, h := st.h.take k }
def blkLt (k : Nat) : Blk → Prop
  | .cells elems _ => ∀ e ∈ elems, ∀ d ∈ e, d.lt0 k = true
  | .loop _ _ tmps _ _ _ dfr => (∀ d ∈ tmps, d.ltv k = true) ∧ dfr < k
  | _ => True
def blksLt (k : Nat) : List Blk → Prop
  | [] => True
  | x :: l => blkLt k x ∧ blksLt k l
def weakOk (n m k : Nat) (st : St) : Bool := decide (n ≤ k) && decide (k ≤ st.h.length) && st.df.all (fun i => decide (i < k)) && (forgetGo m 0 st.ts).all (D.ltv k)
theorem blksLt_get {k : Nat} : ∀ (l : List Blk), blksLt k l → ∀ x ∈ l, blkLt k x
  | [], _, _, h => by cases h
  | y :: l, ⟨h1, h2⟩, x, hx => by
    rcases List.mem_cons.1 hx with rfl | hx
    · exact h1
    · exact blksLt_get l h2 x hx
theorem weak_ok {W : Wd} {n m k : Nat} {st : St} (hw : weakOk n m k st = true) (hb : blksLt k (st.h.take k)) : StW W n st (st.weak m k) := fun hn => by
  simp only [weakOk, Bool.and_eq_true, decide_eq_true_eq, List.all_eq_true] at hw
  obtain ⟨⟨⟨h1, h2⟩, h3⟩, h4⟩ := hw
  refine ⟨by simp [St.weak]; omega, rfl, fun M β a w s => ?_⟩
  let β' : Bt := fun i => if i < k then β i else none
  have hlt : ∀ i o, i < k → β i = some o → β' i = some o := fun i o hi ho => by simp only [β', if_pos hi, ho]
  have hback : ∀ i o, β' i = some o → i < k ∧ β i = some o := fun i o ho => by
    simp only [β'] at ho
    split at ho
    · exact ⟨‹_›, ho⟩
    · cases ho
  have hold : ∀ (i : Nat) (x : Blk), (st.h.take k)[i]? = some x → i < k ∧ st.h[i]? = some x := fun i x hx => by
    rw [List.getElem?_take] at hx
    split at hx
    · exact ⟨‹_›, hx⟩
    · cases hx
  refine ⟨M, β', ⟨Mle.refl M, fun i o hi ho => hlt i o (by omega) ho, WExt.refl β w, fun b ⟨i, o, ho, hb⟩ => .inl ⟨i, o, (hback i o ho).2, hb⟩, fun _ h => .inl h⟩, fun i hi hn => (if_pos (show i < k by omega)).trans hn, ?_, ⟨?_, fun i v d hv hd => ?_⟩, ⟨s.d.len, fun i id d h5 h6 => ?_⟩, s.g⟩
  · refine ⟨fun id x o hx ho => ?_, fun id x hx hl => ?_, fun id hid => ?_, fun i j x y o p hx hy lx ly ho hp hop => ?_, s.h.agree, fun id o ho => s.h.lt id o (hback id o ho).2⟩
    · obtain ⟨hk, hx'⟩ := hold id x hx
      have hB := s.h.blk id x o hx' (hback id o ho).2
      have hbl := blksLt_get _ hb x (List.mem_of_getElem? hx)
      cases x with
      | dead => trivial
      | cells elems wr =>
        obtain ⟨cs, ety, fz, k1, k2, k3, k4, k5, k6, k7⟩ := hB
        exact ⟨cs, ety, fz, k1, k2, k3, k4, k5, fun i j e d a b => let ⟨c, v, hv, hr⟩ := k6 i j e d a b; ⟨c, v, hv, hr.lt0 hlt (hbl e (List.mem_of_getElem? a) d (List.mem_of_getElem? b))⟩, k7⟩
      | loop s1 p ts ps as bd df =>
        obtain ⟨fn, tv, od, k1, k2, k3, k4⟩ := hB
        exact ⟨fn, tv, od, hlt _ _ hbl.2 k1, k2, k3, k4.1, fun i v d hv hd => (k4.2 i v d hv hd).ltv hlt (hbl.1 d (List.mem_of_getElem? hd))⟩
      | dfr => exact hB
    · obtain ⟨hk, hx'⟩ := hold id x hx
      obtain ⟨o, ho⟩ := s.h.has id x hx' hl
      exact ⟨o, hlt id o hk ho⟩
    · simp only [St.weak, List.length_take] at hid
      simp only [β']
      rw [if_neg (by omega)]
    · exact s.h.inj i j x y o p (hold i x hx).2 (hold j y hy).2 lx ly (hback i o ho).2 (hback j p hp).2 hop
  · simp only [St.weak, forgetGo_len]; exact s.t.1
  · have hd' := hd
    simp only [St.weak] at hd
    rw [forgetGo_get] at hd
    simp only [Option.map_eq_some_iff] at hd
    obtain ⟨d0, hd0, rfl⟩ := hd
    have hm := h4 _ (List.mem_of_getElem? hd')
    split
    · exact .undef
    · rename_i hbit
      rw [if_neg hbit] at hm
      exact (s.t.2 i v d0 hv hd0).ltv hlt hm
  · obtain ⟨o, ho, hd⟩ := s.d.each i id d h5 h6
    exact ⟨o, hlt id o (h3 id (List.mem_of_getElem? h5)) ho, hd⟩

/-! ### Single facts -/
def Call1 (P : Program) (W : Wd) (f : FuncId) (args : List D) (h : List Blk) (d : D) (h' : List Blk) : Prop :=
  FnOk P f ∧ ∀ M β w vs, GOk M W.G → HOk M β h w → RepL M β vs args →
    CallsIn (Wide none) 0 P f vs w fun e w' => ∃ v M' β', e = .returned v ∧ Good M β w M' β' w' ∧ Keep h.length β β' ∧ HOk M' β' h' w' ∧ Rep M' β' v d
open Classical in
noncomputable def rQuiet (f : FuncId) (as : List D) (q : QR) : R := { R.bot with quiet := fun g a => if g = f ∧ a = as then some q else none }
open Classical in
noncomputable def rCall (f : FuncId) (as : List D) (h : List Blk) (d : D) (h' : List Blk) : R := { R.bot with call := fun g a k => if g = f ∧ a = as ∧ k = h then some (d, h') else none }
open Classical in
noncomputable def rRun (c : Code) (st : St) (e : Exit) (st' : St) : R := { R.bot with run := fun c1 s1 => if c1 = c ∧ s1 = st then some (e, st') else none }
section
variable {P : Program} {W : Wd}
theorem rQuiet_ok {f : FuncId} {as : List D} {q : QR} (h : QCall P W f as q) : ROk P W (rQuiet f as q) :=
  ⟨(bot_ok P W).run, (bot_ok P W).call, fun g a q' hq => by
    simp only [rQuiet] at hq
    split at hq
    · rename_i hc; obtain ⟨rfl, rfl⟩ := hc; cases hq; exact h
    · cases hq⟩
theorem rCall_ok {f : FuncId} {as : List D} {h h' : List Blk} {d : D} (hc : Call1 P W f as h d h') : ROk P W (rCall f as h d h') :=
  ⟨(bot_ok P W).run, (fun g a k d' k' hq => by
    simp only [rCall] at hq
    split at hq
    · rename_i he; obtain ⟨rfl, rfl, rfl⟩ := he; cases hq; exact hc
    · cases hq),
   (bot_ok P W).quiet⟩
theorem rRun_ok {c : Code} {st st' : St} {e : Exit} (h : RunN P W st.h.length c st e st') : ROk P W (rRun c st e st') :=
  ⟨(fun c1 s1 e1 s2 hq => by
    simp only [rRun] at hq
    split at hq
    · rename_i he; obtain ⟨rfl, rfl⟩ := he; cases hq
      obtain ⟨h1, h2, h3⟩ := h (Nat.le_refl _)
      refine ⟨h2, h1, fun ro M β a w hro s => wpIn_mono (h3 ro M β a w hro s) ?_⟩
      rintro e' a' w' ⟨rfl, M', β', g, k, s'⟩
      refine ⟨rfl, M', β', ⟨g.mle, fun i o ho => g.ole i o ?_ ho, g.ext, g.new, g.mnew⟩, k, s'⟩
      rcases Nat.lt_or_ge i s1.h.length with hi | hi
      · exact hi
      · rw [s.h.ge i hi] at ho; cases ho
    · cases hq),
   (bot_ok P W).call, (bot_ok P W).quiet⟩
theorem Call1.run (hT : W.T.ok P) (hF : ∀ f fn, W.F f = some fn → P.funcs[f]? = some fn) {f : FuncId} {fn : Func} {c : Code} {args : List D} {h h' : List Blk} {d : D} {e : Exit} {st : St} (hf : W.F f = some fn) (hb : fn.body = some c)
    (hr : RunN P W h.length c { ts := args ++ List.replicate (fn.ntmps - args.length) (.lit undef), h, df := [], rd := false } e st) (he : e = .normal ∨ e = .ret) (hn : (fn.name == "runtime.NumGoroutine") = false) (hl : leave W fn st = some (d, h')) : Call1 P W f args h d h' := by
  have hok := rRun_ok (st := { ts := args ++ List.replicate (fn.ntmps - args.length) (.lit undef), h, df := [], rd := false }) hr
  refine nextCall_ok hT hF hok f args h d h' ?_
  unfold nextCall
  rw [hf]
  simp only [hb, rRun]
  have hlen : h.length ≤ st.h.length := (hr (Nat.le_refl _)).1
  rcases he with rfl | rfl
  · simp [hn, hlen, hl]
  · simp [hn, hlen, hl]
theorem QCall.of_call {f : FuncId} {args : List D} {h' : List Blk} {d : D} {q : QR} (hc : Call1 P W f args [] d h') (hf : finish (W.ow f) d h' = some q) : QCall P W f args q := by
  refine quiet_ok (rCall_ok hc) ?_
  simp [quietCall, rCall, R.bot, hf]
end
end Go.Xa
