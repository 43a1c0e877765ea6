/- An executor over abstract data; its calls. -/
import Derived.Test.YtdiajbbcjndhjaaGreatDoorXL
import Derived.RangeFuncRecord
import Derived.OrdersIn
namespace Go.Xa
open Go.RowKit

structure St where
  ts : List D
  h : List Blk
  df : List Nat
  rd : Bool
inductive QR where
  | val (d : D)
  | new (off len : Nat) (clip : Bool) (x : Blk)
structure R where
  run : Code → St → Option (Exit × St)
  call : FuncId → List D → List Blk → Option (D × List Blk)
  quiet : FuncId → List D → Option QR
  dr : Bool
/-- The place's own words: types, variables, functions, and whose results stay the caller's to write. -/
structure Wd where
  T : Tbl
  G : Nat → D
  F : FuncId → Option Func
  ow : FuncId → Bool
  gen : FuncId → Bool

def St.put (st : St) (dst : Option Nat) (d : D) : St :=
  match dst with
  | some t => { st with ts := st.ts.set t d }
  | none => st
/-- Is an operation wanted? -/
def wantedA (ops : List Oper) (ts : List D) (o : Oper) : Option Bool :=
  match o.guard with
  | none => some true
  | some (j, want) =>
    match (ops[j]?).bind (·.dst) with
    | some t =>
      match ts[t]? with
      | some (.bool b) => some (b == want)
      | some (.lit v) => (match v with | .tuple _ => some false | _ => none)
      | _ => none
    | none => none

def finish (ow : Bool) (d : D) (h : List Blk) : Option QR :=
  match ow, d with
  | true, .own id off len clip =>
    match h[id]? with
    | some (.cells elems true) =>
      let l := elems.map fun e => e.map (conv 8 (h.set id .dead))
      if l.all (fun e => e.all D.pure) then some (.new off len clip (.cells l true)) else none
    | _ => none
  | _, d => (fin h d).map .val
def QR.app (ν : Nat) (h : List Blk) : QR → D × List Blk
  | .val d => (d, h)
  | .new off len clip x => (.own ν off len clip, place ν x h)
/-- A call whose arguments name no block of the caller's. -/
def quietCall (W : Wd) (r : R) (f : FuncId) (args : List D) : Option QR :=
  match r.quiet f args with
  | some q => some q
  | none =>
    match r.call f args [] with
    | some (d, h) => finish (W.ow f) d h
    | none => none

/-- After a call into the caller's blocks: what it left, without the blocks of its own. -/
def D.lt0 (n : Nat) : D → Bool
  | .ptr id _ _ | .own id _ _ _ | .yield id => id < n
  | d => d.free0
def clean0 (n : Nat) (h : List Blk) (d : D) : Option D :=
  match fin0 h d with
  | some d' => some d'
  | none => if d.lt0 n then some d else none
def clean0s (n : Nat) (h : List Blk) : List D → Option (List D)
  | [] => some []
  | d :: ds => match clean0 n h d, clean0s n h ds with | some x, some xs => some (x :: xs) | _, _ => none
def cleanEs (n : Nat) (h : List Blk) : List (List D) → Option (List (List D))
  | [] => some []
  | e :: es => match clean0s n h e, cleanEs n h es with | some x, some xs => some (x :: xs) | _, _ => none
def cleanBlk (n : Nat) (h : List Blk) : Blk → Option Blk
  | .cells elems wr => (cleanEs n h elems).map fun l => .cells l wr
  | .dead => some .dead
  | .dfr => some .dfr
  | .loop .. => none
def cleanBlks (n : Nat) (h : List Blk) : List Blk → Option (List Blk)
  | [] => some []
  | x :: xs => match cleanBlk n h x, cleanBlks n h xs with | some y, some ys => some (y :: ys) | _, _ => none
def deadBelow (n : Nat) (h : List Blk) : List Blk := List.replicate (min n h.length) .dead ++ h.drop n
/-- If it can be. -/
def clean (n : Nat) (d : D) (h : List Blk) : D × List Blk :=
  match fin (deadBelow n h) d, cleanBlks n (deadBelow n h) (h.take n) with
  | some d', some h' => (d', h')
  | _, _ => (d, h)

/-- Data that hangs on no memory. -/
def D.scalar0 : D → Bool
  | .undef | .int .. | .bool _ | .str _ | .lit _ => true
  | _ => false
def D.scalar1 : D → Bool
  | .agg cs => cs.all D.scalar0
  | d => d.scalar0
def D.scalar : D → Bool
  | .tup vs => vs.all D.scalar1
  | d => d.scalar1
def QR.scalar : QR → Bool
  | .val d => d.scalar
  | .new _ _ _ (.cells l true) => l.all fun e => e.all D.scalar0
  | _ => false
def fins (h : List Blk) : List D → Option (List D)
  | [] => some []
  | d :: ds => match fin h d, fins h ds with | some x, some xs => some (x :: xs) | _, _ => none
def idM0 : D → Nat
  | .ptr id _ _ | .own id _ _ _ => 1 <<< id
  | _ => 0
def idM1 : D → Nat
  | .agg cs => cs.foldl (fun m d => m ||| idM0 d) 0
  | .fn _ a b => (a ++ b).foldl (fun m d => m ||| idM0 d) 0
  | d => idM0 d
/-- The blocks that arguments name. -/
def ids0 (as : List D) : Nat := as.foldl (fun m d => m ||| idM1 d) 0
def blkM : Blk → Nat
  | .cells elems _ => elems.foldl (fun m e => m ||| ids0 e) 0
  | _ => 0
def contM (m : Nat) : Nat → List Blk → Nat
  | _, [] => 0
  | i, x :: h => (if m.testBit i then blkM x else 0) ||| contM m (i + 1) h
def closM : Nat → Nat → List Blk → Nat
  | 0, m, _ => m
  | k + 1, m, h => closM k (m ||| contM m 0 h) h
def idsM (as : List D) (h : List Blk) : Nat := closM 3 (ids0 as) h
/-- Of the blocks, some alone. -/
def maskGo (m : Nat) : Nat → List Blk → List Blk
  | _, [] => []
  | i, x :: h => (if m.testBit i then x else .dead) :: maskGo m (i + 1) h
def mask (m : Nat) (h : List Blk) : List Blk := maskGo m 0 h
def Blk.shut : Blk → Blk
  | .cells l _ => .cells l false
  | y => y
/-- Of the blocks, some are written no more. -/
def freezeGo (m : Nat) : Nat → List Blk → List Blk
  | _, [] => []
  | i, x :: h => (if m.testBit i then x.shut else x) :: freezeGo m (i + 1) h
def freezeM (m : Nat) (h : List Blk) : List Blk := freezeGo m 0 h
def D.ptr0 : D → Bool
  | .ptr .. => true
  | _ => false
def D.ptr1 : D → Bool
  | .agg cs => cs.any D.ptr0
  | .fn _ a b => (a ++ b).any D.ptr0
  | d => d.ptr0
/-- A call that may turn the caller's blocks. -/
def genCall (r : R) (f : FuncId) (args : List D) (h : List Blk) : Option (D × List Blk) := (r.call f args h).map fun p => clean h.length p.1 p.2

def loopTs (ts : List D) : List Nat → List D → List D
  | p :: ps, a :: as => loopTs (ts.set p a) ps as
  | _, _ => ts
/-- A round of a range over a function. -/
def yieldRound (r : R) (l : Nat) (args : List D) (h : List Blk) : Option (D × List Blk) :=
  match h[l]? with
  | some (.loop .ready _ tmps ps assign body _) =>
    if args.length = ps.length then
      match r.run assign { ts := loopTs tmps ps args, h, df := [], rd := true } with
      | some (.normal, s1) =>
        match s1.h[l]? with
        | some (.loop .ready p2 t2 ps2 as2 b2 d2) =>
          match r.run body { s1 with h := s1.h.set l (.loop .busy p2 t2 ps2 as2 b2 d2) } with
          | some (e, s2) =>
            match s2.h[l]? with
            | some (.loop _ _ t3 ps3 as3 b3 d3) =>
              match e with
              | .normal => some (.bool true, s2.h.set l (.loop .ready none t3 ps3 as3 b3 d3))
              | .ret => some (.bool false, s2.h.set l (.loop .done (some .ret) t3 ps3 as3 b3 d3))
              | .exit id => some (.bool false, s2.h.set l (.loop .done (some (.exit id)) t3 ps3 as3 b3 d3))
              | _ => none
            | _ => none
          | none => none
        | _ => none
      | _ => none
    else none
  | _ => none

/-- A call of a function value. -/
def callVal (W : Wd) (r : R) (ν : Nat) (f : D) (args : List D) (h : List Blk) : Option (D × List Blk) :=
  match f with
  | .fn g a b =>
    let as := a ++ args ++ b
    if as.all D.free then (quietCall W r g as).map (QR.app ν h)
    else if W.gen g then genCall r g as h
    else
      match fins (mask (idsM as h) h) as with
      | some as' =>
        match quietCall W r g as' with
        | some q => if q.scalar then some (q.app ν h) else if as.any D.ptr1 then (if r.dr then none else genCall r g as h) else some (q.app ν (freezeM (idsM as h) h))
        | none => if r.dr then none else genCall r g as h
      | none => genCall r g as h
  | .yield l => yieldRound r l args h
  | _ => none
def opVal (W : Wd) (r : R) (ν : Nat) (ρ : Operand → D) (h : List Blk) (op : Op) : Option (D × List Blk) :=
  match pureOp W.T ρ h op with
  | some d => some (d, h)
  | none =>
    match memOp W.T ν ρ h op with
    | some p => some p
    | none =>
      match op with
      | .call { callee := .value f, args, .. } => callVal W r ν (ρ f) (args.toList.map ρ) h
      | _ => none
def opStep (W : Wd) (r : R) (ν : Nat) (ops : List Oper) (o : Oper) (st : St) : Option St :=
  match wantedA ops st.ts o with
  | some true =>
    match opVal W r ν (ev W.G st.ts) st.h o.op with
    | some p => if st.h.length ≤ p.2.length then some ({ st with h := p.2 }.put o.dst p.1) else none
    | none => none
  | some false => some (st.put o.dst (.lit undef))
  | none => none
def opsRun (W : Wd) (r : R) (ops : List Oper) : List Oper → St → Option St
  | [], st => some st
  | o :: os, st => match opStep W r st.h.length ops o st with | some st' => opsRun W r ops os st' | none => none

/-! ### The machine follows -/
abbrev Wide (ro : Option Nat) : Fence := { fn := fun _ => True, depth := none, alive := false, round := ro }
theorem wide_room (ro : Option Nat) (n : Nat) : (Wide ro).room n := fun _ h => by simp at h

structure DefsOk (β : Bt) (h : List Blk) (df : List Nat) (ds : List Deferred) : Prop where
  len : ds.length = df.length
  each : ∀ (i : Nat) id d, df[i]? = some id → ds[i]? = some d → ∃ o, β id = some o ∧ d = { target := .collected o.b, args := #[] }
structure StOk (G : Nat → D) (M : Mem) (β : Bt) (st : St) (a : Act) (w : World) : Prop where
  h : HOk M β st.h w
  t : TmpsOk M β a.tmps st.ts
  d : DefsOk β st.h st.df a.defers
  g : GOk M G

/-- Numbers that speak of nothing speak of nothing still. -/
def Keep (n : Nat) (β β' : Bt) : Prop := ∀ i, i < n → β i = none → β' i = none
theorem Keep.trans {n n' : Nat} {A B C : Bt} (h : Keep n A B) (k : Keep n' B C) (hn : n ≤ n') : Keep n A C := fun i hi ha => k i (Nat.lt_of_lt_of_le hi hn) (h i hi ha)

def RunOk (P : Program) (W : Wd) (run : Code → St → Option (Exit × St)) : Prop :=
  ∀ c st e st', run c st = some (e, st') → st'.rd = st.rd ∧ st.h.length ≤ st'.h.length ∧ ∀ ro M β a w, (st.rd = false → ro = none) → StOk W.G M β st a w →
    c.wpIn (Wide ro) 0 P (fun e' a' w' => e' = e ∧ ∃ M' β', Good M β w M' β' w' ∧ Keep st.h.length β β' ∧ StOk W.G M' β' st' a' w') a w
def CallOk (P : Program) (W : Wd) (call : FuncId → List D → List Blk → Option (D × List Blk)) : Prop :=
  ∀ f args h d h', call f args h = some (d, h') → (∃ fn, P.funcs[f]? = some fn ∧ (fn.name == "runtime.NumGoroutine") = false ∧ fn.body.isNone = false) ∧ ∀ M β w vs, GOk M W.G → HOk M β h w → RepL M β vs args →
    CallsIn (Wide none) 0 P f vs w fun e w' => ∃ v M' β', e = .returned v ∧ Good M β w M' β' w' ∧ Keep h.length β β' ∧ HOk M' β' h' w' ∧ Rep M' β' v d
def FnOk (P : Program) (f : FuncId) : Prop := ∃ fn, P.funcs[f]? = some fn ∧ (fn.name == "runtime.NumGoroutine") = false ∧ fn.body.isNone = false
/-- A call whose arguments name no block: whatever blocks the caller has. -/
def QCall (P : Program) (W : Wd) (f : FuncId) (args : List D) (q : QR) : Prop :=
  FnOk P f ∧ ∀ M β h w vs ν, GOk M W.G → HOk M β h w → Slot β h ν → RepL M Bt.none vs args →
    CallsIn (Wide none) 0 P f vs w fun e w' => ∃ v M' β', e = .returned v ∧ Good M β w M' β' w' ∧ (∀ i, i ≠ ν → β' i = β i) ∧ HOk M' β' (q.app ν h).2 w' ∧ Rep M' β' v (q.app ν h).1
structure ROk (P : Program) (W : Wd) (r : R) : Prop where
  run : RunOk P W r.run
  call : CallOk P W r.call
  quiet : ∀ f args q, r.quiet f args = some q → QCall P W f args q

theorem HOk.later {M M' : Mem} {β : Bt} {h : List Blk} {w w' : World} (H : HOk M β h w) (hM : Mle M M') (hn : ∀ b, M' b ≠ none → M b ≠ none ∨ w.heap.size ≤ b) (ha : ∀ b o, M' b = some o → w'.heap[b]? = some o) (he : WExt Bt.none w w') : HOk M' β h w' := by
  have hold : ∀ (k : Nat), k < w.heap.size → w'.heap[k]? = w.heap[k]? := fun k hk => he.block k hk (by rintro ⟨i, o, h, _⟩; simp [Bt.none] at h)
  refine ⟨fun id x o hx ho => ?_, H.has, H.ge, H.inj, ha, fun id o ho => Nat.lt_of_lt_of_le (H.lt id o ho) he.size⟩
  have hlt := H.lt id o ho
  refine ((H.blk id x o hx ho).cong (hold _ hlt)).mono hM (Ole.refl β) ?_
  cases hm : M o.b with
  | none =>
    cases hm' : M' o.b with
    | none => rfl
    | some y =>
      rcases hn o.b (by rw [hm']; simp) with r | r
      · exact absurd hm r
      · omega
  | some y => exact hM _ _ hm
theorem Good.quiet {M M' : Mem} {β : Bt} {w w' : World} (hM : Mle M M') (hn : ∀ b, M' b ≠ none → M b ≠ none ∨ w.heap.size ≤ b) (he : WExt Bt.none w w') : Good M β w M' β w' :=
  ⟨hM, Ole.refl β, ⟨he.os, he.tape, he.output, he.size, fun k hk _ => he.block k hk (by rintro ⟨i, o, h, _⟩; simp [Bt.none] at h)⟩, fun _ h => .inl h, fun b hb => (hn b hb).imp id .inr⟩

theorem none_has (b : Nat) : ¬ Bt.none.has b := by rintro ⟨i, o, h, _⟩; simp [Bt.none] at h

/-- What a quiet call gives the caller. -/
theorem finish_ok {M M1 : Mem} {β β1 : Bt} {h h1 : List Blk} {w w1 : World} {v : Value} {d : D} {ow : Bool} {q : QR} {ν : Nat} (H : HOk M β h w) (hs : Slot β h ν) (hg : Good M Bt.none w M1 β1 w1) (H1 : HOk M1 β1 h1 w1) (hr : Rep M1 β1 v d) (hf : finish ow d h1 = some q) :
    ∃ M' β', Good M β w M' β' w1 ∧ (∀ i, i ≠ ν → β' i = β i) ∧ HOk M' β' (q.app ν h).2 w1 ∧ Rep M' β' v (q.app ν h).1 := by
  have hnew1 : ∀ k, β1.has k → w.heap.size ≤ k := fun k hk => (hg.new k hk).resolve_left (none_has k)
  have hext : WExt Bt.none w w1 := hg.ext
  have still : ∀ keep : Nat → Prop, ∃ M', Mle M1 M' ∧ Mle M M' ∧ HOk M' β h w1 ∧ Good M β w M' β w1 ∧ (∀ b o, M' b = some o → w1.heap[b]? = some o) ∧
      (∀ (id : Nat) elems wr o, h1[id]? = some (.cells elems wr) → β1 id = some o → ¬ keep id → M' o.b = w1.heap[o.b]?) ∧ (∀ (id : Nat) x o, h1[id]? = some x → x.live = true → β1 id = some o → keep id → M' o.b = M1 o.b) := by
    intro keep
    obtain ⟨M', m1, m2, m3, m4, m5⟩ := H1.stillAll keep
    have hn : ∀ b, M' b ≠ none → M b ≠ none ∨ w.heap.size ≤ b := fun b hb => by
      rcases m3 b hb with r | r
      · rcases hg.mnew b r with r' | r' | r'
        · exact .inl r'
        · exact absurd r' (none_has b)
        · exact .inr r'
      · exact .inr (hnew1 b r)
    exact ⟨M', m1, hg.mle.trans m1, H.later (hg.mle.trans m1) hn m2 hext, Good.quiet (hg.mle.trans m1) hn hext, m2, m4, m5⟩
  unfold finish at hf
  split at hf
  · rename_i id off len clip
    split at hf
    · rename_i elems hb
      simp only at hf
      split at hf
      · rename_i hall
        cases hf
        obtain ⟨M', m1, m2, HM, HG, ma, mst, mk⟩ := still (· = id)
        cases hr with
        | own ho hcap hclip hn =>
        rename_i cap o
        obtain ⟨cs, ety, fz, g1, g2, g3, g4, g5, g6, g7⟩ := H1.blk id _ o hb ho
        have hblk : ∀ (i : Nat) x p, (h1.set id .dead)[i]? = some x → β1 i = some p → ∀ elems wr, x = .cells elems wr → ∃ cs ety fz, w1.heap[p.b]? = some (.cells cs ety fz) ∧ (∀ e ∈ elems, e.length = p.sz) ∧
            (∀ (i j : Nat) e d, elems[i]? = some e → e[j]? = some d → d.cell = true ∧ ∃ v, cs[i * p.sz + j]? = some v ∧ Rep M' β1 v d) := by
          intro i x p hx hp elems' wr' he
          subst he
          obtain ⟨hi, hx⟩ : i ≠ id ∧ h1[i]? = some (.cells elems' wr') := by
            by_cases e : id = i
            · subst e
              rw [List.getElem?_set] at hx
              simp only [if_true] at hx
              split at hx <;> cases hx
            · rw [List.getElem?_set_ne e] at hx; exact ⟨fun e' => e e'.symm, hx⟩
          obtain ⟨cs, ety, fz, k1, k2, k3, k4, k5, k6, k7⟩ := H1.blk i _ p hx hp
          exact ⟨cs, ety, fz, k1, k5, fun i j e d a b => let ⟨c, v, hv, hr⟩ := k6 i j e d a b; ⟨c, v, hv, hr.mono m1 (Ole.refl β1)⟩⟩
        have hst : Still M' β1 (h1.set id .dead) w1 := by
          intro i elems' wr' p hx hp
          obtain ⟨hi, hx⟩ : i ≠ id ∧ h1[i]? = some (.cells elems' wr') := by
            by_cases e : id = i
            · subst e
              rw [List.getElem?_set] at hx
              simp only [if_true] at hx
              split at hx <;> cases hx
            · rw [List.getElem?_set_ne e] at hx; exact ⟨fun e' => e e'.symm, hx⟩
          exact mst i elems' wr' p hx hp hi
        have hconv := conv_ok' hblk hst 8
        have hob : w.heap.size ≤ o.b := hnew1 o.b ⟨id, o, ho, rfl⟩
        have hMo : M' o.b = none := by rw [mk id _ o hb rfl ho rfl]; simpa using g7
        refine ⟨M', β.push ν o, ?_, Bt.push_ne β ν _, ?_, ?_⟩
        · refine ⟨HG.mle, Ole.push o hs.free, HG.ext, fun k hk => ?_, HG.mnew⟩
          obtain ⟨i, p, hp, rfl⟩ := hk
          unfold Bt.push at hp
          split at hp
          · cases hp; exact .inr hob
          · exact .inl ⟨i, p, hp, rfl⟩
        · refine HM.push hs o _ (H1.lt id o ho) (fun i y p _ _ hp => by have := H.lt i p hp; omega) ?_
          refine ⟨cs, ety, fz, g1, g2, g3, by simpa using g4, fun e he => ?_, fun i j e d he hd => ?_, by simpa using hMo⟩
          · obtain ⟨e', he', rfl⟩ := List.mem_map.1 he
            rw [List.length_map]; exact g5 e' he'
          · simp only [List.getElem?_map, Option.map_eq_some_iff] at he
            obtain ⟨e', he', rfl⟩ := he
            simp only [List.getElem?_map, Option.map_eq_some_iff] at hd
            obtain ⟨d', hd', rfl⟩ := hd
            obtain ⟨hc, v, hv, hr⟩ := g6 i j e' d' he' hd'
            have hpp : (conv 8 (h1.set id .dead) d').pure = true := by
              have := List.all_eq_true.1 hall _ (List.mem_map.2 ⟨e', List.mem_of_getElem? he', rfl⟩)
              exact List.all_eq_true.1 this _ (List.mem_map.2 ⟨d', List.mem_of_getElem? hd', rfl⟩)
            have hrr := hconv v d' (hr.mono m1 (Ole.refl β1)) hpp
            exact ⟨pure_cell hpp hrr (hr.oneCell hc), v, hv, hrr.mono (Mle.refl M') (Ole.nil _)⟩
        · exact .own (by simp) hcap hclip hn
      · cases hf
    · cases hf
  · simp only [Option.map_eq_some_iff] at hf
    obtain ⟨d', hf, rfl⟩ := hf
    obtain ⟨M', m1, m2, HM, HG, ma, mst, mk⟩ := still (fun _ => False)
    have hblk : ∀ (i : Nat) x p, h1[i]? = some x → β1 i = some p → ∀ elems wr, x = .cells elems wr → ∃ cs ety fz, w1.heap[p.b]? = some (.cells cs ety fz) ∧ (∀ e ∈ elems, e.length = p.sz) ∧
        (∀ (i j : Nat) e d, elems[i]? = some e → e[j]? = some d → d.cell = true ∧ ∃ v, cs[i * p.sz + j]? = some v ∧ Rep M' β1 v d) := by
      intro i x p hx hp elems' wr' he
      subst he
      obtain ⟨cs, ety, fz, k1, k2, k3, k4, k5, k6, k7⟩ := H1.blk i _ p hx hp
      exact ⟨cs, ety, fz, k1, k5, fun i j e d a b => let ⟨c, v, hv, hr⟩ := k6 i j e d a b; ⟨c, v, hv, hr.mono m1 (Ole.refl β1)⟩⟩
    have hst : Still M' β1 h1 w1 := fun i elems' wr' p hx hp => mst i elems' wr' p hx hp (by simp)
    exact ⟨M', β, HG, fun _ _ => rfl, HM, (fin_ok (conv_ok' hblk hst) (hr.mono m1 (Ole.refl β1)) hf).mono (Mle.refl M') (Ole.nil β)⟩
theorem HOk.empty {M : Mem} {β : Bt} {h : List Blk} {w : World} (H : HOk M β h w) : HOk M Bt.none [] w := ⟨by simp, by simp, fun _ _ => rfl, by simp, H.agree, fun _ _ ho => by simp [Bt.none] at ho⟩
theorem quiet_ok {P : Program} {W : Wd} {r : R} (hr : ROk P W r) {f : FuncId} {args : List D} {q : QR} (hq : quietCall W r f args = some q) : QCall P W f args q := by
  unfold quietCall at hq
  split at hq
  · rename_i q' h1
    cases hq
    exact hr.quiet f args _ h1
  · split at hq
    · rename_i d1 h1 hcall
      obtain ⟨hfn, hall⟩ := hr.call f _ [] d1 h1 hcall
      refine ⟨hfn, fun M β h w vs ν hG H hs hv => (hall M Bt.none w vs hG H.empty hv).mono fun e w' he => ?_⟩
      obtain ⟨v, M1, β1, rfl, g1, _, g2, g3⟩ := he
      obtain ⟨M', β', q1, q0, q2, q3⟩ := finish_ok H hs g1 g2 g3 hq
      exact ⟨v, M', β', rfl, q1, q0, q2, q3⟩
    · cases hq
end Go.Xa
