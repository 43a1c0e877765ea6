/- The executor. -/
import Derived.Test.YtdiajbbcjndhjaaGreatDoorXT
import Derived.RangeFuncLeaves
import Derived.Scope
namespace Go.Xa
open Go.RowKit

def loopRun (f : St → Option (Exit × St)) : Nat → St → Option (Exit × St)
  | 0, _ => none
  | k + 1, st =>
    match f st with
    | some (.normal, s1) => loopRun f k s1
    | x => x
def killAll : List Nat → List Blk → Option (List Blk)
  | [], h => some h
  | id :: ids, h => match h[id]? with | some .dfr => killAll ids (h.set id .dead) | _ => none
def aResult (W : Wd) (ts : List D) (h : List Blk) : ResultVar → Option D
  | .tmp t => some (ts.getD t (.lit undef))
  | .cell a t => aLoad W.T t (ts.getD a (.lit undef)) h
def aResults (W : Wd) (ts : List D) (h : List Blk) : List ResultVar → Option (List D)
  | [] => some []
  | r :: rs => match aResult W ts h r, aResults W ts h rs with | some d, some ds => some (d :: ds) | _, _ => none
def oneOf : List D → D
  | [d] => d
  | ds => .tup ds
def leave (W : Wd) (fn : Func) (st : St) : Option (D × List Blk) :=
  match killAll st.df st.h with
  | some h => (aResults W st.ts h fn.results.toList).map fun ds => (oneOf ds, h)
  | none => none
def nextCall (W : Wd) (r : R) (f : FuncId) (args : List D) (h : List Blk) : Option (D × List Blk) :=
  match W.F f with
  | some fn =>
    match fn.body with
    | some c =>
      match r.run c { ts := args ++ List.replicate (fn.ntmps - args.length) (.lit undef), h, df := [], rd := false } with
      | some (.normal, st) | some (.ret, st) => if fn.name == "runtime.NumGoroutine" || !decide (h.length ≤ st.h.length) then none else leave W fn st
      | _ => none
    | none => none
  | none => none
def rangeRun (r : R) (g : D) (ps : Array Tmp) (as bd : Code) (st : St) : Option (Exit × St) :=
  if st.rd then none else
  match g with
  | .fn f a b =>
    match r.call f (a ++ [.yield (st.h.length + 1)] ++ b) (st.h ++ [.dfr, .loop .ready none st.ts ps.toList as bd st.h.length]) with
    | some (_, h2) =>
      if h2.length < st.h.length then none else
      match h2[st.h.length + 1]? with
      | some (.loop .busy ..) => none
      | some (.loop _ p t2 ps2 as2 b2 d2) =>
        let s2 : St := { st with h := h2.set (st.h.length + 1) (.loop .exhausted p t2 ps2 as2 b2 d2), df := st.h.length :: st.df }
        match p with
        | none => some (.normal, s2)
        | some c => r.run c s2
      | _ => none
    | none => none
  | _ => none
def nextRun (W : Wd) (k : Nat) (r : R) (c : Code) (st : St) : Option (Exit × St) :=
  match c with
  | .skip => some (.normal, st)
  | .label _ => some (.normal, st)
  | .region _ ops draw => (if draw then drawn W r ops.toList st else opsRun W r ops.toList ops.toList st).map fun s => (.normal, s)
  | .seq x y =>
    match r.run x st with
    | some (.normal, s1) => r.run y s1
    | e => e
  | .cond c x y =>
    match ev W.G st.ts c with
    | .bool true => r.run x st
    | .bool false => r.run y st
    | _ => none
  | .block id c =>
    match r.run c st with
    | some (.exit id', s1) => if id' = id then some (.normal, s1) else some (.exit id', s1)
    | e => e
  | .loop c => loopRun (r.run c) k st
  | .scope c =>
    match r.run c st with
    | some (.goto _, _) => none
    | e => e
  | .exit id => some (.exit id, st)
  | .ret => some (.ret, st)
  | .goto _ => none
  | .refuse _ => none
  | .rangeFunc g ps as bd => rangeRun r (ev W.G st.ts g) ps as bd st
def next (W : Wd) (k : Nat) (r : R) : R := { run := nextRun W k r, call := nextCall W r, quiet := r.quiet, dr := false }
def R.bot : R := { run := fun _ _ => none, call := fun _ _ _ => none, quiet := fun _ _ => none, dr := false }
/-- What is known already comes first. -/
def R.over (r0 r : R) : R := { run := r.run, call := fun f args h => match r0.call f args h with | some p => some p | none => r.call f args h, quiet := r0.quiet, dr := false }
def exec (W : Wd) (r0 : R) : Nat → R
  | 0 => r0
  | n + 1 => r0.over (next W n (exec W r0 n))

section scope
variable {P : Program} {F : Fence} {n : Nat} {b : Frame} {a : Act} {k : List Item} {cs : List Frame} {w : World} {Q : Exit → Act → World → Prop}
theorem stepR_scope {c : Code} : step P (lone (b.atR a (.code (.scope c) :: k)) cs w) = .next (lone (b.atR a (.code c :: .inScope c :: k)) cs w) :=
  step_lone_go (by simp [stepG, stepG.exec, Frame.atR])
theorem stepR_inScope {c : Code} : step P (lone (b.atR a (.inScope c :: k)) cs w) = .next (lone (b.atR a k) cs w) :=
  step_lone_go (by simp [stepG, stepG.exec, Frame.atR])
theorem wpIn_scope {c : Code} (h : c.wpIn F n P (Exit.noGoto Q) a w) : (Code.scope c).wpIn F n P Q a w := by
  intro b k cs hro hb hr
  have h0 : (lone (b.atR a (.code (.scope c) :: k)) cs w).fenced P F := fenced_calm hb hr rfl
  obtain ⟨e, a₁, w₁, hq, harr⟩ := h b (.inScope c :: k) cs hro hb hr
  cases e with
  | normal => exact ⟨.normal, a₁, w₁, hq, .head h0 stepR_scope (StepsIn.trans harr (.one (fenced_calm hb hr rfl) stepR_inScope))⟩
  | exit id =>
    have hx : exitTo id (.inScope c :: k) = exitTo id k := by simp [exitTo]
    exact ⟨.exit id, a₁, w₁, hq, fun k' hk => .head h0 stepR_scope (harr.1 k' (by rw [hx]; exact hk)),
      fun hr' hk => let ⟨k₁, h1, h2⟩ := harr.2 hr' (by rw [hx]; exact hk); ⟨k₁, h1, .head h0 stepR_scope h2⟩⟩
  | goto l => exact hq.elim
  | ret => exact ⟨_, a₁, w₁, hq, .of_steps (.one h0 stepR_scope) harr⟩
  | panic ch => exact ⟨_, a₁, w₁, hq, .of_steps (.one h0 stepR_scope) harr⟩
  | outgrown => exact ⟨_, a₁, w₁, hq, .of_steps (.one h0 stepR_scope) harr⟩
end scope

/-- A loop, by what its rounds do. -/
theorem wpIn_loop_by {P : Program} {F : Fence} {n : Nat} {c : Code} {Q : Exit → Act → World → Prop} {a : Act} {w : World} (I : Nat → Act → World → Prop) {j : Nat} (h0 : I j a w) (hz : ∀ a w, ¬ I 0 a w)
    (hs : ∀ k a w, I (k + 1) a w → c.wpIn F n P (Exit.then (I k) Q) a w) : (Code.loop c).wpIn F n P Q a w := by
  intro b k cs hro hb hr
  have key : ∀ j a w, I j a w →
      ∃ e a' w', Q e a' w' ∧ ArrivesIn (Machine.fenced P F) P (lone (b.atR a (.code c :: .inLoop c :: k)) cs w) b k cs e a' w' := by
    intro j
    induction j with
    | zero => exact fun a w hI => (hz a w hI).elim
    | succ j ih =>
      intro a w hI
      obtain ⟨e, a₁, w₁, hq, harr⟩ := hs j a w hI b (.inLoop c :: k) cs hro hb hr
      cases e with
      | normal =>
        obtain ⟨e₂, a₂, w₂, hq₂, harr₂⟩ := ih a₁ w₁ hq
        exact ⟨e₂, a₂, w₂, hq₂, .of_steps (StepsIn.trans harr (.one (fenced_calm hb hr rfl) stepR_inLoop)) harr₂⟩
      | exit id => exact ⟨_, a₁, w₁, hq, .pass (x := .inLoop c) rfl (fun _ _ => .inl (by simp)) harr⟩
      | goto l => exact ⟨_, a₁, w₁, hq, .pass (x := .inLoop c) rfl (fun _ _ => .inl (by simp)) harr⟩
      | ret => exact ⟨_, a₁, w₁, hq, .pass (x := .inLoop c) rfl (fun _ _ => .inl (by simp)) harr⟩
      | panic ch => exact ⟨_, a₁, w₁, hq, .pass (x := .inLoop c) rfl (fun _ _ => .inl (by simp)) harr⟩
      | outgrown => exact ⟨_, a₁, w₁, hq, .pass (x := .inLoop c) rfl (fun _ _ => .inl (by simp)) harr⟩
  obtain ⟨e, a', w', hq, harr⟩ := key _ a w h0
  exact ⟨e, a', w', hq, .of_steps (.one (fenced_calm hb hr rfl) stepR_loop) harr⟩

/-! ### What it does, the machine does -/
theorem loopRun_rd {P : Program} {W : Wd} {r : R} (hr : ROk P W r) {c : Code} : ∀ (k : Nat) (st : St) (e : Exit) (st' : St), loopRun (r.run c) k st = some (e, st') → st'.rd = st.rd ∧ st.h.length ≤ st'.h.length
  | 0, _, _, _, h => by cases h
  | k + 1, st, e, st', h => by
    simp only [loopRun] at h
    split at h
    · rename_i s1 h1
      obtain ⟨a1, a2, _⟩ := hr.run c st _ s1 h1
      obtain ⟨b1, b2⟩ := loopRun_rd hr k s1 e st' h
      exact ⟨b1.trans a1, Nat.le_trans a2 b2⟩
    · obtain ⟨a1, a2, _⟩ := hr.run c st e st' h
      exact ⟨a1, a2⟩

theorem RunOk.chain {P : Program} {W : Wd} {r : R} (hr : ROk P W r) {ro : Option Nat} {y : Code} {s0 s1 st' : St} {e : Exit} (h2 : r.run y s1 = some (e, st')) {M0 : Mem} {β0 : Bt} {w0 : World} (hle : s0.h.length ≤ s1.h.length) (hrd : s1.rd = false → ro = none)
    {M : Mem} {β : Bt} {a : Act} {w : World} (g : Good M0 β0 w0 M β w) (k : Keep s0.h.length β0 β) (hst : StOk W.G M β s1 a w) :
    y.wpIn (Wide ro) 0 P (fun e' a' w' => e' = e ∧ ∃ M' β', Good M0 β0 w0 M' β' w' ∧ Keep s0.h.length β0 β' ∧ StOk W.G M' β' st' a' w') a w := by
  refine wpIn_mono ((hr.run y s1 e st' h2).2.2 ro M β a w hrd hst) fun e' a' w' h => ?_
  obtain ⟨he, M', β', g', k', s'⟩ := h
  exact ⟨he, M', β', g.trans g', k.trans k' hle, s'⟩
end Go.Xa
