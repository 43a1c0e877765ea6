/- An executor that says what it leans on. -/
import Derived.Test.YtdiajbbcjndhjaaGreatDoorZB
namespace Go.Xa
open Go.RowKit

/-- What is told of a step: its value; its value and the blocks behind it; a quiet call's result; a call's; which way; where a loop ends, entered with some temporaries and blocks forgotten. -/
inductive Ov where
  | val (d : D)
  | mem (d : D) (h : List Blk)
  | quiet (q : QR)
  | call (d : D) (h : List Blk)
  | br (b : Bool)
  | fact (m k : Nat) (e : Exit) (st : St)
/-- The step's number, what is told of steps, what all this leans on. -/
structure Sg where
  n : Nat
  ov : List (Nat × Ov)
  p : Prop
def Sg.next (s : Sg) : Option Ov :=
  match s.ov with
  | (k, v) :: _ => if Nat.beq k s.n then some v else none
  | [] => none
def Sg.tick (s : Sg) : Sg := { s with n := s.n + 1 }
def Sg.say (s : Sg) (p : Prop) : Sg := { n := s.n + 1, ov := s.ov.tail, p := s.p ∧ p }

def lenOk (dr : Bool) (a b : Nat) : Bool := if dr then decide (a = b) else decide (b ≤ a)
section
variable (P : Program) (W : Wd) (rA : R)
def pStep (dr : Bool) (ops : List Oper) (ν : Nat) (o : Oper) (st : St) (s : Sg) : Option (St × Sg) :=
  match s.next with
  | some (.val d) =>
    match wantedA ops st.ts o with
    | some true => some ({ st with ts := setT st.ts o.dst d }, s.say (pureOp W.T (ev W.G st.ts) st.h o.op = some d))
    | _ => none
  | some (.mem d h) =>
    match wantedA ops st.ts o, pureOp W.T (ev W.G st.ts) st.h o.op with
    | some true, none => if lenOk dr (h.length) st.h.length then some ({ st with ts := setT st.ts o.dst d, h := h }, s.say (memOp W.T ν (ev W.G st.ts) st.h o.op = some (d, h))) else none
    | _, _ => none
  | some (.quiet q) =>
    match wantedA ops st.ts o, o.op with
    | some true, .call { callee := .value f, args, .. } =>
      match ev W.G st.ts f with
      | .fn g a b =>
        if (a ++ args.toList.map (ev W.G st.ts) ++ b).all D.free then
          if lenOk dr ((q.app ν st.h).2.length) st.h.length then
            some ({ st with ts := setT st.ts o.dst (q.app ν st.h).1, h := (q.app ν st.h).2 }, s.say (QCall P W g (a ++ args.toList.map (ev W.G st.ts) ++ b) q)) else none
        else none
      | _ => none
    | _, _ => none
  | some (.call d h) =>
    match wantedA ops st.ts o, o.op with
    | some true, .call { callee := .value f, args, .. } =>
      match ev W.G st.ts f with
      | .fn g a b =>
        if !(a ++ args.toList.map (ev W.G st.ts) ++ b).all D.free && W.gen g then
          match clean st.h.length d h with
          | (d', h') =>
            if lenOk dr (h'.length) st.h.length then
              some ({ st with ts := setT st.ts o.dst d', h := h' }, s.say (Call1 P W g (a ++ args.toList.map (ev W.G st.ts) ++ b) st.h d h)) else none
        else none
      | _ => none
    | _, _ => none
  | _ =>
    match (if dr then dStep W rA ops ν o st else opStep W rA ν ops o st) with
    | some st' => some (st', s.tick)
    | none => none
def pOps (ops : List Oper) : List Oper → St → Sg → Option (St × Sg)
  | [], st, s => some (st, s)
  | o :: os, st, s => match pStep P W rA false ops st.h.length o st s with | some (st', s') => pOps ops os st' s' | none => none
def pLoop (f : St → Sg → Option (Exit × St × Sg)) : Nat → St → Sg → Option (Exit × St × Sg)
  | 0, _, _ => none
  | k + 1, st, s =>
    match f st s with
    | some (.normal, s1, g) => pLoop f k s1 g
    | x => x
def pFact (n : Nat) (c : Code) (st : St) (s : Sg) (m k : Nat) (e : Exit) (st' : St) : Option (Exit × St × Sg) :=
  if weakOk n m k st then some (e, st', s.say (blksLt k (st.h.take k) ∧ RunN P W n c (st.weak m k) e st')) else none
def px (n : Nat) : Nat → Code → St → Sg → Option (Exit × St × Sg)
  | 0, _, _, _ => none
  | f + 1, c, st, s =>
    match c with
    | .skip => some (.normal, st, s)
    | .label _ => some (.normal, st, s)
    | .exit id => some (.exit id, st, s)
    | .ret => some (.ret, st, s)
    | .region id ops dr =>
      match s.next with
      | some (.fact m k e st') => pFact P W n (.region id ops dr) st s m k e st'
      | _ =>
      match (if dr then drawnG W (pStep P W rA true ops.toList) ops.toList st s else pOps P W rA ops.toList ops.toList st s) with
      | some (st', s') => some (.normal, st', s')
      | none => none
    | .seq x y =>
      match px n f x st s with
      | some (.normal, s1, g) => px n f y s1 g
      | r => r
    | .cond c x y =>
      match s.next with
      | some (.br true) => px n f x st (s.say (ev W.G st.ts c = .bool true))
      | some (.br false) => px n f y st (s.say (ev W.G st.ts c = .bool false))
      | _ =>
        match ev W.G st.ts c with
        | .bool true => px n f x st s.tick
        | .bool false => px n f y st s.tick
        | _ => none
    | .block id c =>
      match px n f c st s with
      | some (e, s1, g) => some (inBlk id e, s1, g)
      | none => none
    | .scope c =>
      match px n f c st s with
      | some (.goto _, _, _) => none
      | r => r
    | .loop c =>
      match s.next with
      | some (.fact m k e st') => pFact P W n (.loop c) st s m k e st'
      | _ => pLoop (px n f c) f st s.tick
    | .rangeFunc g ps as bd =>
      match s.next with
      | some (.fact m k e st') => pFact P W n (.rangeFunc g ps as bd) st s m k e st'
      | _ => none
    | _ => none
end

section
variable {P : Program} {W : Wd} {rA : R}
theorem setT_put (st : St) (dst : Option Nat) (d : D) (h : List Blk) : ({ st with ts := setT st.ts dst d, h := h } : St) = { st with h := h }.put dst d := by cases dst <;> rfl
theorem pStep_ok (hA : ROk P W rA) {dr : Bool} {ops : List Oper} {ν : Nat} {o : Oper} {st : St} {s : Sg} {st' : St} {s' : Sg} (h : pStep P W rA dr ops ν o st s = some (st', s')) (hp : s'.p) :
    s.p ∧ ∃ r, ROk P W r ∧ (if dr then dStep W r ops ν o st else opStep W r ν ops o st) = some st' := by
  -- an operation whose value is known
  have known : ∀ (r : R) (d : D) (h' : List Blk), wantedA ops st.ts o = some true → opVal W r.drawn ν (ev W.G st.ts) st.h o.op = some (d, h') → opVal W r ν (ev W.G st.ts) st.h o.op = some (d, h') → lenOk dr (h'.length) st.h.length = true →
      (if dr then dStep W r ops ν o st else opStep W r ν ops o st) = some { st with ts := setT st.ts o.dst d, h := h' } := by
    intro r d h' hw ho1 ho2 hl
    cases dr with
    | true =>
      simp only [lenOk, if_true, decide_eq_true_eq] at hl ⊢
      unfold dStep dRes dVal
      rw [hw]
      simp only [ho1, hl, if_true]
    | false =>
      simp only [lenOk, Bool.false_eq_true, if_false, decide_eq_true_eq] at hl ⊢
      unfold opStep
      rw [hw]
      simp only [ho2, hl, if_true]
      rw [setT_put]
  have auto : (match (if dr then dStep W rA ops ν o st else opStep W rA ν ops o st) with | some st' => some (st', s.tick) | none => none) = some (st', s') → s.p ∧ ∃ r, ROk P W r ∧ (if dr then dStep W r ops ν o st else opStep W r ν ops o st) = some st' := by
    intro h
    split at h
    · rename_i st1 h1
      cases h
      exact ⟨hp, rA, hA, h1⟩
    · cases h
  unfold pStep at h
  split at h
  · -- a value
    rename_i d _
    split at h
    · rename_i hw
      cases h
      obtain ⟨p1, p2⟩ := hp
      refine ⟨p1, R.bot, bot_ok P W, known R.bot d st.h hw ?_ ?_ (by cases dr <;> simp [lenOk])⟩
      · simp [opVal, p2]
      · simp [opVal, p2]
    · cases h
  · rename_i d h' _
    split at h
    · rename_i hw hpure
      split at h
      · rename_i hl
        cases h
        obtain ⟨p1, p2⟩ := hp
        refine ⟨p1, R.bot, bot_ok P W, known R.bot d h' hw ?_ ?_ hl⟩
        · simp [opVal, hpure, p2]
        · simp [opVal, hpure, p2]
      · cases h
    · cases h
  · rename_i q _
    split at h
    · rename_i f args tys hw hop
      split at h
      · rename_i g a b hf
        split at h
        · rename_i hfree
          split at h
          · rename_i hl
            cases h
            obtain ⟨p1, p2⟩ := hp
            have hq : ∀ r : R, r.quiet = (rQuiet g (a ++ args.toList.map (ev W.G st.ts) ++ b) q).quiet → opVal W r ν (ev W.G st.ts) st.h o.op = some ((q.app ν st.h).1, (q.app ν st.h).2) := fun r hr => by
              rw [hop, opVal_call, hf]
              simp only [callVal]
              rw [if_pos hfree]
              simp [quietCall, hr, rQuiet]
            exact ⟨p1, _, rQuiet_ok p2, known _ _ _ hw (hq _ rfl) (hq _ rfl) hl⟩
          · cases h
        · cases h
      · cases h
    · cases h
  · rename_i d h0 _
    split at h
    · rename_i f args tys hw hop
      split at h
      · rename_i g a b hf
        split at h
        · rename_i hc
          simp only [Bool.and_eq_true, Bool.not_eq_true'] at hc
          split at h
          rename_i d' h' hcl
          split at h
          · rename_i hl
            cases h
            obtain ⟨p1, p2⟩ := hp
            have hq : ∀ r : R, r.call = (rCall g (a ++ args.toList.map (ev W.G st.ts) ++ b) st.h d h0).call → opVal W r ν (ev W.G st.ts) st.h o.op = some (d', h') := fun r hr => by
              rw [hop, opVal_call, hf]
              simp only [callVal]
              rw [if_neg (by rw [hc.1]; simp), if_pos hc.2]
              simp [genCall, hr, rCall, hcl]
            exact ⟨p1, _, rCall_ok p2, known _ _ _ hw (hq _ rfl) (hq _ rfl) hl⟩
          · cases h
        · cases h
      · cases h
    · cases h
  · exact auto h

theorem pOps_ok (hT : W.T.ok P) (hA : ROk P W rA) {ops : Array Oper} {ro : Option Nat} {Q : Exit → Act → World → Prop} : ∀ (os : List Oper) (k : Nat), ops.toList.drop k = os → ∀ {M : Mem} {β : Bt} {st st' : St} {s s' : Sg} {a : Act} {w : World},
    StOk W.G M β st a w → pOps P W rA ops.toList os st s = some (st', s') → s'.p → (∀ M' β' a' w', Good M β w M' β' w' → Keep st.h.length β β' → StOk W.G M' β' st' a' w' → Q .normal a' w') → wpOpsIn (Wide ro) 0 P ops Q (List.range' k os.length) a w := by
  have back : ∀ (os : List Oper) {st st' : St} {s s' : Sg}, pOps P W rA ops.toList os st s = some (st', s') → s'.p → s.p := by
    intro os
    induction os with
    | nil => intro st st' s s' h hp; simp only [pOps, Option.some.injEq, Prod.mk.injEq] at h; rw [h.2]; exact hp
    | cons o os ih =>
      intro st st' s s' h hp
      simp only [pOps] at h
      split at h
      · rename_i st1 s1 h1
        exact (pStep_ok hA h1 (ih h hp)).1
      · cases h
  intro os
  induction os with
  | nil =>
    intro k hk M β st st' s s' a w hst h hp hQ
    simp only [pOps, Option.some.injEq, Prod.mk.injEq] at h
    obtain ⟨rfl, rfl⟩ := h
    exact hQ M β a w (Good.refl _ _ _) (fun _ _ hn => hn) hst
  | cons o os ih =>
    intro k hk M β st st' s s' a w hst h hp hQ
    have ho : ops[k]? = some o := by
      have := congrArg List.head? hk
      simpa [List.head?_drop] using this
    have hk' : ops.toList.drop (k + 1) = os := by
      have := congrArg List.tail hk
      simpa [List.tail_drop] using this
    simp only [pOps] at h
    split at h
    · rename_i st1 s1 h1
      obtain ⟨_, r, hr, hstep⟩ := pStep_ok hA h1 (back os h hp)
      simp only [Bool.false_eq_true, if_false] at hstep
      show wpOpsIn (Wide ro) 0 P ops Q (List.range' k (os.length + 1)) a w
      rw [List.range'_succ, wpOpsIn_cons]
      refine opStep_ok hT hr ho hst.h.slot hst hstep fun M1 β1 a1 w1 g1 k1 st1k => ?_
      have hle := (opStep_len hstep).1
      have kp : Keep st.h.length β β1 := fun i hi hn => k1 i hi (by omega) hn
      exact ih (k + 1) hk' st1k h hp fun M2 β2 a2 w2 g2 k2 st2 => hQ M2 β2 a2 w2 (g1.trans g2) (kp.trans k2 hle) st2
    · cases h
theorem pOps_len (hA : ROk P W rA) {ops : List Oper} : ∀ (os : List Oper) {st st' : St} {s s' : Sg}, pOps P W rA ops os st s = some (st', s') → s'.p → s.p ∧ st.h.length ≤ st'.h.length ∧ st'.rd = st.rd := by
  intro os
  induction os with
  | nil => intro st st' s s' h hp; simp only [pOps, Option.some.injEq, Prod.mk.injEq] at h; obtain ⟨rfl, rfl⟩ := h; exact ⟨hp, Nat.le_refl _, rfl⟩
  | cons o os ih =>
    intro st st' s s' h hp
    simp only [pOps] at h
    split at h
    · rename_i st1 s1 h1
      obtain ⟨a1, a2, a3⟩ := ih h hp
      obtain ⟨b1, r, hr, hstep⟩ := pStep_ok hA h1 a1
      simp only [Bool.false_eq_true, if_false] at hstep
      obtain ⟨c1, _, c3⟩ := opStep_len hstep
      exact ⟨b1, Nat.le_trans c1 a2, a3.trans c3⟩
    · cases h

theorem RunN.good {n : Nat} {c : Code} {st st' : St} {e : Exit} (hl : st.h.length ≤ st'.h.length) (hrd : st'.rd = st.rd) (h : ∀ ro M β a w, StOk W.G M β st a w → c.wpIn (Wide ro) 0 P (fun e' a' w' => e' = e ∧ ∃ M' β', Good M β w M' β' w' ∧ Keep st.h.length β β' ∧ StOk W.G M' β' st' a' w') a w) : RunN P W n c st e st' := fun hn => by
  refine ⟨Nat.le_trans hn hl, hrd, fun ro M β a w _ s => wpIn_mono (h ro M β a w s) ?_⟩
  rintro e' a' w' ⟨rfl, M1, β1, g1, q1, s1⟩
  exact ⟨rfl, M1, β1, g1.toN, fun i hi hi2 => q1 i (by omega) hi2, s1⟩

theorem px_ok (hT : W.T.ok P) (hP : P.follows .mixedOrders = true) (hA : ROk P W rA) {n : Nat} : ∀ (f : Nat) (c : Code) (st : St) (s : Sg) (e : Exit) (st' : St) (s' : Sg), px P W rA n f c st s = some (e, st', s') → s'.p → s.p ∧ RunN P W n c st e st' := by
  intro f
  induction f with
  | zero => intro c st s e st' s' h; cases h
  | succ f ih =>
    intro c st s e st' s' h hp
    have fact : ∀ m k e0 st0, pFact P W n c st s m k e0 st0 = some (e, st', s') → s.p ∧ RunN P W n c st e st' := by
      intro m k e0 st0 h
      unfold pFact at h
      split at h
      · rename_i hw
        cases h
        obtain ⟨p1, p2, p3⟩ := hp
        exact ⟨p1, p3.pre (weak_ok hw p2)⟩
      · cases h
    cases c with
    | skip => cases h; exact ⟨hp, RunN.skip⟩
    | label l => cases h; exact ⟨hp, RunN.label⟩
    | exit id => cases h; exact ⟨hp, RunN.exit⟩
    | ret => cases h; exact ⟨hp, RunN.ret⟩
    | goto l => cases h
    | refuse l => cases h
    | region id ops dr =>
      simp only [px] at h
      split at h
      · exact fact _ _ _ _ h
      cases dr with
      | true =>
        simp only [if_true] at h
        split at h
        · rename_i st1 s1 h1
          cases h
          have hst : StepR P W ops.toList (pStep P W rA true ops.toList) Sg.p := fun ν o st s st' s' hs hg => by
            obtain ⟨a, r, b, c⟩ := pStep_ok hA hs hg
            exact ⟨a, r, b, by simpa using c⟩
          obtain ⟨a, b, c⟩ := drawnG_len hst h1 hp
          exact ⟨a, RunN.good b c fun ro M β a w s => drawnG_ok hT hP hst h1 hp s⟩
        · cases h
      | false =>
        simp only [Bool.false_eq_true, if_false] at h
        split at h
        · rename_i st1 s1 h1
          cases h
          obtain ⟨a, b, c⟩ := pOps_len hA _ h1 hp
          refine ⟨a, RunN.good b c fun ro M β a w s => wpIn_region ?_⟩
          have := pOps_ok hT hA (ro := ro) ops.toList 0 rfl s h1 hp (Q := fun e' a' w' => e' = .normal ∧ ∃ M' β', Good M β w M' β' w' ∧ Keep st.h.length β β' ∧ StOk W.G M' β' st' a' w') fun M' β' a' w' g k s => ⟨rfl, M', β', g, k, s⟩
          rwa [Array.length_toList, ← List.range_eq_range'] at this
        · cases h
    | seq x y =>
      simp only [px] at h
      split at h
      · rename_i s1 g hx
        obtain ⟨a1, a2⟩ := ih y s1 g e st' s' h hp
        obtain ⟨b1, b2⟩ := ih x st s _ s1 g hx a1
        exact ⟨b1, b2.seq a2⟩
      · rename_i hx
        rw [h] at hx
        obtain ⟨b1, b2⟩ := ih x st s _ _ _ h hp
        refine ⟨b1, b2.seqOut fun he => ?_⟩
        subst he
        exact hx _ _ rfl
    | cond c x y =>
      simp only [px] at h
      split at h
      · obtain ⟨⟨a1, a2⟩, a3⟩ := ih x st _ e st' s' h hp
        exact ⟨a1, a3.condT a2⟩
      · obtain ⟨⟨a1, a2⟩, a3⟩ := ih y st _ e st' s' h hp
        exact ⟨a1, a3.condF a2⟩
      · split at h
        · rename_i hc
          obtain ⟨a1, a3⟩ := ih x st _ e st' s' h hp
          exact ⟨a1, a3.condT hc⟩
        · rename_i hc
          obtain ⟨a1, a3⟩ := ih y st _ e st' s' h hp
          exact ⟨a1, a3.condF hc⟩
        · cases h
    | block id c =>
      simp only [px] at h
      split at h
      · rename_i e1 s1 g hc
        cases h
        obtain ⟨a1, a2⟩ := ih c st s _ _ _ hc hp
        exact ⟨a1, a2.block⟩
      · cases h
    | scope c =>
      simp only [px] at h
      split at h
      · cases h
      · rename_i hx
        rw [h] at hx
        obtain ⟨a1, a2⟩ := ih c st s _ _ _ h hp
        refine ⟨a1, a2.scope fun l he => ?_⟩
        subst he
        exact hx _ _ _ rfl
    | loop c =>
      simp only [px] at h
      split at h
      · exact fact _ _ _ _ h
      · have key : ∀ (k : Nat) (st : St) (s : Sg), pLoop (px P W rA n f c) k st s = some (e, st', s') → s.p ∧ ∃ j, LoopK P W n c j st e st' := by
          intro k
          induction k with
          | zero => intro st s h; cases h
          | succ k ihk =>
            intro st s h
            simp only [pLoop] at h
            split at h
            · rename_i s1 g hc
              obtain ⟨a1, j, a2⟩ := ihk s1 g h
              obtain ⟨b1, b2⟩ := ih c st s _ _ _ hc a1
              exact ⟨b1, _, .round b2 a2⟩
            · rename_i hx
              rw [h] at hx
              obtain ⟨b1, b2⟩ := ih c st s _ _ _ h hp
              refine ⟨b1, 1, .out b2 fun he => ?_⟩
              subst he
              exact hx _ _ rfl
        obtain ⟨a1, j, a2⟩ := key f st s.tick h
        exact ⟨a1, RunN.loop a2⟩
    | rangeFunc g ps as bd =>
      simp only [px] at h
      split at h
      · exact fact _ _ _ _ h
      · cases h
end
end Go.Xa
