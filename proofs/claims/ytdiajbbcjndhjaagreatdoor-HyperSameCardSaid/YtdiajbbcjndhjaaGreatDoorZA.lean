/- Runs and calls as facts; what may be forgotten. -/
import Derived.Test.YtdiajbbcjndhjaaGreatDoorXZ
namespace Go.Xa
open Go.RowKit

/-- As 'Good', but for the blocks numbered below n alone. -/
structure GoodN (n : Nat) (M : Mem) (β : Bt) (w : World) (M' : Mem) (β' : Bt) (w' : World) : Prop where
  mle : Mle M M'
  ole : ∀ i o, i < n → β i = some o → β' i = some o
  ext : WExt β w w'
  new : ∀ k, β'.has k → β.has k ∨ w.heap.size ≤ k
  mnew : ∀ b, M' b ≠ none → M b ≠ none ∨ β.has b ∨ w.heap.size ≤ b
theorem Good.toN {n : Nat} {M M' : Mem} {β β' : Bt} {w w' : World} (h : Good M β w M' β' w') : GoodN n M β w M' β' w' := ⟨h.mle, fun i o _ ho => h.ole i o ho, h.ext, h.new, h.mnew⟩
theorem GoodN.trans {n : Nat} {M M' M'' : Mem} {β β' β'' : Bt} {w w' w'' : World} (h : GoodN n M β w M' β' w') (k : GoodN n M' β' w' M'' β'' w'') : GoodN n M β w M'' β'' w'' :=
  ⟨h.mle.trans k.mle, fun i o hi ho => k.ole i o hi (h.ole i o hi ho), ⟨k.ext.os.trans h.ext.os, k.ext.tape.trans h.ext.tape, k.ext.output.trans h.ext.output, Nat.le_trans h.ext.size k.ext.size,
    fun b hb hn => (k.ext.block b (Nat.lt_of_lt_of_le hb h.ext.size) (fun ho => by
      rcases h.new b ho with h1 | h1
      · exact hn h1
      · omega)).trans (h.ext.block b hb hn)⟩,
   fun b ho => by
    rcases k.new b ho with h1 | h1
    · exact h.new b h1
    · exact .inr (Nat.le_trans h.ext.size h1),
   fun b hb => by
    rcases k.mnew b hb with h1 | h1 | h1
    · exact h.mnew b h1
    · exact .inr (h.new b h1)
    · exact .inr (.inr (Nat.le_trans h.ext.size h1))⟩
theorem GoodN.refl (n : Nat) (M : Mem) (β : Bt) (w : World) : GoodN n M β w M β w := (Good.refl M β w).toN

/-- Where a run leaves everything. -/
def PostN (W : Wd) (n : Nat) (M : Mem) (β : Bt) (w : World) (e : Exit) (st' : St) : Exit → Act → World → Prop := fun e' a' w' => e' = e ∧ ∃ M' β', GoodN n M β w M' β' w' ∧ Keep n β β' ∧ StOk W.G M' β' st' a' w'
/-- The code, run there, ends so. -/
def RunN (P : Program) (W : Wd) (n : Nat) (c : Code) (st : St) (e : Exit) (st' : St) : Prop :=
  n ≤ st.h.length → n ≤ st'.h.length ∧ st'.rd = st.rd ∧ ∀ ro M β a w, (st.rd = false → ro = none) → StOk W.G M β st a w → c.wpIn (Wide ro) 0 P (PostN W n M β w e st') a w
/-- One state says no more than the other. -/
def StW (W : Wd) (n : Nat) (st st' : St) : Prop :=
  n ≤ st.h.length → n ≤ st'.h.length ∧ st'.rd = st.rd ∧ ∀ M β a w, StOk W.G M β st a w → ∃ M' β', GoodN n M β w M' β' w ∧ Keep n β β' ∧ StOk W.G M' β' st' a w

section
variable {P : Program} {W : Wd} {n : Nat}
theorem PostN.chain {M0 M1 : Mem} {β0 β1 : Bt} {w0 w1 : World} {e : Exit} {st : St} (g : GoodN n M0 β0 w0 M1 β1 w1) (k : Keep n β0 β1) {e' : Exit} {a : Act} {w : World} (h : PostN W n M1 β1 w1 e st e' a w) : PostN W n M0 β0 w0 e st e' a w := by
  obtain ⟨he, M2, β2, g2, k2, s2⟩ := h
  exact ⟨he, M2, β2, g.trans g2, fun i hi hn => k2 i hi (k i hi hn), s2⟩
theorem StW.refl (st : St) : StW W n st st := fun h => ⟨h, rfl, fun M β _ w s => ⟨M, β, GoodN.refl _ _ _ _, fun _ _ h => h, s⟩⟩
theorem StW.trans {a b c : St} (h : StW W n a b) (k : StW W n b c) : StW W n a c := fun hn => by
  obtain ⟨h1, h2, h3⟩ := h hn
  obtain ⟨k1, k2, k3⟩ := k h1
  refine ⟨k1, k2.trans h2, fun M β a w s => ?_⟩
  obtain ⟨M1, β1, g1, q1, s1⟩ := h3 M β a w s
  obtain ⟨M2, β2, g2, q2, s2⟩ := k3 M1 β1 a w s1
  exact ⟨M2, β2, g1.trans g2, fun i hi hn => q2 i hi (q1 i hi hn), s2⟩
theorem RunN.post {c : Code} {st s1 st' : St} {e : Exit} (h : RunN P W n c st e s1) (k : StW W n s1 st') : RunN P W n c st e st' := fun hn => by
  obtain ⟨h1, h2, h3⟩ := h hn
  obtain ⟨k1, k2, k3⟩ := k h1
  refine ⟨k1, k2.trans h2, fun ro M β a w hro s => wpIn_mono (h3 ro M β a w hro s) ?_⟩
  rintro e' a' w' ⟨rfl, M1, β1, g1, q1, s1⟩
  obtain ⟨M2, β2, g2, q2, s2⟩ := k3 M1 β1 a' w' s1
  exact ⟨rfl, M2, β2, g1.trans g2, fun i hi hn => q2 i hi (q1 i hi hn), s2⟩
theorem RunN.pre {c : Code} {st s1 st' : St} {e : Exit} (k : StW W n st s1) (h : RunN P W n c s1 e st') : RunN P W n c st e st' := fun hn => by
  obtain ⟨k1, k2, k3⟩ := k hn
  obtain ⟨h1, h2, h3⟩ := h k1
  refine ⟨h1, h2.trans k2, fun ro M β a w hro s => ?_⟩
  obtain ⟨M1, β1, g1, q1, s1⟩ := k3 M β a w s
  exact wpIn_mono (h3 ro M1 β1 a w (by rw [k2]; exact hro) s1) fun e' a' w' hp => hp.chain g1 q1
theorem RunN.of {r : R} (hr : RunOk P W r.run) {c : Code} {st st' : St} {e : Exit} (h : r.run c st = some (e, st')) : RunN P W n c st e st' := fun hn => by
  obtain ⟨h1, h2, h3⟩ := hr c st e st' h
  refine ⟨Nat.le_trans hn h2, h1, fun ro M β a w hro s => wpIn_mono (h3 ro M β a w hro s) ?_⟩
  rintro e' a' w' ⟨rfl, M1, β1, g1, q1, s1⟩
  exact ⟨rfl, M1, β1, g1.toN, fun i hi hi2 => q1 i (by omega) hi2, s1⟩
theorem RunN.skip {st : St} : RunN P W n .skip st .normal st := fun hn => ⟨hn, rfl, fun _ M β _ w _ s => wpIn_skip ⟨rfl, M, β, GoodN.refl _ _ _ _, fun _ _ h => h, s⟩⟩
theorem RunN.label {l : Nat} {st : St} : RunN P W n (.label l) st .normal st := fun hn => ⟨hn, rfl, fun _ M β _ w _ s => wpIn_label ⟨rfl, M, β, GoodN.refl _ _ _ _, fun _ _ h => h, s⟩⟩
theorem RunN.exit {id : Nat} {st : St} : RunN P W n (.exit id) st (.exit id) st := fun hn => ⟨hn, rfl, fun _ M β _ w _ s => wpIn_exit ⟨rfl, M, β, GoodN.refl _ _ _ _, fun _ _ h => h, s⟩⟩
theorem RunN.ret {st : St} : RunN P W n .ret st .ret st := fun hn => ⟨hn, rfl, fun _ M β _ w _ s => wpIn_ret ⟨rfl, M, β, GoodN.refl _ _ _ _, fun _ _ h => h, s⟩⟩
theorem RunN.seq {x y : Code} {st s1 st' : St} {e : Exit} (h : RunN P W n x st .normal s1) (k : RunN P W n y s1 e st') : RunN P W n (.seq x y) st e st' := fun hn => by
  obtain ⟨h1, h2, h3⟩ := h hn
  obtain ⟨k1, k2, k3⟩ := k h1
  refine ⟨k1, k2.trans h2, fun ro M β a w hro s => wpIn_seq (wpIn_mono (h3 ro M β a w hro s) ?_)⟩
  rintro e' a' w' ⟨rfl, M1, β1, g1, q1, s1⟩
  exact wpIn_mono (k3 ro M1 β1 a' w' (by rw [h2]; exact hro) s1) fun e' a' w' hp => hp.chain g1 q1
theorem RunN.seqOut {x y : Code} {st st' : St} {e : Exit} (h : RunN P W n x st e st') (he : e ≠ .normal) : RunN P W n (.seq x y) st e st' := fun hn => by
  obtain ⟨h1, h2, h3⟩ := h hn
  refine ⟨h1, h2, fun ro M β a w hro s => wpIn_seq (wpIn_mono (h3 ro M β a w hro s) ?_)⟩
  rintro e' a' w' ⟨rfl, hh⟩
  cases e' <;> first | exact ⟨rfl, hh⟩ | exact (he rfl).elim
theorem RunN.condT {c : Operand} {x y : Code} {st st' : St} {e : Exit} (hc : ev W.G st.ts c = .bool true) (h : RunN P W n x st e st') : RunN P W n (.cond c x y) st e st' := fun hn => by
  obtain ⟨h1, h2, h3⟩ := h hn
  exact ⟨h1, h2, fun ro M β a w hro s => wpIn_cond_true (eval_bool s.g s.t hc) (h3 ro M β a w hro s)⟩
theorem RunN.condF {c : Operand} {x y : Code} {st st' : St} {e : Exit} (hc : ev W.G st.ts c = .bool false) (h : RunN P W n y st e st') : RunN P W n (.cond c x y) st e st' := fun hn => by
  obtain ⟨h1, h2, h3⟩ := h hn
  exact ⟨h1, h2, fun ro M β a w hro s => wpIn_cond_false (eval_bool s.g s.t hc) (h3 ro M β a w hro s)⟩
def inBlk (id : Nat) : Exit → Exit
  | .exit id' => if id' = id then .normal else .exit id'
  | e => e
theorem RunN.block {id : Nat} {c : Code} {st st' : St} {e : Exit} (h : RunN P W n c st e st') : RunN P W n (.block id c) st (inBlk id e) st' := fun hn => by
  obtain ⟨h1, h2, h3⟩ := h hn
  refine ⟨h1, h2, fun ro M β a w hro s => wpIn_block (wpIn_mono (h3 ro M β a w hro s) ?_)⟩
  rintro e' a' w' ⟨rfl, hh⟩
  cases e' with
  | exit id' =>
    show if id' = id then _ else _
    simp only [inBlk]
    split
    · exact ⟨rfl, hh⟩
    · exact ⟨rfl, hh⟩
  | _ => exact ⟨rfl, hh⟩
theorem RunN.scope {c : Code} {st st' : St} {e : Exit} (h : RunN P W n c st e st') (he : ∀ l, e ≠ .goto l) : RunN P W n (.scope c) st e st' := fun hn => by
  obtain ⟨h1, h2, h3⟩ := h hn
  refine ⟨h1, h2, fun ro M β a w hro s => wpIn_scope (wpIn_mono (h3 ro M β a w hro s) ?_)⟩
  rintro e' a' w' ⟨rfl, hh⟩
  cases e' <;> first | exact ⟨rfl, hh⟩ | exact (he _ rfl).elim
/-- A loop whose round leaves it. -/
theorem RunN.loopOut {c : Code} {st st' : St} {e : Exit} (h : RunN P W n c st e st') (he : e ≠ .normal) : RunN P W n (.loop c) st e st' := fun hn => by
  obtain ⟨h1, h2, h3⟩ := h hn
  refine ⟨h1, h2, fun ro M β a w hro s => ?_⟩
  refine wpIn_loop_by (fun j a' w' => j = 1 ∧ a' = a ∧ w' = w) (j := 1) ⟨rfl, rfl, rfl⟩ (by rintro a w ⟨h, _⟩; cases h) ?_
  rintro k a' w' ⟨hk, rfl, rfl⟩
  refine wpIn_mono (h3 ro M β a' w' hro s) ?_
  rintro e' a2 w2 ⟨rfl, hh⟩
  cases e' <;> first | exact ⟨rfl, hh⟩ | exact (he rfl).elim
/-- So many rounds, one behind the other. -/
inductive LoopK (P : Program) (W : Wd) (n : Nat) (c : Code) : Nat → St → Exit → St → Prop
  | out {st st' : St} {e : Exit} (h : RunN P W n c st e st') (he : e ≠ .normal) : LoopK P W n c 1 st e st'
  | round {k : Nat} {st s1 st' : St} {e : Exit} (h : RunN P W n c st .normal s1) (hk : LoopK P W n c k s1 e st') : LoopK P W n c (k + 1) st e st'
theorem LoopK.len {c : Code} {k : Nat} {st st' : St} {e : Exit} (h : LoopK P W n c k st e st') : n ≤ st.h.length → n ≤ st'.h.length ∧ st'.rd = st.rd := by
  induction h with
  | out h he => exact fun hn => ⟨(h hn).1, (h hn).2.1⟩
  | round h hk ih => exact fun hn => ⟨(ih (h hn).1).1, (ih (h hn).1).2.trans (h hn).2.1⟩
theorem LoopK.pos {c : Code} {k : Nat} {st st' : St} {e : Exit} (h : LoopK P W n c k st e st') : k ≠ 0 := by cases h <;> simp
theorem RunN.loop {c : Code} {k : Nat} {st st' : St} {e : Exit} (h : LoopK P W n c k st e st') : RunN P W n (.loop c) st e st' := fun hn => by
  refine ⟨(h.len hn).1, (h.len hn).2, fun ro M β a w hro s => ?_⟩
  refine wpIn_loop_by (fun j a' w' => ∃ s1 M1 β1, LoopK P W n c j s1 e st' ∧ s1.rd = st.rd ∧ n ≤ s1.h.length ∧ GoodN n M β w M1 β1 w' ∧ Keep n β β1 ∧ StOk W.G M1 β1 s1 a' w') (j := k)
    ⟨st, M, β, h, rfl, hn, GoodN.refl _ _ _ _, fun _ _ h => h, s⟩ ?_ ?_
  · rintro a w ⟨s1, M1, β1, hl, _⟩
    exact hl.pos rfl
  · rintro j a' w' ⟨s1, M1, β1, hl, hrd, hle, g, kp, s1k⟩
    generalize hj : j + 1 = j1 at hl
    cases hl with
    | out hc he =>
      obtain ⟨b1, b2, b3⟩ := hc hle
      refine wpIn_mono (b3 ro M1 β1 a' w' (by rw [hrd]; exact hro) s1k) fun e1 a2 w2 hp => ?_
      have hh := hp.chain g kp
      obtain ⟨rfl, _⟩ := hp
      cases e1 <;> first | exact hh | exact (he rfl).elim
    | round hc hk =>
      rename_i k2 s2
      obtain rfl : j = k2 := by omega
      obtain ⟨b1, b2, b3⟩ := hc hle
      refine wpIn_mono (b3 ro M1 β1 a' w' (by rw [hrd]; exact hro) s1k) ?_
      rintro e1 a2 w2 hp
      have hh := hp.chain g kp
      obtain ⟨rfl, M2, β2, g2, k2, s2k⟩ := hh
      exact ⟨s2, M2, β2, hk, b2.trans hrd, b1, g2, k2, s2k⟩
theorem LoopK.pre {c : Code} {k : Nat} {st s1 st' : St} {e : Exit} (hw : StW W n st s1) (h : LoopK P W n c k s1 e st') : LoopK P W n c k st e st' := by
  cases h with
  | out h he => exact .out (h.pre hw) he
  | round h hk => exact .round (h.pre hw) hk
end
end Go.Xa
