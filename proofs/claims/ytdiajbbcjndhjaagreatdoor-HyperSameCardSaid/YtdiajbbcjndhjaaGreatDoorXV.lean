/- The executor's runs are the machine's. -/
import Derived.Test.YtdiajbbcjndhjaaGreatDoorXU
namespace Go.Xa
open Go.RowKit

theorem eval_bool {M : Mem} {β : Bt} {G : Nat → D} {a : Act} {ts : List D} {c : Operand} {b : Bool} (hg : GOk M G) (ht : TmpsOk M β a.tmps ts) (h : ev G ts c = .bool b) : a.eval c = .bool b := by
  have := ev_ok hg ht c
  rw [h] at this
  generalize a.eval c = v at this
  cases this
  rfl

theorem nextRun_ok {P : Program} {W : Wd} {r : R} (hT : W.T.ok P) (hP : P.follows .mixedOrders = true) (hr : ROk P W r) (k : Nat)
    (hrange : ∀ (g : Operand) (ps : Array Tmp) (as bd : Code) (st : St) (e : Exit) (st' : St), rangeRun r (ev W.G st.ts g) ps as bd st = some (e, st') → st'.rd = st.rd ∧ st.h.length ≤ st'.h.length ∧ ∀ ro M β a w, (st.rd = false → ro = none) → StOk W.G M β st a w →
      (Code.rangeFunc g ps as bd).wpIn (Wide ro) 0 P (fun e' a' w' => e' = e ∧ ∃ M' β', Good M β w M' β' w' ∧ Keep st.h.length β β' ∧ StOk W.G M' β' st' a' w') a w) : RunOk P W (nextRun W k r) := by
  intro c st e st' h
  have refl : ∀ (M : Mem) (β : Bt) (a : Act) (w : World), StOk W.G M β st a w → ∃ M' β', Good M β w M' β' w ∧ Keep st.h.length β β' ∧ StOk W.G M' β' st a w := fun M β a w s => ⟨M, β, Good.refl _ _ _, fun _ _ h => h, s⟩
  cases c with
  | skip => cases h; exact ⟨rfl, Nat.le_refl _, fun ro M β a w _ s => wpIn_skip ⟨rfl, refl M β a w s⟩⟩
  | label l => cases h; exact ⟨rfl, Nat.le_refl _, fun ro M β a w _ s => wpIn_label ⟨rfl, refl M β a w s⟩⟩
  | exit id => cases h; exact ⟨rfl, Nat.le_refl _, fun ro M β a w _ s => wpIn_exit ⟨rfl, refl M β a w s⟩⟩
  | ret => cases h; exact ⟨rfl, Nat.le_refl _, fun ro M β a w _ s => wpIn_ret ⟨rfl, refl M β a w s⟩⟩
  | goto l => cases h
  | refuse l => cases h
  | rangeFunc g ps as bd => exact hrange g ps as bd st e st' h
  | region id ops draw =>
    simp only [nextRun, Option.map_eq_some_iff, Prod.mk.injEq] at h
    obtain ⟨s, h, rfl, rfl⟩ := h
    cases draw with
    | true =>
      simp only [if_true] at h
      exact ⟨(drawn_len hr h).2, (drawn_len hr h).1, fun ro M β a w _ s0 => drawn_ok hT hP hr h s0⟩
    | false =>
      simp only [Bool.false_eq_true, if_false] at h
      obtain ⟨h1, _, h3⟩ := opsRun_len _ _ _ h
      exact ⟨h3, h1, fun ro M β a w _ s0 => region_ok hT hr h s0⟩
  | seq x y =>
    simp only [nextRun] at h
    split at h
    · rename_i s1 hx
      obtain ⟨a1, a2, a3⟩ := hr.run x st _ s1 hx
      obtain ⟨b1, b2, _⟩ := hr.run y s1 _ st' h
      refine ⟨b1.trans a1, Nat.le_trans a2 b2, fun ro M β a w hro s0 => wpIn_seq (wpIn_mono (a3 ro M β a w hro s0) ?_)⟩
      rintro e1 a1' w1 ⟨rfl, M1, β1, g1, k1, s1k⟩
      exact RunOk.chain hr h a2 (by rw [a1]; exact hro) g1 k1 s1k
    · rename_i hx
      rw [h] at hx
      obtain ⟨a1, a2, a3⟩ := hr.run x st _ st' h
      refine ⟨a1, a2, fun ro M β a w hro s0 => wpIn_seq (wpIn_mono (a3 ro M β a w hro s0) ?_)⟩
      rintro e1 a1' w1 ⟨rfl, hh⟩
      cases e1 <;> first | exact ⟨rfl, hh⟩ | exact (hx _ rfl).elim
  | cond c x y =>
    simp only [nextRun] at h
    split at h
    · rename_i hc
      obtain ⟨a1, a2, a3⟩ := hr.run x st _ st' h
      exact ⟨a1, a2, fun ro M β a w hro s0 => wpIn_cond_true (eval_bool s0.g s0.t hc) (a3 ro M β a w hro s0)⟩
    · rename_i hc
      obtain ⟨a1, a2, a3⟩ := hr.run y st _ st' h
      exact ⟨a1, a2, fun ro M β a w hro s0 => wpIn_cond_false (eval_bool s0.g s0.t hc) (a3 ro M β a w hro s0)⟩
    · cases h
  | block id c =>
    simp only [nextRun] at h
    split at h
    · rename_i id' s1 hc
      obtain ⟨a1, a2, a3⟩ := hr.run c st _ s1 hc
      have : (e = if id' = id then .normal else .exit id') ∧ st' = s1 := by split at h <;> cases h <;> simp_all
      obtain ⟨rfl, rfl⟩ := this
      refine ⟨a1, a2, fun ro M β a w hro s0 => wpIn_block (wpIn_mono (a3 ro M β a w hro s0) ?_)⟩
      rintro e1 a1' w1 ⟨rfl, hh⟩
      show if id' = id then _ else _
      split
      · rename_i hid; exact ⟨rfl, hh⟩
      · rename_i hid; exact ⟨rfl, hh⟩
    · rename_i hx
      rw [h] at hx
      obtain ⟨a1, a2, a3⟩ := hr.run c st _ st' h
      refine ⟨a1, a2, fun ro M β a w hro s0 => wpIn_block (wpIn_mono (a3 ro M β a w hro s0) ?_)⟩
      rintro e1 a1' w1 ⟨rfl, hh⟩
      cases e1 <;> first | exact ⟨rfl, hh⟩ | exact (hx _ _ rfl).elim
  | scope c =>
    simp only [nextRun] at h
    split at h
    · cases h
    · rename_i hx
      rw [h] at hx
      obtain ⟨a1, a2, a3⟩ := hr.run c st _ st' h
      refine ⟨a1, a2, fun ro M β a w hro s0 => wpIn_scope (wpIn_mono (a3 ro M β a w hro s0) ?_)⟩
      rintro e1 a1' w1 ⟨rfl, hh⟩
      cases e1 <;> first | exact ⟨rfl, hh⟩ | exact (hx _ _ rfl).elim
  | loop c =>
    simp only [nextRun] at h
    obtain ⟨a1, a2⟩ := loopRun_rd hr k st e st' h
    refine ⟨a1, a2, fun ro M β a w hro s0 => ?_⟩
    refine wpIn_loop_by (fun j a' w' => ∃ s1 M1 β1, loopRun (r.run c) j s1 = some (e, st') ∧ s1.rd = st.rd ∧ st.h.length ≤ s1.h.length ∧ Good M β w M1 β1 w' ∧ Keep st.h.length β β1 ∧ StOk W.G M1 β1 s1 a' w') (j := k)
      ⟨st, M, β, h, rfl, Nat.le_refl _, Good.refl _ _ _, fun _ _ h => h, s0⟩ ?_ ?_
    · rintro a w ⟨s1, M1, β1, hl, _⟩; cases hl
    · rintro j a' w' ⟨s1, M1, β1, hl, hrd, hle, g, kp, s1k⟩
      simp only [loopRun] at hl
      split at hl
      · rename_i s2 hc
        obtain ⟨b1, b2, b3⟩ := hr.run c s1 _ s2 hc
        refine wpIn_mono (b3 ro M1 β1 a' w' (by rw [hrd]; exact hro) s1k) ?_
        rintro e1 a2 w2 ⟨rfl, M2, β2, g2, k2, s2k⟩
        exact ⟨s2, M2, β2, hl, b1.trans hrd, Nat.le_trans hle b2, g.trans g2, kp.trans k2 hle, s2k⟩
      · rename_i hx
        rw [hl] at hx
        obtain ⟨b1, b2, b3⟩ := hr.run c s1 _ st' hl
        refine wpIn_mono (b3 ro M1 β1 a' w' (by rw [hrd]; exact hro) s1k) ?_
        rintro e1 a2 w2 ⟨rfl, M2, β2, g2, k2, s2k⟩
        have hh : e1 = e1 ∧ ∃ M' β', Good M β w M' β' w2 ∧ Keep st.h.length β β' ∧ StOk W.G M' β' st' a2 w2 := ⟨rfl, M2, β2, g.trans g2, kp.trans k2 hle, s2k⟩
        cases e1 <;> first | exact hh | exact (hx _ rfl).elim
end Go.Xa
