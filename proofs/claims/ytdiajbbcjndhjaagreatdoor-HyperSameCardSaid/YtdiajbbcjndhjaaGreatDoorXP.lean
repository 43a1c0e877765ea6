/- A region whose order is the text's. -/
import Derived.Test.YtdiajbbcjndhjaaGreatDoorXO
namespace Go.Xa
open Go.RowKit

theorem opStep_len {W : Wd} {r : R} {ν : Nat} {ops : List Oper} {o : Oper} {st st' : St} (h : opStep W r ν ops o st = some st') : st.h.length ≤ st'.h.length ∧ st'.df = st.df ∧ st'.rd = st.rd := by
  unfold opStep at h
  split at h
  · split at h
    · rename_i p hop
      split at h
      · rename_i hl
        cases h
        obtain ⟨p1, p2, p3⟩ := put_h { st with h := p.2 } o.dst p.1
        rw [p1, p2, p3]
        exact ⟨hl, rfl, rfl⟩
      · cases h
    · cases h
  · cases h
    obtain ⟨p1, p2, p3⟩ := put_h st o.dst (.lit undef)
    rw [p1, p2, p3]
    exact ⟨Nat.le_refl _, rfl, rfl⟩
  · cases h

theorem opsRun_len {W : Wd} {r : R} {ops : List Oper} : ∀ (os : List Oper) (st st' : St), opsRun W r ops os st = some st' → st.h.length ≤ st'.h.length ∧ st'.df = st.df ∧ st'.rd = st.rd
  | [], st, st', h => by simp only [opsRun, Option.some.injEq] at h; subst h; exact ⟨Nat.le_refl _, rfl, rfl⟩
  | o :: os, st, st', h => by
    simp only [opsRun] at h
    split at h
    · rename_i st1 h1
      obtain ⟨a1, a2, a3⟩ := opStep_len h1
      obtain ⟨b1, b2, b3⟩ := opsRun_len os st1 st' h
      exact ⟨Nat.le_trans a1 b1, b2.trans a2, b3.trans a3⟩
    · cases h

theorem HOk.slot {M : Mem} {β : Bt} {h : List Blk} {w : World} (H : HOk M β h w) : Slot β h h.length := ⟨H.ge _ (Nat.le_refl _), .inl rfl⟩

theorem opsRun_ok {P : Program} {W : Wd} {r : R} (hT : W.T.ok P) (hr : ROk P W r) {ops : Array Oper} {ro : Option Nat} {Q : Exit → Act → World → Prop} : ∀ (os : List Oper) (k : Nat), ops.toList.drop k = os → ∀ {M : Mem} {β : Bt} {st st' : St} {a : Act} {w : World},
    StOk W.G M β st a w → opsRun W r ops.toList os st = some st' → (∀ M' β' a' w', Good M β w M' β' w' → Keep st.h.length β β' → StOk W.G M' β' st' a' w' → Q .normal a' w') → wpOpsIn (Wide ro) 0 P ops Q (List.range' k os.length) a w
  | [], k, hk, M, β, st, st', a, w, hst, h, hQ => by
    simp only [opsRun, Option.some.injEq] at h
    subst h
    exact hQ M β a w (Good.refl _ _ _) (fun _ _ hn => hn) hst
  | o :: os, k, hk, M, β, st, st', a, w, hst, h, hQ => by
    have ho : ops[k]? = some o := by
      have := congrArg List.head? hk
      simpa [List.head?_drop] using this
    have hk' : ops.toList.drop (k + 1) = os := by
      have := congrArg List.tail hk
      simpa [List.tail_drop] using this
    simp only [opsRun] at h
    split at h
    · rename_i st1 h1
      show wpOpsIn (Wide ro) 0 P ops Q (List.range' k (os.length + 1)) a w
      rw [List.range'_succ, wpOpsIn_cons]
      refine opStep_ok hT hr ho hst.h.slot hst h1 fun M1 β1 a1 w1 g1 k1 st1k => ?_
      have hle := (opStep_len h1).1
      have kp : Keep st.h.length β β1 := fun i hi hn => k1 i hi (by omega) hn
      exact opsRun_ok hT hr os (k + 1) hk' st1k h fun M2 β2 a2 w2 g2 k2 st2 => hQ M2 β2 a2 w2 (g1.trans g2) (kp.trans k2 hle) st2
    · cases h

theorem region_ok {P : Program} {W : Wd} {r : R} (hT : W.T.ok P) (hr : ROk P W r) {id : Nat} {ops : Array Oper} {ro : Option Nat} {st st' : St} (h : opsRun W r ops.toList ops.toList st = some st') {M : Mem} {β : Bt} {a : Act} {w : World} (hst : StOk W.G M β st a w) :
    (Code.region id ops false).wpIn (Wide ro) 0 P (fun e' a' w' => e' = .normal ∧ ∃ M' β', Good M β w M' β' w' ∧ Keep st.h.length β β' ∧ StOk W.G M' β' st' a' w') a w := by
  refine wpIn_region ?_
  have := opsRun_ok hT hr (ro := ro) ops.toList 0 rfl hst h (Q := fun e' a' w' => e' = .normal ∧ ∃ M' β', Good M β w M' β' w' ∧ Keep st.h.length β β' ∧ StOk W.G M' β' st' a' w') fun M' β' a' w' g k s => ⟨rfl, M', β', g, k, s⟩
  rwa [Array.length_toList, ← List.range_eq_range'] at this
end Go.Xa
