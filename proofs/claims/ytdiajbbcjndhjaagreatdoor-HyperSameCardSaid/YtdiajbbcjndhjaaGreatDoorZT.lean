/- SeatSame's code: seats compared. -/
import Derived.Test.YtdiajbbcjndhjaaGreatDoorZQ
import Derived.Test.YtdiajbbcjndhjaaGreatDoorYD
namespace Go.Xa
open Go.RowKit Go.Proofs

def FitSeat (s : Seat) : Prop := FitKern s.k
theorem seat_iff (a b : Seat) : (a.k = b.k ∧ a.state = b.state ∧ a.boots = b.boots) ↔ a = b := by
  rcases a with ⟨_, _, _⟩
  rcases b with ⟨_, _, _⟩
  constructor <;> intro h <;> simp_all
theorem f19_c (a b : Seat) (ha : FitSeat a) : QC 19 [.agg (eSeat a), .agg (eSeat b)] (.val (.bool (decide (a.k = b.k ∧ a.state = b.state ∧ a.boots = b.boots)))) := by
  by_cases h0 : a.k = b.k
  · have q0 := f8_ok a.k b.k ha
    rw [decide_eq_true h0] at q0
    by_cases h1 : a.state = b.state
    · have q1 : aBin wd.T .eql 3 (.int .i64 a.state) (.int .i64 b.state) = some (.bool true) := by simp [aBin, aIntOp, h1]
      by_cases h2 : a.boots = b.boots
      · have q2 : aBin wd.T .eql 3 (.int .i64 a.boots) (.int .i64 b.boots) = some (.bool true) := by simp [aBin, aIntOp, h2]
        rw [decide_eq_true (show a.k = b.k ∧ a.state = b.state ∧ a.boots = b.boots from ⟨h0, h1, h2⟩)]
        exact pFun_ok [(7, .quiet (.val (.bool true))), (15, .val (.bool true)), (22, .val (.bool true))] (hp := And.intro (And.intro (And.intro trivial q0) q1) q2) (h := by kernel_rfl)
      · have q2 : aBin wd.T .eql 3 (.int .i64 a.boots) (.int .i64 b.boots) = some (.bool false) := by simp [aBin, aIntOp, h2]
        rw [decide_eq_false (fun h : a.k = b.k ∧ a.state = b.state ∧ a.boots = b.boots => h2 h.2.2)]
        exact pFun_ok [(7, .quiet (.val (.bool true))), (15, .val (.bool true)), (22, .val (.bool false))] (hp := And.intro (And.intro (And.intro trivial q0) q1) q2) (h := by kernel_rfl)
    · have q1 : aBin wd.T .eql 3 (.int .i64 a.state) (.int .i64 b.state) = some (.bool false) := by simp [aBin, aIntOp, h1]
      rw [decide_eq_false (fun h : a.k = b.k ∧ a.state = b.state ∧ a.boots = b.boots => h1 h.2.1)]
      exact pFun_ok [(7, .quiet (.val (.bool true))), (15, .val (.bool false))] (hp := And.intro (And.intro trivial q0) q1) (h := by kernel_rfl)
  · have q0 := f8_ok a.k b.k ha
    rw [decide_eq_false h0] at q0
    rw [decide_eq_false (fun h : a.k = b.k ∧ a.state = b.state ∧ a.boots = b.boots => h0 h.1)]
    exact pFun_ok [(7, .quiet (.val (.bool false)))] (hp := And.intro trivial q0) (h := by kernel_rfl)
theorem f19_ok (a b : Seat) (ha : FitSeat a) : QC 19 [.agg (eSeat a), .agg (eSeat b)] (.val (.bool (decide (a = b)))) := by
  have h := f19_c a b ha
  rw [dec_congr (seat_iff a b)] at h
  exact h
theorem f20_c (a b : Seat) (ha : FitSeat a) : QC 20 [.agg (eSeat a), .agg (eSeat b)] (.val (.bool (decide (a.k = b.k ∧ a.state = b.state ∧ a.boots = b.boots)))) := by
  by_cases h0 : a.k = b.k
  · have q0 := f9_ok a.k b.k ha
    rw [decide_eq_true h0] at q0
    by_cases h1 : a.state = b.state
    · have q1 : aBin wd.T .eql 3 (.int .i64 a.state) (.int .i64 b.state) = some (.bool true) := by simp [aBin, aIntOp, h1]
      by_cases h2 : a.boots = b.boots
      · have q2 : aBin wd.T .eql 3 (.int .i64 a.boots) (.int .i64 b.boots) = some (.bool true) := by simp [aBin, aIntOp, h2]
        rw [decide_eq_true (show a.k = b.k ∧ a.state = b.state ∧ a.boots = b.boots from ⟨h0, h1, h2⟩)]
        exact pFun_ok [(7, .quiet (.val (.bool true))), (13, .val (.bool true)), (20, .val (.bool true))] (hp := And.intro (And.intro (And.intro trivial q0) q1) q2) (h := by kernel_rfl)
      · have q2 : aBin wd.T .eql 3 (.int .i64 a.boots) (.int .i64 b.boots) = some (.bool false) := by simp [aBin, aIntOp, h2]
        rw [decide_eq_false (fun h : a.k = b.k ∧ a.state = b.state ∧ a.boots = b.boots => h2 h.2.2)]
        exact pFun_ok [(7, .quiet (.val (.bool true))), (13, .val (.bool true)), (20, .val (.bool false))] (hp := And.intro (And.intro (And.intro trivial q0) q1) q2) (h := by kernel_rfl)
    · have q1 : aBin wd.T .eql 3 (.int .i64 a.state) (.int .i64 b.state) = some (.bool false) := by simp [aBin, aIntOp, h1]
      rw [decide_eq_false (fun h : a.k = b.k ∧ a.state = b.state ∧ a.boots = b.boots => h1 h.2.1)]
      exact pFun_ok [(7, .quiet (.val (.bool true))), (13, .val (.bool false))] (hp := And.intro (And.intro trivial q0) q1) (h := by kernel_rfl)
  · have q0 := f9_ok a.k b.k ha
    rw [decide_eq_false h0] at q0
    rw [decide_eq_false (fun h : a.k = b.k ∧ a.state = b.state ∧ a.boots = b.boots => h0 h.1)]
    exact pFun_ok [(7, .quiet (.val (.bool false)))] (hp := And.intro trivial q0) (h := by kernel_rfl)
theorem f20_ok (a b : Seat) (ha : FitSeat a) : QC 20 [.agg (eSeat a), .agg (eSeat b)] (.val (.bool (decide (a = b)))) := by
  have h := f20_c a b ha
  rw [dec_congr (seat_iff a b)] at h
  exact h
theorem f5_ok (a b : Seat) (ha : FitSeat a) (hb : FitSeat b) : QC 5 [.agg (eSeat a), .agg (eSeat b)] (.val (.bool true)) := by
  have s := shown18
  have aa := f20_ok a a ha
  have bb := f20_ok b b hb
  rw [decide_eq_true rfl] at aa bb
  have ab := f20_ok a b ha
  have ba := f20_ok b a hb
  have r := f19_ok a b ha
  by_cases h : a = b
  · rw [decide_eq_true h] at ab r
    rw [decide_eq_true h.symm] at ba
    exact pFun_ok [(3, .quiet (.val (.bool true))), (7, .quiet (.val (.bool true))), (13, .quiet (.val (.bool true))), (20, .quiet (.val (.bool true))), (27, .quiet (.val (.bool true))), (32, .quiet (.val (.bool true)))]
      (hp := And.intro (And.intro (And.intro (And.intro (And.intro (And.intro trivial s) r) ab) ba) aa) bb) (h := by kernel_rfl)
  · rw [decide_eq_false h] at ab r
    rw [decide_eq_false (fun e => h e.symm)] at ba
    exact pFun_ok [(3, .quiet (.val (.bool true))), (7, .quiet (.val (.bool false))), (13, .quiet (.val (.bool false))), (20, .quiet (.val (.bool false))), (27, .quiet (.val (.bool true))), (32, .quiet (.val (.bool true)))]
      (hp := And.intro (And.intro (And.intro (And.intro (And.intro (And.intro trivial s) r) ab) ba) aa) bb) (h := by kernel_rfl)
end Go.Xa
