/- Turns, rooms, boxes, tables compared. -/
import Derived.Test.YtdiajbbcjndhjaaGreatDoorZI
namespace Go.Xa
open Go.RowKit Go.Proofs

abbrev fits {α : Type} (l : List α) : Prop := l.length ≤ 9223372036854775807
theorem blk_pure {e : List D} {wr : Bool} {k : Nat} (h : e.all D.pure = true) : blkLt k (.cells [e] wr) := by
  intro x hx d hd
  obtain rfl := List.mem_singleton.1 hx
  have := List.all_eq_true.1 h d hd
  cases d <;> first | (simp [D.pure] at this; done) | rfl
theorem dec_congr {p q : Prop} [Decidable p] [Decidable q] (h : p ↔ q) : decide p = decide q := by
  by_cases hp : p
  · rw [decide_eq_true hp, decide_eq_true (h.1 hp)]
  · rw [decide_eq_false hp, decide_eq_false (fun x => hp (h.2 x))]
theorem f36_c (a b : Turn) (ha : fits a.l) : QC 36 [.agg (eTurn a), .agg (eTurn b)] (.val (.bool (decide (a.l = b.l ∧ a.left = b.left)))) := by
  by_cases h0 : a.l = b.l
  · have q0 := f92_ok a.l b.l ha
    rw [decide_eq_true h0] at q0
    by_cases h1 : a.left = b.left
    · have q1 : aBin wd.T .eql 3 (.int .i64 a.left) (.int .i64 b.left) = some (.bool true) := by simp [aBin, aIntOp, h1]
      rw [decide_eq_true (show a.l = b.l ∧ a.left = b.left from ⟨h0, h1⟩)]
      exact pFun_ok [(7, .quiet (.val (.bool true))), (13, .val (.bool true))] (hp := And.intro (And.intro trivial q0) q1) (h := by kernel_rfl)
    · have q1 : aBin wd.T .eql 3 (.int .i64 a.left) (.int .i64 b.left) = some (.bool false) := by simp [aBin, aIntOp, h1]
      rw [decide_eq_false (fun h : a.l = b.l ∧ a.left = b.left => h1 h.2)]
      exact pFun_ok [(7, .quiet (.val (.bool true))), (13, .val (.bool false))] (hp := And.intro (And.intro trivial q0) q1) (h := by kernel_rfl)
  · have q0 := f92_ok a.l b.l ha
    rw [decide_eq_false h0] at q0
    rw [decide_eq_false (fun h : a.l = b.l ∧ a.left = b.left => h0 h.1)]
    exact pFun_ok [(7, .quiet (.val (.bool false)))] (hp := And.intro trivial q0) (h := by kernel_rfl)
theorem f27_c (a b : Turn) (ha : fits a.l) : QC 27 [.agg (eTurn a), .agg (eTurn b)] (.val (.bool (decide (a.l = b.l ∧ a.left = b.left)))) := by
  by_cases h0 : a.l = b.l
  · have q0 := f88_ok a.l b.l ha
    rw [decide_eq_true h0] at q0
    by_cases h1 : a.left = b.left
    · have q1 : aBin wd.T .eql 3 (.int .i64 a.left) (.int .i64 b.left) = some (.bool true) := by simp [aBin, aIntOp, h1]
      rw [decide_eq_true (show a.l = b.l ∧ a.left = b.left from ⟨h0, h1⟩)]
      exact pFun_ok [(7, .quiet (.val (.bool true))), (15, .val (.bool true))] (hp := And.intro (And.intro trivial q0) q1) (h := by kernel_rfl)
    · have q1 : aBin wd.T .eql 3 (.int .i64 a.left) (.int .i64 b.left) = some (.bool false) := by simp [aBin, aIntOp, h1]
      rw [decide_eq_false (fun h : a.l = b.l ∧ a.left = b.left => h1 h.2)]
      exact pFun_ok [(7, .quiet (.val (.bool true))), (15, .val (.bool false))] (hp := And.intro (And.intro trivial q0) q1) (h := by kernel_rfl)
  · have q0 := f88_ok a.l b.l ha
    rw [decide_eq_false h0] at q0
    rw [decide_eq_false (fun h : a.l = b.l ∧ a.left = b.left => h0 h.1)]
    exact pFun_ok [(7, .quiet (.val (.bool false)))] (hp := And.intro trivial q0) (h := by kernel_rfl)
theorem f30_c (a b : Heap) (ha : fits a.l) : QC 30 [.agg (eHeap a), .agg (eHeap b)] (.val (.bool (decide (a.l = b.l ∧ a.size = b.size)))) := by
  by_cases h0 : a.l = b.l
  · have q0 := f89_ok a.l b.l ha
    rw [decide_eq_true h0] at q0
    by_cases h1 : a.size = b.size
    · have q1 : aBin wd.T .eql 3 (.int .i64 a.size) (.int .i64 b.size) = some (.bool true) := by simp [aBin, aIntOp, h1]
      rw [decide_eq_true (show a.l = b.l ∧ a.size = b.size from ⟨h0, h1⟩)]
      exact pFun_ok [(7, .quiet (.val (.bool true))), (15, .val (.bool true))] (hp := And.intro (And.intro trivial q0) q1) (h := by kernel_rfl)
    · have q1 : aBin wd.T .eql 3 (.int .i64 a.size) (.int .i64 b.size) = some (.bool false) := by simp [aBin, aIntOp, h1]
      rw [decide_eq_false (fun h : a.l = b.l ∧ a.size = b.size => h1 h.2)]
      exact pFun_ok [(7, .quiet (.val (.bool true))), (15, .val (.bool false))] (hp := And.intro (And.intro trivial q0) q1) (h := by kernel_rfl)
  · have q0 := f89_ok a.l b.l ha
    rw [decide_eq_false h0] at q0
    rw [decide_eq_false (fun h : a.l = b.l ∧ a.size = b.size => h0 h.1)]
    exact pFun_ok [(7, .quiet (.val (.bool false)))] (hp := And.intro trivial q0) (h := by kernel_rfl)
theorem f36_ok (a b : Turn) (ha : fits a.l) : QC 36 [.agg (eTurn a), .agg (eTurn b)] (.val (.bool (decide (a = b)))) := by
  have h := f36_c a b ha
  rwa [dec_congr (show (a.l = b.l ∧ a.left = b.left) ↔ a = b by cases a; cases b; simp)] at h
theorem f27_ok (a b : Turn) (ha : fits a.l) : QC 27 [.agg (eTurn a), .agg (eTurn b)] (.val (.bool (decide (a = b)))) := by
  have h := f27_c a b ha
  rwa [dec_congr (show (a.l = b.l ∧ a.left = b.left) ↔ a = b by cases a; cases b; simp)] at h
theorem f30_ok (a b : Heap) (ha : fits a.l) : QC 30 [.agg (eHeap a), .agg (eHeap b)] (.val (.bool (decide (a = b)))) := by
  have h := f30_c a b ha
  rwa [dec_congr (show (a.l = b.l ∧ a.size = b.size) ↔ a = b by cases a; cases b; simp [and_comm])] at h
theorem eql_Proc (x y : Proc) : aBin wd.T .eql 151 (.agg (eProc x)) (.agg (eProc y)) = some (.bool (decide (x = y))) := eql_agg (by kernel_rfl) (eqd_Proc x y)
theorem f91_ok (a b : Proc) : QC 91 [.agg (eProc a), .agg (eProc b)] (.val (.bool (decide (a = b)))) := by
  by_cases h0 : a = b
  · have q0 : aBin wd.T .eql 151 (.agg (eProc a)) (.agg (eProc b)) = some (.bool true) := by rw [eql_Proc]; simp [h0]
    rw [decide_eq_true h0]
    exact pFun_ok [(5, .val (.bool true))] (hp := And.intro trivial q0) (h := by kernel_rfl)
  · have q0 : aBin wd.T .eql 151 (.agg (eProc a)) (.agg (eProc b)) = some (.bool false) := by rw [eql_Proc]; simp [h0]
    rw [decide_eq_false (fun h : a = b => h0 h)]
    exact pFun_ok [(5, .val (.bool false))] (hp := And.intro trivial q0) (h := by kernel_rfl)
theorem f35_ok (a b : List Proc) (ha : fits a) : QC 35 [sl eProc a, sl eProc b] (.val (.bool (decide (a = b)))) := by
  by_cases h0 : a = b
  · have q0 := f90_ok a b ha fun x _ y _ => f91_ok x y
    rw [decide_eq_true h0] at q0
    rw [decide_eq_true h0]
    exact pFun_ok [(3, .quiet (.val (.bool true)))] (hp := And.intro trivial q0) (h := by kernel_rfl)
  · have q0 := f90_ok a b ha fun x _ y _ => f91_ok x y
    rw [decide_eq_false h0] at q0
    rw [decide_eq_false (fun h : a = b => h0 h)]
    exact pFun_ok [(3, .quiet (.val (.bool false)))] (hp := And.intro trivial q0) (h := by kernel_rfl)
theorem f74_ok (a b : List Str) (ha : fits a) : QC 74 [sl eStr a, sl eStr b] (.val (.bool (decide (a = b)))) := by
  by_cases h0 : a = b
  · have q0 := f40_ok a b ha
    rw [decide_eq_true h0] at q0
    rw [decide_eq_true h0]
    exact pFun_ok [(3, .quiet (.val (.bool true)))] (hp := And.intro trivial q0) (h := by kernel_rfl)
  · have q0 := f40_ok a b ha
    rw [decide_eq_false h0] at q0
    rw [decide_eq_false (fun h : a = b => h0 h)]
    exact pFun_ok [(3, .quiet (.val (.bool false)))] (hp := And.intro trivial q0) (h := by kernel_rfl)
theorem f75_ok (a b : List Stamp) (ha : fits a) : QC 75 [sl eStamp a, sl eStamp b] (.val (.bool (decide (a = b)))) := by
  by_cases h0 : a = b
  · have q0 := f76_ok a b ha
    rw [decide_eq_true h0] at q0
    rw [decide_eq_true h0]
    exact pFun_ok [(3, .quiet (.val (.bool true)))] (hp := And.intro trivial q0) (h := by kernel_rfl)
  · have q0 := f76_ok a b ha
    rw [decide_eq_false h0] at q0
    rw [decide_eq_false (fun h : a = b => h0 h)]
    exact pFun_ok [(3, .quiet (.val (.bool false)))] (hp := And.intro trivial q0) (h := by kernel_rfl)
theorem f117_ok (a b : List Win) (ha : fits a) : QC 117 [sl eWin a, sl eWin b] (.val (.bool (decide (a = b)))) := by
  by_cases h0 : a = b
  · have q0 := f118_ok a b ha
    rw [decide_eq_true h0] at q0
    rw [decide_eq_true h0]
    exact pFun_ok [(3, .quiet (.val (.bool true)))] (hp := And.intro trivial q0) (h := by kernel_rfl)
  · have q0 := f118_ok a b ha
    rw [decide_eq_false h0] at q0
    rw [decide_eq_false (fun h : a = b => h0 h)]
    exact pFun_ok [(3, .quiet (.val (.bool false)))] (hp := And.intro trivial q0) (h := by kernel_rfl)
theorem f93_ok (a b : List Msg) (ha : fits a) : QC 93 [sl eMsg a, sl eMsg b] (.val (.bool (decide (a = b)))) := by
  by_cases h0 : a = b
  · have q0 := f131_ok a b ha
    rw [decide_eq_true h0] at q0
    rw [decide_eq_true h0]
    exact pFun_ok [(3, .quiet (.val (.bool true)))] (hp := And.intro trivial q0) (h := by kernel_rfl)
  · have q0 := f131_ok a b ha
    rw [decide_eq_false h0] at q0
    rw [decide_eq_false (fun h : a = b => h0 h)]
    exact pFun_ok [(3, .quiet (.val (.bool false)))] (hp := And.intro trivial q0) (h := by kernel_rfl)
theorem f43_c (a b : Box) (ha : fits a.l) : QC 43 [.agg (eBox a), .agg (eBox b)] (.val (.bool (decide (a.lost = b.lost ∧ a.l = b.l)))) := by
  by_cases h0 : a.lost = b.lost
  · have q0 : aBin wd.T .eql 3 (.int .i64 a.lost) (.int .i64 b.lost) = some (.bool true) := by simp [aBin, aIntOp, h0]
    by_cases h1 : a.l = b.l
    · have q1 := f93_ok a.l b.l ha
      rw [decide_eq_true h1] at q1
      rw [decide_eq_true (show a.lost = b.lost ∧ a.l = b.l from ⟨h0, h1⟩)]
      exact pFun_ok [(11, .val (.bool true)), (16, .quiet (.val (.bool true)))] (hp := And.intro (And.intro trivial q0) q1) (h := by kernel_rfl)
    · have q1 := f93_ok a.l b.l ha
      rw [decide_eq_false h1] at q1
      rw [decide_eq_false (fun h : a.lost = b.lost ∧ a.l = b.l => h1 h.2)]
      exact pFun_ok [(11, .val (.bool true)), (16, .quiet (.val (.bool false)))] (hp := And.intro (And.intro trivial q0) q1) (h := by kernel_rfl)
  · have q0 : aBin wd.T .eql 3 (.int .i64 a.lost) (.int .i64 b.lost) = some (.bool false) := by simp [aBin, aIntOp, h0]
    rw [decide_eq_false (fun h : a.lost = b.lost ∧ a.l = b.l => h0 h.1)]
    exact pFun_ok [(11, .val (.bool false))] (hp := And.intro trivial q0) (h := by kernel_rfl)
theorem f43_ok (a b : Box) (ha : fits a.l) : QC 43 [.agg (eBox a), .agg (eBox b)] (.val (.bool (decide (a = b)))) := by
  have h := f43_c a b ha
  rwa [dec_congr (show (a.lost = b.lost ∧ a.l = b.l) ↔ a = b by cases a; cases b; simp [and_comm])] at h
end Go.Xa
