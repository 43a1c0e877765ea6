/- Plans and systems compared by the program. -/
import Derived.Test.YtdiajbbcjndhjaaGreatDoorZT
import Derived.Test.YtdiajbbcjndhjaaGreatDoorZP
namespace Go.Xa
open Go.RowKit Go.Proofs
theorem plan_iff (a b : Plan) : (a.parts = b.parts ∧ a.frame = b.frame ∧ a.wins = b.wins ∧ a.chans = b.chans) ↔ a = b := by
  rcases a with ⟨_, _, _, _⟩
  rcases b with ⟨_, _, _, _⟩
  constructor <;> intro h <;> simp_all
theorem two_plan (a b : Plan) : blksLt 2 (two (ePlan a) (ePlan b)) := ⟨blk_pure (by kernel_rfl), blk_pure (by kernel_rfl), trivial⟩
theorem two_sys (a b : Sys) : blksLt 2 (two (eSys a) (eSys b)) := ⟨blk_pure (by kernel_rfl), blk_pure (by kernel_rfl), trivial⟩
theorem f77_c (a b : Plan) (ha : FitPlan a) : QC 77 [.agg (ePlan a), .agg (ePlan b)] (.val (.bool (decide (a.parts = b.parts ∧ a.frame = b.frame ∧ a.wins = b.wins ∧ a.chans = b.chans)))) := by
  by_cases h0 : a.parts = b.parts
  · have q0 := f119_ok a.parts b.parts ha.parts
    rw [decide_eq_true h0] at q0
    by_cases h1 : a.frame = b.frame
    · have q1 : aBin wd.T .eql 3 (.int .i64 a.frame) (.int .i64 b.frame) = some (.bool true) := by simp [aBin, aIntOp, h1]
      by_cases h2 : a.wins = b.wins
      · have q2 := f120_ok a.wins b.wins ha.wins fun x hx y _ => f117_ok x y (ha.each x hx)
        rw [decide_eq_true h2] at q2
        by_cases h3 : a.chans = b.chans
        · have q3 := f41_ok a.chans b.chans ha.chans
          rw [decide_eq_true h3] at q3
          rw [decide_eq_true (show a.parts = b.parts ∧ a.frame = b.frame ∧ a.wins = b.wins ∧ a.chans = b.chans from ⟨h0, h1, h2, h3⟩)]
          exact pFun_ok [(8, .quiet (.val (.bool true))), (14, .val (.bool true)), (22, .quiet (.val (.bool true))), (29, .quiet (.val (.bool true)))] (hp := And.intro (And.intro (And.intro (And.intro trivial q0) q1) q2) q3) (h := by kernel_rfl)
        · have q3 := f41_ok a.chans b.chans ha.chans
          rw [decide_eq_false h3] at q3
          rw [decide_eq_false (fun h : a.parts = b.parts ∧ a.frame = b.frame ∧ a.wins = b.wins ∧ a.chans = b.chans => h3 h.2.2.2)]
          exact pFun_ok [(8, .quiet (.val (.bool true))), (14, .val (.bool true)), (22, .quiet (.val (.bool true))), (29, .quiet (.val (.bool false)))] (hp := And.intro (And.intro (And.intro (And.intro trivial q0) q1) q2) q3) (h := by kernel_rfl)
      · have q2 := f120_ok a.wins b.wins ha.wins fun x hx y _ => f117_ok x y (ha.each x hx)
        rw [decide_eq_false h2] at q2
        rw [decide_eq_false (fun h : a.parts = b.parts ∧ a.frame = b.frame ∧ a.wins = b.wins ∧ a.chans = b.chans => h2 h.2.2.1)]
        exact pFun_ok [(8, .quiet (.val (.bool true))), (14, .val (.bool true)), (22, .quiet (.val (.bool false)))] (hp := And.intro (And.intro (And.intro trivial q0) q1) q2) (h := by kernel_rfl)
    · have q1 : aBin wd.T .eql 3 (.int .i64 a.frame) (.int .i64 b.frame) = some (.bool false) := by simp [aBin, aIntOp, h1]
      rw [decide_eq_false (fun h : a.parts = b.parts ∧ a.frame = b.frame ∧ a.wins = b.wins ∧ a.chans = b.chans => h1 h.2.1)]
      exact pFun_ok [(8, .quiet (.val (.bool true))), (14, .val (.bool false))] (hp := And.intro (And.intro trivial q0) q1) (h := by kernel_rfl)
  · have q0 := f119_ok a.parts b.parts ha.parts
    rw [decide_eq_false h0] at q0
    rw [decide_eq_false (fun h : a.parts = b.parts ∧ a.frame = b.frame ∧ a.wins = b.wins ∧ a.chans = b.chans => h0 h.1)]
    exact pFun_ok [(8, .quiet (.val (.bool false)))] (hp := And.intro trivial q0) (h := by kernel_rfl)
theorem f77_ok (a b : Plan) (ha : FitPlan a) : QC 77 [.agg (ePlan a), .agg (ePlan b)] (.val (.bool (decide (a = b)))) := by
  have h := f77_c a b ha
  rw [dec_congr (plan_iff a b)] at h
  exact h
theorem f22_r3 (a b : Sys) (ha : FitSys a) : RN 0 (at_ 22 [1, 1, 1, 0]) (stH (und 2 ++ [.ptr 0 0 0, .ptr 1 0 0, .undef, .fn 74 [] [], .fn 75 [] []] ++ und 58) (two (eSys a) (eSys b))) .normal (stH (und 2 ++ [.ptr 0 0 0, .ptr 1 0 0, .undef, .fn 74 [] [], .fn 75 [] [], .bool (decide (a.p = b.p ∧ a.images = b.images ∧ a.seats = b.seats ∧ a.arrived = b.arrived))] ++ und 57) (two (eSys a) (eSys b))) := by
  by_cases h0 : a.p = b.p
  · have q0 := f77_ok a.p b.p ha.p
    rw [decide_eq_true h0] at q0
    by_cases h1 : a.images = b.images
    · have q1 := f78_ok a.images b.images ha.images fun x hx y _ => f74_ok x y (ha.each x hx)
      rw [decide_eq_true h1] at q1
      by_cases h2 : a.seats = b.seats
      · have q2 := f79_ok a.seats b.seats ha.seats fun x hx y _ => f20_ok x y (ha.kerns x hx)
        rw [decide_eq_true h2] at q2
        by_cases h3 : a.arrived = b.arrived
        · have q3 := f80_ok a.arrived b.arrived ha.arrived fun x hx y _ => f75_ok x y (ha.stamps x hx)
          rw [decide_eq_true h3] at q3
          rw [decide_eq_true (show a.p = b.p ∧ a.images = b.images ∧ a.seats = b.seats ∧ a.arrived = b.arrived from ⟨h0, h1, h2, h3⟩)]
          exact pBody_ok (m := 2 ^ 65 - 1 - 236) (k := 2) [(4, .quiet (.val (.bool true))), (11, .quiet (.val (.bool true))), (18, .quiet (.val (.bool true))), (26, .quiet (.val (.bool true)))] (hp := And.intro (And.intro (And.intro (And.intro (And.intro trivial q0) q1) q2) q3) (two_sys a b)) (h := by kernel_rfl)
        · have q3 := f80_ok a.arrived b.arrived ha.arrived fun x hx y _ => f75_ok x y (ha.stamps x hx)
          rw [decide_eq_false h3] at q3
          rw [decide_eq_false (fun h : a.p = b.p ∧ a.images = b.images ∧ a.seats = b.seats ∧ a.arrived = b.arrived => h3 h.2.2.2)]
          exact pBody_ok (m := 2 ^ 65 - 1 - 236) (k := 2) [(4, .quiet (.val (.bool true))), (11, .quiet (.val (.bool true))), (18, .quiet (.val (.bool true))), (26, .quiet (.val (.bool false)))] (hp := And.intro (And.intro (And.intro (And.intro (And.intro trivial q0) q1) q2) q3) (two_sys a b)) (h := by kernel_rfl)
      · have q2 := f79_ok a.seats b.seats ha.seats fun x hx y _ => f20_ok x y (ha.kerns x hx)
        rw [decide_eq_false h2] at q2
        rw [decide_eq_false (fun h : a.p = b.p ∧ a.images = b.images ∧ a.seats = b.seats ∧ a.arrived = b.arrived => h2 h.2.2.1)]
        exact pBody_ok (m := 2 ^ 65 - 1 - 236) (k := 2) [(4, .quiet (.val (.bool true))), (11, .quiet (.val (.bool true))), (18, .quiet (.val (.bool false)))] (hp := And.intro (And.intro (And.intro (And.intro trivial q0) q1) q2) (two_sys a b)) (h := by kernel_rfl)
    · have q1 := f78_ok a.images b.images ha.images fun x hx y _ => f74_ok x y (ha.each x hx)
      rw [decide_eq_false h1] at q1
      rw [decide_eq_false (fun h : a.p = b.p ∧ a.images = b.images ∧ a.seats = b.seats ∧ a.arrived = b.arrived => h1 h.2.1)]
      exact pBody_ok (m := 2 ^ 65 - 1 - 236) (k := 2) [(4, .quiet (.val (.bool true))), (11, .quiet (.val (.bool false)))] (hp := And.intro (And.intro (And.intro trivial q0) q1) (two_sys a b)) (h := by kernel_rfl)
  · have q0 := f77_ok a.p b.p ha.p
    rw [decide_eq_false h0] at q0
    rw [decide_eq_false (fun h : a.p = b.p ∧ a.images = b.images ∧ a.seats = b.seats ∧ a.arrived = b.arrived => h0 h.1)]
    exact pBody_ok (m := 2 ^ 65 - 1 - 236) (k := 2) [(4, .quiet (.val (.bool false)))] (hp := And.intro (And.intro trivial q0) (two_sys a b)) (h := by kernel_rfl)
theorem f22_r4 (a b : Sys) (r1 : Bool) : RN 0 (at_ 22 [1, 1, 1, 1, 0]) (stH (und 2 ++ [.ptr 0 0 0, .ptr 1 0 0] ++ und 3 ++ [.bool r1] ++ und 57) (two (eSys a) (eSys b))) .normal (stH (und 4 ++ [.bool (decide (r1 = true ∧ a.now = b.now ∧ a.sched = b.sched ∧ a.next = b.next ∧ a.owner = b.owner))] ++ und 60) []) := by
  by_cases h0 : r1 = true
  · subst h0
    by_cases h1 : a.now = b.now
    · have q1 : aBin wd.T .eql 31 (.int .u64 a.now) (.int .u64 b.now) = some (.bool true) := by simp [aBin, aIntOp, h1]
      by_cases h2 : a.sched = b.sched
      · have q2 : aBin wd.T .eql 3 (.int .i64 a.sched) (.int .i64 b.sched) = some (.bool true) := by simp [aBin, aIntOp, h2]
        by_cases h3 : a.next = b.next
        · have q3 : aBin wd.T .eql 3 (.int .i64 a.next) (.int .i64 b.next) = some (.bool true) := by simp [aBin, aIntOp, h3]
          by_cases h4 : a.owner = b.owner
          · have q4 : aBin wd.T .eql 3 (.int .i64 a.owner) (.int .i64 b.owner) = some (.bool true) := by simp [aBin, aIntOp, h4]
            rw [decide_eq_true (show true = true ∧ a.now = b.now ∧ a.sched = b.sched ∧ a.next = b.next ∧ a.owner = b.owner from ⟨rfl, h1, h2, h3, h4⟩)]
            exact pBody_ok (m := 2 ^ 65 - 1 - 16) (k := 0) [(6, .val (.bool true)), (13, .val (.bool true)), (20, .val (.bool true)), (27, .val (.bool true))] (hp := And.intro (And.intro (And.intro (And.intro (And.intro trivial q1) q2) q3) q4) trivial) (h := by kernel_rfl)
          · have q4 : aBin wd.T .eql 3 (.int .i64 a.owner) (.int .i64 b.owner) = some (.bool false) := by simp [aBin, aIntOp, h4]
            rw [decide_eq_false (fun h : true = true ∧ a.now = b.now ∧ a.sched = b.sched ∧ a.next = b.next ∧ a.owner = b.owner => h4 h.2.2.2.2)]
            exact pBody_ok (m := 2 ^ 65 - 1 - 16) (k := 0) [(6, .val (.bool true)), (13, .val (.bool true)), (20, .val (.bool true)), (27, .val (.bool false))] (hp := And.intro (And.intro (And.intro (And.intro (And.intro trivial q1) q2) q3) q4) trivial) (h := by kernel_rfl)
        · have q3 : aBin wd.T .eql 3 (.int .i64 a.next) (.int .i64 b.next) = some (.bool false) := by simp [aBin, aIntOp, h3]
          rw [decide_eq_false (fun h : true = true ∧ a.now = b.now ∧ a.sched = b.sched ∧ a.next = b.next ∧ a.owner = b.owner => h3 h.2.2.2.1)]
          exact pBody_ok (m := 2 ^ 65 - 1 - 16) (k := 0) [(6, .val (.bool true)), (13, .val (.bool true)), (20, .val (.bool false))] (hp := And.intro (And.intro (And.intro (And.intro trivial q1) q2) q3) trivial) (h := by kernel_rfl)
      · have q2 : aBin wd.T .eql 3 (.int .i64 a.sched) (.int .i64 b.sched) = some (.bool false) := by simp [aBin, aIntOp, h2]
        rw [decide_eq_false (fun h : true = true ∧ a.now = b.now ∧ a.sched = b.sched ∧ a.next = b.next ∧ a.owner = b.owner => h2 h.2.2.1)]
        exact pBody_ok (m := 2 ^ 65 - 1 - 16) (k := 0) [(6, .val (.bool true)), (13, .val (.bool false))] (hp := And.intro (And.intro (And.intro trivial q1) q2) trivial) (h := by kernel_rfl)
    · have q1 : aBin wd.T .eql 31 (.int .u64 a.now) (.int .u64 b.now) = some (.bool false) := by simp [aBin, aIntOp, h1]
      rw [decide_eq_false (fun h : true = true ∧ a.now = b.now ∧ a.sched = b.sched ∧ a.next = b.next ∧ a.owner = b.owner => h1 h.2.1)]
      exact pBody_ok (m := 2 ^ 65 - 1 - 16) (k := 0) [(6, .val (.bool false))] (hp := And.intro (And.intro trivial q1) trivial) (h := by kernel_rfl)
  · obtain rfl : r1 = false := by simpa using h0
    rw [decide_eq_false (fun h : false = true ∧ a.now = b.now ∧ a.sched = b.sched ∧ a.next = b.next ∧ a.owner = b.owner => Bool.noConfusion h.1)]
    exact pBody_ok (m := 2 ^ 65 - 1 - 16) (k := 0) [] (hp := And.intro (trivial) trivial) (h := by kernel_rfl)
theorem sys_iff (a b : Sys) : (decide (a.p = b.p ∧ a.images = b.images ∧ a.seats = b.seats ∧ a.arrived = b.arrived) = true ∧ a.now = b.now ∧ a.sched = b.sched ∧ a.next = b.next ∧ a.owner = b.owner) ↔ a = b := by
  simp only [decide_eq_true_eq]
  rcases a with ⟨_, _, _, _, _, _, _, _⟩
  rcases b with ⟨_, _, _, _, _, _, _, _⟩
  constructor <;> intro h <;> simp_all
theorem f22_ok (a b : Sys) (ha : FitSys a) : QC 22 [.agg (eSys a), .agg (eSys b)] (.val (.bool (decide (a = b)))) := by
  have h3 := f22_r3 a b ha
  have h4 := f22_r4 a b (decide (a.p = b.p ∧ a.images = b.images ∧ a.seats = b.seats ∧ a.arrived = b.arrived))
  rw [dec_congr (sys_iff a b)] at h4
  have hb := two_sys a b
  exact pFun_ok [(5, .fact (2 ^ 65 - 1 - 108) 2 .normal (stH (und 2 ++ [.ptr 0 0 0, .ptr 1 0 0, .undef, .fn 74 [] [], .fn 75 [] [], .bool (decide (a.p = b.p ∧ a.images = b.images ∧ a.seats = b.seats ∧ a.arrived = b.arrived))] ++ und 57) (two (eSys a) (eSys b)))), (6, .fact (2 ^ 65 - 1 - 140) 2 .normal (stH (und 4 ++ [.bool (decide (a = b))] ++ und 60) []))]
    (hp := And.intro (And.intro trivial (And.intro hb h3)) (And.intro hb h4)) (h := by kernel_rfl)
end Go.Xa
