/- Plans and systems compared by the references. -/
import Derived.Test.YtdiajbbcjndhjaaGreatDoorZV
import Derived.Test.YtdiajbbcjndhjaaGreatDoorYE
namespace Go.Xa
open Go.RowKit Go.Proofs
theorem f56_r1 (a b : Plan) : RN 0 (at_ 56 [1, 0, 0]) (stH (und 2 ++ [.ptr 0 0 0, .ptr 1 0 0] ++ und 120) (two (ePlan a) (ePlan b))) .normal (stH (und 2 ++ [.ptr 0 0 0, .ptr 1 0 0] ++ und 36 ++ [.bool (!decide (a.parts.length = b.parts.length ∧ a.frame = b.frame ∧ a.wins.length = b.wins.length ∧ a.chans.length = b.chans.length))] ++ und 83) (two (ePlan a) (ePlan b))) := by
  by_cases h0 : a.parts.length = b.parts.length
  · have q0 : aBin wd.T .neq 3 (.int .i64 ((a.parts.map (ePart)).length : Int)) (.int .i64 ((b.parts.map (ePart)).length : Int)) = some (.bool false) := by simp [aBin, aIntOp, h0]
    by_cases h1 : a.frame = b.frame
    · have q1 : aBin wd.T .neq 3 (.int .i64 a.frame) (.int .i64 b.frame) = some (.bool false) := by simp [aBin, aIntOp, h1]
      by_cases h2 : a.wins.length = b.wins.length
      · have q2 : aBin wd.T .neq 3 (.int .i64 ((a.wins.map (eSl eWin)).length : Int)) (.int .i64 ((b.wins.map (eSl eWin)).length : Int)) = some (.bool false) := by simp [aBin, aIntOp, h2]
        by_cases h3 : a.chans.length = b.chans.length
        · have q3 : aBin wd.T .neq 3 (.int .i64 ((a.chans.map (eChan)).length : Int)) (.int .i64 ((b.chans.map (eChan)).length : Int)) = some (.bool false) := by simp [aBin, aIntOp, h3]
          rw [decide_eq_true (show a.parts.length = b.parts.length ∧ a.frame = b.frame ∧ a.wins.length = b.wins.length ∧ a.chans.length = b.chans.length from ⟨h0, h1, h2, h3⟩)]
          exact pBody_ok (m := 2 ^ 124 - 1 - 1099511627788) (k := 2) [(6, .val (.bool false)), (12, .val (.bool false)), (21, .val (.bool false)), (30, .val (.bool false))] (hp := And.intro (And.intro (And.intro (And.intro (And.intro trivial q0) q1) q2) q3) (two_plan a b)) (h := by kernel_rfl)
        · have q3 : aBin wd.T .neq 3 (.int .i64 ((a.chans.map (eChan)).length : Int)) (.int .i64 ((b.chans.map (eChan)).length : Int)) = some (.bool true) := by simp [aBin, aIntOp, h3]; omega
          rw [decide_eq_false (fun h : a.parts.length = b.parts.length ∧ a.frame = b.frame ∧ a.wins.length = b.wins.length ∧ a.chans.length = b.chans.length => h3 h.2.2.2)]
          exact pBody_ok (m := 2 ^ 124 - 1 - 1099511627788) (k := 2) [(6, .val (.bool false)), (12, .val (.bool false)), (21, .val (.bool false)), (30, .val (.bool true))] (hp := And.intro (And.intro (And.intro (And.intro (And.intro trivial q0) q1) q2) q3) (two_plan a b)) (h := by kernel_rfl)
      · have q2 : aBin wd.T .neq 3 (.int .i64 ((a.wins.map (eSl eWin)).length : Int)) (.int .i64 ((b.wins.map (eSl eWin)).length : Int)) = some (.bool true) := by simp [aBin, aIntOp, h2]; omega
        rw [decide_eq_false (fun h : a.parts.length = b.parts.length ∧ a.frame = b.frame ∧ a.wins.length = b.wins.length ∧ a.chans.length = b.chans.length => h2 h.2.2.1)]
        exact pBody_ok (m := 2 ^ 124 - 1 - 1099511627788) (k := 2) [(6, .val (.bool false)), (12, .val (.bool false)), (21, .val (.bool true))] (hp := And.intro (And.intro (And.intro (And.intro trivial q0) q1) q2) (two_plan a b)) (h := by kernel_rfl)
    · have q1 : aBin wd.T .neq 3 (.int .i64 a.frame) (.int .i64 b.frame) = some (.bool true) := by simp [aBin, aIntOp, h1]
      rw [decide_eq_false (fun h : a.parts.length = b.parts.length ∧ a.frame = b.frame ∧ a.wins.length = b.wins.length ∧ a.chans.length = b.chans.length => h1 h.2.1)]
      exact pBody_ok (m := 2 ^ 124 - 1 - 1099511627788) (k := 2) [(6, .val (.bool false)), (12, .val (.bool true))] (hp := And.intro (And.intro (And.intro trivial q0) q1) (two_plan a b)) (h := by kernel_rfl)
  · have q0 : aBin wd.T .neq 3 (.int .i64 ((a.parts.map (ePart)).length : Int)) (.int .i64 ((b.parts.map (ePart)).length : Int)) = some (.bool true) := by simp [aBin, aIntOp, h0]; omega
    rw [decide_eq_false (fun h : a.parts.length = b.parts.length ∧ a.frame = b.frame ∧ a.wins.length = b.wins.length ∧ a.chans.length = b.chans.length => h0 h.1)]
    exact pBody_ok (m := 2 ^ 124 - 1 - 1099511627788) (k := 2) [(6, .val (.bool true))] (hp := And.intro (And.intro trivial q0) (two_plan a b)) (h := by kernel_rfl)
theorem f56_l1 (a b : Plan) (hfit : fits a.parts) (hl : a.parts.length = b.parts.length) : RN 0 (.loop (at_ 56 [1, 1, 0, 1, 0, 0])) (stH (und 2 ++ [.ptr 0 0 0, .ptr 1 0 0] ++ und 1 ++ [.int .i64 ((0 : Nat) : Int)] ++ und 118) (two (ePlan a) (ePlan b))) (if a.parts = b.parts then .exit 0 else .ret) (if a.parts = b.parts then (stH (und 2 ++ [.ptr 0 0 0, .ptr 1 0 0] ++ und 120) (two (ePlan a) (ePlan b))) else (stH (und 4 ++ [.bool false] ++ und 119) [])) := by
  refine same_loop (n := 0) (c := at_ 56 [1, 1, 0, 1, 0, 0]) (S := fun i => stH (und 2 ++ [.ptr 0 0 0, .ptr 1 0 0] ++ und 1 ++ [.int .i64 (i : Int)] ++ und 118) (two (ePlan a) (ePlan b))) (eOut := .exit 0) a.parts b.parts hl (by simp) ?_ ?_ ?_
  · have h1 : decide (((a.parts.length : Nat) : Int) < ((a.parts.map (ePart)).length : Int)) = false := by simp
    exact pBody_ok (m := 2 ^ 124 - 1 - 12) (k := 2) [(5, .br false)] (hp := And.intro (And.intro trivial (congrArg D.bool h1)) (two_plan a b)) (h := by kernel_rfl)
  · intro i x hi hx hy
    have h1 : decide ((i : Int) < ((a.parts.map (ePart)).length : Int)) = true := by simp [hi]
    have h2 := ix_sl (t := 41) (en := ePart) (k := .i64) (h := (two (ePlan a) (ePlan b))) (c := false) (by kernel_rfl : elemOf 41 = some (100, 4)) hx rfl
    have h3 := ix_sl (t := 41) (en := ePart) (k := .i64) (h := (two (ePlan a) (ePlan b))) (c := false) (by kernel_rfl : elemOf 41 = some (100, 4)) hy rfl
    have h4 : aBin wd.T .neq 100 (.agg (ePart x)) (.agg (ePart x)) = some (.bool false) := by rw [neq_Part]; simp
    have h5 := pBody_ok (n := 0) (m := 2 ^ 124 - 1 - 44) (k := 2) (c := at_ 56 [1, 1, 0, 1, 0, 0]) (st := stH (und 2 ++ [.ptr 0 0 0, .ptr 1 0 0] ++ und 1 ++ [.int .i64 (i : Int)] ++ und 118) (two (ePlan a) (ePlan b))) (e := .normal) (st' := stH (und 2 ++ [.ptr 0 0 0, .ptr 1 0 0] ++ und 1 ++ [.int .i64 (IntKind.i64.wrap ((i : Int) + 1))] ++ und 118) (two (ePlan a) (ePlan b)))
      [(5, .br true), (9, .val (.pptr (ePart x))), (14, .val (.pptr (ePart x))), (16, .val (.bool false))]
      (hp := And.intro (And.intro (And.intro (And.intro (And.intro trivial (congrArg D.bool h1)) h2) h3) h4) (two_plan a b)) (h := by kernel_rfl)
    rw [wrap_succ hi hfit] at h5
    exact h5
  · intro i x y hi hx hy hne
    have h1 : decide ((i : Int) < ((a.parts.map (ePart)).length : Int)) = true := by simp [hi]
    have h2 := ix_sl (t := 41) (en := ePart) (k := .i64) (h := (two (ePlan a) (ePlan b))) (c := false) (by kernel_rfl : elemOf 41 = some (100, 4)) hx rfl
    have h3 := ix_sl (t := 41) (en := ePart) (k := .i64) (h := (two (ePlan a) (ePlan b))) (c := false) (by kernel_rfl : elemOf 41 = some (100, 4)) hy rfl
    have h4 : aBin wd.T .neq 100 (.agg (ePart x)) (.agg (ePart y)) = some (.bool true) := by rw [neq_Part]; simp [hne]
    exact pBody_ok (m := 2 ^ 124 - 1 - 16) (k := 0) [(5, .br true), (9, .val (.pptr (ePart x))), (14, .val (.pptr (ePart y))), (16, .val (.bool true))]
      (hp := And.intro (And.intro (And.intro (And.intro (And.intro trivial (congrArg D.bool h1)) h2) h3) h4) trivial) (h := by kernel_rfl)
theorem f56_l3 (a b : Plan) (hfit : fits a.chans) (hl : a.chans.length = b.chans.length) : RN 0 (.loop (at_ 56 [1, 1, 1, 1, 0, 1, 0, 0])) (stH (und 2 ++ [.ptr 0 0 0, .ptr 1 0 0] ++ und 4 ++ [.int .i64 ((0 : Nat) : Int)] ++ und 115) (two (ePlan a) (ePlan b))) (if a.chans = b.chans then .exit 6 else .ret) (if a.chans = b.chans then (stH (und 124) []) else (stH (und 4 ++ [.bool false] ++ und 119) [])) := by
  refine same_loop (n := 0) (c := at_ 56 [1, 1, 1, 1, 0, 1, 0, 0]) (S := fun i => stH (und 2 ++ [.ptr 0 0 0, .ptr 1 0 0] ++ und 4 ++ [.int .i64 (i : Int)] ++ und 115) (two (ePlan a) (ePlan b))) (eOut := .exit 6) a.chans b.chans hl (by simp) ?_ ?_ ?_
  · have h1 : decide (((a.chans.length : Nat) : Int) < ((a.chans.map (eChan)).length : Int)) = false := by simp
    exact pBody_ok (m := 2 ^ 124 - 1 - 0) (k := 0) [(5, .br false)] (hp := And.intro (And.intro trivial (congrArg D.bool h1)) trivial) (h := by kernel_rfl)
  · intro i x hi hx hy
    have h1 : decide ((i : Int) < ((a.chans.map (eChan)).length : Int)) = true := by simp [hi]
    have h2 := ix_sl (t := 33) (en := eChan) (k := .i64) (h := (two (ePlan a) (ePlan b))) (c := false) (by kernel_rfl : elemOf 33 = some (94, 5)) hx rfl
    have h3 := ix_sl (t := 33) (en := eChan) (k := .i64) (h := (two (ePlan a) (ePlan b))) (c := false) (by kernel_rfl : elemOf 33 = some (94, 5)) hy rfl
    have h4 : aBin wd.T .neq 94 (.agg (eChan x)) (.agg (eChan x)) = some (.bool false) := by rw [neq_Chan]; simp
    have h5 := pBody_ok (n := 0) (m := 2 ^ 124 - 1 - 268) (k := 2) (c := at_ 56 [1, 1, 1, 1, 0, 1, 0, 0]) (st := stH (und 2 ++ [.ptr 0 0 0, .ptr 1 0 0] ++ und 4 ++ [.int .i64 (i : Int)] ++ und 115) (two (ePlan a) (ePlan b))) (e := .normal) (st' := stH (und 2 ++ [.ptr 0 0 0, .ptr 1 0 0] ++ und 4 ++ [.int .i64 (IntKind.i64.wrap ((i : Int) + 1))] ++ und 115) (two (ePlan a) (ePlan b)))
      [(5, .br true), (9, .val (.pptr (eChan x))), (14, .val (.pptr (eChan x))), (16, .val (.bool false))]
      (hp := And.intro (And.intro (And.intro (And.intro (And.intro trivial (congrArg D.bool h1)) h2) h3) h4) (two_plan a b)) (h := by kernel_rfl)
    rw [wrap_succ hi hfit] at h5
    exact h5
  · intro i x y hi hx hy hne
    have h1 : decide ((i : Int) < ((a.chans.map (eChan)).length : Int)) = true := by simp [hi]
    have h2 := ix_sl (t := 33) (en := eChan) (k := .i64) (h := (two (ePlan a) (ePlan b))) (c := false) (by kernel_rfl : elemOf 33 = some (94, 5)) hx rfl
    have h3 := ix_sl (t := 33) (en := eChan) (k := .i64) (h := (two (ePlan a) (ePlan b))) (c := false) (by kernel_rfl : elemOf 33 = some (94, 5)) hy rfl
    have h4 : aBin wd.T .neq 94 (.agg (eChan x)) (.agg (eChan y)) = some (.bool true) := by rw [neq_Chan]; simp [hne]
    exact pBody_ok (m := 2 ^ 124 - 1 - 16) (k := 0) [(5, .br true), (9, .val (.pptr (eChan x))), (14, .val (.pptr (eChan y))), (16, .val (.bool true))]
      (hp := And.intro (And.intro (And.intro (And.intro (And.intro trivial (congrArg D.bool h1)) h2) h3) h4) trivial) (h := by kernel_rfl)
theorem f56_in (a b : Plan) (i : Nat) (x y : List Win) (hx : a.wins[i]? = some x) (hy : b.wins[i]? = some y) (hfit : fits x) (hl : x.length = y.length) :
    RN 0 (.loop (at_ 56 [1, 1, 1, 0, 1, 0, 0, 1, 0, 0, 1, 1, 0, 0])) (stH (und 2 ++ [.ptr 0 0 0, .ptr 1 0 0] ++ und 2 ++ [.int .i64 (i : Int), .int .i64 ((0 : Nat) : Int)] ++ und 116) (two (ePlan a) (ePlan b))) (if x = y then .exit 4 else .ret) (if x = y then (stH (und 2 ++ [.ptr 0 0 0, .ptr 1 0 0] ++ und 2 ++ [.int .i64 (i : Int)] ++ und 117) (two (ePlan a) (ePlan b))) else (stH (und 4 ++ [.bool false] ++ und 119) [])) := by
  refine same_loop (n := 0) (c := at_ 56 [1, 1, 1, 0, 1, 0, 0, 1, 0, 0, 1, 1, 0, 0]) (S := fun j => stH (und 2 ++ [.ptr 0 0 0, .ptr 1 0 0] ++ und 2 ++ [.int .i64 (i : Int), .int .i64 (j : Int)] ++ und 116) (two (ePlan a) (ePlan b))) (eOut := .exit 4) x y hl (by simp) ?_ ?_ ?_
  · have h1 : decide (((x.length : Nat) : Int) < ((x.map eWin).length : Int)) = false := by simp
    have h0 := ix_sl (t := 42) (en := eSl eWin) (k := .i64) (h := (two (ePlan a) (ePlan b))) (c := false) (by kernel_rfl : elemOf 42 = some (103, 1)) hx rfl
    exact pBody_ok (m := 2 ^ 124 - 1 - 76) (k := 2) [(4, .val (.pptr (eSl eWin x))), (8, .br false)] (hp := And.intro (And.intro (And.intro trivial h0) (congrArg D.bool h1)) (two_plan a b)) (h := by kernel_rfl)
  · intro j u hj hu hv
    have h1 : decide ((j : Int) < ((x.map eWin).length : Int)) = true := by simp [hj]
    have g0 := ix_sl (t := 42) (en := eSl eWin) (k := .i64) (h := (two (ePlan a) (ePlan b))) (c := false) (by kernel_rfl : elemOf 42 = some (103, 1)) hx rfl
    have g1 := ix_sl (t := 103) (en := eWin) (k := .i64) (h := (two (ePlan a) (ePlan b))) (c := false) (by kernel_rfl : elemOf 103 = some (102, 3)) hu rfl
    have g2 := ix_sl (t := 42) (en := eSl eWin) (k := .i64) (h := (two (ePlan a) (ePlan b))) (c := false) (by kernel_rfl : elemOf 42 = some (103, 1)) hy rfl
    have g3 := ix_sl (t := 103) (en := eWin) (k := .i64) (h := (two (ePlan a) (ePlan b))) (c := false) (by kernel_rfl : elemOf 103 = some (102, 3)) hv rfl
    have h4 : aBin wd.T .neq 102 (.agg (eWin u)) (.agg (eWin u)) = some (.bool false) := by rw [neq_Win]; simp
    have h5 := pBody_ok (n := 0) (m := 2 ^ 124 - 1 - 204) (k := 2) (c := at_ 56 [1, 1, 1, 0, 1, 0, 0, 1, 0, 0, 1, 1, 0, 0]) (st := stH (und 2 ++ [.ptr 0 0 0, .ptr 1 0 0] ++ und 2 ++ [.int .i64 (i : Int), .int .i64 (j : Int)] ++ und 116) (two (ePlan a) (ePlan b))) (e := .normal) (st' := stH (und 2 ++ [.ptr 0 0 0, .ptr 1 0 0] ++ und 2 ++ [.int .i64 (i : Int), .int .i64 (IntKind.i64.wrap ((j : Int) + 1))] ++ und 116) (two (ePlan a) (ePlan b)))
      [(4, .val (.pptr (eSl eWin x))), (8, .br true), (12, .val (.pptr (eSl eWin x))), (15, .val (.pptr (eWin u))), (20, .val (.pptr (eSl eWin y))), (23, .val (.pptr (eWin u))), (25, .val (.bool false))]
      (hp := And.intro (And.intro (And.intro (And.intro (And.intro (And.intro (And.intro (And.intro trivial g0) (congrArg D.bool h1)) g0) g1) g2) g3) h4) (two_plan a b)) (h := by kernel_rfl)
    rw [wrap_succ hj hfit] at h5
    exact h5
  · intro j u v hj hu hv hne
    have h1 : decide ((j : Int) < ((x.map eWin).length : Int)) = true := by simp [hj]
    have g0 := ix_sl (t := 42) (en := eSl eWin) (k := .i64) (h := (two (ePlan a) (ePlan b))) (c := false) (by kernel_rfl : elemOf 42 = some (103, 1)) hx rfl
    have g1 := ix_sl (t := 103) (en := eWin) (k := .i64) (h := (two (ePlan a) (ePlan b))) (c := false) (by kernel_rfl : elemOf 103 = some (102, 3)) hu rfl
    have g2 := ix_sl (t := 42) (en := eSl eWin) (k := .i64) (h := (two (ePlan a) (ePlan b))) (c := false) (by kernel_rfl : elemOf 42 = some (103, 1)) hy rfl
    have g3 := ix_sl (t := 103) (en := eWin) (k := .i64) (h := (two (ePlan a) (ePlan b))) (c := false) (by kernel_rfl : elemOf 103 = some (102, 3)) hv rfl
    have h4 : aBin wd.T .neq 102 (.agg (eWin u)) (.agg (eWin v)) = some (.bool true) := by rw [neq_Win]; simp [hne]
    exact pBody_ok (m := 2 ^ 124 - 1 - 16) (k := 0) [(4, .val (.pptr (eSl eWin x))), (8, .br true), (12, .val (.pptr (eSl eWin x))), (15, .val (.pptr (eWin u))), (20, .val (.pptr (eSl eWin y))), (23, .val (.pptr (eWin v))), (25, .val (.bool true))]
      (hp := And.intro (And.intro (And.intro (And.intro (And.intro (And.intro (And.intro (And.intro trivial g0) (congrArg D.bool h1)) g0) g1) g2) g3) h4) trivial) (h := by kernel_rfl)
theorem f56_l2 (a b : Plan) (ha : FitPlan a) (hl : a.wins.length = b.wins.length) :
    RN 0 (.loop (at_ 56 [1, 1, 1, 0, 1, 0, 0])) (stH (und 2 ++ [.ptr 0 0 0, .ptr 1 0 0] ++ und 2 ++ [.int .i64 ((0 : Nat) : Int)] ++ und 117) (two (ePlan a) (ePlan b))) (if a.wins = b.wins then .exit 2 else .ret) (if a.wins = b.wins then (stH (und 2 ++ [.ptr 0 0 0, .ptr 1 0 0] ++ und 120) (two (ePlan a) (ePlan b))) else (stH (und 4 ++ [.bool false] ++ und 119) [])) := by
  have hfit := ha.wins
  refine same_loop (n := 0) (c := at_ 56 [1, 1, 1, 0, 1, 0, 0]) (S := fun i => stH (und 2 ++ [.ptr 0 0 0, .ptr 1 0 0] ++ und 2 ++ [.int .i64 (i : Int)] ++ und 117) (two (ePlan a) (ePlan b))) (eOut := .exit 2) a.wins b.wins hl (by simp) ?_ ?_ ?_
  · have h1 : decide (((a.wins.length : Nat) : Int) < ((a.wins.map (eSl eWin)).length : Int)) = false := by simp
    exact pBody_ok (m := 2 ^ 124 - 1 - 12) (k := 2) [(5, .br false)] (hp := And.intro (And.intro trivial (congrArg D.bool h1)) (two_plan a b)) (h := by kernel_rfl)
  · intro i x hi hx hy
    have h1 : decide ((i : Int) < ((a.wins.map (eSl eWin)).length : Int)) = true := by simp [hi]
    have g0 := ix_sl (t := 42) (en := eSl eWin) (k := .i64) (h := (two (ePlan a) (ePlan b))) (c := false) (by kernel_rfl : elemOf 42 = some (103, 1)) hx rfl
    have g2 := ix_sl (t := 42) (en := eSl eWin) (k := .i64) (h := (two (ePlan a) (ePlan b))) (c := false) (by kernel_rfl : elemOf 42 = some (103, 1)) hy rfl
    have q : aBin wd.T .neq 3 (.int .i64 ((x.map eWin).length : Int)) (.int .i64 ((x.map eWin).length : Int)) = some (.bool false) := by simp [aBin, aIntOp]
    have h := f56_in a b i x x hx hy (ha.each x (List.mem_of_getElem? hx)) rfl
    rw [if_pos rfl, if_pos rfl] at h
    have h5 := pBody_ok (n := 0) (m := 2 ^ 124 - 1 - 76) (k := 2) (c := at_ 56 [1, 1, 1, 0, 1, 0, 0]) (st := stH (und 2 ++ [.ptr 0 0 0, .ptr 1 0 0] ++ und 2 ++ [.int .i64 (i : Int)] ++ und 117) (two (ePlan a) (ePlan b))) (e := .normal) (st' := stH (und 2 ++ [.ptr 0 0 0, .ptr 1 0 0] ++ und 2 ++ [.int .i64 (IntKind.i64.wrap ((i : Int) + 1))] ++ und 117) (two (ePlan a) (ePlan b)))
      [(5, .br true), (9, .val (.pptr (eSl eWin x))), (15, .val (.pptr (eSl eWin x))), (18, .val (.bool false)), (21, .fact (2 ^ 124 - 1 - 204) 2 (.exit 4) (stH (und 2 ++ [.ptr 0 0 0, .ptr 1 0 0] ++ und 2 ++ [.int .i64 (i : Int)] ++ und 117) (two (ePlan a) (ePlan b))))]
      (hp := And.intro (And.intro (And.intro (And.intro (And.intro (And.intro trivial (congrArg D.bool h1)) g0) g2) q) (And.intro (two_plan a b) h)) (two_plan a b)) (h := by kernel_rfl)
    rw [wrap_succ hi hfit] at h5
    exact h5
  · intro i x y hi hx hy hne
    have h1 : decide ((i : Int) < ((a.wins.map (eSl eWin)).length : Int)) = true := by simp [hi]
    have g0 := ix_sl (t := 42) (en := eSl eWin) (k := .i64) (h := (two (ePlan a) (ePlan b))) (c := false) (by kernel_rfl : elemOf 42 = some (103, 1)) hx rfl
    have g2 := ix_sl (t := 42) (en := eSl eWin) (k := .i64) (h := (two (ePlan a) (ePlan b))) (c := false) (by kernel_rfl : elemOf 42 = some (103, 1)) hy rfl
    by_cases hl : x.length = y.length
    · have q : aBin wd.T .neq 3 (.int .i64 ((x.map eWin).length : Int)) (.int .i64 ((y.map eWin).length : Int)) = some (.bool false) := by simp [aBin, aIntOp, hl]
      have h := f56_in a b i x y hx hy (ha.each x (List.mem_of_getElem? hx)) hl
      rw [if_neg hne, if_neg hne] at h
      exact pBody_ok (m := 2 ^ 124 - 1 - 16) (k := 0) [(5, .br true), (9, .val (.pptr (eSl eWin x))), (15, .val (.pptr (eSl eWin y))), (18, .val (.bool false)), (21, .fact (2 ^ 124 - 1 - 204) 2 .ret (stH (und 4 ++ [.bool false] ++ und 119) []))]
        (hp := And.intro (And.intro (And.intro (And.intro (And.intro (And.intro trivial (congrArg D.bool h1)) g0) g2) q) (And.intro (two_plan a b) h)) trivial) (h := by kernel_rfl)
    · have q : aBin wd.T .neq 3 (.int .i64 ((x.map eWin).length : Int)) (.int .i64 ((y.map eWin).length : Int)) = some (.bool true) := by simp [aBin, aIntOp, hl]; omega
      exact pBody_ok (m := 2 ^ 124 - 1 - 16) (k := 0) [(5, .br true), (9, .val (.pptr (eSl eWin x))), (15, .val (.pptr (eSl eWin y))), (18, .val (.bool true))]
        (hp := And.intro (And.intro (And.intro (And.intro (And.intro trivial (congrArg D.bool h1)) g0) g2) q) trivial) (h := by kernel_rfl)
theorem f56_ok (a b : Plan) (ha : FitPlan a) : QC 56 [.agg (ePlan a), .agg (ePlan b)] (.val (.bool (decide (a = b)))) := by
  have h1 := f56_r1 a b
  have hb := two_plan a b
  by_cases hc : a.parts.length = b.parts.length ∧ a.frame = b.frame ∧ a.wins.length = b.wins.length ∧ a.chans.length = b.chans.length
  · rw [decide_eq_true hc] at h1
    have k1 := f56_l1 a b ha.parts hc.1
    have k2 := f56_l2 a b ha hc.2.2.1
    have k3 := f56_l3 a b ha.chans hc.2.2.2
    by_cases e1 : a.parts = b.parts
    · rw [if_pos e1, if_pos e1] at k1
      by_cases e2 : a.wins = b.wins
      · rw [if_pos e2, if_pos e2] at k2
        by_cases e3 : a.chans = b.chans
        · rw [if_pos e3, if_pos e3] at k3
          rw [decide_eq_true ((plan_iff a b).1 ⟨e1, hc.2.1, e2, e3⟩)]
          exact pFun_ok [(3, .fact (2 ^ 124 - 1 - 12) 2 .normal (stH (und 2 ++ [.ptr 0 0 0, .ptr 1 0 0] ++ und 36 ++ [.bool (!true)] ++ und 83) (two (ePlan a) (ePlan b)))), (6, .fact (2 ^ 124 - 1 - 44) 2 (.exit 0) (stH (und 2 ++ [.ptr 0 0 0, .ptr 1 0 0] ++ und 120) (two (ePlan a) (ePlan b)))), (8, .fact (2 ^ 124 - 1 - 76) 2 (.exit 2) (stH (und 2 ++ [.ptr 0 0 0, .ptr 1 0 0] ++ und 120) (two (ePlan a) (ePlan b)))), (10, .fact (2 ^ 124 - 1 - 268) 2 (.exit 6) (stH (und 124) []))] (hp := And.intro (And.intro (And.intro (And.intro trivial (And.intro hb h1)) (And.intro hb k1)) (And.intro hb k2)) (And.intro hb k3)) (h := by kernel_rfl)
        · rw [if_neg e3, if_neg e3] at k3
          rw [decide_eq_false (fun e => e3 (by rw [e]))]
          exact pFun_ok [(3, .fact (2 ^ 124 - 1 - 12) 2 .normal (stH (und 2 ++ [.ptr 0 0 0, .ptr 1 0 0] ++ und 36 ++ [.bool (!true)] ++ und 83) (two (ePlan a) (ePlan b)))), (6, .fact (2 ^ 124 - 1 - 44) 2 (.exit 0) (stH (und 2 ++ [.ptr 0 0 0, .ptr 1 0 0] ++ und 120) (two (ePlan a) (ePlan b)))), (8, .fact (2 ^ 124 - 1 - 76) 2 (.exit 2) (stH (und 2 ++ [.ptr 0 0 0, .ptr 1 0 0] ++ und 120) (two (ePlan a) (ePlan b)))), (10, .fact (2 ^ 124 - 1 - 268) 2 .ret (stH (und 4 ++ [.bool false] ++ und 119) []))] (hp := And.intro (And.intro (And.intro (And.intro trivial (And.intro hb h1)) (And.intro hb k1)) (And.intro hb k2)) (And.intro hb k3)) (h := by kernel_rfl)
      · rw [if_neg e2, if_neg e2] at k2
        rw [decide_eq_false (fun e => e2 (by rw [e]))]
        exact pFun_ok [(3, .fact (2 ^ 124 - 1 - 12) 2 .normal (stH (und 2 ++ [.ptr 0 0 0, .ptr 1 0 0] ++ und 36 ++ [.bool (!true)] ++ und 83) (two (ePlan a) (ePlan b)))), (6, .fact (2 ^ 124 - 1 - 44) 2 (.exit 0) (stH (und 2 ++ [.ptr 0 0 0, .ptr 1 0 0] ++ und 120) (two (ePlan a) (ePlan b)))), (8, .fact (2 ^ 124 - 1 - 76) 2 .ret (stH (und 4 ++ [.bool false] ++ und 119) []))] (hp := And.intro (And.intro (And.intro trivial (And.intro hb h1)) (And.intro hb k1)) (And.intro hb k2)) (h := by kernel_rfl)
    · rw [if_neg e1, if_neg e1] at k1
      rw [decide_eq_false (fun e => e1 (by rw [e]))]
      exact pFun_ok [(3, .fact (2 ^ 124 - 1 - 12) 2 .normal (stH (und 2 ++ [.ptr 0 0 0, .ptr 1 0 0] ++ und 36 ++ [.bool (!true)] ++ und 83) (two (ePlan a) (ePlan b)))), (6, .fact (2 ^ 124 - 1 - 44) 2 .ret (stH (und 4 ++ [.bool false] ++ und 119) []))] (hp := And.intro (And.intro trivial (And.intro hb h1)) (And.intro hb k1)) (h := by kernel_rfl)
  · rw [decide_eq_false hc] at h1
    rw [decide_eq_false (fun e => hc (by simp [e]))]
    exact pFun_ok [(3, .fact (2 ^ 124 - 1 - 12) 2 .normal (stH (und 2 ++ [.ptr 0 0 0, .ptr 1 0 0] ++ und 36 ++ [.bool (!false)] ++ und 83) (two (ePlan a) (ePlan b))))] (hp := And.intro trivial (And.intro hb h1)) (h := by kernel_rfl)
theorem f14_r2 (a b : Sys) (r1 : Bool) : RN 0 (at_ 14 [1, 1, 0, 0]) (stH (und 2 ++ [.ptr 0 0 0, .ptr 1 0 0] ++ und 1 ++ [.bool r1] ++ und 128) (two (eSys a) (eSys b))) .normal (stH (und 2 ++ [.ptr 0 0 0, .ptr 1 0 0] ++ und 69 ++ [.bool (!decide (r1 = true ∧ a.images.length = b.images.length ∧ a.seats.length = b.seats.length ∧ a.arrived.length = b.arrived.length ∧ a.now = b.now ∧ a.sched = b.sched ∧ a.next = b.next ∧ a.owner = b.owner))] ++ und 60) (two (eSys a) (eSys b))) := by
  by_cases h0 : r1 = true
  · subst h0
    by_cases h1 : a.images.length = b.images.length
    · have q1 : aBin wd.T .neq 3 (.int .i64 ((a.images.map (eSl eStr)).length : Int)) (.int .i64 ((b.images.map (eSl eStr)).length : Int)) = some (.bool false) := by simp [aBin, aIntOp, h1]
      by_cases h2 : a.seats.length = b.seats.length
      · have q2 : aBin wd.T .neq 3 (.int .i64 ((a.seats.map (eSeat)).length : Int)) (.int .i64 ((b.seats.map (eSeat)).length : Int)) = some (.bool false) := by simp [aBin, aIntOp, h2]
        by_cases h3 : a.arrived.length = b.arrived.length
        · have q3 : aBin wd.T .neq 3 (.int .i64 ((a.arrived.map (eSl eStamp)).length : Int)) (.int .i64 ((b.arrived.map (eSl eStamp)).length : Int)) = some (.bool false) := by simp [aBin, aIntOp, h3]
          by_cases h4 : a.now = b.now
          · have q4 : aBin wd.T .neq 31 (.int .u64 a.now) (.int .u64 b.now) = some (.bool false) := by simp [aBin, aIntOp, h4]
            by_cases h5 : a.sched = b.sched
            · have q5 : aBin wd.T .neq 3 (.int .i64 a.sched) (.int .i64 b.sched) = some (.bool false) := by simp [aBin, aIntOp, h5]
              by_cases h6 : a.next = b.next
              · have q6 : aBin wd.T .neq 3 (.int .i64 a.next) (.int .i64 b.next) = some (.bool false) := by simp [aBin, aIntOp, h6]
                by_cases h7 : a.owner = b.owner
                · have q7 : aBin wd.T .neq 3 (.int .i64 a.owner) (.int .i64 b.owner) = some (.bool false) := by simp [aBin, aIntOp, h7]
                  rw [decide_eq_true (show true = true ∧ a.images.length = b.images.length ∧ a.seats.length = b.seats.length ∧ a.arrived.length = b.arrived.length ∧ a.now = b.now ∧ a.sched = b.sched ∧ a.next = b.next ∧ a.owner = b.owner from ⟨rfl, h1, h2, h3, h4, h5, h6, h7⟩)]
                  exact pBody_ok (m := 2 ^ 134 - 1 - 9444732965739290427404) (k := 2) [(9, .val (.bool false)), (18, .val (.bool false)), (27, .val (.bool false)), (34, .val (.bool false)), (41, .val (.bool false)), (48, .val (.bool false)), (55, .val (.bool false))] (hp := And.intro (And.intro (And.intro (And.intro (And.intro (And.intro (And.intro (And.intro trivial q1) q2) q3) q4) q5) q6) q7) (two_sys a b)) (h := by kernel_rfl)
                · have q7 : aBin wd.T .neq 3 (.int .i64 a.owner) (.int .i64 b.owner) = some (.bool true) := by simp [aBin, aIntOp, h7]
                  rw [decide_eq_false (fun h : true = true ∧ a.images.length = b.images.length ∧ a.seats.length = b.seats.length ∧ a.arrived.length = b.arrived.length ∧ a.now = b.now ∧ a.sched = b.sched ∧ a.next = b.next ∧ a.owner = b.owner => h7 h.2.2.2.2.2.2.2)]
                  exact pBody_ok (m := 2 ^ 134 - 1 - 9444732965739290427404) (k := 2) [(9, .val (.bool false)), (18, .val (.bool false)), (27, .val (.bool false)), (34, .val (.bool false)), (41, .val (.bool false)), (48, .val (.bool false)), (55, .val (.bool true))] (hp := And.intro (And.intro (And.intro (And.intro (And.intro (And.intro (And.intro (And.intro trivial q1) q2) q3) q4) q5) q6) q7) (two_sys a b)) (h := by kernel_rfl)
              · have q6 : aBin wd.T .neq 3 (.int .i64 a.next) (.int .i64 b.next) = some (.bool true) := by simp [aBin, aIntOp, h6]
                rw [decide_eq_false (fun h : true = true ∧ a.images.length = b.images.length ∧ a.seats.length = b.seats.length ∧ a.arrived.length = b.arrived.length ∧ a.now = b.now ∧ a.sched = b.sched ∧ a.next = b.next ∧ a.owner = b.owner => h6 h.2.2.2.2.2.2.1)]
                exact pBody_ok (m := 2 ^ 134 - 1 - 9444732965739290427404) (k := 2) [(9, .val (.bool false)), (18, .val (.bool false)), (27, .val (.bool false)), (34, .val (.bool false)), (41, .val (.bool false)), (48, .val (.bool true))] (hp := And.intro (And.intro (And.intro (And.intro (And.intro (And.intro (And.intro trivial q1) q2) q3) q4) q5) q6) (two_sys a b)) (h := by kernel_rfl)
            · have q5 : aBin wd.T .neq 3 (.int .i64 a.sched) (.int .i64 b.sched) = some (.bool true) := by simp [aBin, aIntOp, h5]
              rw [decide_eq_false (fun h : true = true ∧ a.images.length = b.images.length ∧ a.seats.length = b.seats.length ∧ a.arrived.length = b.arrived.length ∧ a.now = b.now ∧ a.sched = b.sched ∧ a.next = b.next ∧ a.owner = b.owner => h5 h.2.2.2.2.2.1)]
              exact pBody_ok (m := 2 ^ 134 - 1 - 9444732965739290427404) (k := 2) [(9, .val (.bool false)), (18, .val (.bool false)), (27, .val (.bool false)), (34, .val (.bool false)), (41, .val (.bool true))] (hp := And.intro (And.intro (And.intro (And.intro (And.intro (And.intro trivial q1) q2) q3) q4) q5) (two_sys a b)) (h := by kernel_rfl)
          · have q4 : aBin wd.T .neq 31 (.int .u64 a.now) (.int .u64 b.now) = some (.bool true) := by simp [aBin, aIntOp, h4]
            rw [decide_eq_false (fun h : true = true ∧ a.images.length = b.images.length ∧ a.seats.length = b.seats.length ∧ a.arrived.length = b.arrived.length ∧ a.now = b.now ∧ a.sched = b.sched ∧ a.next = b.next ∧ a.owner = b.owner => h4 h.2.2.2.2.1)]
            exact pBody_ok (m := 2 ^ 134 - 1 - 9444732965739290427404) (k := 2) [(9, .val (.bool false)), (18, .val (.bool false)), (27, .val (.bool false)), (34, .val (.bool true))] (hp := And.intro (And.intro (And.intro (And.intro (And.intro trivial q1) q2) q3) q4) (two_sys a b)) (h := by kernel_rfl)
        · have q3 : aBin wd.T .neq 3 (.int .i64 ((a.arrived.map (eSl eStamp)).length : Int)) (.int .i64 ((b.arrived.map (eSl eStamp)).length : Int)) = some (.bool true) := by simp [aBin, aIntOp, h3]; omega
          rw [decide_eq_false (fun h : true = true ∧ a.images.length = b.images.length ∧ a.seats.length = b.seats.length ∧ a.arrived.length = b.arrived.length ∧ a.now = b.now ∧ a.sched = b.sched ∧ a.next = b.next ∧ a.owner = b.owner => h3 h.2.2.2.1)]
          exact pBody_ok (m := 2 ^ 134 - 1 - 9444732965739290427404) (k := 2) [(9, .val (.bool false)), (18, .val (.bool false)), (27, .val (.bool true))] (hp := And.intro (And.intro (And.intro (And.intro trivial q1) q2) q3) (two_sys a b)) (h := by kernel_rfl)
      · have q2 : aBin wd.T .neq 3 (.int .i64 ((a.seats.map (eSeat)).length : Int)) (.int .i64 ((b.seats.map (eSeat)).length : Int)) = some (.bool true) := by simp [aBin, aIntOp, h2]; omega
        rw [decide_eq_false (fun h : true = true ∧ a.images.length = b.images.length ∧ a.seats.length = b.seats.length ∧ a.arrived.length = b.arrived.length ∧ a.now = b.now ∧ a.sched = b.sched ∧ a.next = b.next ∧ a.owner = b.owner => h2 h.2.2.1)]
        exact pBody_ok (m := 2 ^ 134 - 1 - 9444732965739290427404) (k := 2) [(9, .val (.bool false)), (18, .val (.bool true))] (hp := And.intro (And.intro (And.intro trivial q1) q2) (two_sys a b)) (h := by kernel_rfl)
    · have q1 : aBin wd.T .neq 3 (.int .i64 ((a.images.map (eSl eStr)).length : Int)) (.int .i64 ((b.images.map (eSl eStr)).length : Int)) = some (.bool true) := by simp [aBin, aIntOp, h1]; omega
      rw [decide_eq_false (fun h : true = true ∧ a.images.length = b.images.length ∧ a.seats.length = b.seats.length ∧ a.arrived.length = b.arrived.length ∧ a.now = b.now ∧ a.sched = b.sched ∧ a.next = b.next ∧ a.owner = b.owner => h1 h.2.1)]
      exact pBody_ok (m := 2 ^ 134 - 1 - 9444732965739290427404) (k := 2) [(9, .val (.bool true))] (hp := And.intro (And.intro trivial q1) (two_sys a b)) (h := by kernel_rfl)
  · obtain rfl : r1 = false := by simpa using h0
    rw [decide_eq_false (fun h : false = true ∧ a.images.length = b.images.length ∧ a.seats.length = b.seats.length ∧ a.arrived.length = b.arrived.length ∧ a.now = b.now ∧ a.sched = b.sched ∧ a.next = b.next ∧ a.owner = b.owner => Bool.noConfusion h.1)]
    exact pBody_ok (m := 2 ^ 134 - 1 - 9444732965739290427404) (k := 2) [] (hp := And.intro (trivial) (two_sys a b)) (h := by kernel_rfl)
theorem f14_l1 (a b : Sys) (ha : FitSys a) (hfit : fits a.images) (hl : a.images.length = b.images.length) : RN 0 (.loop (at_ 14 [1, 1, 1, 0, 1, 0, 0])) (stH (und 2 ++ [.ptr 0 0 0, .ptr 1 0 0] ++ und 2 ++ [.int .i64 ((0 : Nat) : Int)] ++ und 127) (two (eSys a) (eSys b))) (if a.images = b.images then .exit 0 else .ret) (if a.images = b.images then (stH (und 2 ++ [.ptr 0 0 0, .ptr 1 0 0] ++ und 130) (two (eSys a) (eSys b))) else (stH (und 4 ++ [.bool false] ++ und 129) [])) := by
  refine same_loop (n := 0) (c := at_ 14 [1, 1, 1, 0, 1, 0, 0]) (S := fun i => stH (und 2 ++ [.ptr 0 0 0, .ptr 1 0 0] ++ und 2 ++ [.int .i64 (i : Int)] ++ und 127) (two (eSys a) (eSys b))) (eOut := .exit 0) a.images b.images hl (by simp) ?_ ?_ ?_
  · have h1 : decide (((a.images.length : Nat) : Int) < ((a.images.map (eSl eStr)).length : Int)) = false := by simp
    exact pBody_ok (m := 2 ^ 134 - 1 - 12) (k := 2) [(5, .br false)] (hp := And.intro (And.intro trivial (congrArg D.bool h1)) (two_sys a b)) (h := by kernel_rfl)
  · intro i x hi hx hy
    have h1 : decide ((i : Int) < ((a.images.map (eSl eStr)).length : Int)) = true := by simp [hi]
    have h2 := ix_sl (t := 45) (en := eSl eStr) (k := .i64) (h := (two (eSys a) (eSys b))) (c := false) (by kernel_rfl : elemOf 45 = some (32, 1)) hx rfl
    have h3 := ix_sl (t := 45) (en := eSl eStr) (k := .i64) (h := (two (eSys a) (eSys b))) (c := false) (by kernel_rfl : elemOf 45 = some (32, 1)) hy rfl
    have h4 := f57_ok x x (ha.each x (List.mem_of_getElem? hx))
    rw [decide_eq_true rfl] at h4
    have h5 := pBody_ok (n := 0) (m := 2 ^ 134 - 1 - 76) (k := 2) (c := at_ 14 [1, 1, 1, 0, 1, 0, 0]) (st := stH (und 2 ++ [.ptr 0 0 0, .ptr 1 0 0] ++ und 2 ++ [.int .i64 (i : Int)] ++ und 127) (two (eSys a) (eSys b))) (e := .normal) (st' := stH (und 2 ++ [.ptr 0 0 0, .ptr 1 0 0] ++ und 2 ++ [.int .i64 (IntKind.i64.wrap ((i : Int) + 1))] ++ und 127) (two (eSys a) (eSys b)))
      [(5, .br true), (9, .val (.pptr (eSl eStr x))), (14, .val (.pptr (eSl eStr x))), (16, .quiet (.val (.bool true)))]
      (hp := And.intro (And.intro (And.intro (And.intro (And.intro trivial (congrArg D.bool h1)) h2) h3) h4) (two_sys a b)) (h := by kernel_rfl)
    rw [wrap_succ hi hfit] at h5
    exact h5
  · intro i x y hi hx hy hne
    have h1 : decide ((i : Int) < ((a.images.map (eSl eStr)).length : Int)) = true := by simp [hi]
    have h2 := ix_sl (t := 45) (en := eSl eStr) (k := .i64) (h := (two (eSys a) (eSys b))) (c := false) (by kernel_rfl : elemOf 45 = some (32, 1)) hx rfl
    have h3 := ix_sl (t := 45) (en := eSl eStr) (k := .i64) (h := (two (eSys a) (eSys b))) (c := false) (by kernel_rfl : elemOf 45 = some (32, 1)) hy rfl
    have h4 := f57_ok x y (ha.each x (List.mem_of_getElem? hx))
    rw [decide_eq_false hne] at h4
    exact pBody_ok (m := 2 ^ 134 - 1 - 16) (k := 0) [(5, .br true), (9, .val (.pptr (eSl eStr x))), (14, .val (.pptr (eSl eStr y))), (16, .quiet (.val (.bool false)))]
      (hp := And.intro (And.intro (And.intro (And.intro (And.intro trivial (congrArg D.bool h1)) h2) h3) h4) trivial) (h := by kernel_rfl)
theorem f14_l2 (a b : Sys) (ha : FitSys a) (hfit : fits a.seats) (hl : a.seats.length = b.seats.length) : RN 0 (.loop (at_ 14 [1, 1, 1, 1, 0, 1, 0, 0])) (stH (und 2 ++ [.ptr 0 0 0, .ptr 1 0 0] ++ und 4 ++ [.int .i64 ((0 : Nat) : Int)] ++ und 125) (two (eSys a) (eSys b))) (if a.seats = b.seats then .exit 2 else .ret) (if a.seats = b.seats then (stH (und 2 ++ [.ptr 0 0 0, .ptr 1 0 0] ++ und 130) (two (eSys a) (eSys b))) else (stH (und 4 ++ [.bool false] ++ und 129) [])) := by
  refine same_loop (n := 0) (c := at_ 14 [1, 1, 1, 1, 0, 1, 0, 0]) (S := fun i => stH (und 2 ++ [.ptr 0 0 0, .ptr 1 0 0] ++ und 4 ++ [.int .i64 (i : Int)] ++ und 125) (two (eSys a) (eSys b))) (eOut := .exit 2) a.seats b.seats hl (by simp) ?_ ?_ ?_
  · have h1 : decide (((a.seats.length : Nat) : Int) < ((a.seats.map (eSeat)).length : Int)) = false := by simp
    exact pBody_ok (m := 2 ^ 134 - 1 - 12) (k := 2) [(5, .br false)] (hp := And.intro (And.intro trivial (congrArg D.bool h1)) (two_sys a b)) (h := by kernel_rfl)
  · intro i x hi hx hy
    have h1 : decide ((i : Int) < ((a.seats.map (eSeat)).length : Int)) = true := by simp [hi]
    have h2 := ix_sl (t := 49) (en := eSeat) (k := .i64) (h := (two (eSys a) (eSys b))) (c := false) (by kernel_rfl : elemOf 49 = some (63, 19)) hx rfl
    have h3 := ix_sl (t := 49) (en := eSeat) (k := .i64) (h := (two (eSys a) (eSys b))) (c := false) (by kernel_rfl : elemOf 49 = some (63, 19)) hy rfl
    have h4 := f19_ok x x (ha.kerns x (List.mem_of_getElem? hx))
    rw [decide_eq_true rfl] at h4
    have h5 := pBody_ok (n := 0) (m := 2 ^ 134 - 1 - 268) (k := 2) (c := at_ 14 [1, 1, 1, 1, 0, 1, 0, 0]) (st := stH (und 2 ++ [.ptr 0 0 0, .ptr 1 0 0] ++ und 4 ++ [.int .i64 (i : Int)] ++ und 125) (two (eSys a) (eSys b))) (e := .normal) (st' := stH (und 2 ++ [.ptr 0 0 0, .ptr 1 0 0] ++ und 4 ++ [.int .i64 (IntKind.i64.wrap ((i : Int) + 1))] ++ und 125) (two (eSys a) (eSys b)))
      [(5, .br true), (9, .val (.pptr (eSeat x))), (14, .val (.pptr (eSeat x))), (16, .quiet (.val (.bool true)))]
      (hp := And.intro (And.intro (And.intro (And.intro (And.intro trivial (congrArg D.bool h1)) h2) h3) h4) (two_sys a b)) (h := by kernel_rfl)
    rw [wrap_succ hi hfit] at h5
    exact h5
  · intro i x y hi hx hy hne
    have h1 : decide ((i : Int) < ((a.seats.map (eSeat)).length : Int)) = true := by simp [hi]
    have h2 := ix_sl (t := 49) (en := eSeat) (k := .i64) (h := (two (eSys a) (eSys b))) (c := false) (by kernel_rfl : elemOf 49 = some (63, 19)) hx rfl
    have h3 := ix_sl (t := 49) (en := eSeat) (k := .i64) (h := (two (eSys a) (eSys b))) (c := false) (by kernel_rfl : elemOf 49 = some (63, 19)) hy rfl
    have h4 := f19_ok x y (ha.kerns x (List.mem_of_getElem? hx))
    rw [decide_eq_false hne] at h4
    exact pBody_ok (m := 2 ^ 134 - 1 - 16) (k := 0) [(5, .br true), (9, .val (.pptr (eSeat x))), (14, .val (.pptr (eSeat y))), (16, .quiet (.val (.bool false)))]
      (hp := And.intro (And.intro (And.intro (And.intro (And.intro trivial (congrArg D.bool h1)) h2) h3) h4) trivial) (h := by kernel_rfl)
theorem f14_l3 (a b : Sys) (ha : FitSys a) (hfit : fits a.arrived) (hl : a.arrived.length = b.arrived.length) : RN 0 (.loop (at_ 14 [1, 1, 1, 1, 1, 0, 1, 0, 0])) (stH (und 2 ++ [.ptr 0 0 0, .ptr 1 0 0] ++ und 6 ++ [.int .i64 ((0 : Nat) : Int)] ++ und 123) (two (eSys a) (eSys b))) (if a.arrived = b.arrived then .exit 4 else .ret) (if a.arrived = b.arrived then (stH (und 134) []) else (stH (und 4 ++ [.bool false] ++ und 129) [])) := by
  refine same_loop (n := 0) (c := at_ 14 [1, 1, 1, 1, 1, 0, 1, 0, 0]) (S := fun i => stH (und 2 ++ [.ptr 0 0 0, .ptr 1 0 0] ++ und 6 ++ [.int .i64 (i : Int)] ++ und 123) (two (eSys a) (eSys b))) (eOut := .exit 4) a.arrived b.arrived hl (by simp) ?_ ?_ ?_
  · have h1 : decide (((a.arrived.length : Nat) : Int) < ((a.arrived.map (eSl eStamp)).length : Int)) = false := by simp
    exact pBody_ok (m := 2 ^ 134 - 1 - 0) (k := 0) [(5, .br false)] (hp := And.intro (And.intro trivial (congrArg D.bool h1)) trivial) (h := by kernel_rfl)
  · intro i x hi hx hy
    have h1 : decide ((i : Int) < ((a.arrived.map (eSl eStamp)).length : Int)) = true := by simp [hi]
    have h2 := ix_sl (t := 50) (en := eSl eStamp) (k := .i64) (h := (two (eSys a) (eSys b))) (c := false) (by kernel_rfl : elemOf 50 = some (112, 1)) hx rfl
    have h3 := ix_sl (t := 50) (en := eSl eStamp) (k := .i64) (h := (two (eSys a) (eSys b))) (c := false) (by kernel_rfl : elemOf 50 = some (112, 1)) hy rfl
    have h4 := f58_ok x x (ha.stamps x (List.mem_of_getElem? hx))
    rw [decide_eq_true rfl] at h4
    have h5 := pBody_ok (n := 0) (m := 2 ^ 134 - 1 - 1036) (k := 2) (c := at_ 14 [1, 1, 1, 1, 1, 0, 1, 0, 0]) (st := stH (und 2 ++ [.ptr 0 0 0, .ptr 1 0 0] ++ und 6 ++ [.int .i64 (i : Int)] ++ und 123) (two (eSys a) (eSys b))) (e := .normal) (st' := stH (und 2 ++ [.ptr 0 0 0, .ptr 1 0 0] ++ und 6 ++ [.int .i64 (IntKind.i64.wrap ((i : Int) + 1))] ++ und 123) (two (eSys a) (eSys b)))
      [(5, .br true), (9, .val (.pptr (eSl eStamp x))), (14, .val (.pptr (eSl eStamp x))), (16, .quiet (.val (.bool true)))]
      (hp := And.intro (And.intro (And.intro (And.intro (And.intro trivial (congrArg D.bool h1)) h2) h3) h4) (two_sys a b)) (h := by kernel_rfl)
    rw [wrap_succ hi hfit] at h5
    exact h5
  · intro i x y hi hx hy hne
    have h1 : decide ((i : Int) < ((a.arrived.map (eSl eStamp)).length : Int)) = true := by simp [hi]
    have h2 := ix_sl (t := 50) (en := eSl eStamp) (k := .i64) (h := (two (eSys a) (eSys b))) (c := false) (by kernel_rfl : elemOf 50 = some (112, 1)) hx rfl
    have h3 := ix_sl (t := 50) (en := eSl eStamp) (k := .i64) (h := (two (eSys a) (eSys b))) (c := false) (by kernel_rfl : elemOf 50 = some (112, 1)) hy rfl
    have h4 := f58_ok x y (ha.stamps x (List.mem_of_getElem? hx))
    rw [decide_eq_false hne] at h4
    exact pBody_ok (m := 2 ^ 134 - 1 - 16) (k := 0) [(5, .br true), (9, .val (.pptr (eSl eStamp x))), (14, .val (.pptr (eSl eStamp y))), (16, .quiet (.val (.bool false)))]
      (hp := And.intro (And.intro (And.intro (And.intro (And.intro trivial (congrArg D.bool h1)) h2) h3) h4) trivial) (h := by kernel_rfl)
theorem f14_ok (a b : Sys) (ha : FitSys a) : QC 14 [.agg (eSys a), .agg (eSys b)] (.val (.bool (decide (a = b)))) := by
  have hq := f56_ok a.p b.p ha.p
  have h1 := f14_r2 a b (decide (a.p = b.p))
  have hb := two_sys a b
  by_cases hc : decide (a.p = b.p) = true ∧ a.images.length = b.images.length ∧ a.seats.length = b.seats.length ∧ a.arrived.length = b.arrived.length ∧ a.now = b.now ∧ a.sched = b.sched ∧ a.next = b.next ∧ a.owner = b.owner
  · rw [decide_eq_true hc] at h1
    have k1 := f14_l1 a b ha ha.images hc.2.1
    have k2 := f14_l2 a b ha ha.seats hc.2.2.1
    have k3 := f14_l3 a b ha ha.arrived hc.2.2.2.1
    by_cases e1 : a.images = b.images
    · rw [if_pos e1, if_pos e1] at k1
      by_cases e2 : a.seats = b.seats
      · rw [if_pos e2, if_pos e2] at k2
        by_cases e3 : a.arrived = b.arrived
        · rw [if_pos e3, if_pos e3] at k3
          have e : a = b := by
            simp only [decide_eq_true_eq] at hc
            rcases a with ⟨_, _, _, _, _, _, _, _⟩
            rcases b with ⟨_, _, _, _, _, _, _, _⟩
            simp_all
          rw [decide_eq_true e]
          exact pFun_ok [(7, .quiet (.val (.bool (decide (a.p = b.p))))), (9, .fact (2 ^ 134 - 1 - 44) 2 .normal (stH (und 2 ++ [.ptr 0 0 0, .ptr 1 0 0] ++ und 69 ++ [.bool (!true)] ++ und 60) (two (eSys a) (eSys b)))), (12, .fact (2 ^ 134 - 1 - 76) 2 (.exit 0) (stH (und 2 ++ [.ptr 0 0 0, .ptr 1 0 0] ++ und 130) (two (eSys a) (eSys b)))), (14, .fact (2 ^ 134 - 1 - 268) 2 (.exit 2) (stH (und 2 ++ [.ptr 0 0 0, .ptr 1 0 0] ++ und 130) (two (eSys a) (eSys b)))), (16, .fact (2 ^ 134 - 1 - 1036) 2 (.exit 4) (stH (und 134) []))] (hp := And.intro (And.intro (And.intro (And.intro (And.intro trivial hq) (And.intro hb h1)) (And.intro hb k1)) (And.intro hb k2)) (And.intro hb k3)) (h := by kernel_rfl)
        · rw [if_neg e3, if_neg e3] at k3
          rw [decide_eq_false (fun e => e3 (by rw [e]))]
          exact pFun_ok [(7, .quiet (.val (.bool (decide (a.p = b.p))))), (9, .fact (2 ^ 134 - 1 - 44) 2 .normal (stH (und 2 ++ [.ptr 0 0 0, .ptr 1 0 0] ++ und 69 ++ [.bool (!true)] ++ und 60) (two (eSys a) (eSys b)))), (12, .fact (2 ^ 134 - 1 - 76) 2 (.exit 0) (stH (und 2 ++ [.ptr 0 0 0, .ptr 1 0 0] ++ und 130) (two (eSys a) (eSys b)))), (14, .fact (2 ^ 134 - 1 - 268) 2 (.exit 2) (stH (und 2 ++ [.ptr 0 0 0, .ptr 1 0 0] ++ und 130) (two (eSys a) (eSys b)))), (16, .fact (2 ^ 134 - 1 - 1036) 2 .ret (stH (und 4 ++ [.bool false] ++ und 129) []))] (hp := And.intro (And.intro (And.intro (And.intro (And.intro trivial hq) (And.intro hb h1)) (And.intro hb k1)) (And.intro hb k2)) (And.intro hb k3)) (h := by kernel_rfl)
      · rw [if_neg e2, if_neg e2] at k2
        rw [decide_eq_false (fun e => e2 (by rw [e]))]
        exact pFun_ok [(7, .quiet (.val (.bool (decide (a.p = b.p))))), (9, .fact (2 ^ 134 - 1 - 44) 2 .normal (stH (und 2 ++ [.ptr 0 0 0, .ptr 1 0 0] ++ und 69 ++ [.bool (!true)] ++ und 60) (two (eSys a) (eSys b)))), (12, .fact (2 ^ 134 - 1 - 76) 2 (.exit 0) (stH (und 2 ++ [.ptr 0 0 0, .ptr 1 0 0] ++ und 130) (two (eSys a) (eSys b)))), (14, .fact (2 ^ 134 - 1 - 268) 2 .ret (stH (und 4 ++ [.bool false] ++ und 129) []))] (hp := And.intro (And.intro (And.intro (And.intro trivial hq) (And.intro hb h1)) (And.intro hb k1)) (And.intro hb k2)) (h := by kernel_rfl)
    · rw [if_neg e1, if_neg e1] at k1
      rw [decide_eq_false (fun e => e1 (by rw [e]))]
      exact pFun_ok [(7, .quiet (.val (.bool (decide (a.p = b.p))))), (9, .fact (2 ^ 134 - 1 - 44) 2 .normal (stH (und 2 ++ [.ptr 0 0 0, .ptr 1 0 0] ++ und 69 ++ [.bool (!true)] ++ und 60) (two (eSys a) (eSys b)))), (12, .fact (2 ^ 134 - 1 - 76) 2 .ret (stH (und 4 ++ [.bool false] ++ und 129) []))] (hp := And.intro (And.intro (And.intro trivial hq) (And.intro hb h1)) (And.intro hb k1)) (h := by kernel_rfl)
  · rw [decide_eq_false hc] at h1
    rw [decide_eq_false (fun e => hc (by simp [e]))]
    exact pFun_ok [(7, .quiet (.val (.bool (decide (a.p = b.p))))), (9, .fact (2 ^ 134 - 1 - 44) 2 .normal (stH (und 2 ++ [.ptr 0 0 0, .ptr 1 0 0] ++ und 69 ++ [.bool (!false)] ++ und 60) (two (eSys a) (eSys b))))] (hp := And.intro (And.intro trivial hq) (And.intro hb h1)) (h := by kernel_rfl)
theorem f6_ok (a b : Sys) (ha : FitSys a) (hb : FitSys b) : QC 6 [.agg (eSys a), .agg (eSys b)] (.val (.bool true)) := by
  have s := shown21
  have aa := f22_ok a a ha
  have bb := f22_ok b b hb
  rw [decide_eq_true rfl] at aa bb
  have ab := f22_ok a b ha
  have ba := f22_ok b a hb
  have r := f14_ok a b ha
  by_cases h : a = b
  · rw [decide_eq_true h] at ab r
    rw [decide_eq_true h.symm] at ba
    exact pFun_ok [(3, .quiet (.val (.bool true))), (7, .quiet (.val (.bool true))), (13, .quiet (.val (.bool true))), (20, .quiet (.val (.bool true))), (27, .quiet (.val (.bool true))), (32, .quiet (.val (.bool true)))]
      (hp := And.intro (And.intro (And.intro (And.intro (And.intro (And.intro trivial s) r) ab) ba) aa) bb) (h := by kernel_rfl)
  · rw [decide_eq_false h] at ab r
    rw [decide_eq_false (fun e => h e.symm)] at ba
    exact pFun_ok [(3, .quiet (.val (.bool true))), (7, .quiet (.val (.bool false))), (13, .quiet (.val (.bool false))), (20, .quiet (.val (.bool false))), (27, .quiet (.val (.bool true))), (32, .quiet (.val (.bool true)))]
      (hp := And.intro (And.intro (And.intro (And.intro (And.intro (And.intro trivial s) r) ab) ba) aa) bb) (h := by kernel_rfl)
end Go.Xa
