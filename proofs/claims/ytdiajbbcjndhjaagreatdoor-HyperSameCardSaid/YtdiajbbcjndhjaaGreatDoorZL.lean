/- Guests compared by the reference. -/
import Derived.Test.YtdiajbbcjndhjaaGreatDoorZK
namespace Go.Xa
open Go.RowKit Go.Proofs

theorem two_box (a b : Box) : blksLt 2 (two (eBox a) (eBox b)) := ⟨blk_pure (by kernel_rfl), blk_pure (by kernel_rfl), trivial⟩
theorem f34_loop (a b : Box) (hfit : fits a.l) (hl : a.l.length = b.l.length) : RN 0 (.loop (at_ 34 [1, 1, 0, 1, 0, 0])) (stH (und 2 ++ [.ptr 0 0 0, .ptr 1 0 0] ++ und 1 ++ [.int .i64 ((0 : Nat) : Int)] ++ und 32) (two (eBox a) (eBox b))) (if a.l = b.l then .exit 0 else .ret) (if a.l = b.l then (stH (und 38) []) else (stH (und 4 ++ [.bool false] ++ und 33) [])) := by
  refine same_loop (n := 0) (c := at_ 34 [1, 1, 0, 1, 0, 0]) (S := fun i => stH (und 2 ++ [.ptr 0 0 0, .ptr 1 0 0] ++ und 1 ++ [.int .i64 (i : Int)] ++ und 32) (two (eBox a) (eBox b))) (eOut := .exit 0) a.l b.l hl (by simp) ?_ ?_ ?_
  · have h1 : decide (((a.l.length : Nat) : Int) < ((a.l.map (eMsg)).length : Int)) = false := by simp
    exact pBody_ok (m := 2 ^ 38 - 1 - 0) (k := 0) [(5, .br false)] (hp := And.intro (And.intro trivial (congrArg D.bool h1)) trivial) (h := by kernel_rfl)
  · intro i x hi hx hy
    have h1 : decide ((i : Int) < ((a.l.map (eMsg)).length : Int)) = true := by simp [hi]
    have h2 := ix_sl (t := 82) (en := eMsg) (k := .i64) (h := (two (eBox a) (eBox b))) (c := false) (by kernel_rfl : elemOf 82 = some (157, 2)) hx rfl
    have h3 := ix_sl (t := 82) (en := eMsg) (k := .i64) (h := (two (eBox a) (eBox b))) (c := false) (by kernel_rfl : elemOf 82 = some (157, 2)) hy rfl
    have h4 : aBin wd.T .neq 157 (.agg (eMsg x)) (.agg (eMsg x)) = some (.bool false) := by rw [neq_Msg]; simp
    have h5 := pBody_ok (n := 0) (m := 2 ^ 38 - 1 - 44) (k := 2) (c := at_ 34 [1, 1, 0, 1, 0, 0]) (st := stH (und 2 ++ [.ptr 0 0 0, .ptr 1 0 0] ++ und 1 ++ [.int .i64 (i : Int)] ++ und 32) (two (eBox a) (eBox b))) (e := .normal) (st' := stH (und 2 ++ [.ptr 0 0 0, .ptr 1 0 0] ++ und 1 ++ [.int .i64 (IntKind.i64.wrap ((i : Int) + 1))] ++ und 32) (two (eBox a) (eBox b)))
      [(5, .br true), (9, .val (.pptr (eMsg x))), (14, .val (.pptr (eMsg x))), (16, .val (.bool false))]
      (hp := And.intro (And.intro (And.intro (And.intro (And.intro trivial (congrArg D.bool h1)) h2) h3) h4) (two_box a b)) (h := by kernel_rfl)
    rw [wrap_succ hi hfit] at h5
    exact h5
  · intro i x y hi hx hy hne
    have h1 : decide ((i : Int) < ((a.l.map (eMsg)).length : Int)) = true := by simp [hi]
    have h2 := ix_sl (t := 82) (en := eMsg) (k := .i64) (h := (two (eBox a) (eBox b))) (c := false) (by kernel_rfl : elemOf 82 = some (157, 2)) hx rfl
    have h3 := ix_sl (t := 82) (en := eMsg) (k := .i64) (h := (two (eBox a) (eBox b))) (c := false) (by kernel_rfl : elemOf 82 = some (157, 2)) hy rfl
    have h4 : aBin wd.T .neq 157 (.agg (eMsg x)) (.agg (eMsg y)) = some (.bool true) := by rw [neq_Msg]; simp [hne]
    exact pBody_ok (m := 2 ^ 38 - 1 - 16) (k := 0) [(5, .br true), (9, .val (.pptr (eMsg x))), (14, .val (.pptr (eMsg y))), (16, .val (.bool true))]
      (hp := And.intro (And.intro (And.intro (And.intro (And.intro trivial (congrArg D.bool h1)) h2) h3) h4) trivial) (h := by kernel_rfl)
theorem f34_ok (a b : Box) (hfit : fits a.l) : QC 34 [.agg (eBox a), .agg (eBox b)] (.val (.bool (decide (a = b)))) := by
  by_cases hl : a.l.length = b.l.length
  · have q0 : aBin wd.T .neq 3 (.int .i64 ((a.l.map eMsg).length : Int)) (.int .i64 ((b.l.map eMsg).length : Int)) = some (.bool false) := by simp [aBin, aIntOp, hl]
    by_cases hlost : a.lost = b.lost
    · have q1 : aBin wd.T .neq 3 (.int .i64 a.lost) (.int .i64 b.lost) = some (.bool false) := by simp [aBin, aIntOp, hlost]
      have h := f34_loop a b hfit hl
      by_cases he : a.l = b.l
      · rw [if_pos he, if_pos he] at h
        rw [decide_eq_true (by cases a; cases b; simp_all)]
        exact pFun_ok [(9, .val (.bool false)), (15, .val (.bool false)), (19, .fact (2 ^ 38 - 1 - 44) 2 (.exit 0) (stH (und 38) []))] (hp := And.intro (And.intro (And.intro trivial q0) q1) (And.intro (two_box a b) h)) (h := by kernel_rfl)
      · rw [if_neg he, if_neg he] at h
        rw [decide_eq_false (fun e => he (by rw [e]))]
        exact pFun_ok [(9, .val (.bool false)), (15, .val (.bool false)), (19, .fact (2 ^ 38 - 1 - 44) 2 .ret (stH (und 4 ++ [.bool false] ++ und 33) []))] (hp := And.intro (And.intro (And.intro trivial q0) q1) (And.intro (two_box a b) h)) (h := by kernel_rfl)
    · have q1 : aBin wd.T .neq 3 (.int .i64 a.lost) (.int .i64 b.lost) = some (.bool true) := by simp [aBin, aIntOp, hlost]
      rw [decide_eq_false (fun e => hlost (by rw [e]))]
      exact pFun_ok [(9, .val (.bool false)), (15, .val (.bool true))] (hp := And.intro (And.intro trivial q0) q1) (h := by kernel_rfl)
  · have q0 : aBin wd.T .neq 3 (.int .i64 ((a.l.map eMsg).length : Int)) (.int .i64 ((b.l.map eMsg).length : Int)) = some (.bool true) := by simp [aBin, aIntOp]; omega
    rw [decide_eq_false (fun e => hl (by rw [e]))]
    exact pFun_ok [(9, .val (.bool true))] (hp := And.intro trivial q0) (h := by kernel_rfl)
theorem f8_r1 (a b : Kern) (ha : FitKern a) : RN 0 (at_ 8 [1, 0]) (stH (und 2 ++ [.ptr 0 0 0, .ptr 1 0 0, .undef] ++ und 163) (two (eKern a) (eKern b))) .normal (stH (und 2 ++ [.ptr 0 0 0, .ptr 1 0 0, .undef, .bool (decide (a.p = b.p ∧ a.t = b.t))] ++ und 162) (two (eKern a) (eKern b))) := by
  by_cases h0 : a.p = b.p
  · have q0 := f26_ok a.p b.p ha.p
    rw [decide_eq_true h0] at q0
    by_cases h1 : a.t = b.t
    · have q1 := f27_ok a.t b.t ha.t
      rw [decide_eq_true h1] at q1
      rw [decide_eq_true (show a.p = b.p ∧ a.t = b.t from ⟨h0, h1⟩)]
      exact pBody_ok (m := 2 ^ 168 - 1 - 44) (k := 2) [(4, .quiet (.val (.bool true))), (10, .quiet (.val (.bool true)))] (hp := And.intro (And.intro (And.intro trivial q0) q1) (two_kern a b)) (h := by kernel_rfl)
    · have q1 := f27_ok a.t b.t ha.t
      rw [decide_eq_false h1] at q1
      rw [decide_eq_false (fun h : a.p = b.p ∧ a.t = b.t => h1 h.2)]
      exact pBody_ok (m := 2 ^ 168 - 1 - 44) (k := 2) [(4, .quiet (.val (.bool true))), (10, .quiet (.val (.bool false)))] (hp := And.intro (And.intro (And.intro trivial q0) q1) (two_kern a b)) (h := by kernel_rfl)
  · have q0 := f26_ok a.p b.p ha.p
    rw [decide_eq_false h0] at q0
    rw [decide_eq_false (fun h : a.p = b.p ∧ a.t = b.t => h0 h.1)]
    exact pBody_ok (m := 2 ^ 168 - 1 - 44) (k := 2) [(4, .quiet (.val (.bool false)))] (hp := And.intro (And.intro trivial q0) (two_kern a b)) (h := by kernel_rfl)
theorem f8_r2 (a b : Kern) (ha : FitKern a) (r1 : Bool) : RN 0 (at_ 8 [1, 1, 0]) (stH (und 2 ++ [.ptr 0 0 0, .ptr 1 0 0, .undef, .bool r1] ++ und 162) (two (eKern a) (eKern b))) .normal (stH (und 2 ++ [.ptr 0 0 0, .ptr 1 0 0, .undef, .bool r1, .bool (decide (a.s = b.s ∧ a.pipes = b.pipes))] ++ und 161) (two (eKern a) (eKern b))) := by
  by_cases h0 : a.s = b.s
  · have q0 := f28_ok a.s b.s ha.s
    rw [decide_eq_true h0] at q0
    by_cases h1 : a.pipes = b.pipes
    · have q1 := f29_ok a.pipes b.pipes ha.pipes
      rw [decide_eq_true h1] at q1
      rw [decide_eq_true (show a.s = b.s ∧ a.pipes = b.pipes from ⟨h0, h1⟩)]
      exact pBody_ok (m := 2 ^ 168 - 1 - 108) (k := 2) [(4, .quiet (.val (.bool true))), (10, .quiet (.val (.bool true)))] (hp := And.intro (And.intro (And.intro trivial q0) q1) (two_kern a b)) (h := by kernel_rfl)
    · have q1 := f29_ok a.pipes b.pipes ha.pipes
      rw [decide_eq_false h1] at q1
      rw [decide_eq_false (fun h : a.s = b.s ∧ a.pipes = b.pipes => h1 h.2)]
      exact pBody_ok (m := 2 ^ 168 - 1 - 108) (k := 2) [(4, .quiet (.val (.bool true))), (10, .quiet (.val (.bool false)))] (hp := And.intro (And.intro (And.intro trivial q0) q1) (two_kern a b)) (h := by kernel_rfl)
  · have q0 := f28_ok a.s b.s ha.s
    rw [decide_eq_false h0] at q0
    rw [decide_eq_false (fun h : a.s = b.s ∧ a.pipes = b.pipes => h0 h.1)]
    exact pBody_ok (m := 2 ^ 168 - 1 - 108) (k := 2) [(4, .quiet (.val (.bool false)))] (hp := And.intro (And.intro trivial q0) (two_kern a b)) (h := by kernel_rfl)
theorem f8_r3 (a b : Kern) (ha : FitKern a) (r1 r2 : Bool) : RN 0 (at_ 8 [1, 1, 1, 0]) (stH (und 2 ++ [.ptr 0 0 0, .ptr 1 0 0, .undef, .bool r1, .bool r2] ++ und 161) (two (eKern a) (eKern b))) .normal (stH (und 2 ++ [.ptr 0 0 0, .ptr 1 0 0, .undef, .bool r1, .bool r2, .bool (decide (a.h = b.h ∧ a.trace = b.trace))] ++ und 160) (two (eKern a) (eKern b))) := by
  by_cases h0 : a.h = b.h
  · have q0 := f30_ok a.h b.h ha.h
    rw [decide_eq_true h0] at q0
    by_cases h1 : a.trace = b.trace
    · have q1 := f31_ok a.trace b.trace ha.trace
      rw [decide_eq_true h1] at q1
      rw [decide_eq_true (show a.h = b.h ∧ a.trace = b.trace from ⟨h0, h1⟩)]
      exact pBody_ok (m := 2 ^ 168 - 1 - 236) (k := 2) [(4, .quiet (.val (.bool true))), (10, .quiet (.val (.bool true)))] (hp := And.intro (And.intro (And.intro trivial q0) q1) (two_kern a b)) (h := by kernel_rfl)
    · have q1 := f31_ok a.trace b.trace ha.trace
      rw [decide_eq_false h1] at q1
      rw [decide_eq_false (fun h : a.h = b.h ∧ a.trace = b.trace => h1 h.2)]
      exact pBody_ok (m := 2 ^ 168 - 1 - 236) (k := 2) [(4, .quiet (.val (.bool true))), (10, .quiet (.val (.bool false)))] (hp := And.intro (And.intro (And.intro trivial q0) q1) (two_kern a b)) (h := by kernel_rfl)
  · have q0 := f30_ok a.h b.h ha.h
    rw [decide_eq_false h0] at q0
    rw [decide_eq_false (fun h : a.h = b.h ∧ a.trace = b.trace => h0 h.1)]
    exact pBody_ok (m := 2 ^ 168 - 1 - 236) (k := 2) [(4, .quiet (.val (.bool false)))] (hp := And.intro (And.intro trivial q0) (two_kern a b)) (h := by kernel_rfl)
theorem f8_r4 (a b : Kern) (ha : FitKern a) (r1 r2 r3 : Bool) : RN 0 (at_ 8 [1, 1, 1, 1, 0]) (stH (und 2 ++ [.ptr 0 0 0, .ptr 1 0 0, .undef, .bool r1, .bool r2, .bool r3] ++ und 160) (two (eKern a) (eKern b))) .normal (stH (und 2 ++ [.ptr 0 0 0, .ptr 1 0 0, .undef, .bool r1, .bool r2, .bool r3, .bool (decide (a.sent = b.sent ∧ a.outs = b.outs))] ++ und 159) (two (eKern a) (eKern b))) := by
  by_cases h0 : a.sent = b.sent
  · have q0 := f32_ok a.sent b.sent ha.sent
    rw [decide_eq_true h0] at q0
    by_cases h1 : a.outs = b.outs
    · have q1 := f33_ok a.outs b.outs ha.outs
      rw [decide_eq_true h1] at q1
      rw [decide_eq_true (show a.sent = b.sent ∧ a.outs = b.outs from ⟨h0, h1⟩)]
      exact pBody_ok (m := 2 ^ 168 - 1 - 492) (k := 2) [(4, .quiet (.val (.bool true))), (10, .quiet (.val (.bool true)))] (hp := And.intro (And.intro (And.intro trivial q0) q1) (two_kern a b)) (h := by kernel_rfl)
    · have q1 := f33_ok a.outs b.outs ha.outs
      rw [decide_eq_false h1] at q1
      rw [decide_eq_false (fun h : a.sent = b.sent ∧ a.outs = b.outs => h1 h.2)]
      exact pBody_ok (m := 2 ^ 168 - 1 - 492) (k := 2) [(4, .quiet (.val (.bool true))), (10, .quiet (.val (.bool false)))] (hp := And.intro (And.intro (And.intro trivial q0) q1) (two_kern a b)) (h := by kernel_rfl)
  · have q0 := f32_ok a.sent b.sent ha.sent
    rw [decide_eq_false h0] at q0
    rw [decide_eq_false (fun h : a.sent = b.sent ∧ a.outs = b.outs => h0 h.1)]
    exact pBody_ok (m := 2 ^ 168 - 1 - 492) (k := 2) [(4, .quiet (.val (.bool false)))] (hp := And.intro (And.intro trivial q0) (two_kern a b)) (h := by kernel_rfl)
theorem f8_r5 (a b : Kern) (ha : FitKern a) (r1 r2 r3 r4 : Bool) : RN 0 (at_ 8 [1, 1, 1, 1, 1, 0]) (stH (und 2 ++ [.ptr 0 0 0, .ptr 1 0 0, .undef, .bool r1, .bool r2, .bool r3, .bool r4] ++ und 159) (two (eKern a) (eKern b))) .normal (stH (und 2 ++ [.ptr 0 0 0, .ptr 1 0 0, .undef, .bool r1, .bool r2, .bool r3, .bool r4, .bool (decide (a.ins = b.ins))] ++ und 158) (two (eKern a) (eKern b))) := by
  by_cases h0 : a.ins = b.ins
  · have q0 := f33_ok a.ins b.ins ha.ins
    rw [decide_eq_true h0] at q0
    rw [decide_eq_true h0]
    exact pBody_ok (m := 2 ^ 168 - 1 - 1004) (k := 2) [(4, .quiet (.val (.bool true)))] (hp := And.intro (And.intro trivial q0) (two_kern a b)) (h := by kernel_rfl)
  · have q0 := f33_ok a.ins b.ins ha.ins
    rw [decide_eq_false h0] at q0
    rw [decide_eq_false (fun h : a.ins = b.ins => h0 h)]
    exact pBody_ok (m := 2 ^ 168 - 1 - 1004) (k := 2) [(4, .quiet (.val (.bool false)))] (hp := And.intro (And.intro trivial q0) (two_kern a b)) (h := by kernel_rfl)
theorem f8_r6 (a b : Kern) (r1 r2 r3 r4 r5 : Bool) : RN 0 (at_ 8 [1, 1, 1, 1, 1, 1, 0, 0]) (stH (und 2 ++ [.ptr 0 0 0, .ptr 1 0 0, .undef, .bool r1, .bool r2, .bool r3, .bool r4, .bool r5] ++ und 158) (two (eKern a) (eKern b))) .normal (stH (und 2 ++ [.ptr 0 0 0, .ptr 1 0 0] ++ und 125 ++ [.bool (!decide (r1 = true ∧ r2 = true ∧ r3 = true ∧ r4 = true ∧ r5 = true ∧ a.now = b.now ∧ a.cons = b.cons ∧ a.want = b.want ∧ a.gone = b.gone ∧ a.images.length = b.images.length ∧ a.inn.length = b.inn.length))] ++ und 38) (two (eKern a) (eKern b))) := by
  by_cases h0 : r1 = true
  · subst h0
    by_cases h1 : r2 = true
    · subst h1
      by_cases h2 : r3 = true
      · subst h2
        by_cases h3 : r4 = true
        · subst h3
          by_cases h4 : r5 = true
          · subst h4
            by_cases h5 : a.now = b.now
            · have q5 : aBin wd.T .neq 31 (.int .u64 a.now) (.int .u64 b.now) = some (.bool false) := by simp [aBin, aIntOp, h5]
              by_cases h6 : a.cons = b.cons
              · have q6 : aBin wd.T .neq 9 (.str a.cons) (.str b.cons) = some (.bool false) := by simp [aBin, aIntOp, h6]
                by_cases h7 : a.want = b.want
                · have q7 : aBin wd.T .neq 3 (.int .i64 a.want) (.int .i64 b.want) = some (.bool false) := by simp [aBin, aIntOp, h7]
                  by_cases h8 : a.gone = b.gone
                  · have q8 : aBin wd.T .neq 3 (.int .i64 a.gone) (.int .i64 b.gone) = some (.bool false) := by simp [aBin, aIntOp, h8]
                    by_cases h9 : a.images.length = b.images.length
                    · have q9 : aBin wd.T .neq 3 (.int .i64 ((a.images.map eStr).length : Int)) (.int .i64 ((b.images.map eStr).length : Int)) = some (.bool false) := by simp [aBin, aIntOp, h9]
                      by_cases h10 : a.inn.length = b.inn.length
                      · have q10 : aBin wd.T .neq 3 (.int .i64 ((a.inn.map eBox).length : Int)) (.int .i64 ((b.inn.map eBox).length : Int)) = some (.bool false) := by simp [aBin, aIntOp, h10]
                        rw [decide_eq_true (show true = true ∧ true = true ∧ true = true ∧ true = true ∧ true = true ∧ a.now = b.now ∧ a.cons = b.cons ∧ a.want = b.want ∧ a.gone = b.gone ∧ a.images.length = b.images.length ∧ a.inn.length = b.inn.length from ⟨rfl, rfl, rfl, rfl, rfl, h5, h6, h7, h8, h9, h10⟩)]
                        exact pBody_ok (m := 2 ^ 168 - 1 - 680564733841876926926749214863536422924) (k := 2) [(23, .val (.bool false)), (30, .val (.bool false)), (37, .val (.bool false)), (44, .val (.bool false)), (53, .val (.bool false)), (62, .val (.bool false))] (hp := And.intro (And.intro (And.intro (And.intro (And.intro (And.intro (And.intro trivial q5) q6) q7) q8) q9) q10) (two_kern a b)) (h := by kernel_rfl)
                      · have q10 : aBin wd.T .neq 3 (.int .i64 ((a.inn.map eBox).length : Int)) (.int .i64 ((b.inn.map eBox).length : Int)) = some (.bool true) := by simp [aBin, aIntOp, h10]; omega
                        rw [decide_eq_false (fun h : true = true ∧ true = true ∧ true = true ∧ true = true ∧ true = true ∧ a.now = b.now ∧ a.cons = b.cons ∧ a.want = b.want ∧ a.gone = b.gone ∧ a.images.length = b.images.length ∧ a.inn.length = b.inn.length => h10 h.2.2.2.2.2.2.2.2.2.2)]
                        exact pBody_ok (m := 2 ^ 168 - 1 - 680564733841876926926749214863536422924) (k := 2) [(23, .val (.bool false)), (30, .val (.bool false)), (37, .val (.bool false)), (44, .val (.bool false)), (53, .val (.bool false)), (62, .val (.bool true))] (hp := And.intro (And.intro (And.intro (And.intro (And.intro (And.intro (And.intro trivial q5) q6) q7) q8) q9) q10) (two_kern a b)) (h := by kernel_rfl)
                    · have q9 : aBin wd.T .neq 3 (.int .i64 ((a.images.map eStr).length : Int)) (.int .i64 ((b.images.map eStr).length : Int)) = some (.bool true) := by simp [aBin, aIntOp, h9]; omega
                      rw [decide_eq_false (fun h : true = true ∧ true = true ∧ true = true ∧ true = true ∧ true = true ∧ a.now = b.now ∧ a.cons = b.cons ∧ a.want = b.want ∧ a.gone = b.gone ∧ a.images.length = b.images.length ∧ a.inn.length = b.inn.length => h9 h.2.2.2.2.2.2.2.2.2.1)]
                      exact pBody_ok (m := 2 ^ 168 - 1 - 680564733841876926926749214863536422924) (k := 2) [(23, .val (.bool false)), (30, .val (.bool false)), (37, .val (.bool false)), (44, .val (.bool false)), (53, .val (.bool true))] (hp := And.intro (And.intro (And.intro (And.intro (And.intro (And.intro trivial q5) q6) q7) q8) q9) (two_kern a b)) (h := by kernel_rfl)
                  · have q8 : aBin wd.T .neq 3 (.int .i64 a.gone) (.int .i64 b.gone) = some (.bool true) := by simp [aBin, aIntOp, h8]
                    rw [decide_eq_false (fun h : true = true ∧ true = true ∧ true = true ∧ true = true ∧ true = true ∧ a.now = b.now ∧ a.cons = b.cons ∧ a.want = b.want ∧ a.gone = b.gone ∧ a.images.length = b.images.length ∧ a.inn.length = b.inn.length => h8 h.2.2.2.2.2.2.2.2.1)]
                    exact pBody_ok (m := 2 ^ 168 - 1 - 680564733841876926926749214863536422924) (k := 2) [(23, .val (.bool false)), (30, .val (.bool false)), (37, .val (.bool false)), (44, .val (.bool true))] (hp := And.intro (And.intro (And.intro (And.intro (And.intro trivial q5) q6) q7) q8) (two_kern a b)) (h := by kernel_rfl)
                · have q7 : aBin wd.T .neq 3 (.int .i64 a.want) (.int .i64 b.want) = some (.bool true) := by simp [aBin, aIntOp, h7]
                  rw [decide_eq_false (fun h : true = true ∧ true = true ∧ true = true ∧ true = true ∧ true = true ∧ a.now = b.now ∧ a.cons = b.cons ∧ a.want = b.want ∧ a.gone = b.gone ∧ a.images.length = b.images.length ∧ a.inn.length = b.inn.length => h7 h.2.2.2.2.2.2.2.1)]
                  exact pBody_ok (m := 2 ^ 168 - 1 - 680564733841876926926749214863536422924) (k := 2) [(23, .val (.bool false)), (30, .val (.bool false)), (37, .val (.bool true))] (hp := And.intro (And.intro (And.intro (And.intro trivial q5) q6) q7) (two_kern a b)) (h := by kernel_rfl)
              · have q6 : aBin wd.T .neq 9 (.str a.cons) (.str b.cons) = some (.bool true) := by simp [aBin, aIntOp, h6]
                rw [decide_eq_false (fun h : true = true ∧ true = true ∧ true = true ∧ true = true ∧ true = true ∧ a.now = b.now ∧ a.cons = b.cons ∧ a.want = b.want ∧ a.gone = b.gone ∧ a.images.length = b.images.length ∧ a.inn.length = b.inn.length => h6 h.2.2.2.2.2.2.1)]
                exact pBody_ok (m := 2 ^ 168 - 1 - 680564733841876926926749214863536422924) (k := 2) [(23, .val (.bool false)), (30, .val (.bool true))] (hp := And.intro (And.intro (And.intro trivial q5) q6) (two_kern a b)) (h := by kernel_rfl)
            · have q5 : aBin wd.T .neq 31 (.int .u64 a.now) (.int .u64 b.now) = some (.bool true) := by simp [aBin, aIntOp, h5]
              rw [decide_eq_false (fun h : true = true ∧ true = true ∧ true = true ∧ true = true ∧ true = true ∧ a.now = b.now ∧ a.cons = b.cons ∧ a.want = b.want ∧ a.gone = b.gone ∧ a.images.length = b.images.length ∧ a.inn.length = b.inn.length => h5 h.2.2.2.2.2.1)]
              exact pBody_ok (m := 2 ^ 168 - 1 - 680564733841876926926749214863536422924) (k := 2) [(23, .val (.bool true))] (hp := And.intro (And.intro trivial q5) (two_kern a b)) (h := by kernel_rfl)
          · obtain rfl : r5 = false := by simpa using h4
            rw [decide_eq_false (fun h : true = true ∧ true = true ∧ true = true ∧ true = true ∧ false = true ∧ a.now = b.now ∧ a.cons = b.cons ∧ a.want = b.want ∧ a.gone = b.gone ∧ a.images.length = b.images.length ∧ a.inn.length = b.inn.length => Bool.noConfusion h.2.2.2.2.1)]
            exact pBody_ok (m := 2 ^ 168 - 1 - 680564733841876926926749214863536422924) (k := 2) [] (hp := And.intro (trivial) (two_kern a b)) (h := by kernel_rfl)
        · obtain rfl : r4 = false := by simpa using h3
          rw [decide_eq_false (fun h : true = true ∧ true = true ∧ true = true ∧ false = true ∧ r5 = true ∧ a.now = b.now ∧ a.cons = b.cons ∧ a.want = b.want ∧ a.gone = b.gone ∧ a.images.length = b.images.length ∧ a.inn.length = b.inn.length => Bool.noConfusion h.2.2.2.1)]
          exact pBody_ok (m := 2 ^ 168 - 1 - 680564733841876926926749214863536422924) (k := 2) [] (hp := And.intro (trivial) (two_kern a b)) (h := by kernel_rfl)
      · obtain rfl : r3 = false := by simpa using h2
        rw [decide_eq_false (fun h : true = true ∧ true = true ∧ false = true ∧ r4 = true ∧ r5 = true ∧ a.now = b.now ∧ a.cons = b.cons ∧ a.want = b.want ∧ a.gone = b.gone ∧ a.images.length = b.images.length ∧ a.inn.length = b.inn.length => Bool.noConfusion h.2.2.1)]
        exact pBody_ok (m := 2 ^ 168 - 1 - 680564733841876926926749214863536422924) (k := 2) [] (hp := And.intro (trivial) (two_kern a b)) (h := by kernel_rfl)
    · obtain rfl : r2 = false := by simpa using h1
      rw [decide_eq_false (fun h : true = true ∧ false = true ∧ r3 = true ∧ r4 = true ∧ r5 = true ∧ a.now = b.now ∧ a.cons = b.cons ∧ a.want = b.want ∧ a.gone = b.gone ∧ a.images.length = b.images.length ∧ a.inn.length = b.inn.length => Bool.noConfusion h.2.1)]
      exact pBody_ok (m := 2 ^ 168 - 1 - 680564733841876926926749214863536422924) (k := 2) [] (hp := And.intro (trivial) (two_kern a b)) (h := by kernel_rfl)
  · obtain rfl : r1 = false := by simpa using h0
    rw [decide_eq_false (fun h : false = true ∧ r2 = true ∧ r3 = true ∧ r4 = true ∧ r5 = true ∧ a.now = b.now ∧ a.cons = b.cons ∧ a.want = b.want ∧ a.gone = b.gone ∧ a.images.length = b.images.length ∧ a.inn.length = b.inn.length => Bool.noConfusion h.1)]
    exact pBody_ok (m := 2 ^ 168 - 1 - 680564733841876926926749214863536422924) (k := 2) [] (hp := And.intro (trivial) (two_kern a b)) (h := by kernel_rfl)
theorem f8_l1 (a b : Kern) (hfit : fits a.images) (hl : a.images.length = b.images.length) : RN 0 (.loop (at_ 8 [1, 1, 1, 1, 1, 1, 1, 0, 1, 0, 0])) (stH (und 2 ++ [.ptr 0 0 0, .ptr 1 0 0] ++ und 6 ++ [.int .i64 ((0 : Nat) : Int)] ++ und 157) (two (eKern a) (eKern b))) (if a.images = b.images then .exit 0 else .ret) (if a.images = b.images then (stH (und 2 ++ [.ptr 0 0 0, .ptr 1 0 0] ++ und 164) (two (eKern a) (eKern b))) else (stH (und 4 ++ [.bool false] ++ und 163) [])) := by
  refine same_loop (n := 0) (c := at_ 8 [1, 1, 1, 1, 1, 1, 1, 0, 1, 0, 0]) (S := fun i => stH (und 2 ++ [.ptr 0 0 0, .ptr 1 0 0] ++ und 6 ++ [.int .i64 (i : Int)] ++ und 157) (two (eKern a) (eKern b))) (eOut := .exit 0) a.images b.images hl (by simp) ?_ ?_ ?_
  · have h1 : decide (((a.images.length : Nat) : Int) < ((a.images.map (eStr)).length : Int)) = false := by simp
    exact pBody_ok (m := 2 ^ 168 - 1 - 12) (k := 2) [(5, .br false)] (hp := And.intro (And.intro trivial (congrArg D.bool h1)) (two_kern a b)) (h := by kernel_rfl)
  · intro i x hi hx hy
    have h1 : decide ((i : Int) < ((a.images.map (eStr)).length : Int)) = true := by simp [hi]
    have h2 := ix_sl (t := 32) (en := eStr) (k := .i64) (h := (two (eKern a) (eKern b))) (c := false) (by kernel_rfl : elemOf 32 = some (9, 1)) hx rfl
    have h3 := ix_sl (t := 32) (en := eStr) (k := .i64) (h := (two (eKern a) (eKern b))) (c := false) (by kernel_rfl : elemOf 32 = some (9, 1)) hy rfl
    have h4 : aBin wd.T .neq 9 (.str x) (.str x) = some (.bool false) := by simp [aBin, aIntOp]
    have h5 := pBody_ok (n := 0) (m := 2 ^ 168 - 1 - 1036) (k := 2) (c := at_ 8 [1, 1, 1, 1, 1, 1, 1, 0, 1, 0, 0]) (st := stH (und 2 ++ [.ptr 0 0 0, .ptr 1 0 0] ++ und 6 ++ [.int .i64 (i : Int)] ++ und 157) (two (eKern a) (eKern b))) (e := .normal) (st' := stH (und 2 ++ [.ptr 0 0 0, .ptr 1 0 0] ++ und 6 ++ [.int .i64 (IntKind.i64.wrap ((i : Int) + 1))] ++ und 157) (two (eKern a) (eKern b)))
      [(5, .br true), (9, .val (.pptr (eStr x))), (14, .val (.pptr (eStr x))), (16, .val (.bool false))]
      (hp := And.intro (And.intro (And.intro (And.intro (And.intro trivial (congrArg D.bool h1)) h2) h3) h4) (two_kern a b)) (h := by kernel_rfl)
    rw [wrap_succ hi hfit] at h5
    exact h5
  · intro i x y hi hx hy hne
    have h1 : decide ((i : Int) < ((a.images.map (eStr)).length : Int)) = true := by simp [hi]
    have h2 := ix_sl (t := 32) (en := eStr) (k := .i64) (h := (two (eKern a) (eKern b))) (c := false) (by kernel_rfl : elemOf 32 = some (9, 1)) hx rfl
    have h3 := ix_sl (t := 32) (en := eStr) (k := .i64) (h := (two (eKern a) (eKern b))) (c := false) (by kernel_rfl : elemOf 32 = some (9, 1)) hy rfl
    have h4 : aBin wd.T .neq 9 (.str x) (.str y) = some (.bool true) := by simp [aBin, aIntOp, hne]
    exact pBody_ok (m := 2 ^ 168 - 1 - 16) (k := 0) [(5, .br true), (9, .val (.pptr (eStr x))), (14, .val (.pptr (eStr y))), (16, .val (.bool true))]
      (hp := And.intro (And.intro (And.intro (And.intro (And.intro trivial (congrArg D.bool h1)) h2) h3) h4) trivial) (h := by kernel_rfl)
theorem f8_l2 (a b : Kern) (ha : FitKern a) (hfit : fits a.inn) (hl : a.inn.length = b.inn.length) : RN 0 (.loop (at_ 8 [1, 1, 1, 1, 1, 1, 1, 1, 0, 1, 0, 0])) (stH (und 2 ++ [.ptr 0 0 0, .ptr 1 0 0] ++ und 7 ++ [.int .i64 ((0 : Nat) : Int)] ++ und 156) (two (eKern a) (eKern b))) (if a.inn = b.inn then .exit 2 else .ret) (if a.inn = b.inn then (stH (und 168) []) else (stH (und 4 ++ [.bool false] ++ und 163) [])) := by
  refine same_loop (n := 0) (c := at_ 8 [1, 1, 1, 1, 1, 1, 1, 1, 0, 1, 0, 0]) (S := fun i => stH (und 2 ++ [.ptr 0 0 0, .ptr 1 0 0] ++ und 7 ++ [.int .i64 (i : Int)] ++ und 156) (two (eKern a) (eKern b))) (eOut := .exit 2) a.inn b.inn hl (by simp) ?_ ?_ ?_
  · have h1 : decide (((a.inn.length : Nat) : Int) < ((a.inn.map (eBox)).length : Int)) = false := by simp
    exact pBody_ok (m := 2 ^ 168 - 1 - 0) (k := 0) [(5, .br false)] (hp := And.intro (And.intro trivial (congrArg D.bool h1)) trivial) (h := by kernel_rfl)
  · intro i x hi hx hy
    have h1 : decide ((i : Int) < ((a.inn.map (eBox)).length : Int)) = true := by simp [hi]
    have h2 := ix_sl (t := 34) (en := eBox) (k := .i64) (h := (two (eKern a) (eKern b))) (c := false) (by kernel_rfl : elemOf 34 = some (84, 2)) hx rfl
    have h3 := ix_sl (t := 34) (en := eBox) (k := .i64) (h := (two (eKern a) (eKern b))) (c := false) (by kernel_rfl : elemOf 34 = some (84, 2)) hy rfl
    have h4 := f34_ok x x (ha.boxes x (List.mem_of_getElem? hx))
    rw [decide_eq_true rfl] at h4
    have h5 := pBody_ok (n := 0) (m := 2 ^ 168 - 1 - 2060) (k := 2) (c := at_ 8 [1, 1, 1, 1, 1, 1, 1, 1, 0, 1, 0, 0]) (st := stH (und 2 ++ [.ptr 0 0 0, .ptr 1 0 0] ++ und 7 ++ [.int .i64 (i : Int)] ++ und 156) (two (eKern a) (eKern b))) (e := .normal) (st' := stH (und 2 ++ [.ptr 0 0 0, .ptr 1 0 0] ++ und 7 ++ [.int .i64 (IntKind.i64.wrap ((i : Int) + 1))] ++ und 156) (two (eKern a) (eKern b)))
      [(5, .br true), (9, .val (.pptr (eBox x))), (14, .val (.pptr (eBox x))), (16, .quiet (.val (.bool true)))]
      (hp := And.intro (And.intro (And.intro (And.intro (And.intro trivial (congrArg D.bool h1)) h2) h3) h4) (two_kern a b)) (h := by kernel_rfl)
    rw [wrap_succ hi hfit] at h5
    exact h5
  · intro i x y hi hx hy hne
    have h1 : decide ((i : Int) < ((a.inn.map (eBox)).length : Int)) = true := by simp [hi]
    have h2 := ix_sl (t := 34) (en := eBox) (k := .i64) (h := (two (eKern a) (eKern b))) (c := false) (by kernel_rfl : elemOf 34 = some (84, 2)) hx rfl
    have h3 := ix_sl (t := 34) (en := eBox) (k := .i64) (h := (two (eKern a) (eKern b))) (c := false) (by kernel_rfl : elemOf 34 = some (84, 2)) hy rfl
    have h4 := f34_ok x y (ha.boxes x (List.mem_of_getElem? hx))
    rw [decide_eq_false hne] at h4
    exact pBody_ok (m := 2 ^ 168 - 1 - 16) (k := 0) [(5, .br true), (9, .val (.pptr (eBox x))), (14, .val (.pptr (eBox y))), (16, .quiet (.val (.bool false)))]
      (hp := And.intro (And.intro (And.intro (And.intro (And.intro trivial (congrArg D.bool h1)) h2) h3) h4) trivial) (h := by kernel_rfl)
theorem f8_ok (a b : Kern) (ha : FitKern a) : QC 8 [.agg (eKern a), .agg (eKern b)] (.val (.bool (decide (a = b)))) := by
  have h1 := f8_r1 a b ha
  have h2 := f8_r2 a b ha (decide (a.p = b.p ∧ a.t = b.t))
  have h3 := f8_r3 a b ha (decide (a.p = b.p ∧ a.t = b.t)) (decide (a.s = b.s ∧ a.pipes = b.pipes))
  have h4 := f8_r4 a b ha (decide (a.p = b.p ∧ a.t = b.t)) (decide (a.s = b.s ∧ a.pipes = b.pipes)) (decide (a.h = b.h ∧ a.trace = b.trace))
  have h5 := f8_r5 a b ha (decide (a.p = b.p ∧ a.t = b.t)) (decide (a.s = b.s ∧ a.pipes = b.pipes)) (decide (a.h = b.h ∧ a.trace = b.trace)) (decide (a.sent = b.sent ∧ a.outs = b.outs))
  have h6 := f8_r6 a b (decide (a.p = b.p ∧ a.t = b.t)) (decide (a.s = b.s ∧ a.pipes = b.pipes)) (decide (a.h = b.h ∧ a.trace = b.trace)) (decide (a.sent = b.sent ∧ a.outs = b.outs)) (decide (a.ins = b.ins))
  have hb : blksLt 2 (two (eKern a) (eKern b)) := two_kern a b
  by_cases hc : decide (a.p = b.p ∧ a.t = b.t) = true ∧ decide (a.s = b.s ∧ a.pipes = b.pipes) = true ∧ decide (a.h = b.h ∧ a.trace = b.trace) = true ∧ decide (a.sent = b.sent ∧ a.outs = b.outs) = true ∧ decide (a.ins = b.ins) = true ∧ a.now = b.now ∧ a.cons = b.cons ∧ a.want = b.want ∧ a.gone = b.gone ∧ a.images.length = b.images.length ∧ a.inn.length = b.inn.length
  · rw [decide_eq_true hc] at h6
    have k1 := f8_l1 a b ha.images hc.2.2.2.2.2.2.2.2.2.1
    have k2 := f8_l2 a b ha ha.inn hc.2.2.2.2.2.2.2.2.2.2
    by_cases hi : a.images = b.images
    · rw [if_pos hi, if_pos hi] at k1
      by_cases hn : a.inn = b.inn
      · rw [if_pos hn, if_pos hn] at k2
        have e : a = b := by
          simp only [decide_eq_true_eq] at hc
          rcases a with ⟨_, ⟨_, _⟩, _, _, ⟨_, _⟩, _, _, _, _, _, _, _, _, _, _⟩
          rcases b with ⟨_, ⟨_, _⟩, _, _, ⟨_, _⟩, _, _, _, _, _, _, _, _, _, _⟩
          simp_all
        rw [decide_eq_true e]
        exact pFun_ok [(3, .fact (2 ^ 168 - 1 - 12) 2 .normal (stH (und 2 ++ [.ptr 0 0 0, .ptr 1 0 0, .undef, .bool (decide (a.p = b.p ∧ a.t = b.t))] ++ und 162) (two (eKern a) (eKern b)))), (4, .fact (2 ^ 168 - 1 - 44) 2 .normal (stH (und 2 ++ [.ptr 0 0 0, .ptr 1 0 0, .undef, .bool (decide (a.p = b.p ∧ a.t = b.t)), .bool (decide (a.s = b.s ∧ a.pipes = b.pipes))] ++ und 161) (two (eKern a) (eKern b)))), (5, .fact (2 ^ 168 - 1 - 108) 2 .normal (stH (und 2 ++ [.ptr 0 0 0, .ptr 1 0 0, .undef, .bool (decide (a.p = b.p ∧ a.t = b.t)), .bool (decide (a.s = b.s ∧ a.pipes = b.pipes)), .bool (decide (a.h = b.h ∧ a.trace = b.trace))] ++ und 160) (two (eKern a) (eKern b)))), (6, .fact (2 ^ 168 - 1 - 236) 2 .normal (stH (und 2 ++ [.ptr 0 0 0, .ptr 1 0 0, .undef, .bool (decide (a.p = b.p ∧ a.t = b.t)), .bool (decide (a.s = b.s ∧ a.pipes = b.pipes)), .bool (decide (a.h = b.h ∧ a.trace = b.trace)), .bool (decide (a.sent = b.sent ∧ a.outs = b.outs))] ++ und 159) (two (eKern a) (eKern b)))), (7, .fact (2 ^ 168 - 1 - 492) 2 .normal (stH (und 2 ++ [.ptr 0 0 0, .ptr 1 0 0, .undef, .bool (decide (a.p = b.p ∧ a.t = b.t)), .bool (decide (a.s = b.s ∧ a.pipes = b.pipes)), .bool (decide (a.h = b.h ∧ a.trace = b.trace)), .bool (decide (a.sent = b.sent ∧ a.outs = b.outs)), .bool (decide (a.ins = b.ins))] ++ und 158) (two (eKern a) (eKern b)))), (8, .fact (2 ^ 168 - 1 - 1004) 2 .normal (stH (und 2 ++ [.ptr 0 0 0, .ptr 1 0 0] ++ und 125 ++ [.bool (!true)] ++ und 38) (two (eKern a) (eKern b)))), (11, .fact (2 ^ 168 - 1 - 1036) 2 (.exit 0) (stH (und 2 ++ [.ptr 0 0 0, .ptr 1 0 0] ++ und 164) (two (eKern a) (eKern b)))), (13, .fact (2 ^ 168 - 1 - 2060) 2 (.exit 2) (stH (und 168) []))] (hp := And.intro (And.intro (And.intro (And.intro (And.intro (And.intro (And.intro (And.intro trivial (And.intro hb h1)) (And.intro hb h2)) (And.intro hb h3)) (And.intro hb h4)) (And.intro hb h5)) (And.intro hb h6)) (And.intro hb k1)) (And.intro hb k2)) (h := by kernel_rfl)
      · rw [if_neg hn, if_neg hn] at k2
        rw [decide_eq_false (fun e => hn (by rw [e]))]
        exact pFun_ok [(3, .fact (2 ^ 168 - 1 - 12) 2 .normal (stH (und 2 ++ [.ptr 0 0 0, .ptr 1 0 0, .undef, .bool (decide (a.p = b.p ∧ a.t = b.t))] ++ und 162) (two (eKern a) (eKern b)))), (4, .fact (2 ^ 168 - 1 - 44) 2 .normal (stH (und 2 ++ [.ptr 0 0 0, .ptr 1 0 0, .undef, .bool (decide (a.p = b.p ∧ a.t = b.t)), .bool (decide (a.s = b.s ∧ a.pipes = b.pipes))] ++ und 161) (two (eKern a) (eKern b)))), (5, .fact (2 ^ 168 - 1 - 108) 2 .normal (stH (und 2 ++ [.ptr 0 0 0, .ptr 1 0 0, .undef, .bool (decide (a.p = b.p ∧ a.t = b.t)), .bool (decide (a.s = b.s ∧ a.pipes = b.pipes)), .bool (decide (a.h = b.h ∧ a.trace = b.trace))] ++ und 160) (two (eKern a) (eKern b)))), (6, .fact (2 ^ 168 - 1 - 236) 2 .normal (stH (und 2 ++ [.ptr 0 0 0, .ptr 1 0 0, .undef, .bool (decide (a.p = b.p ∧ a.t = b.t)), .bool (decide (a.s = b.s ∧ a.pipes = b.pipes)), .bool (decide (a.h = b.h ∧ a.trace = b.trace)), .bool (decide (a.sent = b.sent ∧ a.outs = b.outs))] ++ und 159) (two (eKern a) (eKern b)))), (7, .fact (2 ^ 168 - 1 - 492) 2 .normal (stH (und 2 ++ [.ptr 0 0 0, .ptr 1 0 0, .undef, .bool (decide (a.p = b.p ∧ a.t = b.t)), .bool (decide (a.s = b.s ∧ a.pipes = b.pipes)), .bool (decide (a.h = b.h ∧ a.trace = b.trace)), .bool (decide (a.sent = b.sent ∧ a.outs = b.outs)), .bool (decide (a.ins = b.ins))] ++ und 158) (two (eKern a) (eKern b)))), (8, .fact (2 ^ 168 - 1 - 1004) 2 .normal (stH (und 2 ++ [.ptr 0 0 0, .ptr 1 0 0] ++ und 125 ++ [.bool (!true)] ++ und 38) (two (eKern a) (eKern b)))), (11, .fact (2 ^ 168 - 1 - 1036) 2 (.exit 0) (stH (und 2 ++ [.ptr 0 0 0, .ptr 1 0 0] ++ und 164) (two (eKern a) (eKern b)))), (13, .fact (2 ^ 168 - 1 - 2060) 2 .ret (stH (und 4 ++ [.bool false] ++ und 163) []))] (hp := And.intro (And.intro (And.intro (And.intro (And.intro (And.intro (And.intro (And.intro trivial (And.intro hb h1)) (And.intro hb h2)) (And.intro hb h3)) (And.intro hb h4)) (And.intro hb h5)) (And.intro hb h6)) (And.intro hb k1)) (And.intro hb k2)) (h := by kernel_rfl)
    · rw [if_neg hi, if_neg hi] at k1
      rw [decide_eq_false (fun e => hi (by rw [e]))]
      exact pFun_ok [(3, .fact (2 ^ 168 - 1 - 12) 2 .normal (stH (und 2 ++ [.ptr 0 0 0, .ptr 1 0 0, .undef, .bool (decide (a.p = b.p ∧ a.t = b.t))] ++ und 162) (two (eKern a) (eKern b)))), (4, .fact (2 ^ 168 - 1 - 44) 2 .normal (stH (und 2 ++ [.ptr 0 0 0, .ptr 1 0 0, .undef, .bool (decide (a.p = b.p ∧ a.t = b.t)), .bool (decide (a.s = b.s ∧ a.pipes = b.pipes))] ++ und 161) (two (eKern a) (eKern b)))), (5, .fact (2 ^ 168 - 1 - 108) 2 .normal (stH (und 2 ++ [.ptr 0 0 0, .ptr 1 0 0, .undef, .bool (decide (a.p = b.p ∧ a.t = b.t)), .bool (decide (a.s = b.s ∧ a.pipes = b.pipes)), .bool (decide (a.h = b.h ∧ a.trace = b.trace))] ++ und 160) (two (eKern a) (eKern b)))), (6, .fact (2 ^ 168 - 1 - 236) 2 .normal (stH (und 2 ++ [.ptr 0 0 0, .ptr 1 0 0, .undef, .bool (decide (a.p = b.p ∧ a.t = b.t)), .bool (decide (a.s = b.s ∧ a.pipes = b.pipes)), .bool (decide (a.h = b.h ∧ a.trace = b.trace)), .bool (decide (a.sent = b.sent ∧ a.outs = b.outs))] ++ und 159) (two (eKern a) (eKern b)))), (7, .fact (2 ^ 168 - 1 - 492) 2 .normal (stH (und 2 ++ [.ptr 0 0 0, .ptr 1 0 0, .undef, .bool (decide (a.p = b.p ∧ a.t = b.t)), .bool (decide (a.s = b.s ∧ a.pipes = b.pipes)), .bool (decide (a.h = b.h ∧ a.trace = b.trace)), .bool (decide (a.sent = b.sent ∧ a.outs = b.outs)), .bool (decide (a.ins = b.ins))] ++ und 158) (two (eKern a) (eKern b)))), (8, .fact (2 ^ 168 - 1 - 1004) 2 .normal (stH (und 2 ++ [.ptr 0 0 0, .ptr 1 0 0] ++ und 125 ++ [.bool (!true)] ++ und 38) (two (eKern a) (eKern b)))), (11, .fact (2 ^ 168 - 1 - 1036) 2 .ret (stH (und 4 ++ [.bool false] ++ und 163) []))] (hp := And.intro (And.intro (And.intro (And.intro (And.intro (And.intro (And.intro trivial (And.intro hb h1)) (And.intro hb h2)) (And.intro hb h3)) (And.intro hb h4)) (And.intro hb h5)) (And.intro hb h6)) (And.intro hb k1)) (h := by kernel_rfl)
  · rw [decide_eq_false hc] at h6
    rw [decide_eq_false (fun e => hc (by simp [e]))]
    exact pFun_ok [(3, .fact (2 ^ 168 - 1 - 12) 2 .normal (stH (und 2 ++ [.ptr 0 0 0, .ptr 1 0 0, .undef, .bool (decide (a.p = b.p ∧ a.t = b.t))] ++ und 162) (two (eKern a) (eKern b)))), (4, .fact (2 ^ 168 - 1 - 44) 2 .normal (stH (und 2 ++ [.ptr 0 0 0, .ptr 1 0 0, .undef, .bool (decide (a.p = b.p ∧ a.t = b.t)), .bool (decide (a.s = b.s ∧ a.pipes = b.pipes))] ++ und 161) (two (eKern a) (eKern b)))), (5, .fact (2 ^ 168 - 1 - 108) 2 .normal (stH (und 2 ++ [.ptr 0 0 0, .ptr 1 0 0, .undef, .bool (decide (a.p = b.p ∧ a.t = b.t)), .bool (decide (a.s = b.s ∧ a.pipes = b.pipes)), .bool (decide (a.h = b.h ∧ a.trace = b.trace))] ++ und 160) (two (eKern a) (eKern b)))), (6, .fact (2 ^ 168 - 1 - 236) 2 .normal (stH (und 2 ++ [.ptr 0 0 0, .ptr 1 0 0, .undef, .bool (decide (a.p = b.p ∧ a.t = b.t)), .bool (decide (a.s = b.s ∧ a.pipes = b.pipes)), .bool (decide (a.h = b.h ∧ a.trace = b.trace)), .bool (decide (a.sent = b.sent ∧ a.outs = b.outs))] ++ und 159) (two (eKern a) (eKern b)))), (7, .fact (2 ^ 168 - 1 - 492) 2 .normal (stH (und 2 ++ [.ptr 0 0 0, .ptr 1 0 0, .undef, .bool (decide (a.p = b.p ∧ a.t = b.t)), .bool (decide (a.s = b.s ∧ a.pipes = b.pipes)), .bool (decide (a.h = b.h ∧ a.trace = b.trace)), .bool (decide (a.sent = b.sent ∧ a.outs = b.outs)), .bool (decide (a.ins = b.ins))] ++ und 158) (two (eKern a) (eKern b)))), (8, .fact (2 ^ 168 - 1 - 1004) 2 .normal (stH (und 2 ++ [.ptr 0 0 0, .ptr 1 0 0] ++ und 125 ++ [.bool (!false)] ++ und 38) (two (eKern a) (eKern b))))] (hp := And.intro (And.intro (And.intro (And.intro (And.intro (And.intro trivial (And.intro hb h1)) (And.intro hb h2)) (And.intro hb h3)) (And.intro hb h4)) (And.intro hb h5)) (And.intro hb h6)) (h := by kernel_rfl)
end Go.Xa
