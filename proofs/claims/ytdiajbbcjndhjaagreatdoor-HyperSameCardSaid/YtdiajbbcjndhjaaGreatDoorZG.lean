/- Rows compared by the references. -/
import Derived.Test.YtdiajbbcjndhjaaGreatDoorZF
namespace Go.Xa
open Go.RowKit Go.Proofs

theorem f26_ok (a b : List (Proc)) (ha : a.length ≤ 9223372036854775807) : QC 26 [sl (eProc) a, sl (eProc) b] (.val (.bool (decide (a = b)))) := by
  by_cases hl : a.length = b.length
  · have h0 : (((a.map (eProc)).length : Int) != ((b.map (eProc)).length : Int)) = false := by simp [hl]
    have hloop := same_loop (n := 0) (c := at_ 26 [1, 1, 0, 1, 0, 0]) (S := fun i => stOf ([sl (eProc) a, sl (eProc) b] ++ und 3 ++ [.int .i64 (i : Int)] ++ und 20)) (eOut := .exit 0) (sOut := stOf (und 26)) (sNo := stOf (und 4 ++ [.bool false] ++ und 21)) a b hl (by simp)
      (by
        have h1 : decide (((a.length : Nat) : Int) < ((a.map (eProc)).length : Int)) = false := by simp
        exact pBody_ok (m := 2 ^ 26 - 1) (k := 0) [(4, .br false)] (hp := And.intro (And.intro trivial (congrArg D.bool h1)) trivial) (h := by kernel_rfl))
      (by
        intro i x hi hx hy
        have h1 : decide ((i : Int) < ((a.map (eProc)).length : Int)) = true := by simp [hi]
        have h2 := ix_sl (t := 22) (en := eProc) (k := .i64) (h := []) (c := false) (by kernel_rfl : elemOf 22 = some (151, 26)) hx rfl
        have h3 := ix_sl (t := 22) (en := eProc) (k := .i64) (h := []) (c := false) (by kernel_rfl : elemOf 22 = some (151, 26)) hy rfl
        have h4 : aBin wd.T .neq 151 (.agg (eProc x)) (.agg (eProc x)) = some (.bool false) := by rw [neq_Proc]; simp
        have h5 := pBody_ok (n := 0) (m := 2 ^ 26 - 1 - 35) (k := 0) (c := at_ 26 [1, 1, 0, 1, 0, 0]) (st := stOf ([sl (eProc) a, sl (eProc) b] ++ und 3 ++ [.int .i64 (i : Int)] ++ und 20)) (e := .normal) (st' := stOf ([sl (eProc) a, sl (eProc) b] ++ und 3 ++ [.int .i64 (IntKind.i64.wrap ((i : Int) + 1))] ++ und 20))
          [(4, .br true), (7, .val (.pptr (eProc x))), (11, .val (.pptr (eProc x))), (13, .val (.bool false))]
          (hp := And.intro (And.intro (And.intro (And.intro (And.intro trivial (congrArg D.bool h1)) h2) h3) h4) trivial) (h := by kernel_rfl)
        rw [wrap_succ hi ha] at h5
        exact h5)
      (by
        intro i x y hi hx hy hne
        have h1 : decide ((i : Int) < ((a.map (eProc)).length : Int)) = true := by simp [hi]
        have h2 := ix_sl (t := 22) (en := eProc) (k := .i64) (h := []) (c := false) (by kernel_rfl : elemOf 22 = some (151, 26)) hx rfl
        have h3 := ix_sl (t := 22) (en := eProc) (k := .i64) (h := []) (c := false) (by kernel_rfl : elemOf 22 = some (151, 26)) hy rfl
        have h4 : aBin wd.T .neq 151 (.agg (eProc x)) (.agg (eProc y)) = some (.bool true) := by rw [neq_Proc]; simp [hne]
        exact pBody_ok (m := 2 ^ 26 - 1 - 16) (k := 0) [(4, .br true), (7, .val (.pptr (eProc x))), (11, .val (.pptr (eProc y))), (13, .val (.bool true))]
          (hp := And.intro (And.intro (And.intro (And.intro (And.intro trivial (congrArg D.bool h1)) h2) h3) h4) trivial) (h := by kernel_rfl))
    by_cases hab : a = b
    · rw [if_pos hab, if_pos hab] at hloop
      rw [decide_eq_true hab]
      exact pFun_ok [(6, .br false), (8, .fact (2 ^ 26 - 1 - 35) 0 (.exit 0) (stOf (und 26)))] (hp := And.intro (And.intro trivial (congrArg D.bool h0)) (And.intro trivial hloop)) (h := by kernel_rfl)
    · rw [if_neg hab, if_neg hab] at hloop
      rw [decide_eq_false hab]
      exact pFun_ok [(6, .br false), (8, .fact (2 ^ 26 - 1 - 35) 0 .ret (stOf (und 4 ++ [.bool false] ++ und 21)))] (hp := And.intro (And.intro trivial (congrArg D.bool h0)) (And.intro trivial hloop)) (h := by kernel_rfl)
  · have h0 : (((a.map (eProc)).length : Int) != ((b.map (eProc)).length : Int)) = true := by simp; omega
    rw [decide_eq_false (fun e => hl (by rw [e]))]
    exact pFun_ok [(6, .br true)] (hp := And.intro trivial (congrArg D.bool h0)) (h := by kernel_rfl)

theorem f28_ok (a b : List (Alarm)) (ha : a.length ≤ 9223372036854775807) : QC 28 [sl (eAlarm) a, sl (eAlarm) b] (.val (.bool (decide (a = b)))) := by
  by_cases hl : a.length = b.length
  · have h0 : (((a.map (eAlarm)).length : Int) != ((b.map (eAlarm)).length : Int)) = false := by simp [hl]
    have hloop := same_loop (n := 0) (c := at_ 28 [1, 1, 0, 1, 0, 0]) (S := fun i => stOf ([sl (eAlarm) a, sl (eAlarm) b] ++ und 3 ++ [.int .i64 (i : Int)] ++ und 20)) (eOut := .exit 0) (sOut := stOf (und 26)) (sNo := stOf (und 4 ++ [.bool false] ++ und 21)) a b hl (by simp)
      (by
        have h1 : decide (((a.length : Nat) : Int) < ((a.map (eAlarm)).length : Int)) = false := by simp
        exact pBody_ok (m := 2 ^ 26 - 1) (k := 0) [(4, .br false)] (hp := And.intro (And.intro trivial (congrArg D.bool h1)) trivial) (h := by kernel_rfl))
      (by
        intro i x hi hx hy
        have h1 : decide ((i : Int) < ((a.map (eAlarm)).length : Int)) = true := by simp [hi]
        have h2 := ix_sl (t := 26) (en := eAlarm) (k := .i64) (h := []) (c := false) (by kernel_rfl : elemOf 26 = some (86, 2)) hx rfl
        have h3 := ix_sl (t := 26) (en := eAlarm) (k := .i64) (h := []) (c := false) (by kernel_rfl : elemOf 26 = some (86, 2)) hy rfl
        have h4 : aBin wd.T .neq 86 (.agg (eAlarm x)) (.agg (eAlarm x)) = some (.bool false) := by rw [neq_Alarm]; simp
        have h5 := pBody_ok (n := 0) (m := 2 ^ 26 - 1 - 35) (k := 0) (c := at_ 28 [1, 1, 0, 1, 0, 0]) (st := stOf ([sl (eAlarm) a, sl (eAlarm) b] ++ und 3 ++ [.int .i64 (i : Int)] ++ und 20)) (e := .normal) (st' := stOf ([sl (eAlarm) a, sl (eAlarm) b] ++ und 3 ++ [.int .i64 (IntKind.i64.wrap ((i : Int) + 1))] ++ und 20))
          [(4, .br true), (7, .val (.pptr (eAlarm x))), (11, .val (.pptr (eAlarm x))), (13, .val (.bool false))]
          (hp := And.intro (And.intro (And.intro (And.intro (And.intro trivial (congrArg D.bool h1)) h2) h3) h4) trivial) (h := by kernel_rfl)
        rw [wrap_succ hi ha] at h5
        exact h5)
      (by
        intro i x y hi hx hy hne
        have h1 : decide ((i : Int) < ((a.map (eAlarm)).length : Int)) = true := by simp [hi]
        have h2 := ix_sl (t := 26) (en := eAlarm) (k := .i64) (h := []) (c := false) (by kernel_rfl : elemOf 26 = some (86, 2)) hx rfl
        have h3 := ix_sl (t := 26) (en := eAlarm) (k := .i64) (h := []) (c := false) (by kernel_rfl : elemOf 26 = some (86, 2)) hy rfl
        have h4 : aBin wd.T .neq 86 (.agg (eAlarm x)) (.agg (eAlarm y)) = some (.bool true) := by rw [neq_Alarm]; simp [hne]
        exact pBody_ok (m := 2 ^ 26 - 1 - 16) (k := 0) [(4, .br true), (7, .val (.pptr (eAlarm x))), (11, .val (.pptr (eAlarm y))), (13, .val (.bool true))]
          (hp := And.intro (And.intro (And.intro (And.intro (And.intro trivial (congrArg D.bool h1)) h2) h3) h4) trivial) (h := by kernel_rfl))
    by_cases hab : a = b
    · rw [if_pos hab, if_pos hab] at hloop
      rw [decide_eq_true hab]
      exact pFun_ok [(6, .br false), (8, .fact (2 ^ 26 - 1 - 35) 0 (.exit 0) (stOf (und 26)))] (hp := And.intro (And.intro trivial (congrArg D.bool h0)) (And.intro trivial hloop)) (h := by kernel_rfl)
    · rw [if_neg hab, if_neg hab] at hloop
      rw [decide_eq_false hab]
      exact pFun_ok [(6, .br false), (8, .fact (2 ^ 26 - 1 - 35) 0 .ret (stOf (und 4 ++ [.bool false] ++ und 21)))] (hp := And.intro (And.intro trivial (congrArg D.bool h0)) (And.intro trivial hloop)) (h := by kernel_rfl)
  · have h0 : (((a.map (eAlarm)).length : Int) != ((b.map (eAlarm)).length : Int)) = true := by simp; omega
    rw [decide_eq_false (fun e => hl (by rw [e]))]
    exact pFun_ok [(6, .br true)] (hp := And.intro trivial (congrArg D.bool h0)) (h := by kernel_rfl)

theorem f29_ok (a b : List (Pipe)) (ha : a.length ≤ 9223372036854775807) : QC 29 [sl (ePipe) a, sl (ePipe) b] (.val (.bool (decide (a = b)))) := by
  by_cases hl : a.length = b.length
  · have h0 : (((a.map (ePipe)).length : Int) != ((b.map (ePipe)).length : Int)) = false := by simp [hl]
    have hloop := same_loop (n := 0) (c := at_ 29 [1, 1, 0, 1, 0, 0]) (S := fun i => stOf ([sl (ePipe) a, sl (ePipe) b] ++ und 3 ++ [.int .i64 (i : Int)] ++ und 20)) (eOut := .exit 0) (sOut := stOf (und 26)) (sNo := stOf (und 4 ++ [.bool false] ++ und 21)) a b hl (by simp)
      (by
        have h1 : decide (((a.length : Nat) : Int) < ((a.map (ePipe)).length : Int)) = false := by simp
        exact pBody_ok (m := 2 ^ 26 - 1) (k := 0) [(4, .br false)] (hp := And.intro (And.intro trivial (congrArg D.bool h1)) trivial) (h := by kernel_rfl))
      (by
        intro i x hi hx hy
        have h1 : decide ((i : Int) < ((a.map (ePipe)).length : Int)) = true := by simp [hi]
        have h2 := ix_sl (t := 27) (en := ePipe) (k := .i64) (h := []) (c := false) (by kernel_rfl : elemOf 27 = some (88, 3)) hx rfl
        have h3 := ix_sl (t := 27) (en := ePipe) (k := .i64) (h := []) (c := false) (by kernel_rfl : elemOf 27 = some (88, 3)) hy rfl
        have h4 : aBin wd.T .neq 88 (.agg (ePipe x)) (.agg (ePipe x)) = some (.bool false) := by rw [neq_Pipe]; simp
        have h5 := pBody_ok (n := 0) (m := 2 ^ 26 - 1 - 35) (k := 0) (c := at_ 29 [1, 1, 0, 1, 0, 0]) (st := stOf ([sl (ePipe) a, sl (ePipe) b] ++ und 3 ++ [.int .i64 (i : Int)] ++ und 20)) (e := .normal) (st' := stOf ([sl (ePipe) a, sl (ePipe) b] ++ und 3 ++ [.int .i64 (IntKind.i64.wrap ((i : Int) + 1))] ++ und 20))
          [(4, .br true), (7, .val (.pptr (ePipe x))), (11, .val (.pptr (ePipe x))), (13, .val (.bool false))]
          (hp := And.intro (And.intro (And.intro (And.intro (And.intro trivial (congrArg D.bool h1)) h2) h3) h4) trivial) (h := by kernel_rfl)
        rw [wrap_succ hi ha] at h5
        exact h5)
      (by
        intro i x y hi hx hy hne
        have h1 : decide ((i : Int) < ((a.map (ePipe)).length : Int)) = true := by simp [hi]
        have h2 := ix_sl (t := 27) (en := ePipe) (k := .i64) (h := []) (c := false) (by kernel_rfl : elemOf 27 = some (88, 3)) hx rfl
        have h3 := ix_sl (t := 27) (en := ePipe) (k := .i64) (h := []) (c := false) (by kernel_rfl : elemOf 27 = some (88, 3)) hy rfl
        have h4 : aBin wd.T .neq 88 (.agg (ePipe x)) (.agg (ePipe y)) = some (.bool true) := by rw [neq_Pipe]; simp [hne]
        exact pBody_ok (m := 2 ^ 26 - 1 - 16) (k := 0) [(4, .br true), (7, .val (.pptr (ePipe x))), (11, .val (.pptr (ePipe y))), (13, .val (.bool true))]
          (hp := And.intro (And.intro (And.intro (And.intro (And.intro trivial (congrArg D.bool h1)) h2) h3) h4) trivial) (h := by kernel_rfl))
    by_cases hab : a = b
    · rw [if_pos hab, if_pos hab] at hloop
      rw [decide_eq_true hab]
      exact pFun_ok [(6, .br false), (8, .fact (2 ^ 26 - 1 - 35) 0 (.exit 0) (stOf (und 26)))] (hp := And.intro (And.intro trivial (congrArg D.bool h0)) (And.intro trivial hloop)) (h := by kernel_rfl)
    · rw [if_neg hab, if_neg hab] at hloop
      rw [decide_eq_false hab]
      exact pFun_ok [(6, .br false), (8, .fact (2 ^ 26 - 1 - 35) 0 .ret (stOf (und 4 ++ [.bool false] ++ und 21)))] (hp := And.intro (And.intro trivial (congrArg D.bool h0)) (And.intro trivial hloop)) (h := by kernel_rfl)
  · have h0 : (((a.map (ePipe)).length : Int) != ((b.map (ePipe)).length : Int)) = true := by simp; omega
    rw [decide_eq_false (fun e => hl (by rw [e]))]
    exact pFun_ok [(6, .br true)] (hp := And.intro trivial (congrArg D.bool h0)) (h := by kernel_rfl)

theorem f31_ok (a b : List (Event)) (ha : a.length ≤ 9223372036854775807) : QC 31 [sl (eEvent) a, sl (eEvent) b] (.val (.bool (decide (a = b)))) := by
  by_cases hl : a.length = b.length
  · have h0 : (((a.map (eEvent)).length : Int) != ((b.map (eEvent)).length : Int)) = false := by simp [hl]
    have hloop := same_loop (n := 0) (c := at_ 31 [1, 1, 0, 1, 0, 0]) (S := fun i => stOf ([sl (eEvent) a, sl (eEvent) b] ++ und 3 ++ [.int .i64 (i : Int)] ++ und 20)) (eOut := .exit 0) (sOut := stOf (und 26)) (sNo := stOf (und 4 ++ [.bool false] ++ und 21)) a b hl (by simp)
      (by
        have h1 : decide (((a.length : Nat) : Int) < ((a.map (eEvent)).length : Int)) = false := by simp
        exact pBody_ok (m := 2 ^ 26 - 1) (k := 0) [(4, .br false)] (hp := And.intro (And.intro trivial (congrArg D.bool h1)) trivial) (h := by kernel_rfl))
      (by
        intro i x hi hx hy
        have h1 : decide ((i : Int) < ((a.map (eEvent)).length : Int)) = true := by simp [hi]
        have h2 := ix_sl (t := 35) (en := eEvent) (k := .i64) (h := []) (c := false) (by kernel_rfl : elemOf 35 = some (72, 4)) hx rfl
        have h3 := ix_sl (t := 35) (en := eEvent) (k := .i64) (h := []) (c := false) (by kernel_rfl : elemOf 35 = some (72, 4)) hy rfl
        have h4 : aBin wd.T .neq 72 (.agg (eEvent x)) (.agg (eEvent x)) = some (.bool false) := by rw [neq_Event]; simp
        have h5 := pBody_ok (n := 0) (m := 2 ^ 26 - 1 - 35) (k := 0) (c := at_ 31 [1, 1, 0, 1, 0, 0]) (st := stOf ([sl (eEvent) a, sl (eEvent) b] ++ und 3 ++ [.int .i64 (i : Int)] ++ und 20)) (e := .normal) (st' := stOf ([sl (eEvent) a, sl (eEvent) b] ++ und 3 ++ [.int .i64 (IntKind.i64.wrap ((i : Int) + 1))] ++ und 20))
          [(4, .br true), (7, .val (.pptr (eEvent x))), (11, .val (.pptr (eEvent x))), (13, .val (.bool false))]
          (hp := And.intro (And.intro (And.intro (And.intro (And.intro trivial (congrArg D.bool h1)) h2) h3) h4) trivial) (h := by kernel_rfl)
        rw [wrap_succ hi ha] at h5
        exact h5)
      (by
        intro i x y hi hx hy hne
        have h1 : decide ((i : Int) < ((a.map (eEvent)).length : Int)) = true := by simp [hi]
        have h2 := ix_sl (t := 35) (en := eEvent) (k := .i64) (h := []) (c := false) (by kernel_rfl : elemOf 35 = some (72, 4)) hx rfl
        have h3 := ix_sl (t := 35) (en := eEvent) (k := .i64) (h := []) (c := false) (by kernel_rfl : elemOf 35 = some (72, 4)) hy rfl
        have h4 : aBin wd.T .neq 72 (.agg (eEvent x)) (.agg (eEvent y)) = some (.bool true) := by rw [neq_Event]; simp [hne]
        exact pBody_ok (m := 2 ^ 26 - 1 - 16) (k := 0) [(4, .br true), (7, .val (.pptr (eEvent x))), (11, .val (.pptr (eEvent y))), (13, .val (.bool true))]
          (hp := And.intro (And.intro (And.intro (And.intro (And.intro trivial (congrArg D.bool h1)) h2) h3) h4) trivial) (h := by kernel_rfl))
    by_cases hab : a = b
    · rw [if_pos hab, if_pos hab] at hloop
      rw [decide_eq_true hab]
      exact pFun_ok [(6, .br false), (8, .fact (2 ^ 26 - 1 - 35) 0 (.exit 0) (stOf (und 26)))] (hp := And.intro (And.intro trivial (congrArg D.bool h0)) (And.intro trivial hloop)) (h := by kernel_rfl)
    · rw [if_neg hab, if_neg hab] at hloop
      rw [decide_eq_false hab]
      exact pFun_ok [(6, .br false), (8, .fact (2 ^ 26 - 1 - 35) 0 .ret (stOf (und 4 ++ [.bool false] ++ und 21)))] (hp := And.intro (And.intro trivial (congrArg D.bool h0)) (And.intro trivial hloop)) (h := by kernel_rfl)
  · have h0 : (((a.map (eEvent)).length : Int) != ((b.map (eEvent)).length : Int)) = true := by simp; omega
    rw [decide_eq_false (fun e => hl (by rw [e]))]
    exact pFun_ok [(6, .br true)] (hp := And.intro trivial (congrArg D.bool h0)) (h := by kernel_rfl)

theorem f32_ok (a b : List (Out)) (ha : a.length ≤ 9223372036854775807) : QC 32 [sl (eOut) a, sl (eOut) b] (.val (.bool (decide (a = b)))) := by
  by_cases hl : a.length = b.length
  · have h0 : (((a.map (eOut)).length : Int) != ((b.map (eOut)).length : Int)) = false := by simp [hl]
    have hloop := same_loop (n := 0) (c := at_ 32 [1, 1, 0, 1, 0, 0]) (S := fun i => stOf ([sl (eOut) a, sl (eOut) b] ++ und 3 ++ [.int .i64 (i : Int)] ++ und 20)) (eOut := .exit 0) (sOut := stOf (und 26)) (sNo := stOf (und 4 ++ [.bool false] ++ und 21)) a b hl (by simp)
      (by
        have h1 : decide (((a.length : Nat) : Int) < ((a.map (eOut)).length : Int)) = false := by simp
        exact pBody_ok (m := 2 ^ 26 - 1) (k := 0) [(4, .br false)] (hp := And.intro (And.intro trivial (congrArg D.bool h1)) trivial) (h := by kernel_rfl))
      (by
        intro i x hi hx hy
        have h1 : decide ((i : Int) < ((a.map (eOut)).length : Int)) = true := by simp [hi]
        have h2 := ix_sl (t := 36) (en := eOut) (k := .i64) (h := []) (c := false) (by kernel_rfl : elemOf 36 = some (97, 2)) hx rfl
        have h3 := ix_sl (t := 36) (en := eOut) (k := .i64) (h := []) (c := false) (by kernel_rfl : elemOf 36 = some (97, 2)) hy rfl
        have h4 : aBin wd.T .neq 97 (.agg (eOut x)) (.agg (eOut x)) = some (.bool false) := by rw [neq_Out]; simp
        have h5 := pBody_ok (n := 0) (m := 2 ^ 26 - 1 - 35) (k := 0) (c := at_ 32 [1, 1, 0, 1, 0, 0]) (st := stOf ([sl (eOut) a, sl (eOut) b] ++ und 3 ++ [.int .i64 (i : Int)] ++ und 20)) (e := .normal) (st' := stOf ([sl (eOut) a, sl (eOut) b] ++ und 3 ++ [.int .i64 (IntKind.i64.wrap ((i : Int) + 1))] ++ und 20))
          [(4, .br true), (7, .val (.pptr (eOut x))), (11, .val (.pptr (eOut x))), (13, .val (.bool false))]
          (hp := And.intro (And.intro (And.intro (And.intro (And.intro trivial (congrArg D.bool h1)) h2) h3) h4) trivial) (h := by kernel_rfl)
        rw [wrap_succ hi ha] at h5
        exact h5)
      (by
        intro i x y hi hx hy hne
        have h1 : decide ((i : Int) < ((a.map (eOut)).length : Int)) = true := by simp [hi]
        have h2 := ix_sl (t := 36) (en := eOut) (k := .i64) (h := []) (c := false) (by kernel_rfl : elemOf 36 = some (97, 2)) hx rfl
        have h3 := ix_sl (t := 36) (en := eOut) (k := .i64) (h := []) (c := false) (by kernel_rfl : elemOf 36 = some (97, 2)) hy rfl
        have h4 : aBin wd.T .neq 97 (.agg (eOut x)) (.agg (eOut y)) = some (.bool true) := by rw [neq_Out]; simp [hne]
        exact pBody_ok (m := 2 ^ 26 - 1 - 16) (k := 0) [(4, .br true), (7, .val (.pptr (eOut x))), (11, .val (.pptr (eOut y))), (13, .val (.bool true))]
          (hp := And.intro (And.intro (And.intro (And.intro (And.intro trivial (congrArg D.bool h1)) h2) h3) h4) trivial) (h := by kernel_rfl))
    by_cases hab : a = b
    · rw [if_pos hab, if_pos hab] at hloop
      rw [decide_eq_true hab]
      exact pFun_ok [(6, .br false), (8, .fact (2 ^ 26 - 1 - 35) 0 (.exit 0) (stOf (und 26)))] (hp := And.intro (And.intro trivial (congrArg D.bool h0)) (And.intro trivial hloop)) (h := by kernel_rfl)
    · rw [if_neg hab, if_neg hab] at hloop
      rw [decide_eq_false hab]
      exact pFun_ok [(6, .br false), (8, .fact (2 ^ 26 - 1 - 35) 0 .ret (stOf (und 4 ++ [.bool false] ++ und 21)))] (hp := And.intro (And.intro trivial (congrArg D.bool h0)) (And.intro trivial hloop)) (h := by kernel_rfl)
  · have h0 : (((a.map (eOut)).length : Int) != ((b.map (eOut)).length : Int)) = true := by simp; omega
    rw [decide_eq_false (fun e => hl (by rw [e]))]
    exact pFun_ok [(6, .br true)] (hp := And.intro trivial (congrArg D.bool h0)) (h := by kernel_rfl)

theorem f33_ok (a b : List (Chan)) (ha : a.length ≤ 9223372036854775807) : QC 33 [sl (eChan) a, sl (eChan) b] (.val (.bool (decide (a = b)))) := by
  by_cases hl : a.length = b.length
  · have h0 : (((a.map (eChan)).length : Int) != ((b.map (eChan)).length : Int)) = false := by simp [hl]
    have hloop := same_loop (n := 0) (c := at_ 33 [1, 1, 0, 1, 0, 0]) (S := fun i => stOf ([sl (eChan) a, sl (eChan) b] ++ und 3 ++ [.int .i64 (i : Int)] ++ und 20)) (eOut := .exit 0) (sOut := stOf (und 26)) (sNo := stOf (und 4 ++ [.bool false] ++ und 21)) a b hl (by simp)
      (by
        have h1 : decide (((a.length : Nat) : Int) < ((a.map (eChan)).length : Int)) = false := by simp
        exact pBody_ok (m := 2 ^ 26 - 1) (k := 0) [(4, .br false)] (hp := And.intro (And.intro trivial (congrArg D.bool h1)) trivial) (h := by kernel_rfl))
      (by
        intro i x hi hx hy
        have h1 : decide ((i : Int) < ((a.map (eChan)).length : Int)) = true := by simp [hi]
        have h2 := ix_sl (t := 33) (en := eChan) (k := .i64) (h := []) (c := false) (by kernel_rfl : elemOf 33 = some (94, 5)) hx rfl
        have h3 := ix_sl (t := 33) (en := eChan) (k := .i64) (h := []) (c := false) (by kernel_rfl : elemOf 33 = some (94, 5)) hy rfl
        have h4 : aBin wd.T .neq 94 (.agg (eChan x)) (.agg (eChan x)) = some (.bool false) := by rw [neq_Chan]; simp
        have h5 := pBody_ok (n := 0) (m := 2 ^ 26 - 1 - 35) (k := 0) (c := at_ 33 [1, 1, 0, 1, 0, 0]) (st := stOf ([sl (eChan) a, sl (eChan) b] ++ und 3 ++ [.int .i64 (i : Int)] ++ und 20)) (e := .normal) (st' := stOf ([sl (eChan) a, sl (eChan) b] ++ und 3 ++ [.int .i64 (IntKind.i64.wrap ((i : Int) + 1))] ++ und 20))
          [(4, .br true), (7, .val (.pptr (eChan x))), (11, .val (.pptr (eChan x))), (13, .val (.bool false))]
          (hp := And.intro (And.intro (And.intro (And.intro (And.intro trivial (congrArg D.bool h1)) h2) h3) h4) trivial) (h := by kernel_rfl)
        rw [wrap_succ hi ha] at h5
        exact h5)
      (by
        intro i x y hi hx hy hne
        have h1 : decide ((i : Int) < ((a.map (eChan)).length : Int)) = true := by simp [hi]
        have h2 := ix_sl (t := 33) (en := eChan) (k := .i64) (h := []) (c := false) (by kernel_rfl : elemOf 33 = some (94, 5)) hx rfl
        have h3 := ix_sl (t := 33) (en := eChan) (k := .i64) (h := []) (c := false) (by kernel_rfl : elemOf 33 = some (94, 5)) hy rfl
        have h4 : aBin wd.T .neq 94 (.agg (eChan x)) (.agg (eChan y)) = some (.bool true) := by rw [neq_Chan]; simp [hne]
        exact pBody_ok (m := 2 ^ 26 - 1 - 16) (k := 0) [(4, .br true), (7, .val (.pptr (eChan x))), (11, .val (.pptr (eChan y))), (13, .val (.bool true))]
          (hp := And.intro (And.intro (And.intro (And.intro (And.intro trivial (congrArg D.bool h1)) h2) h3) h4) trivial) (h := by kernel_rfl))
    by_cases hab : a = b
    · rw [if_pos hab, if_pos hab] at hloop
      rw [decide_eq_true hab]
      exact pFun_ok [(6, .br false), (8, .fact (2 ^ 26 - 1 - 35) 0 (.exit 0) (stOf (und 26)))] (hp := And.intro (And.intro trivial (congrArg D.bool h0)) (And.intro trivial hloop)) (h := by kernel_rfl)
    · rw [if_neg hab, if_neg hab] at hloop
      rw [decide_eq_false hab]
      exact pFun_ok [(6, .br false), (8, .fact (2 ^ 26 - 1 - 35) 0 .ret (stOf (und 4 ++ [.bool false] ++ und 21)))] (hp := And.intro (And.intro trivial (congrArg D.bool h0)) (And.intro trivial hloop)) (h := by kernel_rfl)
  · have h0 : (((a.map (eChan)).length : Int) != ((b.map (eChan)).length : Int)) = true := by simp; omega
    rw [decide_eq_false (fun e => hl (by rw [e]))]
    exact pFun_ok [(6, .br true)] (hp := And.intro trivial (congrArg D.bool h0)) (h := by kernel_rfl)

theorem f57_ok (a b : List (Str)) (ha : a.length ≤ 9223372036854775807) : QC 57 [sl (eStr) a, sl (eStr) b] (.val (.bool (decide (a = b)))) := by
  by_cases hl : a.length = b.length
  · have h0 : (((a.map (eStr)).length : Int) != ((b.map (eStr)).length : Int)) = false := by simp [hl]
    have hloop := same_loop (n := 0) (c := at_ 57 [1, 1, 0, 1, 0, 0]) (S := fun i => stOf ([sl (eStr) a, sl (eStr) b] ++ und 3 ++ [.int .i64 (i : Int)] ++ und 20)) (eOut := .exit 0) (sOut := stOf (und 26)) (sNo := stOf (und 4 ++ [.bool false] ++ und 21)) a b hl (by simp)
      (by
        have h1 : decide (((a.length : Nat) : Int) < ((a.map (eStr)).length : Int)) = false := by simp
        exact pBody_ok (m := 2 ^ 26 - 1) (k := 0) [(4, .br false)] (hp := And.intro (And.intro trivial (congrArg D.bool h1)) trivial) (h := by kernel_rfl))
      (by
        intro i x hi hx hy
        have h1 : decide ((i : Int) < ((a.map (eStr)).length : Int)) = true := by simp [hi]
        have h2 := ix_sl (t := 32) (en := eStr) (k := .i64) (h := []) (c := false) (by kernel_rfl : elemOf 32 = some (9, 1)) hx rfl
        have h3 := ix_sl (t := 32) (en := eStr) (k := .i64) (h := []) (c := false) (by kernel_rfl : elemOf 32 = some (9, 1)) hy rfl
        have h4 : aBin wd.T .neq 9 (.str x) (.str x) = some (.bool false) := by simp [aBin, aIntOp]
        have h5 := pBody_ok (n := 0) (m := 2 ^ 26 - 1 - 35) (k := 0) (c := at_ 57 [1, 1, 0, 1, 0, 0]) (st := stOf ([sl (eStr) a, sl (eStr) b] ++ und 3 ++ [.int .i64 (i : Int)] ++ und 20)) (e := .normal) (st' := stOf ([sl (eStr) a, sl (eStr) b] ++ und 3 ++ [.int .i64 (IntKind.i64.wrap ((i : Int) + 1))] ++ und 20))
          [(4, .br true), (7, .val (.pptr (eStr x))), (11, .val (.pptr (eStr x))), (13, .val (.bool false))]
          (hp := And.intro (And.intro (And.intro (And.intro (And.intro trivial (congrArg D.bool h1)) h2) h3) h4) trivial) (h := by kernel_rfl)
        rw [wrap_succ hi ha] at h5
        exact h5)
      (by
        intro i x y hi hx hy hne
        have h1 : decide ((i : Int) < ((a.map (eStr)).length : Int)) = true := by simp [hi]
        have h2 := ix_sl (t := 32) (en := eStr) (k := .i64) (h := []) (c := false) (by kernel_rfl : elemOf 32 = some (9, 1)) hx rfl
        have h3 := ix_sl (t := 32) (en := eStr) (k := .i64) (h := []) (c := false) (by kernel_rfl : elemOf 32 = some (9, 1)) hy rfl
        have h4 : aBin wd.T .neq 9 (.str x) (.str y) = some (.bool true) := by simp [aBin, aIntOp, hne]
        exact pBody_ok (m := 2 ^ 26 - 1 - 16) (k := 0) [(4, .br true), (7, .val (.pptr (eStr x))), (11, .val (.pptr (eStr y))), (13, .val (.bool true))]
          (hp := And.intro (And.intro (And.intro (And.intro (And.intro trivial (congrArg D.bool h1)) h2) h3) h4) trivial) (h := by kernel_rfl))
    by_cases hab : a = b
    · rw [if_pos hab, if_pos hab] at hloop
      rw [decide_eq_true hab]
      exact pFun_ok [(6, .br false), (8, .fact (2 ^ 26 - 1 - 35) 0 (.exit 0) (stOf (und 26)))] (hp := And.intro (And.intro trivial (congrArg D.bool h0)) (And.intro trivial hloop)) (h := by kernel_rfl)
    · rw [if_neg hab, if_neg hab] at hloop
      rw [decide_eq_false hab]
      exact pFun_ok [(6, .br false), (8, .fact (2 ^ 26 - 1 - 35) 0 .ret (stOf (und 4 ++ [.bool false] ++ und 21)))] (hp := And.intro (And.intro trivial (congrArg D.bool h0)) (And.intro trivial hloop)) (h := by kernel_rfl)
  · have h0 : (((a.map (eStr)).length : Int) != ((b.map (eStr)).length : Int)) = true := by simp; omega
    rw [decide_eq_false (fun e => hl (by rw [e]))]
    exact pFun_ok [(6, .br true)] (hp := And.intro trivial (congrArg D.bool h0)) (h := by kernel_rfl)

theorem f58_ok (a b : List (Stamp)) (ha : a.length ≤ 9223372036854775807) : QC 58 [sl (eStamp) a, sl (eStamp) b] (.val (.bool (decide (a = b)))) := by
  by_cases hl : a.length = b.length
  · have h0 : (((a.map (eStamp)).length : Int) != ((b.map (eStamp)).length : Int)) = false := by simp [hl]
    have hloop := same_loop (n := 0) (c := at_ 58 [1, 1, 0, 1, 0, 0]) (S := fun i => stOf ([sl (eStamp) a, sl (eStamp) b] ++ und 3 ++ [.int .i64 (i : Int)] ++ und 20)) (eOut := .exit 0) (sOut := stOf (und 26)) (sNo := stOf (und 4 ++ [.bool false] ++ und 21)) a b hl (by simp)
      (by
        have h1 : decide (((a.length : Nat) : Int) < ((a.map (eStamp)).length : Int)) = false := by simp
        exact pBody_ok (m := 2 ^ 26 - 1) (k := 0) [(4, .br false)] (hp := And.intro (And.intro trivial (congrArg D.bool h1)) trivial) (h := by kernel_rfl))
      (by
        intro i x hi hx hy
        have h1 : decide ((i : Int) < ((a.map (eStamp)).length : Int)) = true := by simp [hi]
        have h2 := ix_sl (t := 112) (en := eStamp) (k := .i64) (h := []) (c := false) (by kernel_rfl : elemOf 112 = some (125, 3)) hx rfl
        have h3 := ix_sl (t := 112) (en := eStamp) (k := .i64) (h := []) (c := false) (by kernel_rfl : elemOf 112 = some (125, 3)) hy rfl
        have h4 : aBin wd.T .neq 125 (.agg (eStamp x)) (.agg (eStamp x)) = some (.bool false) := by rw [neq_Stamp]; simp
        have h5 := pBody_ok (n := 0) (m := 2 ^ 26 - 1 - 35) (k := 0) (c := at_ 58 [1, 1, 0, 1, 0, 0]) (st := stOf ([sl (eStamp) a, sl (eStamp) b] ++ und 3 ++ [.int .i64 (i : Int)] ++ und 20)) (e := .normal) (st' := stOf ([sl (eStamp) a, sl (eStamp) b] ++ und 3 ++ [.int .i64 (IntKind.i64.wrap ((i : Int) + 1))] ++ und 20))
          [(4, .br true), (7, .val (.pptr (eStamp x))), (11, .val (.pptr (eStamp x))), (13, .val (.bool false))]
          (hp := And.intro (And.intro (And.intro (And.intro (And.intro trivial (congrArg D.bool h1)) h2) h3) h4) trivial) (h := by kernel_rfl)
        rw [wrap_succ hi ha] at h5
        exact h5)
      (by
        intro i x y hi hx hy hne
        have h1 : decide ((i : Int) < ((a.map (eStamp)).length : Int)) = true := by simp [hi]
        have h2 := ix_sl (t := 112) (en := eStamp) (k := .i64) (h := []) (c := false) (by kernel_rfl : elemOf 112 = some (125, 3)) hx rfl
        have h3 := ix_sl (t := 112) (en := eStamp) (k := .i64) (h := []) (c := false) (by kernel_rfl : elemOf 112 = some (125, 3)) hy rfl
        have h4 : aBin wd.T .neq 125 (.agg (eStamp x)) (.agg (eStamp y)) = some (.bool true) := by rw [neq_Stamp]; simp [hne]
        exact pBody_ok (m := 2 ^ 26 - 1 - 16) (k := 0) [(4, .br true), (7, .val (.pptr (eStamp x))), (11, .val (.pptr (eStamp y))), (13, .val (.bool true))]
          (hp := And.intro (And.intro (And.intro (And.intro (And.intro trivial (congrArg D.bool h1)) h2) h3) h4) trivial) (h := by kernel_rfl))
    by_cases hab : a = b
    · rw [if_pos hab, if_pos hab] at hloop
      rw [decide_eq_true hab]
      exact pFun_ok [(6, .br false), (8, .fact (2 ^ 26 - 1 - 35) 0 (.exit 0) (stOf (und 26)))] (hp := And.intro (And.intro trivial (congrArg D.bool h0)) (And.intro trivial hloop)) (h := by kernel_rfl)
    · rw [if_neg hab, if_neg hab] at hloop
      rw [decide_eq_false hab]
      exact pFun_ok [(6, .br false), (8, .fact (2 ^ 26 - 1 - 35) 0 .ret (stOf (und 4 ++ [.bool false] ++ und 21)))] (hp := And.intro (And.intro trivial (congrArg D.bool h0)) (And.intro trivial hloop)) (h := by kernel_rfl)
  · have h0 : (((a.map (eStamp)).length : Int) != ((b.map (eStamp)).length : Int)) = true := by simp; omega
    rw [decide_eq_false (fun e => hl (by rw [e]))]
    exact pFun_ok [(6, .br true)] (hp := And.intro trivial (congrArg D.bool h0)) (h := by kernel_rfl)

theorem f89_ok (a b : List (Span)) (ha : a.length ≤ 9223372036854775807) : QC 89 [sl (eSpan) a, sl (eSpan) b] (.val (.bool (decide (a = b)))) := by
  by_cases hl : a.length = b.length
  · have h0 : (((a.map (eSpan)).length : Int) != ((b.map (eSpan)).length : Int)) = false := by simp [hl]
    have hloop := same_loop (n := 0) (c := at_ 89 [1, 1, 0, 1, 0, 0]) (S := fun i => stOf ([sl (eSpan) a, sl (eSpan) b] ++ und 3 ++ [.int .i64 (i : Int)] ++ und 20)) (eOut := .exit 0) (sOut := stOf (und 26)) (sNo := stOf (und 4 ++ [.bool false] ++ und 21)) a b hl (by simp)
      (by
        have h1 : decide (((a.length : Nat) : Int) < ((a.map (eSpan)).length : Int)) = false := by simp
        exact pBody_ok (m := 2 ^ 26 - 1) (k := 0) [(4, .br false)] (hp := And.intro (And.intro trivial (congrArg D.bool h1)) trivial) (h := by kernel_rfl))
      (by
        intro i x hi hx hy
        have h1 : decide ((i : Int) < ((a.map (eSpan)).length : Int)) = true := by simp [hi]
        have h2 := ix_sl (t := 28) (en := eSpan) (k := .i64) (h := []) (c := false) (by kernel_rfl : elemOf 28 = some (91, 3)) hx rfl
        have h3 := ix_sl (t := 28) (en := eSpan) (k := .i64) (h := []) (c := false) (by kernel_rfl : elemOf 28 = some (91, 3)) hy rfl
        have h4 : aBin wd.T .neq 91 (.agg (eSpan x)) (.agg (eSpan x)) = some (.bool false) := by rw [neq_Span]; simp
        have h5 := pBody_ok (n := 0) (m := 2 ^ 26 - 1 - 35) (k := 0) (c := at_ 89 [1, 1, 0, 1, 0, 0]) (st := stOf ([sl (eSpan) a, sl (eSpan) b] ++ und 3 ++ [.int .i64 (i : Int)] ++ und 20)) (e := .normal) (st' := stOf ([sl (eSpan) a, sl (eSpan) b] ++ und 3 ++ [.int .i64 (IntKind.i64.wrap ((i : Int) + 1))] ++ und 20))
          [(4, .br true), (7, .val (.pptr (eSpan x))), (11, .val (.pptr (eSpan x))), (13, .val (.bool false))]
          (hp := And.intro (And.intro (And.intro (And.intro (And.intro trivial (congrArg D.bool h1)) h2) h3) h4) trivial) (h := by kernel_rfl)
        rw [wrap_succ hi ha] at h5
        exact h5)
      (by
        intro i x y hi hx hy hne
        have h1 : decide ((i : Int) < ((a.map (eSpan)).length : Int)) = true := by simp [hi]
        have h2 := ix_sl (t := 28) (en := eSpan) (k := .i64) (h := []) (c := false) (by kernel_rfl : elemOf 28 = some (91, 3)) hx rfl
        have h3 := ix_sl (t := 28) (en := eSpan) (k := .i64) (h := []) (c := false) (by kernel_rfl : elemOf 28 = some (91, 3)) hy rfl
        have h4 : aBin wd.T .neq 91 (.agg (eSpan x)) (.agg (eSpan y)) = some (.bool true) := by rw [neq_Span]; simp [hne]
        exact pBody_ok (m := 2 ^ 26 - 1 - 16) (k := 0) [(4, .br true), (7, .val (.pptr (eSpan x))), (11, .val (.pptr (eSpan y))), (13, .val (.bool true))]
          (hp := And.intro (And.intro (And.intro (And.intro (And.intro trivial (congrArg D.bool h1)) h2) h3) h4) trivial) (h := by kernel_rfl))
    by_cases hab : a = b
    · rw [if_pos hab, if_pos hab] at hloop
      rw [decide_eq_true hab]
      exact pFun_ok [(6, .br false), (8, .fact (2 ^ 26 - 1 - 35) 0 (.exit 0) (stOf (und 26)))] (hp := And.intro (And.intro trivial (congrArg D.bool h0)) (And.intro trivial hloop)) (h := by kernel_rfl)
    · rw [if_neg hab, if_neg hab] at hloop
      rw [decide_eq_false hab]
      exact pFun_ok [(6, .br false), (8, .fact (2 ^ 26 - 1 - 35) 0 .ret (stOf (und 4 ++ [.bool false] ++ und 21)))] (hp := And.intro (And.intro trivial (congrArg D.bool h0)) (And.intro trivial hloop)) (h := by kernel_rfl)
  · have h0 : (((a.map (eSpan)).length : Int) != ((b.map (eSpan)).length : Int)) = true := by simp; omega
    rw [decide_eq_false (fun e => hl (by rw [e]))]
    exact pFun_ok [(6, .br true)] (hp := And.intro trivial (congrArg D.bool h0)) (h := by kernel_rfl)
end Go.Xa
