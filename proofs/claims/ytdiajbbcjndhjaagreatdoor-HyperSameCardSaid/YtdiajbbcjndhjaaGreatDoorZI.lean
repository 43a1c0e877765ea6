/- Rows compared by slices.EqualFunc. -/
import Derived.Test.YtdiajbbcjndhjaaGreatDoorZH
namespace Go.Xa
open Go.RowKit Go.Proofs

theorem f42_ok (a b : List (Box)) (ha : a.length ≤ 9223372036854775807) (hg : ∀ x ∈ a, ∀ y ∈ b, QC 43 [(.agg (eBox x)), (.agg (eBox y))] (.val (.bool (decide (x = y))))) : QC 42 [sl (eBox) a, sl (eBox) b, .fn 43 [] []] (.val (.bool (decide (a = b)))) := by
  by_cases hl : a.length = b.length
  · have h0 : (((a.map (eBox)).length : Int) != ((b.map (eBox)).length : Int)) = false := by simp [hl]
    have hloop := same_loop (n := 0) (c := at_ 42 [1, 1, 0, 1, 0, 0]) (S := fun i => stOf ([sl (eBox) a, sl (eBox) b, .fn 43 [] []] ++ und 12 ++ [sl (eBox) a, .int .i64 ((a.map (eBox)).length : Int), .int .i64 (i : Int)] ++ und 14)) (eOut := .exit 0) (sOut := stOf (und 32)) (sNo := stOf (und 6 ++ [.bool false] ++ und 25)) a b hl (by simp)
      (by
        have h1 : decide (((a.length : Nat) : Int) < ((a.map (eBox)).length : Int)) = false := by simp
        exact pBody_ok (m := 2 ^ 32 - 1) (k := 0) [(1, .br false)] (hp := And.intro (And.intro trivial (congrArg D.bool h1)) trivial) (h := by kernel_rfl))
      (by
        intro i x hi hx hy
        have h1 : decide ((i : Int) < ((a.map (eBox)).length : Int)) = true := by simp [hi]
        have h2 := ix_sl (t := 34) (en := eBox) (k := .i64) (h := []) (c := false) (by kernel_rfl : elemOf 34 = some (84, 2)) hx rfl
        have h3 := ix_sl (t := 34) (en := eBox) (k := .i64) (h := [.cells [eBox x] true]) (c := false) (by kernel_rfl : elemOf 34 = some (84, 2)) hy rfl
        have h4 := hg x (List.mem_of_getElem? hx) x (List.mem_of_getElem? hy)
        rw [decide_eq_true rfl] at h4
        have h5 := pBody_ok (n := 0) (m := 2 ^ 32 - 1 - 229383) (k := 0) (c := at_ 42 [1, 1, 0, 1, 0, 0]) (st := stOf ([sl (eBox) a, sl (eBox) b, .fn 43 [] []] ++ und 12 ++ [sl (eBox) a, .int .i64 ((a.map (eBox)).length : Int), .int .i64 (i : Int)] ++ und 14)) (e := .normal) (st' := stOf ([sl (eBox) a, sl (eBox) b, .fn 43 [] []] ++ und 12 ++ [sl (eBox) a, .int .i64 ((a.map (eBox)).length : Int), .int .i64 (IntKind.i64.wrap ((i : Int) + 1))] ++ und 14))
          [(1, .br true), (3, .val (.pptr (eBox x))), (10, .val (.pptr (eBox x))), (17, .quiet (.val (.bool true)))]
          (hp := And.intro (And.intro (And.intro (And.intro (And.intro trivial (congrArg D.bool h1)) h2) h3) h4) trivial) (h := by kernel_rfl)
        rw [wrap_succ hi ha] at h5
        exact h5)
      (by
        intro i x y hi hx hy hne
        have h1 : decide ((i : Int) < ((a.map (eBox)).length : Int)) = true := by simp [hi]
        have h2 := ix_sl (t := 34) (en := eBox) (k := .i64) (h := []) (c := false) (by kernel_rfl : elemOf 34 = some (84, 2)) hx rfl
        have h3 := ix_sl (t := 34) (en := eBox) (k := .i64) (h := [.cells [eBox x] true]) (c := false) (by kernel_rfl : elemOf 34 = some (84, 2)) hy rfl
        have h4 := hg x (List.mem_of_getElem? hx) y (List.mem_of_getElem? hy)
        rw [decide_eq_false hne] at h4
        exact pBody_ok (m := 2 ^ 32 - 1 - 64) (k := 0) [(1, .br true), (3, .val (.pptr (eBox x))), (10, .val (.pptr (eBox y))), (17, .quiet (.val (.bool false)))]
          (hp := And.intro (And.intro (And.intro (And.intro (And.intro trivial (congrArg D.bool h1)) h2) h3) h4) trivial) (h := by kernel_rfl))
    by_cases hab : a = b
    · rw [if_pos hab, if_pos hab] at hloop
      rw [decide_eq_true hab]
      exact pFun_ok [(6, .br false), (10, .fact (2 ^ 32 - 1 - 229383) 0 (.exit 0) (stOf (und 32)))] (hp := And.intro (And.intro trivial (congrArg D.bool h0)) (And.intro trivial hloop)) (h := by kernel_rfl)
    · rw [if_neg hab, if_neg hab] at hloop
      rw [decide_eq_false hab]
      exact pFun_ok [(6, .br false), (10, .fact (2 ^ 32 - 1 - 229383) 0 .ret (stOf (und 6 ++ [.bool false] ++ und 25)))] (hp := And.intro (And.intro trivial (congrArg D.bool h0)) (And.intro trivial hloop)) (h := by kernel_rfl)
  · have h0 : (((a.map (eBox)).length : Int) != ((b.map (eBox)).length : Int)) = true := by simp; omega
    rw [decide_eq_false (fun e => hl (by rw [e]))]
    exact pFun_ok [(6, .br true)] (hp := And.intro trivial (congrArg D.bool h0)) (h := by kernel_rfl)

theorem f78_ok (a b : List (List Str)) (ha : a.length ≤ 9223372036854775807) (hg : ∀ x ∈ a, ∀ y ∈ b, QC 74 [(sl eStr x), (sl eStr y)] (.val (.bool (decide (x = y))))) : QC 78 [sl (eSl eStr) a, sl (eSl eStr) b, .fn 74 [] []] (.val (.bool (decide (a = b)))) := by
  by_cases hl : a.length = b.length
  · have h0 : (((a.map (eSl eStr)).length : Int) != ((b.map (eSl eStr)).length : Int)) = false := by simp [hl]
    have hloop := same_loop (n := 0) (c := at_ 78 [1, 1, 0, 1, 0, 0]) (S := fun i => stOf ([sl (eSl eStr) a, sl (eSl eStr) b, .fn 74 [] []] ++ und 12 ++ [sl (eSl eStr) a, .int .i64 ((a.map (eSl eStr)).length : Int), .int .i64 (i : Int)] ++ und 14)) (eOut := .exit 0) (sOut := stOf (und 32)) (sNo := stOf (und 6 ++ [.bool false] ++ und 25)) a b hl (by simp)
      (by
        have h1 : decide (((a.length : Nat) : Int) < ((a.map (eSl eStr)).length : Int)) = false := by simp
        exact pBody_ok (m := 2 ^ 32 - 1) (k := 0) [(1, .br false)] (hp := And.intro (And.intro trivial (congrArg D.bool h1)) trivial) (h := by kernel_rfl))
      (by
        intro i x hi hx hy
        have h1 : decide ((i : Int) < ((a.map (eSl eStr)).length : Int)) = true := by simp [hi]
        have h2 := ix_sl (t := 45) (en := eSl eStr) (k := .i64) (h := []) (c := false) (by kernel_rfl : elemOf 45 = some (32, 1)) hx rfl
        have h3 := ix_sl (t := 45) (en := eSl eStr) (k := .i64) (h := []) (c := false) (by kernel_rfl : elemOf 45 = some (32, 1)) hy rfl
        have h4 := hg x (List.mem_of_getElem? hx) x (List.mem_of_getElem? hy)
        rw [decide_eq_true rfl] at h4
        have h5 := pBody_ok (n := 0) (m := 2 ^ 32 - 1 - 229383) (k := 0) (c := at_ 78 [1, 1, 0, 1, 0, 0]) (st := stOf ([sl (eSl eStr) a, sl (eSl eStr) b, .fn 74 [] []] ++ und 12 ++ [sl (eSl eStr) a, .int .i64 ((a.map (eSl eStr)).length : Int), .int .i64 (i : Int)] ++ und 14)) (e := .normal) (st' := stOf ([sl (eSl eStr) a, sl (eSl eStr) b, .fn 74 [] []] ++ und 12 ++ [sl (eSl eStr) a, .int .i64 ((a.map (eSl eStr)).length : Int), .int .i64 (IntKind.i64.wrap ((i : Int) + 1))] ++ und 14))
          [(1, .br true), (3, .val (.pptr (eSl eStr x))), (9, .val (.pptr (eSl eStr x))), (15, .quiet (.val (.bool true)))]
          (hp := And.intro (And.intro (And.intro (And.intro (And.intro trivial (congrArg D.bool h1)) h2) h3) h4) trivial) (h := by kernel_rfl)
        rw [wrap_succ hi ha] at h5
        exact h5)
      (by
        intro i x y hi hx hy hne
        have h1 : decide ((i : Int) < ((a.map (eSl eStr)).length : Int)) = true := by simp [hi]
        have h2 := ix_sl (t := 45) (en := eSl eStr) (k := .i64) (h := []) (c := false) (by kernel_rfl : elemOf 45 = some (32, 1)) hx rfl
        have h3 := ix_sl (t := 45) (en := eSl eStr) (k := .i64) (h := []) (c := false) (by kernel_rfl : elemOf 45 = some (32, 1)) hy rfl
        have h4 := hg x (List.mem_of_getElem? hx) y (List.mem_of_getElem? hy)
        rw [decide_eq_false hne] at h4
        exact pBody_ok (m := 2 ^ 32 - 1 - 64) (k := 0) [(1, .br true), (3, .val (.pptr (eSl eStr x))), (9, .val (.pptr (eSl eStr y))), (15, .quiet (.val (.bool false)))]
          (hp := And.intro (And.intro (And.intro (And.intro (And.intro trivial (congrArg D.bool h1)) h2) h3) h4) trivial) (h := by kernel_rfl))
    by_cases hab : a = b
    · rw [if_pos hab, if_pos hab] at hloop
      rw [decide_eq_true hab]
      exact pFun_ok [(6, .br false), (10, .fact (2 ^ 32 - 1 - 229383) 0 (.exit 0) (stOf (und 32)))] (hp := And.intro (And.intro trivial (congrArg D.bool h0)) (And.intro trivial hloop)) (h := by kernel_rfl)
    · rw [if_neg hab, if_neg hab] at hloop
      rw [decide_eq_false hab]
      exact pFun_ok [(6, .br false), (10, .fact (2 ^ 32 - 1 - 229383) 0 .ret (stOf (und 6 ++ [.bool false] ++ und 25)))] (hp := And.intro (And.intro trivial (congrArg D.bool h0)) (And.intro trivial hloop)) (h := by kernel_rfl)
  · have h0 : (((a.map (eSl eStr)).length : Int) != ((b.map (eSl eStr)).length : Int)) = true := by simp; omega
    rw [decide_eq_false (fun e => hl (by rw [e]))]
    exact pFun_ok [(6, .br true)] (hp := And.intro trivial (congrArg D.bool h0)) (h := by kernel_rfl)

theorem f79_ok (a b : List (Seat)) (ha : a.length ≤ 9223372036854775807) (hg : ∀ x ∈ a, ∀ y ∈ b, QC 20 [(.agg (eSeat x)), (.agg (eSeat y))] (.val (.bool (decide (x = y))))) : QC 79 [sl (eSeat) a, sl (eSeat) b, .fn 20 [] []] (.val (.bool (decide (a = b)))) := by
  by_cases hl : a.length = b.length
  · have h0 : (((a.map (eSeat)).length : Int) != ((b.map (eSeat)).length : Int)) = false := by simp [hl]
    have hloop := same_loop (n := 0) (c := at_ 79 [1, 1, 0, 1, 0, 0]) (S := fun i => stOf ([sl (eSeat) a, sl (eSeat) b, .fn 20 [] []] ++ und 12 ++ [sl (eSeat) a, .int .i64 ((a.map (eSeat)).length : Int), .int .i64 (i : Int)] ++ und 14)) (eOut := .exit 0) (sOut := stOf (und 32)) (sNo := stOf (und 6 ++ [.bool false] ++ und 25)) a b hl (by simp)
      (by
        have h1 : decide (((a.length : Nat) : Int) < ((a.map (eSeat)).length : Int)) = false := by simp
        exact pBody_ok (m := 2 ^ 32 - 1) (k := 0) [(1, .br false)] (hp := And.intro (And.intro trivial (congrArg D.bool h1)) trivial) (h := by kernel_rfl))
      (by
        intro i x hi hx hy
        have h1 : decide ((i : Int) < ((a.map (eSeat)).length : Int)) = true := by simp [hi]
        have h2 := ix_sl (t := 49) (en := eSeat) (k := .i64) (h := []) (c := false) (by kernel_rfl : elemOf 49 = some (63, 19)) hx rfl
        have h3 := ix_sl (t := 49) (en := eSeat) (k := .i64) (h := [.cells [eSeat x] true]) (c := false) (by kernel_rfl : elemOf 49 = some (63, 19)) hy rfl
        have h4 := hg x (List.mem_of_getElem? hx) x (List.mem_of_getElem? hy)
        rw [decide_eq_true rfl] at h4
        have h5 := pBody_ok (n := 0) (m := 2 ^ 32 - 1 - 229383) (k := 0) (c := at_ 79 [1, 1, 0, 1, 0, 0]) (st := stOf ([sl (eSeat) a, sl (eSeat) b, .fn 20 [] []] ++ und 12 ++ [sl (eSeat) a, .int .i64 ((a.map (eSeat)).length : Int), .int .i64 (i : Int)] ++ und 14)) (e := .normal) (st' := stOf ([sl (eSeat) a, sl (eSeat) b, .fn 20 [] []] ++ und 12 ++ [sl (eSeat) a, .int .i64 ((a.map (eSeat)).length : Int), .int .i64 (IntKind.i64.wrap ((i : Int) + 1))] ++ und 14))
          [(1, .br true), (3, .val (.pptr (eSeat x))), (10, .val (.pptr (eSeat x))), (17, .quiet (.val (.bool true)))]
          (hp := And.intro (And.intro (And.intro (And.intro (And.intro trivial (congrArg D.bool h1)) h2) h3) h4) trivial) (h := by kernel_rfl)
        rw [wrap_succ hi ha] at h5
        exact h5)
      (by
        intro i x y hi hx hy hne
        have h1 : decide ((i : Int) < ((a.map (eSeat)).length : Int)) = true := by simp [hi]
        have h2 := ix_sl (t := 49) (en := eSeat) (k := .i64) (h := []) (c := false) (by kernel_rfl : elemOf 49 = some (63, 19)) hx rfl
        have h3 := ix_sl (t := 49) (en := eSeat) (k := .i64) (h := [.cells [eSeat x] true]) (c := false) (by kernel_rfl : elemOf 49 = some (63, 19)) hy rfl
        have h4 := hg x (List.mem_of_getElem? hx) y (List.mem_of_getElem? hy)
        rw [decide_eq_false hne] at h4
        exact pBody_ok (m := 2 ^ 32 - 1 - 64) (k := 0) [(1, .br true), (3, .val (.pptr (eSeat x))), (10, .val (.pptr (eSeat y))), (17, .quiet (.val (.bool false)))]
          (hp := And.intro (And.intro (And.intro (And.intro (And.intro trivial (congrArg D.bool h1)) h2) h3) h4) trivial) (h := by kernel_rfl))
    by_cases hab : a = b
    · rw [if_pos hab, if_pos hab] at hloop
      rw [decide_eq_true hab]
      exact pFun_ok [(6, .br false), (10, .fact (2 ^ 32 - 1 - 229383) 0 (.exit 0) (stOf (und 32)))] (hp := And.intro (And.intro trivial (congrArg D.bool h0)) (And.intro trivial hloop)) (h := by kernel_rfl)
    · rw [if_neg hab, if_neg hab] at hloop
      rw [decide_eq_false hab]
      exact pFun_ok [(6, .br false), (10, .fact (2 ^ 32 - 1 - 229383) 0 .ret (stOf (und 6 ++ [.bool false] ++ und 25)))] (hp := And.intro (And.intro trivial (congrArg D.bool h0)) (And.intro trivial hloop)) (h := by kernel_rfl)
  · have h0 : (((a.map (eSeat)).length : Int) != ((b.map (eSeat)).length : Int)) = true := by simp; omega
    rw [decide_eq_false (fun e => hl (by rw [e]))]
    exact pFun_ok [(6, .br true)] (hp := And.intro trivial (congrArg D.bool h0)) (h := by kernel_rfl)

theorem f80_ok (a b : List (List Stamp)) (ha : a.length ≤ 9223372036854775807) (hg : ∀ x ∈ a, ∀ y ∈ b, QC 75 [(sl eStamp x), (sl eStamp y)] (.val (.bool (decide (x = y))))) : QC 80 [sl (eSl eStamp) a, sl (eSl eStamp) b, .fn 75 [] []] (.val (.bool (decide (a = b)))) := by
  by_cases hl : a.length = b.length
  · have h0 : (((a.map (eSl eStamp)).length : Int) != ((b.map (eSl eStamp)).length : Int)) = false := by simp [hl]
    have hloop := same_loop (n := 0) (c := at_ 80 [1, 1, 0, 1, 0, 0]) (S := fun i => stOf ([sl (eSl eStamp) a, sl (eSl eStamp) b, .fn 75 [] []] ++ und 12 ++ [sl (eSl eStamp) a, .int .i64 ((a.map (eSl eStamp)).length : Int), .int .i64 (i : Int)] ++ und 14)) (eOut := .exit 0) (sOut := stOf (und 32)) (sNo := stOf (und 6 ++ [.bool false] ++ und 25)) a b hl (by simp)
      (by
        have h1 : decide (((a.length : Nat) : Int) < ((a.map (eSl eStamp)).length : Int)) = false := by simp
        exact pBody_ok (m := 2 ^ 32 - 1) (k := 0) [(1, .br false)] (hp := And.intro (And.intro trivial (congrArg D.bool h1)) trivial) (h := by kernel_rfl))
      (by
        intro i x hi hx hy
        have h1 : decide ((i : Int) < ((a.map (eSl eStamp)).length : Int)) = true := by simp [hi]
        have h2 := ix_sl (t := 50) (en := eSl eStamp) (k := .i64) (h := []) (c := false) (by kernel_rfl : elemOf 50 = some (112, 1)) hx rfl
        have h3 := ix_sl (t := 50) (en := eSl eStamp) (k := .i64) (h := []) (c := false) (by kernel_rfl : elemOf 50 = some (112, 1)) hy rfl
        have h4 := hg x (List.mem_of_getElem? hx) x (List.mem_of_getElem? hy)
        rw [decide_eq_true rfl] at h4
        have h5 := pBody_ok (n := 0) (m := 2 ^ 32 - 1 - 229383) (k := 0) (c := at_ 80 [1, 1, 0, 1, 0, 0]) (st := stOf ([sl (eSl eStamp) a, sl (eSl eStamp) b, .fn 75 [] []] ++ und 12 ++ [sl (eSl eStamp) a, .int .i64 ((a.map (eSl eStamp)).length : Int), .int .i64 (i : Int)] ++ und 14)) (e := .normal) (st' := stOf ([sl (eSl eStamp) a, sl (eSl eStamp) b, .fn 75 [] []] ++ und 12 ++ [sl (eSl eStamp) a, .int .i64 ((a.map (eSl eStamp)).length : Int), .int .i64 (IntKind.i64.wrap ((i : Int) + 1))] ++ und 14))
          [(1, .br true), (3, .val (.pptr (eSl eStamp x))), (9, .val (.pptr (eSl eStamp x))), (15, .quiet (.val (.bool true)))]
          (hp := And.intro (And.intro (And.intro (And.intro (And.intro trivial (congrArg D.bool h1)) h2) h3) h4) trivial) (h := by kernel_rfl)
        rw [wrap_succ hi ha] at h5
        exact h5)
      (by
        intro i x y hi hx hy hne
        have h1 : decide ((i : Int) < ((a.map (eSl eStamp)).length : Int)) = true := by simp [hi]
        have h2 := ix_sl (t := 50) (en := eSl eStamp) (k := .i64) (h := []) (c := false) (by kernel_rfl : elemOf 50 = some (112, 1)) hx rfl
        have h3 := ix_sl (t := 50) (en := eSl eStamp) (k := .i64) (h := []) (c := false) (by kernel_rfl : elemOf 50 = some (112, 1)) hy rfl
        have h4 := hg x (List.mem_of_getElem? hx) y (List.mem_of_getElem? hy)
        rw [decide_eq_false hne] at h4
        exact pBody_ok (m := 2 ^ 32 - 1 - 64) (k := 0) [(1, .br true), (3, .val (.pptr (eSl eStamp x))), (9, .val (.pptr (eSl eStamp y))), (15, .quiet (.val (.bool false)))]
          (hp := And.intro (And.intro (And.intro (And.intro (And.intro trivial (congrArg D.bool h1)) h2) h3) h4) trivial) (h := by kernel_rfl))
    by_cases hab : a = b
    · rw [if_pos hab, if_pos hab] at hloop
      rw [decide_eq_true hab]
      exact pFun_ok [(6, .br false), (10, .fact (2 ^ 32 - 1 - 229383) 0 (.exit 0) (stOf (und 32)))] (hp := And.intro (And.intro trivial (congrArg D.bool h0)) (And.intro trivial hloop)) (h := by kernel_rfl)
    · rw [if_neg hab, if_neg hab] at hloop
      rw [decide_eq_false hab]
      exact pFun_ok [(6, .br false), (10, .fact (2 ^ 32 - 1 - 229383) 0 .ret (stOf (und 6 ++ [.bool false] ++ und 25)))] (hp := And.intro (And.intro trivial (congrArg D.bool h0)) (And.intro trivial hloop)) (h := by kernel_rfl)
  · have h0 : (((a.map (eSl eStamp)).length : Int) != ((b.map (eSl eStamp)).length : Int)) = true := by simp; omega
    rw [decide_eq_false (fun e => hl (by rw [e]))]
    exact pFun_ok [(6, .br true)] (hp := And.intro trivial (congrArg D.bool h0)) (h := by kernel_rfl)

theorem f90_ok (a b : List (Proc)) (ha : a.length ≤ 9223372036854775807) (hg : ∀ x ∈ a, ∀ y ∈ b, QC 91 [(.agg (eProc x)), (.agg (eProc y))] (.val (.bool (decide (x = y))))) : QC 90 [sl (eProc) a, sl (eProc) b, .fn 91 [] []] (.val (.bool (decide (a = b)))) := by
  by_cases hl : a.length = b.length
  · have h0 : (((a.map (eProc)).length : Int) != ((b.map (eProc)).length : Int)) = false := by simp [hl]
    have hloop := same_loop (n := 0) (c := at_ 90 [1, 1, 0, 1, 0, 0]) (S := fun i => stOf ([sl (eProc) a, sl (eProc) b, .fn 91 [] []] ++ und 12 ++ [sl (eProc) a, .int .i64 ((a.map (eProc)).length : Int), .int .i64 (i : Int)] ++ und 14)) (eOut := .exit 0) (sOut := stOf (und 32)) (sNo := stOf (und 6 ++ [.bool false] ++ und 25)) a b hl (by simp)
      (by
        have h1 : decide (((a.length : Nat) : Int) < ((a.map (eProc)).length : Int)) = false := by simp
        exact pBody_ok (m := 2 ^ 32 - 1) (k := 0) [(1, .br false)] (hp := And.intro (And.intro trivial (congrArg D.bool h1)) trivial) (h := by kernel_rfl))
      (by
        intro i x hi hx hy
        have h1 : decide ((i : Int) < ((a.map (eProc)).length : Int)) = true := by simp [hi]
        have h2 := ix_sl (t := 22) (en := eProc) (k := .i64) (h := []) (c := false) (by kernel_rfl : elemOf 22 = some (151, 26)) hx rfl
        have h3 := ix_sl (t := 22) (en := eProc) (k := .i64) (h := [.cells [eProc x] true]) (c := false) (by kernel_rfl : elemOf 22 = some (151, 26)) hy rfl
        have h4 := hg x (List.mem_of_getElem? hx) x (List.mem_of_getElem? hy)
        rw [decide_eq_true rfl] at h4
        have h5 := pBody_ok (n := 0) (m := 2 ^ 32 - 1 - 229383) (k := 0) (c := at_ 90 [1, 1, 0, 1, 0, 0]) (st := stOf ([sl (eProc) a, sl (eProc) b, .fn 91 [] []] ++ und 12 ++ [sl (eProc) a, .int .i64 ((a.map (eProc)).length : Int), .int .i64 (i : Int)] ++ und 14)) (e := .normal) (st' := stOf ([sl (eProc) a, sl (eProc) b, .fn 91 [] []] ++ und 12 ++ [sl (eProc) a, .int .i64 ((a.map (eProc)).length : Int), .int .i64 (IntKind.i64.wrap ((i : Int) + 1))] ++ und 14))
          [(1, .br true), (3, .val (.pptr (eProc x))), (10, .val (.pptr (eProc x))), (17, .quiet (.val (.bool true)))]
          (hp := And.intro (And.intro (And.intro (And.intro (And.intro trivial (congrArg D.bool h1)) h2) h3) h4) trivial) (h := by kernel_rfl)
        rw [wrap_succ hi ha] at h5
        exact h5)
      (by
        intro i x y hi hx hy hne
        have h1 : decide ((i : Int) < ((a.map (eProc)).length : Int)) = true := by simp [hi]
        have h2 := ix_sl (t := 22) (en := eProc) (k := .i64) (h := []) (c := false) (by kernel_rfl : elemOf 22 = some (151, 26)) hx rfl
        have h3 := ix_sl (t := 22) (en := eProc) (k := .i64) (h := [.cells [eProc x] true]) (c := false) (by kernel_rfl : elemOf 22 = some (151, 26)) hy rfl
        have h4 := hg x (List.mem_of_getElem? hx) y (List.mem_of_getElem? hy)
        rw [decide_eq_false hne] at h4
        exact pBody_ok (m := 2 ^ 32 - 1 - 64) (k := 0) [(1, .br true), (3, .val (.pptr (eProc x))), (10, .val (.pptr (eProc y))), (17, .quiet (.val (.bool false)))]
          (hp := And.intro (And.intro (And.intro (And.intro (And.intro trivial (congrArg D.bool h1)) h2) h3) h4) trivial) (h := by kernel_rfl))
    by_cases hab : a = b
    · rw [if_pos hab, if_pos hab] at hloop
      rw [decide_eq_true hab]
      exact pFun_ok [(6, .br false), (10, .fact (2 ^ 32 - 1 - 229383) 0 (.exit 0) (stOf (und 32)))] (hp := And.intro (And.intro trivial (congrArg D.bool h0)) (And.intro trivial hloop)) (h := by kernel_rfl)
    · rw [if_neg hab, if_neg hab] at hloop
      rw [decide_eq_false hab]
      exact pFun_ok [(6, .br false), (10, .fact (2 ^ 32 - 1 - 229383) 0 .ret (stOf (und 6 ++ [.bool false] ++ und 25)))] (hp := And.intro (And.intro trivial (congrArg D.bool h0)) (And.intro trivial hloop)) (h := by kernel_rfl)
  · have h0 : (((a.map (eProc)).length : Int) != ((b.map (eProc)).length : Int)) = true := by simp; omega
    rw [decide_eq_false (fun e => hl (by rw [e]))]
    exact pFun_ok [(6, .br true)] (hp := And.intro trivial (congrArg D.bool h0)) (h := by kernel_rfl)

theorem f120_ok (a b : List (List Win)) (ha : a.length ≤ 9223372036854775807) (hg : ∀ x ∈ a, ∀ y ∈ b, QC 117 [(sl eWin x), (sl eWin y)] (.val (.bool (decide (x = y))))) : QC 120 [sl (eSl eWin) a, sl (eSl eWin) b, .fn 117 [] []] (.val (.bool (decide (a = b)))) := by
  by_cases hl : a.length = b.length
  · have h0 : (((a.map (eSl eWin)).length : Int) != ((b.map (eSl eWin)).length : Int)) = false := by simp [hl]
    have hloop := same_loop (n := 0) (c := at_ 120 [1, 1, 0, 1, 0, 0]) (S := fun i => stOf ([sl (eSl eWin) a, sl (eSl eWin) b, .fn 117 [] []] ++ und 12 ++ [sl (eSl eWin) a, .int .i64 ((a.map (eSl eWin)).length : Int), .int .i64 (i : Int)] ++ und 14)) (eOut := .exit 0) (sOut := stOf (und 32)) (sNo := stOf (und 6 ++ [.bool false] ++ und 25)) a b hl (by simp)
      (by
        have h1 : decide (((a.length : Nat) : Int) < ((a.map (eSl eWin)).length : Int)) = false := by simp
        exact pBody_ok (m := 2 ^ 32 - 1) (k := 0) [(1, .br false)] (hp := And.intro (And.intro trivial (congrArg D.bool h1)) trivial) (h := by kernel_rfl))
      (by
        intro i x hi hx hy
        have h1 : decide ((i : Int) < ((a.map (eSl eWin)).length : Int)) = true := by simp [hi]
        have h2 := ix_sl (t := 42) (en := eSl eWin) (k := .i64) (h := []) (c := false) (by kernel_rfl : elemOf 42 = some (103, 1)) hx rfl
        have h3 := ix_sl (t := 42) (en := eSl eWin) (k := .i64) (h := []) (c := false) (by kernel_rfl : elemOf 42 = some (103, 1)) hy rfl
        have h4 := hg x (List.mem_of_getElem? hx) x (List.mem_of_getElem? hy)
        rw [decide_eq_true rfl] at h4
        have h5 := pBody_ok (n := 0) (m := 2 ^ 32 - 1 - 229383) (k := 0) (c := at_ 120 [1, 1, 0, 1, 0, 0]) (st := stOf ([sl (eSl eWin) a, sl (eSl eWin) b, .fn 117 [] []] ++ und 12 ++ [sl (eSl eWin) a, .int .i64 ((a.map (eSl eWin)).length : Int), .int .i64 (i : Int)] ++ und 14)) (e := .normal) (st' := stOf ([sl (eSl eWin) a, sl (eSl eWin) b, .fn 117 [] []] ++ und 12 ++ [sl (eSl eWin) a, .int .i64 ((a.map (eSl eWin)).length : Int), .int .i64 (IntKind.i64.wrap ((i : Int) + 1))] ++ und 14))
          [(1, .br true), (3, .val (.pptr (eSl eWin x))), (9, .val (.pptr (eSl eWin x))), (15, .quiet (.val (.bool true)))]
          (hp := And.intro (And.intro (And.intro (And.intro (And.intro trivial (congrArg D.bool h1)) h2) h3) h4) trivial) (h := by kernel_rfl)
        rw [wrap_succ hi ha] at h5
        exact h5)
      (by
        intro i x y hi hx hy hne
        have h1 : decide ((i : Int) < ((a.map (eSl eWin)).length : Int)) = true := by simp [hi]
        have h2 := ix_sl (t := 42) (en := eSl eWin) (k := .i64) (h := []) (c := false) (by kernel_rfl : elemOf 42 = some (103, 1)) hx rfl
        have h3 := ix_sl (t := 42) (en := eSl eWin) (k := .i64) (h := []) (c := false) (by kernel_rfl : elemOf 42 = some (103, 1)) hy rfl
        have h4 := hg x (List.mem_of_getElem? hx) y (List.mem_of_getElem? hy)
        rw [decide_eq_false hne] at h4
        exact pBody_ok (m := 2 ^ 32 - 1 - 64) (k := 0) [(1, .br true), (3, .val (.pptr (eSl eWin x))), (9, .val (.pptr (eSl eWin y))), (15, .quiet (.val (.bool false)))]
          (hp := And.intro (And.intro (And.intro (And.intro (And.intro trivial (congrArg D.bool h1)) h2) h3) h4) trivial) (h := by kernel_rfl))
    by_cases hab : a = b
    · rw [if_pos hab, if_pos hab] at hloop
      rw [decide_eq_true hab]
      exact pFun_ok [(6, .br false), (10, .fact (2 ^ 32 - 1 - 229383) 0 (.exit 0) (stOf (und 32)))] (hp := And.intro (And.intro trivial (congrArg D.bool h0)) (And.intro trivial hloop)) (h := by kernel_rfl)
    · rw [if_neg hab, if_neg hab] at hloop
      rw [decide_eq_false hab]
      exact pFun_ok [(6, .br false), (10, .fact (2 ^ 32 - 1 - 229383) 0 .ret (stOf (und 6 ++ [.bool false] ++ und 25)))] (hp := And.intro (And.intro trivial (congrArg D.bool h0)) (And.intro trivial hloop)) (h := by kernel_rfl)
  · have h0 : (((a.map (eSl eWin)).length : Int) != ((b.map (eSl eWin)).length : Int)) = true := by simp; omega
    rw [decide_eq_false (fun e => hl (by rw [e]))]
    exact pFun_ok [(6, .br true)] (hp := And.intro trivial (congrArg D.bool h0)) (h := by kernel_rfl)
end Go.Xa
