/- Guests compared. -/
import Derived.Test.YtdiajbbcjndhjaaGreatDoorZJ
namespace Go.Xa
open Go.RowKit Go.Proofs

structure FitKern (k : Kern) : Prop where
  p : fits k.p
  t : fits k.t.l
  s : fits k.s
  pipes : fits k.pipes
  h : fits k.h.l
  images : fits k.images
  outs : fits k.outs
  ins : fits k.ins
  inn : fits k.inn
  boxes : ∀ b ∈ k.inn, fits b.l
  trace : fits k.trace
  sent : fits k.sent
def stH (ts : List D) (h : List Blk) : St := { ts, h, df := [], rd := false }
def two (a b : List D) : List Blk := [.cells [a] true, .cells [b] true]
theorem two_kern (a b : Kern) : blksLt 2 (two (eKern a) (eKern b)) := ⟨blk_pure (by kernel_rfl), blk_pure (by kernel_rfl), trivial⟩
theorem f9_r1 (a b : Kern) (ha : FitKern a) : RN 0 (at_ 9 [1, 0]) (stH (und 2 ++ [.ptr 0 0 0, .ptr 1 0 0, .undef] ++ und 120) (two (eKern a) (eKern b))) .normal (stH (und 2 ++ [.ptr 0 0 0, .ptr 1 0 0, .undef, .bool (decide (a.p = b.p ∧ a.t = b.t ∧ a.s = b.s ∧ a.pipes = b.pipes ∧ a.h.size = b.h.size ∧ a.h.l = b.h.l))] ++ und 119) (two (eKern a) (eKern b))) := by
  by_cases h0 : a.p = b.p
  · have q0 := f35_ok a.p b.p ha.p
    rw [decide_eq_true h0] at q0
    by_cases h1 : a.t = b.t
    · have q1 := f36_ok a.t b.t ha.t
      rw [decide_eq_true h1] at q1
      by_cases h2 : a.s = b.s
      · have q2 := f37_ok a.s b.s ha.s
        rw [decide_eq_true h2] at q2
        by_cases h3 : a.pipes = b.pipes
        · have q3 := f38_ok a.pipes b.pipes ha.pipes
          rw [decide_eq_true h3] at q3
          by_cases h4 : a.h.size = b.h.size
          · have q4 : aBin wd.T .eql 3 (.int .i64 a.h.size) (.int .i64 b.h.size) = some (.bool true) := by simp [aBin, aIntOp, h4]
            by_cases h5 : a.h.l = b.h.l
            · have q5 := f39_ok a.h.l b.h.l ha.h
              rw [decide_eq_true h5] at q5
              rw [decide_eq_true (show a.p = b.p ∧ a.t = b.t ∧ a.s = b.s ∧ a.pipes = b.pipes ∧ a.h.size = b.h.size ∧ a.h.l = b.h.l from ⟨h0, h1, h2, h3, h4, h5⟩)]
              exact pBody_ok (m := 2 ^ 125 - 1 - 44) (k := 2) [(4, .quiet (.val (.bool true))), (10, .quiet (.val (.bool true))), (17, .quiet (.val (.bool true))), (24, .quiet (.val (.bool true))), (33, .val (.bool true)), (42, .quiet (.val (.bool true)))] (hp := And.intro (And.intro (And.intro (And.intro (And.intro (And.intro (And.intro trivial q0) q1) q2) q3) q4) q5) (two_kern a b)) (h := by kernel_rfl)
            · have q5 := f39_ok a.h.l b.h.l ha.h
              rw [decide_eq_false h5] at q5
              rw [decide_eq_false (fun h : a.p = b.p ∧ a.t = b.t ∧ a.s = b.s ∧ a.pipes = b.pipes ∧ a.h.size = b.h.size ∧ a.h.l = b.h.l => h5 h.2.2.2.2.2)]
              exact pBody_ok (m := 2 ^ 125 - 1 - 44) (k := 2) [(4, .quiet (.val (.bool true))), (10, .quiet (.val (.bool true))), (17, .quiet (.val (.bool true))), (24, .quiet (.val (.bool true))), (33, .val (.bool true)), (42, .quiet (.val (.bool false)))] (hp := And.intro (And.intro (And.intro (And.intro (And.intro (And.intro (And.intro trivial q0) q1) q2) q3) q4) q5) (two_kern a b)) (h := by kernel_rfl)
          · have q4 : aBin wd.T .eql 3 (.int .i64 a.h.size) (.int .i64 b.h.size) = some (.bool false) := by simp [aBin, aIntOp, h4]
            rw [decide_eq_false (fun h : a.p = b.p ∧ a.t = b.t ∧ a.s = b.s ∧ a.pipes = b.pipes ∧ a.h.size = b.h.size ∧ a.h.l = b.h.l => h4 h.2.2.2.2.1)]
            exact pBody_ok (m := 2 ^ 125 - 1 - 44) (k := 2) [(4, .quiet (.val (.bool true))), (10, .quiet (.val (.bool true))), (17, .quiet (.val (.bool true))), (24, .quiet (.val (.bool true))), (33, .val (.bool false))] (hp := And.intro (And.intro (And.intro (And.intro (And.intro (And.intro trivial q0) q1) q2) q3) q4) (two_kern a b)) (h := by kernel_rfl)
        · have q3 := f38_ok a.pipes b.pipes ha.pipes
          rw [decide_eq_false h3] at q3
          rw [decide_eq_false (fun h : a.p = b.p ∧ a.t = b.t ∧ a.s = b.s ∧ a.pipes = b.pipes ∧ a.h.size = b.h.size ∧ a.h.l = b.h.l => h3 h.2.2.2.1)]
          exact pBody_ok (m := 2 ^ 125 - 1 - 44) (k := 2) [(4, .quiet (.val (.bool true))), (10, .quiet (.val (.bool true))), (17, .quiet (.val (.bool true))), (24, .quiet (.val (.bool false)))] (hp := And.intro (And.intro (And.intro (And.intro (And.intro trivial q0) q1) q2) q3) (two_kern a b)) (h := by kernel_rfl)
      · have q2 := f37_ok a.s b.s ha.s
        rw [decide_eq_false h2] at q2
        rw [decide_eq_false (fun h : a.p = b.p ∧ a.t = b.t ∧ a.s = b.s ∧ a.pipes = b.pipes ∧ a.h.size = b.h.size ∧ a.h.l = b.h.l => h2 h.2.2.1)]
        exact pBody_ok (m := 2 ^ 125 - 1 - 44) (k := 2) [(4, .quiet (.val (.bool true))), (10, .quiet (.val (.bool true))), (17, .quiet (.val (.bool false)))] (hp := And.intro (And.intro (And.intro (And.intro trivial q0) q1) q2) (two_kern a b)) (h := by kernel_rfl)
    · have q1 := f36_ok a.t b.t ha.t
      rw [decide_eq_false h1] at q1
      rw [decide_eq_false (fun h : a.p = b.p ∧ a.t = b.t ∧ a.s = b.s ∧ a.pipes = b.pipes ∧ a.h.size = b.h.size ∧ a.h.l = b.h.l => h1 h.2.1)]
      exact pBody_ok (m := 2 ^ 125 - 1 - 44) (k := 2) [(4, .quiet (.val (.bool true))), (10, .quiet (.val (.bool false)))] (hp := And.intro (And.intro (And.intro trivial q0) q1) (two_kern a b)) (h := by kernel_rfl)
  · have q0 := f35_ok a.p b.p ha.p
    rw [decide_eq_false h0] at q0
    rw [decide_eq_false (fun h : a.p = b.p ∧ a.t = b.t ∧ a.s = b.s ∧ a.pipes = b.pipes ∧ a.h.size = b.h.size ∧ a.h.l = b.h.l => h0 h.1)]
    exact pBody_ok (m := 2 ^ 125 - 1 - 44) (k := 2) [(4, .quiet (.val (.bool false)))] (hp := And.intro (And.intro trivial q0) (two_kern a b)) (h := by kernel_rfl)
theorem f9_r2 (a b : Kern) (ha : FitKern a) (r1 : Bool) : RN 0 (at_ 9 [1, 1, 0]) (stH (und 2 ++ [.ptr 0 0 0, .ptr 1 0 0, .undef, .bool r1] ++ und 119) (two (eKern a) (eKern b))) .normal (stH (und 2 ++ [.ptr 0 0 0, .ptr 1 0 0, .undef, .bool r1, .bool (decide (a.images = b.images ∧ a.outs = b.outs ∧ a.ins = b.ins ∧ a.inn = b.inn))] ++ und 118) (two (eKern a) (eKern b))) := by
  by_cases h0 : a.images = b.images
  · have q0 := f40_ok a.images b.images ha.images
    rw [decide_eq_true h0] at q0
    by_cases h1 : a.outs = b.outs
    · have q1 := f41_ok a.outs b.outs ha.outs
      rw [decide_eq_true h1] at q1
      by_cases h2 : a.ins = b.ins
      · have q2 := f41_ok a.ins b.ins ha.ins
        rw [decide_eq_true h2] at q2
        by_cases h3 : a.inn = b.inn
        · have q3 := f42_ok a.inn b.inn ha.inn fun x hx y _ => f43_ok x y (ha.boxes x hx)
          rw [decide_eq_true h3] at q3
          rw [decide_eq_true (show a.images = b.images ∧ a.outs = b.outs ∧ a.ins = b.ins ∧ a.inn = b.inn from ⟨h0, h1, h2, h3⟩)]
          exact pBody_ok (m := 2 ^ 125 - 1 - 108) (k := 2) [(4, .quiet (.val (.bool true))), (10, .quiet (.val (.bool true))), (17, .quiet (.val (.bool true))), (24, .quiet (.val (.bool true)))] (hp := And.intro (And.intro (And.intro (And.intro (And.intro trivial q0) q1) q2) q3) (two_kern a b)) (h := by kernel_rfl)
        · have q3 := f42_ok a.inn b.inn ha.inn fun x hx y _ => f43_ok x y (ha.boxes x hx)
          rw [decide_eq_false h3] at q3
          rw [decide_eq_false (fun h : a.images = b.images ∧ a.outs = b.outs ∧ a.ins = b.ins ∧ a.inn = b.inn => h3 h.2.2.2)]
          exact pBody_ok (m := 2 ^ 125 - 1 - 108) (k := 2) [(4, .quiet (.val (.bool true))), (10, .quiet (.val (.bool true))), (17, .quiet (.val (.bool true))), (24, .quiet (.val (.bool false)))] (hp := And.intro (And.intro (And.intro (And.intro (And.intro trivial q0) q1) q2) q3) (two_kern a b)) (h := by kernel_rfl)
      · have q2 := f41_ok a.ins b.ins ha.ins
        rw [decide_eq_false h2] at q2
        rw [decide_eq_false (fun h : a.images = b.images ∧ a.outs = b.outs ∧ a.ins = b.ins ∧ a.inn = b.inn => h2 h.2.2.1)]
        exact pBody_ok (m := 2 ^ 125 - 1 - 108) (k := 2) [(4, .quiet (.val (.bool true))), (10, .quiet (.val (.bool true))), (17, .quiet (.val (.bool false)))] (hp := And.intro (And.intro (And.intro (And.intro trivial q0) q1) q2) (two_kern a b)) (h := by kernel_rfl)
    · have q1 := f41_ok a.outs b.outs ha.outs
      rw [decide_eq_false h1] at q1
      rw [decide_eq_false (fun h : a.images = b.images ∧ a.outs = b.outs ∧ a.ins = b.ins ∧ a.inn = b.inn => h1 h.2.1)]
      exact pBody_ok (m := 2 ^ 125 - 1 - 108) (k := 2) [(4, .quiet (.val (.bool true))), (10, .quiet (.val (.bool false)))] (hp := And.intro (And.intro (And.intro trivial q0) q1) (two_kern a b)) (h := by kernel_rfl)
  · have q0 := f40_ok a.images b.images ha.images
    rw [decide_eq_false h0] at q0
    rw [decide_eq_false (fun h : a.images = b.images ∧ a.outs = b.outs ∧ a.ins = b.ins ∧ a.inn = b.inn => h0 h.1)]
    exact pBody_ok (m := 2 ^ 125 - 1 - 108) (k := 2) [(4, .quiet (.val (.bool false)))] (hp := And.intro (And.intro trivial q0) (two_kern a b)) (h := by kernel_rfl)
theorem f9_r3 (a b : Kern) (ha : FitKern a) (r1 r2 : Bool) : RN 0 (at_ 9 [1, 1, 1, 0]) (stH (und 2 ++ [.ptr 0 0 0, .ptr 1 0 0, .undef, .bool r1, .bool r2] ++ und 118) (two (eKern a) (eKern b))) .normal (stH (und 2 ++ [.ptr 0 0 0, .ptr 1 0 0, .undef, .bool r1, .bool r2, .bool (decide (a.cons = b.cons ∧ a.trace = b.trace ∧ a.sent = b.sent))] ++ und 117) (two (eKern a) (eKern b))) := by
  by_cases h0 : a.cons = b.cons
  · have q0 : aBin wd.T .eql 9 (.str a.cons) (.str b.cons) = some (.bool true) := by simp [aBin, aIntOp, h0]
    by_cases h1 : a.trace = b.trace
    · have q1 := f44_ok a.trace b.trace ha.trace
      rw [decide_eq_true h1] at q1
      by_cases h2 : a.sent = b.sent
      · have q2 := f45_ok a.sent b.sent ha.sent
        rw [decide_eq_true h2] at q2
        rw [decide_eq_true (show a.cons = b.cons ∧ a.trace = b.trace ∧ a.sent = b.sent from ⟨h0, h1, h2⟩)]
        exact pBody_ok (m := 2 ^ 125 - 1 - 236) (k := 2) [(4, .val (.bool true)), (10, .quiet (.val (.bool true))), (17, .quiet (.val (.bool true)))] (hp := And.intro (And.intro (And.intro (And.intro trivial q0) q1) q2) (two_kern a b)) (h := by kernel_rfl)
      · have q2 := f45_ok a.sent b.sent ha.sent
        rw [decide_eq_false h2] at q2
        rw [decide_eq_false (fun h : a.cons = b.cons ∧ a.trace = b.trace ∧ a.sent = b.sent => h2 h.2.2)]
        exact pBody_ok (m := 2 ^ 125 - 1 - 236) (k := 2) [(4, .val (.bool true)), (10, .quiet (.val (.bool true))), (17, .quiet (.val (.bool false)))] (hp := And.intro (And.intro (And.intro (And.intro trivial q0) q1) q2) (two_kern a b)) (h := by kernel_rfl)
    · have q1 := f44_ok a.trace b.trace ha.trace
      rw [decide_eq_false h1] at q1
      rw [decide_eq_false (fun h : a.cons = b.cons ∧ a.trace = b.trace ∧ a.sent = b.sent => h1 h.2.1)]
      exact pBody_ok (m := 2 ^ 125 - 1 - 236) (k := 2) [(4, .val (.bool true)), (10, .quiet (.val (.bool false)))] (hp := And.intro (And.intro (And.intro trivial q0) q1) (two_kern a b)) (h := by kernel_rfl)
  · have q0 : aBin wd.T .eql 9 (.str a.cons) (.str b.cons) = some (.bool false) := by simp [aBin, aIntOp, h0]
    rw [decide_eq_false (fun h : a.cons = b.cons ∧ a.trace = b.trace ∧ a.sent = b.sent => h0 h.1)]
    exact pBody_ok (m := 2 ^ 125 - 1 - 236) (k := 2) [(4, .val (.bool false))] (hp := And.intro (And.intro trivial q0) (two_kern a b)) (h := by kernel_rfl)
theorem f9_r4 (a b : Kern) (r1 r2 r3 : Bool) : RN 0 (at_ 9 [1, 1, 1, 1, 0]) (stH (und 2 ++ [.ptr 0 0 0, .ptr 1 0 0, .undef, .bool r1, .bool r2, .bool r3] ++ und 117) (two (eKern a) (eKern b))) .normal (stH (und 4 ++ [.bool (decide (r1 = true ∧ r2 = true ∧ r3 = true ∧ a.now = b.now ∧ a.want = b.want ∧ a.gone = b.gone))] ++ und 120) []) := by
  by_cases h0 : r1 = true
  · subst h0
    by_cases h1 : r2 = true
    · subst h1
      by_cases h2 : r3 = true
      · subst h2
        by_cases h3 : a.now = b.now
        · have q3 : aBin wd.T .eql 31 (.int .u64 a.now) (.int .u64 b.now) = some (.bool true) := by simp [aBin, aIntOp, h3]
          by_cases h4 : a.want = b.want
          · have q4 : aBin wd.T .eql 3 (.int .i64 a.want) (.int .i64 b.want) = some (.bool true) := by simp [aBin, aIntOp, h4]
            by_cases h5 : a.gone = b.gone
            · have q5 : aBin wd.T .eql 3 (.int .i64 a.gone) (.int .i64 b.gone) = some (.bool true) := by simp [aBin, aIntOp, h5]
              rw [decide_eq_true (show true = true ∧ true = true ∧ true = true ∧ a.now = b.now ∧ a.want = b.want ∧ a.gone = b.gone from ⟨rfl, rfl, rfl, h3, h4, h5⟩)]
              exact pBody_ok (m := 2 ^ 125 - 1 - 16) (k := 0) [(12, .val (.bool true)), (19, .val (.bool true)), (26, .val (.bool true))] (hp := And.intro (And.intro (And.intro (And.intro trivial q3) q4) q5) trivial) (h := by kernel_rfl)
            · have q5 : aBin wd.T .eql 3 (.int .i64 a.gone) (.int .i64 b.gone) = some (.bool false) := by simp [aBin, aIntOp, h5]
              rw [decide_eq_false (fun h : true = true ∧ true = true ∧ true = true ∧ a.now = b.now ∧ a.want = b.want ∧ a.gone = b.gone => h5 h.2.2.2.2.2)]
              exact pBody_ok (m := 2 ^ 125 - 1 - 16) (k := 0) [(12, .val (.bool true)), (19, .val (.bool true)), (26, .val (.bool false))] (hp := And.intro (And.intro (And.intro (And.intro trivial q3) q4) q5) trivial) (h := by kernel_rfl)
          · have q4 : aBin wd.T .eql 3 (.int .i64 a.want) (.int .i64 b.want) = some (.bool false) := by simp [aBin, aIntOp, h4]
            rw [decide_eq_false (fun h : true = true ∧ true = true ∧ true = true ∧ a.now = b.now ∧ a.want = b.want ∧ a.gone = b.gone => h4 h.2.2.2.2.1)]
            exact pBody_ok (m := 2 ^ 125 - 1 - 16) (k := 0) [(12, .val (.bool true)), (19, .val (.bool false))] (hp := And.intro (And.intro (And.intro trivial q3) q4) trivial) (h := by kernel_rfl)
        · have q3 : aBin wd.T .eql 31 (.int .u64 a.now) (.int .u64 b.now) = some (.bool false) := by simp [aBin, aIntOp, h3]
          rw [decide_eq_false (fun h : true = true ∧ true = true ∧ true = true ∧ a.now = b.now ∧ a.want = b.want ∧ a.gone = b.gone => h3 h.2.2.2.1)]
          exact pBody_ok (m := 2 ^ 125 - 1 - 16) (k := 0) [(12, .val (.bool false))] (hp := And.intro (And.intro trivial q3) trivial) (h := by kernel_rfl)
      · obtain rfl : r3 = false := by simpa using h2
        rw [decide_eq_false (fun h : true = true ∧ true = true ∧ false = true ∧ a.now = b.now ∧ a.want = b.want ∧ a.gone = b.gone => Bool.noConfusion h.2.2.1)]
        exact pBody_ok (m := 2 ^ 125 - 1 - 16) (k := 0) [] (hp := And.intro (trivial) trivial) (h := by kernel_rfl)
    · obtain rfl : r2 = false := by simpa using h1
      rw [decide_eq_false (fun h : true = true ∧ false = true ∧ r3 = true ∧ a.now = b.now ∧ a.want = b.want ∧ a.gone = b.gone => Bool.noConfusion h.2.1)]
      exact pBody_ok (m := 2 ^ 125 - 1 - 16) (k := 0) [] (hp := And.intro (trivial) trivial) (h := by kernel_rfl)
  · obtain rfl : r1 = false := by simpa using h0
    rw [decide_eq_false (fun h : false = true ∧ r2 = true ∧ r3 = true ∧ a.now = b.now ∧ a.want = b.want ∧ a.gone = b.gone => Bool.noConfusion h.1)]
    exact pBody_ok (m := 2 ^ 125 - 1 - 16) (k := 0) [] (hp := And.intro (trivial) trivial) (h := by kernel_rfl)
theorem f9_ok (a b : Kern) (ha : FitKern a) : QC 9 [.agg (eKern a), .agg (eKern b)] (.val (.bool (decide (a = b)))) := by
  have h1 := f9_r1 a b ha
  have h2 := f9_r2 a b ha (decide (a.p = b.p ∧ a.t = b.t ∧ a.s = b.s ∧ a.pipes = b.pipes ∧ a.h.size = b.h.size ∧ a.h.l = b.h.l))
  have h3 := f9_r3 a b ha (decide (a.p = b.p ∧ a.t = b.t ∧ a.s = b.s ∧ a.pipes = b.pipes ∧ a.h.size = b.h.size ∧ a.h.l = b.h.l)) (decide (a.images = b.images ∧ a.outs = b.outs ∧ a.ins = b.ins ∧ a.inn = b.inn))
  have h4 := f9_r4 a b (decide (a.p = b.p ∧ a.t = b.t ∧ a.s = b.s ∧ a.pipes = b.pipes ∧ a.h.size = b.h.size ∧ a.h.l = b.h.l)) (decide (a.images = b.images ∧ a.outs = b.outs ∧ a.ins = b.ins ∧ a.inn = b.inn)) (decide (a.cons = b.cons ∧ a.trace = b.trace ∧ a.sent = b.sent))
  have hb : blksLt 2 (two (eKern a) (eKern b)) := two_kern a b
  have e : decide (decide (a.p = b.p ∧ a.t = b.t ∧ a.s = b.s ∧ a.pipes = b.pipes ∧ a.h.size = b.h.size ∧ a.h.l = b.h.l) = true ∧ decide (a.images = b.images ∧ a.outs = b.outs ∧ a.ins = b.ins ∧ a.inn = b.inn) = true ∧ decide (a.cons = b.cons ∧ a.trace = b.trace ∧ a.sent = b.sent) = true ∧ a.now = b.now ∧ a.want = b.want ∧ a.gone = b.gone) = decide (a = b) := dec_congr (by
    simp only [decide_eq_true_eq]
    rcases a with ⟨_, ⟨_, _⟩, _, _, ⟨_, _⟩, _, _, _, _, _, _, _, _, _, _⟩
    rcases b with ⟨_, ⟨_, _⟩, _, _, ⟨_, _⟩, _, _, _, _, _, _, _, _, _, _⟩
    constructor <;> intro h <;> simp_all)
  rw [e] at h4
  exact pFun_ok [(3, .fact (2 ^ 125 - 1 - 12) 2 .normal (stH (und 2 ++ [.ptr 0 0 0, .ptr 1 0 0, .undef, .bool (decide (a.p = b.p ∧ a.t = b.t ∧ a.s = b.s ∧ a.pipes = b.pipes ∧ a.h.size = b.h.size ∧ a.h.l = b.h.l))] ++ und 119) (two (eKern a) (eKern b)))), (4, .fact (2 ^ 125 - 1 - 44) 2 .normal (stH (und 2 ++ [.ptr 0 0 0, .ptr 1 0 0, .undef, .bool (decide (a.p = b.p ∧ a.t = b.t ∧ a.s = b.s ∧ a.pipes = b.pipes ∧ a.h.size = b.h.size ∧ a.h.l = b.h.l)), .bool (decide (a.images = b.images ∧ a.outs = b.outs ∧ a.ins = b.ins ∧ a.inn = b.inn))] ++ und 118) (two (eKern a) (eKern b)))), (5, .fact (2 ^ 125 - 1 - 108) 2 .normal (stH (und 2 ++ [.ptr 0 0 0, .ptr 1 0 0, .undef, .bool (decide (a.p = b.p ∧ a.t = b.t ∧ a.s = b.s ∧ a.pipes = b.pipes ∧ a.h.size = b.h.size ∧ a.h.l = b.h.l)), .bool (decide (a.images = b.images ∧ a.outs = b.outs ∧ a.ins = b.ins ∧ a.inn = b.inn)), .bool (decide (a.cons = b.cons ∧ a.trace = b.trace ∧ a.sent = b.sent))] ++ und 117) (two (eKern a) (eKern b)))), (6, .fact (2 ^ 125 - 1 - 236) 2 .normal (stH (und 4 ++ [.bool (decide (a = b))] ++ und 120) []))]
    (hp := And.intro (And.intro (And.intro (And.intro trivial (And.intro hb h1)) (And.intro hb h2)) (And.intro hb h3)) (And.intro hb h4)) (h := by kernel_rfl)
end Go.Xa
