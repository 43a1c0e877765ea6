/- Two rows compared, element by element. -/
import Derived.Test.YtdiajbbcjndhjaaGreatDoorZE
namespace Go.Xa
open Go.RowKit Go.Proofs

theorem same_loop {α : Type} [DecidableEq α] {n : Nat} {c : Code} {S : Nat → St} {eOut : Exit} {sOut sNo : St} (a b : List α) (hl : a.length = b.length) (hne : eOut ≠ .normal)
    (hexit : RN n c (S a.length) eOut sOut) (hstep : ∀ i x, i < a.length → a[i]? = some x → b[i]? = some x → RN n c (S i) .normal (S (i + 1)))
    (hno : ∀ i x y, i < a.length → a[i]? = some x → b[i]? = some y → x ≠ y → RN n c (S i) .ret sNo) :
    RN n (.loop c) (S 0) (if a = b then eOut else .ret) (if a = b then sOut else sNo) := by
  have key : ∀ (d i : Nat), a.length - i = d → i ≤ a.length → ∃ k, LK n c k (S i) (if a.drop i = b.drop i then eOut else .ret) (if a.drop i = b.drop i then sOut else sNo) := by
    intro d
    induction d with
    | zero =>
      intro i hd hi
      obtain rfl : i = a.length := by omega
      have e : a.drop a.length = b.drop a.length := by rw [hl]; simp [← hl]
      rw [if_pos e, if_pos e]
      exact ⟨1, .out hexit hne⟩
    | succ d ih =>
      intro i hd hi
      have hi' : i < a.length := by omega
      have ea : a.drop i = a[i] :: a.drop (i + 1) := List.drop_eq_getElem_cons hi'
      have eb : b.drop i = b[i] :: b.drop (i + 1) := List.drop_eq_getElem_cons (by omega)
      obtain ⟨k, hk⟩ := ih (i + 1) (by omega) (by omega)
      by_cases hxy : a[i] = b[i]
      · have e : (a.drop i = b.drop i) = (a.drop (i + 1) = b.drop (i + 1)) := by rw [ea, eb, List.cons.injEq]; simp [hxy]
        simp only [e]
        exact ⟨k + 1, .round (hstep i a[i] hi' (by simp [hi']) (by rw [hxy]; simp)) hk⟩
      · have e : ¬ (a.drop i = b.drop i) := by rw [ea, eb, List.cons.injEq]; simp [hxy]
        rw [if_neg e, if_neg e]
        exact ⟨1, .out (hno i a[i] b[i] hi' (by simp [hi']) (by simp) hxy) (by simp)⟩
  obtain ⟨k, hk⟩ := key a.length 0 (by omega) (by omega)
  simp only [List.drop_zero] at hk
  exact RunN.loop hk
theorem wrap_succ {i n : Nat} (h : i < n) (hn : n ≤ 9223372036854775807) : IntKind.i64.wrap ((i : Int) + 1) = ((i + 1 : Nat) : Int) := by
  rw [wrap_i64 (by omega) (by omega)]; omega
def und (n : Nat) : List D := List.replicate n .undef
def stOf (ts : List D) : St := { ts, h := [], df := [], rd := false }

theorem f88_ok (a b : List Int) (ha : a.length ≤ 9223372036854775807) : QC 88 [sl eInt a, sl eInt b] (.val (.bool (decide (a = b)))) := by
  by_cases hl : a.length = b.length
  · have h0 : (((a.map eInt).length : Int) != ((b.map eInt).length : Int)) = false := by simp [hl]
    have hloop := same_loop (n := 0) (c := at_ 88 [1, 1, 0, 1, 0, 0]) (S := fun i => stOf ([sl eInt a, sl eInt b] ++ und 3 ++ [.int .i64 (i : Int)] ++ und 20)) (eOut := .exit 0) (sOut := stOf (und 26)) (sNo := stOf (und 4 ++ [.bool false] ++ und 21)) a b hl (by simp)
      (by
        have h1 : decide (((a.length : Nat) : Int) < ((a.map eInt).length : Int)) = false := by simp
        exact pBody_ok (m := 2 ^ 26 - 1) (k := 0) [(4, .br false)] (hp := And.intro (And.intro trivial (congrArg D.bool h1)) trivial) (h := by kernel_rfl))
      (by
        intro i x hi hx hy
        have h1 : decide ((i : Int) < ((a.map eInt).length : Int)) = true := by simp [hi]
        have h2 := ix_sl (t := 23) (en := eInt) (k := .i64) (h := []) (c := false) (by kernel_rfl : elemOf 23 = some (3, 1)) hx rfl
        have h3 := ix_sl (t := 23) (en := eInt) (k := .i64) (h := []) (c := false) (by kernel_rfl : elemOf 23 = some (3, 1)) hy rfl
        have h4 : aBin wd.T .neq 3 (.int .i64 x) (.int .i64 x) = some (.bool false) := by simp [aBin, aIntOp]
        have h5 := pBody_ok (n := 0) (m := 2 ^ 26 - 1 - 35) (k := 0) (c := at_ 88 [1, 1, 0, 1, 0, 0]) (st := stOf ([sl eInt a, sl eInt b] ++ und 3 ++ [.int .i64 (i : Int)] ++ und 20)) (e := .normal) (st' := stOf ([sl eInt a, sl eInt b] ++ und 3 ++ [.int .i64 (IntKind.i64.wrap ((i : Int) + 1))] ++ und 20))
          [(4, .br true), (7, .val (.pptr (eInt x))), (11, .val (.pptr (eInt x))), (13, .val (.bool false))]
          (hp := And.intro (And.intro (And.intro (And.intro (And.intro trivial (congrArg D.bool h1)) h2) h3) h4) trivial) (h := by kernel_rfl)
        rw [wrap_succ hi ha] at h5
        exact h5)
      (by
        intro i x y hi hx hy hne
        have h1 : decide ((i : Int) < ((a.map eInt).length : Int)) = true := by simp [hi]
        have h2 := ix_sl (t := 23) (en := eInt) (k := .i64) (h := []) (c := false) (by kernel_rfl : elemOf 23 = some (3, 1)) hx rfl
        have h3 := ix_sl (t := 23) (en := eInt) (k := .i64) (h := []) (c := false) (by kernel_rfl : elemOf 23 = some (3, 1)) hy rfl
        have h4 : aBin wd.T .neq 3 (.int .i64 x) (.int .i64 y) = some (.bool true) := by simp [aBin, aIntOp, hne]
        exact pBody_ok (m := 2 ^ 26 - 1 - 16) (k := 0) [(4, .br true), (7, .val (.pptr (eInt x))), (11, .val (.pptr (eInt y))), (13, .val (.bool true))]
          (hp := And.intro (And.intro (And.intro (And.intro (And.intro trivial (congrArg D.bool h1)) h2) h3) h4) trivial) (h := by kernel_rfl))
    by_cases hab : a = b
    · rw [if_pos hab, if_pos hab] at hloop
      rw [decide_eq_true hab]
      exact pFun_ok [(6, .br false), (8, .fact (2 ^ 26 - 1 - 35) 0 (.exit 0) (stOf (und 26)))] (hp := And.intro (And.intro trivial (congrArg D.bool h0)) (And.intro trivial hloop)) (h := by kernel_rfl)
    · rw [if_neg hab, if_neg hab] at hloop
      rw [decide_eq_false hab]
      exact pFun_ok [(6, .br false), (8, .fact (2 ^ 26 - 1 - 35) 0 .ret (stOf (und 4 ++ [.bool false] ++ und 21)))] (hp := And.intro (And.intro trivial (congrArg D.bool h0)) (And.intro trivial hloop)) (h := by kernel_rfl)
  · have h0 : (((a.map eInt).length : Int) != ((b.map eInt).length : Int)) = true := by simp; omega
    rw [decide_eq_false (fun e => hl (by rw [e]))]
    exact pFun_ok [(6, .br true)] (hp := And.intro trivial (congrArg D.bool h0)) (h := by kernel_rfl)
end Go.Xa
