/- KernSame's code. -/
import Derived.Test.YtdiajbbcjndhjaaGreatDoorZL
namespace Go.Xa
open Go.RowKit Go.Proofs

theorem f3_ok (a b : Kern) (ha : FitKern a) (hb : FitKern b) : QC 3 [.agg (eKern a), .agg (eKern b)] (.val (.bool true)) := by
  have s := shown7
  have aa := f9_ok a a ha
  have bb := f9_ok b b hb
  rw [decide_eq_true rfl] at aa bb
  have ab := f9_ok a b ha
  have ba := f9_ok b a hb
  have r := f8_ok a b ha
  by_cases h : a = b
  · rw [decide_eq_true h] at ab r
    rw [decide_eq_true h.symm] at ba
    exact pFun_ok [(3, .quiet (.val (.bool true))), (7, .quiet (.val (.bool true))), (13, .quiet (.val (.bool true))), (20, .quiet (.val (.bool true))), (27, .quiet (.val (.bool true))), (32, .quiet (.val (.bool true)))]
      (hp := And.intro (And.intro (And.intro (And.intro (And.intro (And.intro trivial s) r) ab) ba) aa) bb) (h := by kernel_rfl)
  · rw [decide_eq_false h] at ab r
    rw [decide_eq_false (fun e => h e.symm)] at ba
    exact pFun_ok [(3, .quiet (.val (.bool true))), (7, .quiet (.val (.bool false))), (13, .quiet (.val (.bool false))), (20, .quiet (.val (.bool false))), (27, .quiet (.val (.bool true))), (32, .quiet (.val (.bool true)))]
      (hp := And.intro (And.intro (And.intro (And.intro (And.intro (And.intro trivial s) r) ab) ba) aa) bb) (h := by kernel_rfl)
end Go.Xa
