/- The place's executor is right; the documents' examples hold. -/
import Derived.Test.YtdiajbbcjndhjaaGreatDoorYC
namespace Go.Xa
open Go.RowKit Go.Proofs

theorem wdT : wd.T.ok Tryz.prog := tyTree_ok
theorem wdF : ∀ f fn, wd.F f = some fn → Tryz.prog.funcs[f]? = some fn := fnTree_ok
theorem x_ok (n : Nat) : ROk Tryz.prog wd (exec wd r0 n) := exec_ok wdT mixed wdF r0_ok n
set_option maxRecDepth 1000000
theorem shown7 : QCall Tryz.prog wd 7 [] (.val (.bool true)) := quiet_ok (x_ok 600) (by kernel_rfl)
theorem shown18 : QCall Tryz.prog wd 18 [] (.val (.bool true)) := quiet_ok (x_ok 600) (by kernel_rfl)
end Go.Xa
