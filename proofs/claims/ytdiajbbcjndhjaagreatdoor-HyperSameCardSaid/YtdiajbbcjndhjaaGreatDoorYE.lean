/- The machine's example holds. -/
import Derived.Test.YtdiajbbcjndhjaaGreatDoorYD
namespace Go.Xa
open Go.RowKit Go.Proofs
set_option maxRecDepth 1000000
theorem shown21 : QCall Tryz.prog wd 21 [] (.val (.bool true)) := quiet_ok (x_ok 600) (by kernel_rfl)
end Go.Xa
