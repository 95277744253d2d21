import Derived.Test.YtcfmdhkopcijoabGreatDoorEvO
set_option linter.all false
/-! The whole law's run. -/
namespace Go.Proofs.YtcfmdhkopcijoabGreatDoor
open Go Go.Ev
noncomputable def okTrue (r : R) : Bool := match r with | .val v _ _ => (match v with | .bool b => b | _ => false) | _ => false
theorem run : okTrue (evF E5 1000000 (.call 3 [.sym 1]) .nil [] .nil 0) = true := by kernel_rfl
end Go.Proofs.YtcfmdhkopcijoabGreatDoor
