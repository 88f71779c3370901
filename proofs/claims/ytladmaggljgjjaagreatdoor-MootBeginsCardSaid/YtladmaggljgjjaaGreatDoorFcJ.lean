/-
  Closed facts of the card of MootBegins.
-/
import Derived.Test.YtladmaggljgjjaaGreatDoorCards
import Derived.KernelRfl
namespace Go.Proofs.YtladmaggljgjjaaGreatDoor
set_option linter.unusedVariables false
set_option maxRecDepth 100000
theorem cfact4 : false = Tryz.prog.looks [] := by kernel_rfl
theorem cfact5 : ([24].all fun u => !Tryz.prog.wantsStandIn u) = true := by kernel_rfl
end Go.Proofs.YtladmaggljgjjaaGreatDoor
