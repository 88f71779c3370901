/-
  Closed facts of the card of MootBegins.
-/
import Derived.Test.YtladmaggljgjjaaGreatDoorCards
import Derived.KernelRfl
namespace Go.Proofs.YtladmaggljgjjaaGreatDoor
set_option linter.unusedVariables false
set_option maxRecDepth 100000
theorem cfact1 : Rows.mootBeginsRow.wfByText (OpenSpec.ofChange Rows.mootBeginsSpec) = true := by kernel_rfl
theorem cfact2 : Tryz.pinned.checked.prog.mainIs = some (Rows.mootBeginsCard.stood.harness.1, Rows.mootBeginsCard.stood.harness.2.toList) := by kernel_rfl
theorem cfact3 : Tryz.prog.funcNamed Rows.mootBeginsRow.func = some 3 := by kernel_rfl
end Go.Proofs.YtladmaggljgjjaaGreatDoor
