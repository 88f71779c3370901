/-
  Closed facts of the row of MootBegins.
-/
import Derived.Test.YtladmaggljgjjaaGreatDoorRows
import Derived.Test.YtladmaggljgjjaaGreatDoorFacts0
namespace Go.Proofs.YtladmaggljgjjaaGreatDoor
set_option linter.unusedVariables false
set_option maxRecDepth 100000
theorem fact13 : (fun (P : Program) (f : FuncId) (fn : Func) (s : ChangeSpec) (c : OpenClaim) => ((c.named == P.varsNamed f) : Bool)) Tryz.prog 3 Tryz.f3 Rows.mootBeginsSpec Rows.mootBeginsRow = true := by kernel_rfl
end Go.Proofs.YtladmaggljgjjaaGreatDoor
