/-
  Closed facts of the card of MootBegins.
-/
import Derived.Test.YtladmaggljgjjaaGreatDoorCards
import Derived.KernelRfl
import Derived.Test.YtladmaggljgjjaaGreatDoorGoes0
namespace Go.Proofs.YtladmaggljgjjaaGreatDoor
set_option maxRecDepth 100000
theorem cfact6a : (Tryz.prog.funcs.any Func.goes) = false := by kernel_rfl
theorem cfact6 : false = Rows.mootBeginsRow.goesBy Tryz.pinned.checked.prog := Go.AI.goes_none rfl cfact6a
end Go.Proofs.YtladmaggljgjjaaGreatDoor
