/-
  Closed facts of the card of MemberMay.
-/
import Derived.Test.YthgfmkhpogbonaaGreatDoorCards
import Derived.KernelRfl
namespace Go.Proofs.YthgfmkhpogbonaaGreatDoor
set_option maxRecDepth 100000
theorem cfact1 : Rows.memberMayRow.wfByText (OpenSpec.ofChange Rows.memberMaySpec) = true := by kernel_rfl
theorem cfact2 : Tryz.pinned.checked.prog.mainIs = some (Rows.memberMayCard.stood.harness.1, Rows.memberMayCard.stood.harness.2.toList) := by kernel_rfl
theorem cfact3 : Tryz.prog.funcNamed Rows.memberMayRow.func = some 3 := by kernel_rfl
end Go.Proofs.YthgfmkhpogbonaaGreatDoor
