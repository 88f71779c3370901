/-
  Closed facts of the card of MemberMay.
-/
import Derived.Test.YthgfmkhpogbonaaGreatDoorCards
import Derived.KernelRfl
namespace Go.Proofs.YthgfmkhpogbonaaGreatDoor
set_option maxRecDepth 100000
theorem cfact6 : false = Rows.memberMayRow.goesBy Tryz.pinned.checked.prog := by kernel_rfl
end Go.Proofs.YthgfmkhpogbonaaGreatDoor
