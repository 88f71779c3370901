/-
  Closed facts of the card of MemberMay.
-/
import Derived.Test.YthgfmkhpogbonaaGreatDoorCards
import Derived.KernelRfl
namespace Go.Proofs.YthgfmkhpogbonaaGreatDoor
set_option maxRecDepth 100000
theorem cfact4 : false = Tryz.prog.looks [] := by kernel_rfl
theorem cfact5 : ([3, 3, 3].all fun u => !Tryz.prog.wantsStandIn u) = true := by kernel_rfl
end Go.Proofs.YthgfmkhpogbonaaGreatDoor
