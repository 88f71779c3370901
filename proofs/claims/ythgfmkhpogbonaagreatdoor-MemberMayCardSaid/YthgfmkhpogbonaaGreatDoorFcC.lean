/-
  Closed facts of the row of MemberMay.
-/
import Derived.Test.YthgfmkhpogbonaaGreatDoorRows
import Derived.Test.YthgfmkhpogbonaaGreatDoorFacts0
namespace Go.Proofs.YthgfmkhpogbonaaGreatDoor
set_option maxRecDepth 100000
theorem fact11 : (fun (P : Program) (f : FuncId) (fn : Func) (s : ChangeSpec) (c : OpenClaim) => ((c.unfollowed == P.unfollowed f) : Bool)) Tryz.prog 3 Tryz.f3 Rows.memberMaySpec Rows.memberMayRow = true := by kernel_rfl
end Go.Proofs.YthgfmkhpogbonaaGreatDoor
