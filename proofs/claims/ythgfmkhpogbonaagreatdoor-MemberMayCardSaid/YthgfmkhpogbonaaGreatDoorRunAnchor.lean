import Derived.Test.YthgfmkhpogbonaaGreatDoorStep
namespace Go.Proofs
open Go.AI
set_option maxRecDepth 100000
theorem run_anchor : isTrue (callA tyT.get (fun _ => (0, 0)) fnT.get orcN 60 (.func 4) [] h0) = true := by kernel_rfl
end Go.Proofs
