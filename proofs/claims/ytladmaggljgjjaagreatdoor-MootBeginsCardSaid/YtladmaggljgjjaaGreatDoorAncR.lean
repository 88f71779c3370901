import Derived.Test.YtladmaggljgjjaaGreatDoorDoEnts
import Derived.Test.YtladmaggljgjjaaGreatDoorStep
namespace Go.Proofs
open Go.AI
set_option maxRecDepth 100000
noncomputable def fnsD (n : Nat) : Option FnA := sel (Nat.beq n 16) none (fnT.get n)
theorem anc_run : isTrue (callA tyT.get (fun _ => (0, 0)) fnsD (orcH orcN Doens) 60 (.func 4) [] h0) = true := by kernel_rfl
end Go.Proofs
