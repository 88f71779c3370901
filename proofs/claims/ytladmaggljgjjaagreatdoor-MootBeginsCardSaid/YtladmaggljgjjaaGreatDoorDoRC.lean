import Derived.Test.YtladmaggljgjjaaGreatDoorStep
import Derived.Test.YtladmaggljgjjaaGreatDoorDoEnts
namespace Go.Proofs
open Go.AI
set_option maxRecDepth 100000
theorem Dorun5 : chkE (callA tyT.get (fun _ => (0, 0)) fnT.get orcN 60 (.func Doen5.f) Doen5.args Doen5.pre) Doen5.v Doen5.post = true := by kernel_rfl
theorem Dorun6 : chkE (callA tyT.get (fun _ => (0, 0)) fnT.get orcN 60 (.func Doen6.f) Doen6.args Doen6.pre) Doen6.v Doen6.post = true := by kernel_rfl
end Go.Proofs
