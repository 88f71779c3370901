import Derived.Test.YtladmaggljgjjaaGreatDoorStep
import Derived.Test.YtladmaggljgjjaaGreatDoorDoEnts
namespace Go.Proofs
open Go.AI
set_option maxRecDepth 100000
theorem Dorun0 : chkE (callA tyT.get (fun _ => (0, 0)) fnT.get orcN 60 (.func Doen0.f) Doen0.args Doen0.pre) Doen0.v Doen0.post = true := by kernel_rfl
theorem Dorun1 : chkE (callA tyT.get (fun _ => (0, 0)) fnT.get orcN 60 (.func Doen1.f) Doen1.args Doen1.pre) Doen1.v Doen1.post = true := by kernel_rfl
theorem Dorun2 : chkE (callA tyT.get (fun _ => (0, 0)) fnT.get orcN 60 (.func Doen2.f) Doen2.args Doen2.pre) Doen2.v Doen2.post = true := by kernel_rfl
end Go.Proofs
