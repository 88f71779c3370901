import Derived.Test.YtladmaggljgjjaaGreatDoorStep
import Derived.Test.YtladmaggljgjjaaGreatDoorDoEnts
namespace Go.Proofs
open Go.AI
set_option maxRecDepth 100000
theorem Dorun3 : chkE (callA tyT.get (fun _ => (0, 0)) fnT.get orcN 60 (.func Doen3.f) Doen3.args Doen3.pre) Doen3.v Doen3.post = true := by kernel_rfl
theorem Dorun4 : chkE (callA tyT.get (fun _ => (0, 0)) fnT.get orcN 60 (.func Doen4.f) Doen4.args Doen4.pre) Doen4.v Doen4.post = true := by kernel_rfl
end Go.Proofs
