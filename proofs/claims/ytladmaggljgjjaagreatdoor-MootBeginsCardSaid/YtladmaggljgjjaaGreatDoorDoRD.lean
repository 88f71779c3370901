import Derived.Test.YtladmaggljgjjaaGreatDoorStep
import Derived.Test.YtladmaggljgjjaaGreatDoorDoEnts
namespace Go.Proofs
open Go.AI
set_option maxRecDepth 100000
theorem Dorun7 : chkE (callA tyT.get (fun _ => (0, 0)) fnT.get orcN 60 (.func Doen7.f) Doen7.args Doen7.pre) Doen7.v Doen7.post = true := by kernel_rfl
theorem Dorun8 : chkE (callA tyT.get (fun _ => (0, 0)) fnT.get orcN 60 (.func Doen8.f) Doen8.args Doen8.pre) Doen8.v Doen8.post = true := by kernel_rfl
theorem Dorun9 : chkE (callA tyT.get (fun _ => (0, 0)) fnT.get orcN 60 (.func Doen9.f) Doen9.args Doen9.pre) Doen9.v Doen9.post = true := by kernel_rfl
end Go.Proofs
