import Derived.Test.YthgfmkhpogbonaaGreatDoorStep
namespace Go.Proofs
open Go.AI
set_option maxRecDepth 100000
noncomputable def fns2 (n : Nat) : Option FnA := cond (Nat.beq n 4) none (fnT.get n)
noncomputable def mayR (bd : Bnd) (n me wait : AV) : Option (AV × AHeap) := callA tyT.get bd fns2 (orcTrue 4 orcN) 60 (.func 3) [n, me, wait] h0
def lo64 : Int := -9223372036854775808
def hi64 : Int := 9223372036854775807
def b3 (a b c : Int × Int) (i : Nat) : Int × Int := cond (Nat.beq i 0) a (cond (Nat.beq i 1) b (cond (Nat.beq i 2) c (0, 0)))
def full : Int × Int := (lo64, hi64)
def waits : Int × Int := (1, 1048576)
theorem mayA : isTrue (mayR (b3 full full (lo64, 0)) (.sym .i64 0 0) (.sym .i64 1 0) (.sym .i64 2 0)) = true := by kernel_rfl
theorem mayB : isTrue (mayR (b3 full full (1048577, hi64)) (.sym .i64 0 0) (.sym .i64 1 0) (.sym .i64 2 0)) = true := by kernel_rfl
theorem mayC : isTrue (mayR (b3 (lo64, 2) full waits) (.sym .i64 0 0) (.sym .i64 1 0) (.sym .i64 2 0)) = true := by kernel_rfl
theorem mayD : isTrue (mayR (b3 (8, hi64) full waits) (.sym .i64 0 0) (.sym .i64 1 0) (.sym .i64 2 0)) = true := by kernel_rfl
theorem may4 : isTrue (mayR (b3 full full waits) (.int .i64 4) (.sym .i64 1 0) (.sym .i64 2 0)) = true := by kernel_rfl
theorem may6 : isTrue (mayR (b3 full full waits) (.int .i64 6) (.sym .i64 1 0) (.sym .i64 2 0)) = true := by kernel_rfl
theorem may3lo : isTrue (mayR (b3 full (lo64, -1) waits) (.int .i64 3) (.sym .i64 1 0) (.sym .i64 2 0)) = true := by kernel_rfl
theorem may3hi : isTrue (mayR (b3 full (3, hi64) waits) (.int .i64 3) (.sym .i64 1 0) (.sym .i64 2 0)) = true := by kernel_rfl
theorem may3_0 : isTrue (mayR (b3 full full waits) (.int .i64 3) (.int .i64 0) (.sym .i64 2 0)) = true := by kernel_rfl
theorem may3_1 : isTrue (mayR (b3 full full waits) (.int .i64 3) (.int .i64 1) (.sym .i64 2 0)) = true := by kernel_rfl
theorem may3_2 : isTrue (mayR (b3 full full waits) (.int .i64 3) (.int .i64 2) (.sym .i64 2 0)) = true := by kernel_rfl
theorem may5lo : isTrue (mayR (b3 full (lo64, -1) waits) (.int .i64 5) (.sym .i64 1 0) (.sym .i64 2 0)) = true := by kernel_rfl
theorem may5hi : isTrue (mayR (b3 full (5, hi64) waits) (.int .i64 5) (.sym .i64 1 0) (.sym .i64 2 0)) = true := by kernel_rfl
theorem may5_0 : isTrue (mayR (b3 full full waits) (.int .i64 5) (.int .i64 0) (.sym .i64 2 0)) = true := by kernel_rfl
theorem may5_1 : isTrue (mayR (b3 full full waits) (.int .i64 5) (.int .i64 1) (.sym .i64 2 0)) = true := by kernel_rfl
theorem may5_2 : isTrue (mayR (b3 full full waits) (.int .i64 5) (.int .i64 2) (.sym .i64 2 0)) = true := by kernel_rfl
theorem may5_3 : isTrue (mayR (b3 full full waits) (.int .i64 5) (.int .i64 3) (.sym .i64 2 0)) = true := by kernel_rfl
theorem may5_4 : isTrue (mayR (b3 full full waits) (.int .i64 5) (.int .i64 4) (.sym .i64 2 0)) = true := by kernel_rfl
theorem may7lo : isTrue (mayR (b3 full (lo64, -1) waits) (.int .i64 7) (.sym .i64 1 0) (.sym .i64 2 0)) = true := by kernel_rfl
theorem may7hi : isTrue (mayR (b3 full (7, hi64) waits) (.int .i64 7) (.sym .i64 1 0) (.sym .i64 2 0)) = true := by kernel_rfl
theorem may7_0 : isTrue (mayR (b3 full full waits) (.int .i64 7) (.int .i64 0) (.sym .i64 2 0)) = true := by kernel_rfl
theorem may7_1 : isTrue (mayR (b3 full full waits) (.int .i64 7) (.int .i64 1) (.sym .i64 2 0)) = true := by kernel_rfl
theorem may7_2 : isTrue (mayR (b3 full full waits) (.int .i64 7) (.int .i64 2) (.sym .i64 2 0)) = true := by kernel_rfl
theorem may7_3 : isTrue (mayR (b3 full full waits) (.int .i64 7) (.int .i64 3) (.sym .i64 2 0)) = true := by kernel_rfl
theorem may7_4 : isTrue (mayR (b3 full full waits) (.int .i64 7) (.int .i64 4) (.sym .i64 2 0)) = true := by kernel_rfl
theorem may7_5 : isTrue (mayR (b3 full full waits) (.int .i64 7) (.int .i64 5) (.sym .i64 2 0)) = true := by kernel_rfl
theorem may7_6 : isTrue (mayR (b3 full full waits) (.int .i64 7) (.int .i64 6) (.sym .i64 2 0)) = true := by kernel_rfl
end Go.Proofs
