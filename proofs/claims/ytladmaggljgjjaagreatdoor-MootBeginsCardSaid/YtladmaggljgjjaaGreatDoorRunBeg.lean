import Derived.Test.YtladmaggljgjjaaGreatDoorStep
namespace Go.Proofs
open Go.AI
set_option maxRecDepth 100000
noncomputable def fns2 (n : Nat) : Option FnA := sel (Nat.beq n 4) none (fnT.get n)
noncomputable def begR (bd : Bnd) (n : AV) : Option (AV × AHeap) := callA tyT.get bd fns2 (orcTrue 4 orcN) 60 (.func 3) [.agg [n, .sym .i64 1 0, .sym .i64 2 0, .sym .u64 3 0, .sym .i64 4 0]] h0
def lo64 : Int := -9223372036854775808
def hi64 : Int := 9223372036854775807
def u64 : Int × Int := (0, 18446744073709551615)
def full : Int × Int := (lo64, hi64)
noncomputable def b5 (a b c d : Int × Int) (i : Nat) : Int × Int := sel (Nat.beq i 0) a (sel (Nat.beq i 1) b (sel (Nat.beq i 2) c (sel (Nat.beq i 3) u64 (sel (Nat.beq i 4) d (0, 0)))))
def nets : Int × Int := (1, 4096)
def disks : Int × Int := (1024, 4194304)
def waits : Int × Int := (1, 1048576)
theorem begA : isTrue (begR (b5 (lo64, 2) full full full) (.sym .i64 0 0)) = true := by kernel_rfl
theorem begB : isTrue (begR (b5 (8, hi64) full full full) (.sym .i64 0 0)) = true := by kernel_rfl
theorem begN4 : isTrue (begR (b5 full full full full) (.int .i64 4)) = true := by kernel_rfl
theorem begN6 : isTrue (begR (b5 full full full full) (.int .i64 6)) = true := by kernel_rfl
theorem beg3netlo : isTrue (begR (b5 full full (lo64, 0) full) (.int .i64 3)) = true := by kernel_rfl
theorem beg3nethi : isTrue (begR (b5 full full (4097, hi64) full) (.int .i64 3)) = true := by kernel_rfl
theorem beg3disklo : isTrue (begR (b5 full (lo64, 1023) nets full) (.int .i64 3)) = true := by kernel_rfl
theorem beg3diskhi : isTrue (begR (b5 full (4194305, hi64) nets full) (.int .i64 3)) = true := by kernel_rfl
theorem beg3waitlo : isTrue (begR (b5 full disks nets (lo64, 0)) (.int .i64 3)) = true := by kernel_rfl
theorem beg3waithi : isTrue (begR (b5 full disks nets (1048577, hi64)) (.int .i64 3)) = true := by kernel_rfl
theorem beg3all : isTrue (begR (b5 full disks nets waits) (.int .i64 3)) = true := by kernel_rfl
theorem beg5netlo : isTrue (begR (b5 full full (lo64, 0) full) (.int .i64 5)) = true := by kernel_rfl
theorem beg5nethi : isTrue (begR (b5 full full (4097, hi64) full) (.int .i64 5)) = true := by kernel_rfl
theorem beg5disklo : isTrue (begR (b5 full (lo64, 1023) nets full) (.int .i64 5)) = true := by kernel_rfl
theorem beg5diskhi : isTrue (begR (b5 full (4194305, hi64) nets full) (.int .i64 5)) = true := by kernel_rfl
theorem beg5waitlo : isTrue (begR (b5 full disks nets (lo64, 0)) (.int .i64 5)) = true := by kernel_rfl
theorem beg5waithi : isTrue (begR (b5 full disks nets (1048577, hi64)) (.int .i64 5)) = true := by kernel_rfl
theorem beg5all : isTrue (begR (b5 full disks nets waits) (.int .i64 5)) = true := by kernel_rfl
theorem beg7netlo : isTrue (begR (b5 full full (lo64, 0) full) (.int .i64 7)) = true := by kernel_rfl
theorem beg7nethi : isTrue (begR (b5 full full (4097, hi64) full) (.int .i64 7)) = true := by kernel_rfl
theorem beg7disklo : isTrue (begR (b5 full (lo64, 1023) nets full) (.int .i64 7)) = true := by kernel_rfl
theorem beg7diskhi : isTrue (begR (b5 full (4194305, hi64) nets full) (.int .i64 7)) = true := by kernel_rfl
theorem beg7waitlo : isTrue (begR (b5 full disks nets (lo64, 0)) (.int .i64 7)) = true := by kernel_rfl
theorem beg7waithi : isTrue (begR (b5 full disks nets (1048577, hi64)) (.int .i64 7)) = true := by kernel_rfl
theorem beg7all : isTrue (begR (b5 full disks nets waits) (.int .i64 7)) = true := by kernel_rfl
end Go.Proofs
