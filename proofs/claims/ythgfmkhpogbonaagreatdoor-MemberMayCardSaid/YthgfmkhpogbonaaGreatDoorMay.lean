import Derived.Test.YthgfmkhpogbonaaGreatDoorRunAnchor
import Derived.Test.YthgfmkhpogbonaaGreatDoorRunMay
namespace Go.Proofs
open Go.AI
def envN (v : Nat → Int) : Env := ⟨v, fun N D c => codeOk N D (drawOk tyT.get) c = true⟩
theorem good_ok (v : Nat → Int) : ∀ N D c, codeOk N D (drawOk tyT.get) c = true ↔ (envN v).good N D c := fun _ _ _ => Iff.rfl
theorem body_4 : ∃ c, Tryz.f4.body = some c := ⟨_, rfl⟩
theorem body_3 : ∃ c, Tryz.f3.body = some c := ⟨_, rfl⟩
theorem name_4 : (Tryz.f4.name == "runtime.NumGoroutine") = false := by kernel_rfl
theorem name_3 : (Tryz.f3.name == "runtime.NumGoroutine") = false := by kernel_rfl
theorem anchor_calls (w : World) : Calls Tryz.prog 4 #[] w (TrueQ w) := by
  obtain ⟨c, hc⟩ := body_4
  exact run_calls (ρ := envN fun _ => 0) (fun w => call_ok ty_ok (bd := fun _ => (0, 0)) (fun i => ⟨Int.le_refl _, Int.le_refl _⟩) rfl fn_ok (orcN_ok (good_ok _)) (good_ok _) 60) Tryz.func4 name_4 hc .nil run_anchor w
theorem fns2_ok : ∀ f F, fns2 f = some F → fnOk Tryz.prog (drawOk tyT.get) f F := by
  intro f F h
  unfold fns2 at h
  cases hc : Nat.beq f 4 with
  | true => rw [hc] at h; cases h
  | false => rw [hc] at h; exact fn_ok f F h
theorem may_of {bd : Bnd} {v : Nat → Int} (hb : BdOk (envN v) bd) {n me wait : AV} {un ume uwait : Value} (r1 : VRel (envN v) φ0 n un) (r2 : VRel (envN v) φ0 me ume) (r3 : VRel (envN v) φ0 wait uwait)
    (he : isTrue (mayR bd n me wait) = true) (w : World) : Calls Tryz.prog 3 #[un, ume, uwait] w (TrueQ w) := by
  obtain ⟨c3, hc3⟩ := body_3
  obtain ⟨c4, hc4⟩ := body_4
  exact run_calls (ρ := envN v) (fun w => call_ok ty_ok hb rfl fns2_ok (orcTrue_ok Tryz.func4 name_4 hc4 anchor_calls (orcN_ok (good_ok _))) (good_ok _) 60) Tryz.func3 name_3 hc3 (.cons _ _ _ _ r1 (.cons _ _ _ _ r2 (.cons _ _ _ _ r3 .nil))) he w
def v3 (n me wait : Int) (i : Nat) : Int := cond (Nat.beq i 0) n (cond (Nat.beq i 1) me (cond (Nat.beq i 2) wait 0))
theorem bd3 {n me wait : Int} {a b c : Int × Int} (h1 : a.1 ≤ n ∧ n ≤ a.2) (h2 : b.1 ≤ me ∧ me ≤ b.2) (h3 : c.1 ≤ wait ∧ wait ≤ c.2) : BdOk (envN (v3 n me wait)) (b3 a b c) := by
  intro i
  show (b3 a b c i).1 ≤ v3 n me wait i ∧ v3 n me wait i ≤ (b3 a b c i).2
  unfold b3 v3
  cases h : Nat.beq i 0 with
  | true => exact h1
  | false => cases h : Nat.beq i 1 with
    | true => exact h2
    | false => cases h : Nat.beq i 2 with
      | true => exact h3
      | false => exact ⟨Int.le_refl _, Int.le_refl _⟩
theorem sym_rel {v : Nat → Int} {i : Nat} {x : Int} (h : v i = x) : VRel (envN v) φ0 (.sym .i64 i 0) (.int .i64 x) := by
  have := VRel.sym (ρ := envN v) (φ := φ0) .i64 i 0
  rw [show (envN v) i + 0 = x from by show v i + 0 = x; omega] at this
  exact this
theorem may_calls (n me wait : Int) (hn : lo64 ≤ n ∧ n ≤ hi64) (hm : lo64 ≤ me ∧ me ≤ hi64) (hw : lo64 ≤ wait ∧ wait ≤ hi64) (w : World) :
    Calls Tryz.prog 3 #[.int .i64 n, .int .i64 me, .int .i64 wait] w (TrueQ w) := by
  have r0 : VRel (envN (v3 n me wait)) φ0 (.sym .i64 0 0) (.int .i64 n) := sym_rel rfl
  have r1 : VRel (envN (v3 n me wait)) φ0 (.sym .i64 1 0) (.int .i64 me) := sym_rel rfl
  have r2 : VRel (envN (v3 n me wait)) φ0 (.sym .i64 2 0) (.int .i64 wait) := sym_rel rfl
  by_cases c1 : wait ≤ 0
  · exact may_of (bd3 hn hm ⟨hw.1, c1⟩) r0 r1 r2 mayA w
  by_cases c2 : 1048577 ≤ wait
  · exact may_of (bd3 hn hm ⟨c2, hw.2⟩) r0 r1 r2 mayB w
  have hw' : waits.1 ≤ wait ∧ wait ≤ waits.2 := by simp only [waits]; omega
  by_cases c3 : n ≤ 2
  · exact may_of (bd3 ⟨hn.1, c3⟩ hm hw') r0 r1 r2 mayC w
  by_cases c4 : 8 ≤ n
  · exact may_of (bd3 ⟨c4, hn.2⟩ hm hw') r0 r1 r2 mayD w
  rcases (by omega : n = 3 ∨ n = 4 ∨ n = 5 ∨ n = 6 ∨ n = 7) with rfl | rfl | rfl | rfl | rfl
  · by_cases c5 : me ≤ -1
    · exact may_of (bd3 hn ⟨hm.1, c5⟩ hw') (.int _ _) r1 r2 may3lo w
    by_cases c6 : 3 ≤ me
    · exact may_of (bd3 hn ⟨c6, hm.2⟩ hw') (.int _ _) r1 r2 may3hi w
    rcases (by omega : me = 0 ∨ me = 1 ∨ me = 2) with rfl | rfl | rfl
    · exact may_of (bd3 hn hm hw') (.int _ _) (.int _ _) r2 may3_0 w
    · exact may_of (bd3 hn hm hw') (.int _ _) (.int _ _) r2 may3_1 w
    · exact may_of (bd3 hn hm hw') (.int _ _) (.int _ _) r2 may3_2 w
  · exact may_of (bd3 hn hm hw') (.int _ _) r1 r2 may4 w
  · by_cases c5 : me ≤ -1
    · exact may_of (bd3 hn ⟨hm.1, c5⟩ hw') (.int _ _) r1 r2 may5lo w
    by_cases c6 : 5 ≤ me
    · exact may_of (bd3 hn ⟨c6, hm.2⟩ hw') (.int _ _) r1 r2 may5hi w
    rcases (by omega : me = 0 ∨ me = 1 ∨ me = 2 ∨ me = 3 ∨ me = 4) with rfl | rfl | rfl | rfl | rfl
    · exact may_of (bd3 hn hm hw') (.int _ _) (.int _ _) r2 may5_0 w
    · exact may_of (bd3 hn hm hw') (.int _ _) (.int _ _) r2 may5_1 w
    · exact may_of (bd3 hn hm hw') (.int _ _) (.int _ _) r2 may5_2 w
    · exact may_of (bd3 hn hm hw') (.int _ _) (.int _ _) r2 may5_3 w
    · exact may_of (bd3 hn hm hw') (.int _ _) (.int _ _) r2 may5_4 w
  · exact may_of (bd3 hn hm hw') (.int _ _) r1 r2 may6 w
  · by_cases c5 : me ≤ -1
    · exact may_of (bd3 hn ⟨hm.1, c5⟩ hw') (.int _ _) r1 r2 may7lo w
    by_cases c6 : 7 ≤ me
    · exact may_of (bd3 hn ⟨c6, hm.2⟩ hw') (.int _ _) r1 r2 may7hi w
    rcases (by omega : me = 0 ∨ me = 1 ∨ me = 2 ∨ me = 3 ∨ me = 4 ∨ me = 5 ∨ me = 6) with rfl | rfl | rfl | rfl | rfl | rfl | rfl
    · exact may_of (bd3 hn hm hw') (.int _ _) (.int _ _) r2 may7_0 w
    · exact may_of (bd3 hn hm hw') (.int _ _) (.int _ _) r2 may7_1 w
    · exact may_of (bd3 hn hm hw') (.int _ _) (.int _ _) r2 may7_2 w
    · exact may_of (bd3 hn hm hw') (.int _ _) (.int _ _) r2 may7_3 w
    · exact may_of (bd3 hn hm hw') (.int _ _) (.int _ _) r2 may7_4 w
    · exact may_of (bd3 hn hm hw') (.int _ _) (.int _ _) r2 may7_5 w
    · exact may_of (bd3 hn hm hw') (.int _ _) (.int _ _) r2 may7_6 w
end Go.Proofs
