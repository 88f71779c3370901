import Derived.Test.YtladmaggljgjjaaGreatDoorRunBeg
import Derived.Test.YtladmaggljgjjaaGreatDoorAncR
import Derived.Test.YtladmaggljgjjaaGreatDoorDoRA
import Derived.Test.YtladmaggljgjjaaGreatDoorDoRB
import Derived.Test.YtladmaggljgjjaaGreatDoorDoRC
import Derived.Test.YtladmaggljgjjaaGreatDoorDoRD
namespace Go.Proofs
open Go.AI
def envN (v : Nat → Int) : Env := ⟨v, fun N D c => codeOk N D (drawOk tyT.get) c = true⟩
theorem good_ok (v : Nat → Int) : ∀ N D c, codeOk N D (drawOk tyT.get) c = true ↔ (envN v).good N D c := fun _ _ _ => Iff.rfl
theorem body_4 : ∃ c, Tryz.f4.body = some c := ⟨_, rfl⟩
theorem body_3 : ∃ c, Tryz.f3.body = some c := ⟨_, rfl⟩
theorem name_4 : (Tryz.f4.name == "runtime.NumGoroutine") = false := by kernel_rfl
theorem name_3 : (Tryz.f3.name == "runtime.NumGoroutine") = false := by kernel_rfl
theorem fnsD_ok : ∀ f F, fnsD f = some F → fnOk Tryz.prog (drawOk tyT.get) f F := by
  intro f F h
  unfold fnsD at h
  cases hc : Nat.beq f 16 with
  | true => rw [hc] at h; cases h
  | false => rw [hc] at h; exact fn_ok f F h
theorem call0 (w : World) : CallOk Tryz.prog (envN fun _ => 0) w (callA tyT.get (fun _ => (0, 0)) fnT.get orcN 60) :=
  call_ok ty_ok (fun i => ⟨Int.le_refl _, Int.le_refl _⟩) rfl fn_ok (orcN_ok (good_ok _)) (good_ok _) 60
theorem ens_ok : ∀ e ∈ Doens, chkE (callA tyT.get (fun _ => (0, 0)) fnT.get orcN 60 (.func e.f) e.args e.pre) e.v e.post = true := by
  intro e he
  simp only [Doens, List.mem_cons, List.not_mem_nil, or_false] at he
  rcases he with rfl | rfl | rfl | rfl | rfl | rfl | rfl | rfl | rfl | rfl
  · exact Dorun0
  · exact Dorun1
  · exact Dorun2
  · exact Dorun3
  · exact Dorun4
  · exact Dorun5
  · exact Dorun6
  · exact Dorun7
  · exact Dorun8
  · exact Dorun9
theorem anchor_calls (w : World) : Calls Tryz.prog 4 #[] w (TrueQ w) := by
  obtain ⟨c, hc⟩ := body_4
  exact run_calls (ρ := envN fun _ => 0) (fun w => call_ok ty_ok (bd := fun _ => (0, 0)) (fun i => ⟨Int.le_refl _, Int.le_refl _⟩) rfl fnsD_ok (orcH_ok (call0 w) (orcN_ok (good_ok _)) Doens ens_ok) (good_ok _) 60) Tryz.func4 name_4 hc .nil anc_run w
theorem fns2_ok : ∀ f F, fns2 f = some F → fnOk Tryz.prog (drawOk tyT.get) f F := by
  intro f F h
  unfold fns2 at h
  cases hc : Nat.beq f 4 with
  | true => rw [hc] at h; cases h
  | false => rw [hc] at h; exact fn_ok f F h
noncomputable def v5 (a b c d e : Int) (i : Nat) : Int := sel (Nat.beq i 0) a (sel (Nat.beq i 1) b (sel (Nat.beq i 2) c (sel (Nat.beq i 3) d (sel (Nat.beq i 4) e 0))))
theorem bd5 {n dsk net fst wait : Int} {a b c d : Int × Int} (h1 : a.1 ≤ n ∧ n ≤ a.2) (h2 : b.1 ≤ dsk ∧ dsk ≤ b.2) (h3 : c.1 ≤ net ∧ net ≤ c.2) (h4 : u64.1 ≤ fst ∧ fst ≤ u64.2) (h5 : d.1 ≤ wait ∧ wait ≤ d.2) : BdOk (envN (v5 n dsk net fst wait)) (b5 a b c d) := by
  intro i
  show (b5 a b c d i).1 ≤ v5 n dsk net fst wait i ∧ v5 n dsk net fst wait i ≤ (b5 a b c d i).2
  unfold b5 v5
  cases h : Nat.beq i 0 with
  | true => exact h1
  | false => cases h : Nat.beq i 1 with
    | true => exact h2
    | false => cases h : Nat.beq i 2 with
      | true => exact h3
      | false => cases h : Nat.beq i 3 with
        | true => exact h4
        | false => cases h : Nat.beq i 4 with
          | true => exact h5
          | false => exact ⟨Int.le_refl _, Int.le_refl _⟩
theorem sym_rel {v : Nat → Int} {k : IntKind} {i : Nat} {x : Int} (h : v i = x) : VRel (envN v) φ0 (.sym k i 0) (.int k x) := by
  have := VRel.sym (ρ := envN v) (φ := φ0) k i 0
  rw [show (envN v) i + 0 = x from by show v i + 0 = x; omega] at this
  exact this
theorem beg_of {n dsk net fst wait : Int} {bd : Bnd} (hb : BdOk (envN (v5 n dsk net fst wait)) bd) {a : AV} (ha : a.flat = true) (r : VRel (envN (v5 n dsk net fst wait)) φ0 a (.int .i64 n))
    (he : isTrue (begR bd a) = true) (w : World) : Calls Tryz.prog 3 #[.agg #[.int .i64 n, .int .i64 dsk, .int .i64 net, .int .u64 fst, .int .i64 wait]] w (TrueQ w) := by
  obtain ⟨c3, hc3⟩ := body_3
  obtain ⟨c4, hc4⟩ := body_4
  refine run_calls (ρ := envN (v5 n dsk net fst wait)) (fun w => call_ok ty_ok hb rfl fns2_ok (orcTrue_ok Tryz.func4 name_4 hc4 anchor_calls (orcN_ok (good_ok _))) (good_ok _) 60) Tryz.func3 name_3 hc3 (.cons _ _ _ _ (.agg _ _ ?_ ?_) .nil) he w
  · exact .cons _ _ _ _ r (.cons _ _ _ _ (sym_rel rfl) (.cons _ _ _ _ (sym_rel rfl) (.cons _ _ _ _ (sym_rel rfl) (.cons _ _ _ _ (sym_rel rfl) .nil))))
  · intro v hv
    simp only [List.mem_cons, List.not_mem_nil, or_false] at hv
    rcases hv with rfl | rfl | rfl | rfl | rfl
    · exact ha
    all_goals rfl
theorem beg_calls (n dsk net fst wait : Int) (hn : lo64 ≤ n ∧ n ≤ hi64) (hd : lo64 ≤ dsk ∧ dsk ≤ hi64) (ht : lo64 ≤ net ∧ net ≤ hi64) (hf : 0 ≤ fst ∧ fst ≤ 18446744073709551615) (hw : lo64 ≤ wait ∧ wait ≤ hi64) (w : World) :
    Calls Tryz.prog 3 #[.agg #[.int .i64 n, .int .i64 dsk, .int .i64 net, .int .u64 fst, .int .i64 wait]] w (TrueQ w) := by
  by_cases c3 : n ≤ 2
  · exact beg_of (bd5 ⟨hn.1, c3⟩ hd ht hf hw) rfl (sym_rel rfl) begA w
  by_cases c4 : 8 ≤ n
  · exact beg_of (bd5 ⟨c4, hn.2⟩ hd ht hf hw) rfl (sym_rel rfl) begB w
  rcases (by omega : n = 3 ∨ n = 4 ∨ n = 5 ∨ n = 6 ∨ n = 7) with rfl | rfl | rfl | rfl | rfl
  · by_cases c5 : net ≤ 0
    · exact beg_of (bd5 hn hd ⟨ht.1, c5⟩ hf hw) rfl (.int _ _) beg3netlo w
    by_cases c6 : 4097 ≤ net
    · exact beg_of (bd5 hn hd ⟨c6, ht.2⟩ hf hw) rfl (.int _ _) beg3nethi w
    have ht' : nets.1 ≤ net ∧ net ≤ nets.2 := by simp only [nets]; omega
    by_cases c7 : dsk ≤ 1023
    · exact beg_of (bd5 hn ⟨hd.1, c7⟩ ht' hf hw) rfl (.int _ _) beg3disklo w
    by_cases c8 : 4194305 ≤ dsk
    · exact beg_of (bd5 hn ⟨c8, hd.2⟩ ht' hf hw) rfl (.int _ _) beg3diskhi w
    have hd' : disks.1 ≤ dsk ∧ dsk ≤ disks.2 := by simp only [disks]; omega
    by_cases c9 : wait ≤ 0
    · exact beg_of (bd5 hn hd' ht' hf ⟨hw.1, c9⟩) rfl (.int _ _) beg3waitlo w
    by_cases c10 : 1048577 ≤ wait
    · exact beg_of (bd5 hn hd' ht' hf ⟨c10, hw.2⟩) rfl (.int _ _) beg3waithi w
    have hw' : waits.1 ≤ wait ∧ wait ≤ waits.2 := by simp only [waits]; omega
    exact beg_of (bd5 hn hd' ht' hf hw') rfl (.int _ _) beg3all w
  · exact beg_of (bd5 hn hd ht hf hw) rfl (.int _ _) begN4 w
  · by_cases c5 : net ≤ 0
    · exact beg_of (bd5 hn hd ⟨ht.1, c5⟩ hf hw) rfl (.int _ _) beg5netlo w
    by_cases c6 : 4097 ≤ net
    · exact beg_of (bd5 hn hd ⟨c6, ht.2⟩ hf hw) rfl (.int _ _) beg5nethi w
    have ht' : nets.1 ≤ net ∧ net ≤ nets.2 := by simp only [nets]; omega
    by_cases c7 : dsk ≤ 1023
    · exact beg_of (bd5 hn ⟨hd.1, c7⟩ ht' hf hw) rfl (.int _ _) beg5disklo w
    by_cases c8 : 4194305 ≤ dsk
    · exact beg_of (bd5 hn ⟨c8, hd.2⟩ ht' hf hw) rfl (.int _ _) beg5diskhi w
    have hd' : disks.1 ≤ dsk ∧ dsk ≤ disks.2 := by simp only [disks]; omega
    by_cases c9 : wait ≤ 0
    · exact beg_of (bd5 hn hd' ht' hf ⟨hw.1, c9⟩) rfl (.int _ _) beg5waitlo w
    by_cases c10 : 1048577 ≤ wait
    · exact beg_of (bd5 hn hd' ht' hf ⟨c10, hw.2⟩) rfl (.int _ _) beg5waithi w
    have hw' : waits.1 ≤ wait ∧ wait ≤ waits.2 := by simp only [waits]; omega
    exact beg_of (bd5 hn hd' ht' hf hw') rfl (.int _ _) beg5all w
  · exact beg_of (bd5 hn hd ht hf hw) rfl (.int _ _) begN6 w
  · by_cases c5 : net ≤ 0
    · exact beg_of (bd5 hn hd ⟨ht.1, c5⟩ hf hw) rfl (.int _ _) beg7netlo w
    by_cases c6 : 4097 ≤ net
    · exact beg_of (bd5 hn hd ⟨c6, ht.2⟩ hf hw) rfl (.int _ _) beg7nethi w
    have ht' : nets.1 ≤ net ∧ net ≤ nets.2 := by simp only [nets]; omega
    by_cases c7 : dsk ≤ 1023
    · exact beg_of (bd5 hn ⟨hd.1, c7⟩ ht' hf hw) rfl (.int _ _) beg7disklo w
    by_cases c8 : 4194305 ≤ dsk
    · exact beg_of (bd5 hn ⟨c8, hd.2⟩ ht' hf hw) rfl (.int _ _) beg7diskhi w
    have hd' : disks.1 ≤ dsk ∧ dsk ≤ disks.2 := by simp only [disks]; omega
    by_cases c9 : wait ≤ 0
    · exact beg_of (bd5 hn hd' ht' hf ⟨hw.1, c9⟩) rfl (.int _ _) beg7waitlo w
    by_cases c10 : 1048577 ≤ wait
    · exact beg_of (bd5 hn hd' ht' hf ⟨c10, hw.2⟩) rfl (.int _ _) beg7waithi w
    have hw' : waits.1 ≤ wait ∧ wait ≤ waits.2 := by simp only [waits]; omega
    exact beg_of (bd5 hn hd' ht' hf hw') rfl (.int _ _) beg7all w
end Go.Proofs
