import Derived.Test.YtladmaggljgjjaaGreatDoorChk
import Derived.Test.YtladmaggljgjjaaGreatDoorAiP5
namespace Go.Proofs
open Go.AI
noncomputable def fn_241 : FnA := ⟨Tryz.f241, .nil⟩
theorem ok_241 : fnOk Tryz.prog (drawOk tyT.get) 241 fn_241 := fnOk_of Tryz.func241 (by kernel_rfl) (by kernel_rfl)
noncomputable def step1 (s : Nat) : Nat := sel (Nat.beq (Nat.land s 1) 1) (Nat.xor (Nat.div s 2) 3988292384) (Nat.div s 2)
noncomputable def stepN (s b : Nat) : Nat := step1 (step1 (step1 (step1 (step1 (step1 (step1 (step1 (Nat.xor s b))))))))
set_option maxRecDepth 100000
set_option linter.unusedSimpArgs false
theorem tm0 {a : AV} {l : List AV} : tmOf (a :: l) 0 = a := rfl
theorem tm1 {a b : AV} {l : List AV} : tmOf (a :: b :: l) 1 = b := rfl
theorem conv_u8_u32 {n : Nat} {h : AHeap} (hn : n ≤ 4294967295) : convA tyT.get 5 150 (.int .u8 (Int.ofNat n)) h = some (.int .u32 (Int.ofNat n), h) := by
  show some (AV.int .u32 (wrapA .u32 (Int.ofNat n)), h) = _
  have : kin .u32 (Int.ofNat n) = true := by simpa [kin, khi] using hn
  unfold wrapA
  rw [this]; rfl
theorem intA_xor {a b : Nat} (ha : a ≤ 4294967295) (hb : b ≤ 4294967295) : intA .xor .u32 (Int.ofNat a) .u32 (Int.ofNat b) = some (.int .u32 (Int.ofNat (Nat.xor a b))) := by
  show guardB true (guardB (and (Nat.ble a 4294967295) (Nat.ble b 4294967295)) _) = _
  have h1 : Nat.ble a 4294967295 = true := by simpa using ha
  have h2 : Nat.ble b 4294967295 = true := by simpa using hb
  rw [h1, h2]; rfl
theorem intA_and {a b : Nat} (ha : a ≤ 4294967295) (hb : b ≤ 4294967295) : intA .and .u32 (Int.ofNat a) .u32 (Int.ofNat b) = some (.int .u32 (Int.ofNat (Nat.land a b))) := by
  show guardB true (guardB (and (Nat.ble a 4294967295) (Nat.ble b 4294967295)) _) = _
  have h1 : Nat.ble a 4294967295 = true := by simpa using ha
  have h2 : Nat.ble b 4294967295 = true := by simpa using hb
  rw [h1, h2]; rfl
theorem xor_le {a b : Nat} (ha : a ≤ 4294967295) (hb : b ≤ 4294967295) : Nat.xor a b ≤ 4294967295 := by
  have := Nat.xor_lt_two_pow (n := 32) (x := a) (y := b) (by omega) (by omega)
  have h : a ^^^ b = Nat.xor a b := rfl
  omega
theorem step1_le {s : Nat} (hs : s ≤ 4294967295) : step1 s ≤ 4294967295 := by
  unfold step1
  have : Nat.div s 2 = s / 2 := rfl
  cases Nat.beq (Nat.land s 1) 1
  · simp only [sel_false]; omega
  · simp only [sel_true]; exact xor_le (by omega) (by omega)
noncomputable def stepLoop (bd : Bnd) (C : CallF) (rng : Nat → Bool) : Run :=
  match Tryz.f241.body with
  | some (.seq _ (.seq _ (.seq (.seq _ (.block _ (.loop c))) _))) => codeA tyT.get bd C rng Tr.nil.get c
  | _ => cFail
theorem lss8 {i : Nat} : intA .lss .i64 (Int.ofNat i) .i64 8 = some (.bool (decide (i < 8))) := by
  show some (AV.bool (not (Nat.ble 8 i))) = _
  congr 2
  rw [Bool.eq_iff_iff]; simp [Nat.ble_eq, ← Bool.not_eq_true]
theorem inc8 {i : Nat} (hi : i < 8) : intA .add .i64 (Int.ofNat i) .i64 1 = some (.int .i64 (Int.ofNat (i + 1))) := by
  show some (AV.int .i64 (wrapA .i64 (Int.ofNat (i + 1)))) = _
  have : kin .i64 (Int.ofNat (i + 1)) = true := by simp [kin, khi]; omega
  unfold wrapA
  rw [this]; rfl
theorem shr1 {s : Nat} : intA .shr .u32 (Int.ofNat s) .u64 1 = some (.int .u32 (Int.ofNat (Nat.div s 2))) := rfl
theorem eq1 {s : Nat} : intA .eql .u32 (Int.ofNat s) .u32 1 = some (.bool (Nat.beq s 1)) := rfl
theorem and1 {a : Nat} (ha : a ≤ 4294967295) : intA .and .u32 (Int.ofNat a) .u32 1 = some (.int .u32 (Int.ofNat (Nat.land a 1))) := intA_and (b := 1) ha (by decide)
theorem xorP {a : Nat} (ha : a ≤ 4294967295) : intA .xor .u32 (Int.ofNat a) .u32 3988292384 = some (.int .u32 (Int.ofNat (Nat.xor a 3988292384))) := intA_xor (b := 3988292384) ha (by decide)
section
variable {bd : Bnd} {C : CallF} {rng : Nat → Bool} {h : AHeap}
theorem loop_end {i : Nat} {t : Tm} (h10 : t 10 = .int .i64 (Int.ofNat i)) (hi : ¬ i < 8) : ∃ t', stepLoop bd C rng t h = some ⟨.exit 0, t', h, []⟩ ∧ t' 0 = t 0 := by
  simp only [stepLoop, Tryz.f241, thenA_normal, thenA_ret, thenA_exit, binA_int, ob_some', codeA_skip, codeA_region, codeA_seq, codeA_cond, codeA_block, codeA_loop, codeA_exit, codeA_ret, opsA_cons, opsA_nil, wantA_none, sel_true, sel_false, opA_move, opA_assign, opA_bin, opA_conv, putA_some, evx_tmp, evx_int, ob2_some', putD_get, Nat.reduceEqDiff, if_true, if_false, h10, lss8, AV.onBool, hi, decide_false]
  exact ⟨_, rfl, rfl⟩
theorem loop_round {i s : Nat} {t : Tm} (h10 : t 10 = .int .i64 (Int.ofNat i)) (h0 : t 0 = .int .u32 (Int.ofNat s)) (hi : i < 8) (hs : s ≤ 4294967295) :
    ∃ t', stepLoop bd C rng t h = some ⟨.normal, t', h, []⟩ ∧ t' 10 = .int .i64 (Int.ofNat (i + 1)) ∧ t' 0 = .int .u32 (Int.ofNat (step1 s)) := by
  have hd : Nat.div s 2 ≤ 4294967295 := by have : Nat.div s 2 = s / 2 := rfl; omega
  simp only [stepLoop, Tryz.f241, thenA_normal, thenA_ret, thenA_exit, binA_int, ob_some', codeA_skip, codeA_region, codeA_seq, codeA_cond, codeA_block, codeA_loop, codeA_exit, codeA_ret, opsA_cons, opsA_nil, wantA_none, sel_true, sel_false, opA_move, opA_assign, opA_bin, opA_conv, putA_some, evx_tmp, evx_int, ob2_some', putD_get, Nat.reduceEqDiff, if_true, if_false, h10, h0, lss8, AV.onBool, hi, decide_true, and1 hs, shr1, eq1, xorP hd]
  cases hb : Nat.beq (Nat.land s 1) 1
  · simp only [hb, sel_false, thenA_normal, blockE_normal, ob_some', codeA_skip, codeA_region, opsA_cons, opsA_nil, wantA_none, sel_true, opA_move, opA_bin, putA_some, evx_tmp, evx_int, ob2_some', putD_get, Nat.reduceEqDiff, if_true, if_false, binA_int, h10, inc8 hi]
    exact ⟨_, rfl, rfl, by unfold step1; rw [hb]; rfl⟩
  · simp only [hb, sel_false, thenA_normal, blockE_normal, ob_some', codeA_skip, codeA_region, opsA_cons, opsA_nil, wantA_none, sel_true, opA_move, opA_assign, opA_bin, putA_some, evx_tmp, evx_int, ob2_some', putD_get, Nat.reduceEqDiff, if_true, if_false, binA_int, h10, inc8 hi, xorP hd]
    exact ⟨_, rfl, rfl, by unfold step1; rw [hb]; rfl⟩
noncomputable def stepK : Nat → Nat → Nat
  | 0, s => s
  | k + 1, s => stepK k (step1 s)
theorem loop_all : ∀ (k i s n : Nat) (t : Tm), i + k = 8 → k < n → t 10 = .int .i64 (Int.ofNat i) → t 0 = .int .u32 (Int.ofNat s) → s ≤ 4294967295 →
    ∃ t', iter (stepLoop bd C rng) n t h = some ⟨.exit 0, t', h, []⟩ ∧ t' 0 = .int .u32 (Int.ofNat (stepK k s)) := by
  intro k
  induction k with
  | zero =>
    intro i s n t hi hn h10 h0 hs
    obtain ⟨n, rfl⟩ : ∃ m, n = m + 1 := ⟨n - 1, by omega⟩
    obtain ⟨t', e1, e2⟩ := loop_end (bd := bd) (C := C) (rng := rng) (h := h) h10 (by omega)
    exact ⟨t', by rw [iter_succ, e1]; rfl, by rw [e2, h0]; rfl⟩
  | succ k ih =>
    intro i s n t hi hn h10 h0 hs
    obtain ⟨n, rfl⟩ : ∃ m, n = m + 1 := ⟨n - 1, by omega⟩
    obtain ⟨t', e1, e2, e3⟩ := loop_round (bd := bd) (C := C) (rng := rng) (h := h) h10 h0 (by omega) hs
    obtain ⟨t2, k1, k2⟩ := ih (i + 1) (step1 s) n t' (by omega) (by omega) e2 e3 (step1_le hs)
    exact ⟨t2, by rw [iter_succ, e1]; exact k1, k2⟩
end
theorem step_body (bd : Bnd) (C : CallF) (rng : Nat → Bool) (s b : Nat) (hs : s ≤ 4294967295) (hb : b ≤ 255) (h : AHeap) :
    (enterA tyT.get bd C rng fn_241 [.int .u32 (Int.ofNat s), .int .u8 (Int.ofNat b)] h) = some (.int .u32 (Int.ofNat (stepN s b)), h) := by
  obtain ⟨t', k1, k2⟩ := loop_all (bd := bd) (C := C) (rng := rng) (h := h) 8 0 (Nat.xor s b) mostIter (putD (putD (putD (putD (putD (putD (putD (tmOf [.int .u32 (Int.ofNat s), .int .u8 (Int.ofNat b)]) (.int .u32 0) 4) (.int .u32 (Int.ofNat s)) 6) (.int .u8 (Int.ofNat b)) 7) (.int .u32 (Int.ofNat b)) 8) (.int .u32 (Int.ofNat (Nat.xor s b))) 9) (.int .u32 (Int.ofNat (Nat.xor s b))) 0) (.int .i64 0) 10)
    rfl (by decide) rfl rfl (xor_le hs (by omega))
  unfold fn_241 enterA Tryz.f241
  simp only [thenA_normal, thenA_ret, thenA_exit, binA_int, ob_some', codeA_skip, codeA_region, codeA_seq, codeA_cond, codeA_block, codeA_loop, codeA_exit, codeA_ret, opsA_cons, opsA_nil, wantA_none, sel_true, sel_false, opA_move, opA_assign, opA_bin, opA_conv, putA_some, evx_tmp, evx_int, ob2_some', putD_get, Nat.reduceEqDiff, if_true, if_false, tm0, tm1, conv_u8_u32 (show b ≤ 4294967295 by omega), intA_xor hs (show b ≤ 4294967295 by omega), reduceIte]
  simp only [stepLoop, Tryz.f241] at k1
  rw [k1]
  simp only [ob_some', blockE_exit, thenA_normal, codeA_region, codeA_seq, codeA_ret, opsA_cons, opsA_nil, wantA_none, sel_true, opA_move, opA_assign, putA_some, evx_tmp, ob2_some', putD_get, Nat.reduceEqDiff, if_true, k2, show Nat.beq 0 0 = true from rfl, thenA_ret]
  rfl
noncomputable def stepA (args : List AV) (h : AHeap) : Option (AV × AHeap) := match args with
  | [.int .u32 (.ofNat s), .int .u8 (.ofNat b)] => guardB (and (Nat.ble s 4294967295) (Nat.ble b 255)) (rOk (.int .u32 (.ofNat (stepN s b))) h)
  | _ => none
noncomputable def tabS (n : Nat) : Option FnA := sel (Nat.beq n 241) (some fn_241) none
noncomputable def extN (n : Nat) : Option ExtK := sel (Nat.beq n 432) (some .idxByteS) (sel (Nat.beq n 410) (some .same) none)
noncomputable def orcN (f : Nat) (args : List AV) (h : AHeap) : Option (AV × AHeap) := sel (Nat.beq f 241) (stepA args h) (orcE extN f args h)
theorem ext_ok : ExtOk Tryz.prog extN := by
  intro f k h
  unfold extN at h
  cases h1 : Nat.beq f 432 with
  | true =>
    rw [h1] at h; cases h
    have : f = 432 := by simpa using h1
    subst this
    exact ⟨_, Tryz.func432, by kernel_rfl, by kernel_rfl, by kernel_rfl, by kernel_rfl⟩
  | false =>
    rw [h1, sel_false] at h
    cases h2 : Nat.beq f 410 with
    | true =>
      rw [h2] at h; cases h
      have : f = 410 := by simpa using h2
      subst this
      exact ⟨_, Tryz.func410, by kernel_rfl, by kernel_rfl, by kernel_rfl, by kernel_rfl⟩
    | false => rw [h2] at h; cases h
theorem orcN_ok {ρ : Env} {w0 : World} {fns : Nat → Option FnA} (hG : ∀ N D c, codeOk N D (drawOk tyT.get) c = true ↔ ρ.good N D c) : OrcOk Tryz.prog ρ w0 fns orcN := by
  have hC : CallOk Tryz.prog ρ w0 (callA tyT.get (fun i => (ρ i, ρ i)) tabS (orcE extN) 1) := by
    refine call_ok ty_ok (fun i => ⟨Int.le_refl _, Int.le_refl _⟩) rfl (fun f F h => ?_) (orcE_ok ext_ok) hG 1
    unfold tabS at h
    cases h1 : Nat.beq f 241 with
    | true =>
      rw [h1] at h; cases h
      have : f = 241 := by simpa using h1
      subst this; exact ok_241
    | false => rw [h1] at h; cases h
  refine orc_of_call hC (orcE_ok ext_ok) fun f args h r he => ?_
  unfold orcN at he
  cases h1 : Nat.beq f 241 with
  | false => rw [h1] at he; exact .inr he
  | true =>
    rw [h1, sel_true] at he
    have : f = 241 := by simpa using h1
    subst this
    unfold stepA at he
    split at he
    · rename_i s b
      simp only [guardB_some, Bool.and_eq_true, rOk_some, Nat.ble_eq] at he
      obtain ⟨⟨hs, hb⟩, rfl⟩ := he
      exact .inl (step_body _ _ _ s b hs hb h)
    · cases he
end Go.Proofs
