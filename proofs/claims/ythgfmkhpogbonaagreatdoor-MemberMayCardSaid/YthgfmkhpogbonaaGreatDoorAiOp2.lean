/-
  The abstract operations are the model's: numbers, strings, comparisons.
-/
import Derived.Test.YthgfmkhpogbonaaGreatDoorAiEq
set_option linter.unusedVariables false
set_option linter.unusedSimpArgs false
namespace Go.AI
section
variable {P : Program} {ρ : Env} {φ : Phi} {w0 w : World} {h h' : AHeap} {ti : Nat → Option ATy} {bd : Bnd}

theorem ile_iff {a b : Int} : ile a b = true ↔ a ≤ b := by
  cases a <;> cases b <;> simp [ile] <;> omega
theorem ilt_iff {a b : Int} : ilt a b = true ↔ a < b := by
  unfold ilt
  have := @ile_iff b a
  cases h : ile b a <;> simp [h] at this ⊢ <;> omega
theorem ile_dec (a b : Int) : ile a b = decide (a ≤ b) := by rw [Bool.eq_iff_iff, ile_iff]; simp
theorem ilt_dec (a b : Int) : ilt a b = decide (a < b) := by rw [Bool.eq_iff_iff, ilt_iff]; simp
theorem ieq_beq (a b : Int) : ieq a b = (a == b) := by rw [Bool.eq_iff_iff, ieq_iff]; simp
theorem iadd_eq (a b : Int) : iadd a b = a + b := by cases a <;> cases b <;> rfl
theorem imul_eq (a b : Int) : imul a b = a * b := by cases a <;> cases b <;> rfl
theorem isub_eq (a b : Int) : isub a b = a - b := by
  cases a with
  | negSucc a => rfl
  | ofNat a => cases b with
    | negSucc b => rfl
    | ofNat b =>
      show sel (Nat.ble b a) (Int.ofNat (Nat.sub a b)) (Int.negSucc (Nat.sub (Nat.sub b a) 1)) = _
      by_cases h : b ≤ a
      · rw [Nat.ble_eq_true_of_le h]; show Int.ofNat (a - b) = _; simp only [Int.ofNat_eq_natCast]; omega
      · have : Nat.ble b a = false := by rw [Bool.eq_false_iff]; intro e; exact h (Nat.le_of_ble_eq_true e)
        rw [this]; show Int.negSucc (b - a - 1) = _; simp only [Int.ofNat_eq_natCast, Int.negSucc_eq]; omega

theorem kin_iff (k : IntKind) (n : Int) : kin k n = true ↔ -(klo k : Int) ≤ n ∧ n ≤ (khi k : Int) := by
  cases n with
  | ofNat a => simp only [kin, Nat.ble_eq, Int.ofNat_eq_natCast]; omega
  | negSucc a =>
    simp only [kin, Nat.blt_eq, Int.negSucc_eq]; omega
theorem wrap_of_kin {k : IntKind} {n : Int} (h : kin k n = true) : k.wrap n = n := by
  rw [kin_iff] at h
  cases k <;> simp [klo, khi] at h <;> simp [IntKind.wrap, IntKind.bits, IntKind.signed] <;> omega
theorem wrapA_eq (k : IntKind) (n : Int) : wrapA k n = k.wrap n := by
  unfold wrapA
  cases h : kin k n with
  | true => rw [wrap_of_kin h]; rfl
  | false => rfl

theorem onNat_of (v : AV) : True := trivial

def BdOk (ρ : Env) (bd : Bnd) : Prop := ∀ i, (bd i).1 ≤ ρ i ∧ ρ i ≤ (bd i).2

theorem cmpB_int {op : BinOp} {a b : Int} {r : Bool} (h : cmpB op (ilt a b) (ieq a b) = some r) : (Op.intCmp op a b).run P w = .ok (.bool r) w := by
  rw [ilt_dec, ieq_beq] at h
  cases op <;> simp only [cmpB] at h <;> cases h <;> simp only [Op.intCmp, Sem.run_pure] <;> (try rfl) <;> congr 2 <;> rw [Bool.eq_iff_iff] <;> simp <;> omega

theorem cmpSym_ok {op : BinOp} {lo hi x n : Int} {r : Bool} (h : cmpSym op lo hi n = some r) (h1 : lo ≤ x) (h2 : x ≤ hi) : (Op.intCmp op x n).run P w = .ok (.bool r) w := by
  unfold cmpSym at h
  simp only [ilt_dec, ile_dec] at h
  split at h <;> first
    | (obtain ⟨e1, e2⟩ := guardB_some.1 h
       cases e2
       simp only [Bool.or_eq_true, decide_eq_true_eq] at e1
       simp only [Op.intCmp, Sem.run_pure]
       congr 2
       rw [Bool.eq_iff_iff]; simp; omega)
    | (simp only [Op.intCmp, Sem.run_pure]
       congr 2
       rw [Bool.eq_iff_iff]
       revert h
       simp only [sel_eq_ite, guardB, decide_eq_true_eq]
       split
       · intro h; cases h; simp; omega
       · split
         · intro h; cases h; simp; omega
         · intro h; cases h)
    | cases h

theorem cmpFlip_ok {op : BinOp} {lo hi x n : Int} {r : Bool} (h : cmpSym (flipOp op) lo hi n = some r) (h1 : lo ≤ x) (h2 : x ≤ hi) : (Op.intCmp op n x).run P w = .ok (.bool r) w := by
  have := cmpSym_ok (P := P) (w := w) h h1 h2
  cases op <;> simp only [flipOp] at this h <;> simp only [Op.intCmp, Sem.run_pure, run_stuck] at this ⊢ <;> first
    | (simp [cmpSym] at h; done)
    | (injection this with e1 e2; injection e1 with e1; rw [← e1]; try (congr 2; try (rw [Bool.eq_iff_iff]; simp; try omega)))

-- bits
theorem land_le (a b : Nat) : a &&& b ≤ a := Nat.and_le_left
theorem khi_pow (k : IntKind) : ∃ m, khi k + 1 = 2 ^ m ∧ m ≤ k.bits ∧ (usg k = true → m = k.bits) := by
  cases k
  · exact ⟨7, by decide, by decide, by decide⟩
  · exact ⟨15, by decide, by decide, by decide⟩
  · exact ⟨31, by decide, by decide, by decide⟩
  · exact ⟨63, by decide, by decide, by decide⟩
  · exact ⟨8, by decide, by decide, by decide⟩
  · exact ⟨16, by decide, by decide, by decide⟩
  · exact ⟨32, by decide, by decide, by decide⟩
  · exact ⟨64, by decide, by decide, by decide⟩
theorem ofInt_nat (n a : Nat) : BitVec.ofInt n (a : Int) = BitVec.ofNat n a := by
  apply BitVec.eq_of_toNat_eq; simp
theorem ofNat_toNat {n a m : Nat} (h : a < 2 ^ m) (hm : m ≤ n) : (BitVec.ofNat n a).toNat = a := by
  rw [BitVec.toNat_ofNat]; exact Nat.mod_eq_of_lt (Nat.lt_of_lt_of_le h (Nat.pow_le_pow_right (by omega) hm))
theorem kin_nat {k : IntKind} {r : Nat} (h : r ≤ khi k) : kin k (r : Int) = true := by rw [kin_iff]; omega

theorem bitsA_ok {op : BinOp} {k : IntKind} {x y : Int} {v : AV} (h : bitsA op k x y = some v) : ∃ r : Nat, v = .int k r ∧ (Op.intBits op k x y).run P w = .ok (.int k r) w := by
  simp only [bitsA, intNat_some, guardB_some, Bool.and_eq_true, Nat.ble_eq, ob_some, Option.some.injEq] at h
  obtain ⟨a, rfl, b, rfl, ⟨ha, hb⟩, hu, r, hr, rfl⟩ := h
  obtain ⟨m, h1, h2, h3⟩ := khi_pow k
  have la : a < 2 ^ m := by omega
  have lb : b < 2 ^ m := by omega
  refine ⟨r, rfl, ?_⟩
  have key : ∀ q : BitVec k.bits, q.toNat = r → r ≤ khi k → (Pure.pure (Value.int k (k.wrap (q.toNat : Int))) : Sem Value).run P w = .ok (.int k r) w := by
    intro q hq hle; rw [hq, wrap_of_kin (kin_nat hle)]; rfl
  cases op <;> simp only [bitsN, Option.some.injEq, reduceCtorEq] at hr <;> subst hr <;> simp only [Op.intBits, ofInt_nat]
  · refine key _ ?_ (Nat.le_trans (land_le a b) ha)
    rw [BitVec.toNat_and, ofNat_toNat la h2, ofNat_toNat lb h2]; rfl
  · refine key _ ?_ ?_
    · rw [BitVec.toNat_or, ofNat_toNat la h2, ofNat_toNat lb h2]; rfl
    · have := Nat.or_lt_two_pow la lb; show a ||| b ≤ _; omega
  · refine key _ ?_ ?_
    · rw [BitVec.toNat_xor, ofNat_toNat la h2, ofNat_toNat lb h2]; rfl
    · have := Nat.xor_lt_two_pow la lb; show a ^^^ b ≤ _; omega
  · have hm := h3 hu
    refine key _ ?_ (Nat.le_trans (land_le a _) ha)
    rw [BitVec.toNat_and, BitVec.toNat_not, ofNat_toNat la h2, ofNat_toNat lb h2, ← hm]
    show a &&& (2 ^ m - 1 - b) = a &&& (khi k - b)
    rw [show khi k = 2 ^ m - 1 from by omega]

theorem arithA_ok {op : BinOp} {t : TypeId} {k : IntKind} {a b : Int} {v : AV} (hop : op ≠ .shl ∧ op ≠ .shr) (h : arithA op k a b = some v) :
    ∃ u, (binOp op t (.int k a) (.int k b)).run P w = .ok u w ∧ VRel ρ φ v u := by
  cases op <;> simp only [arithA] at h
  · simp at h; subst h; refine ⟨.int k (k.wrap (a + b)), by simp [binOp, Op.intArith], ?_⟩; rw [wrapA_eq, iadd_eq]; exact .int _ _
  · simp at h; subst h; refine ⟨.int k (k.wrap (a - b)), by simp [binOp, Op.intArith], ?_⟩; rw [wrapA_eq, isub_eq]; exact .int _ _
  · simp at h; subst h; refine ⟨.int k (k.wrap (a * b)), by simp [binOp, Op.intArith], ?_⟩; rw [wrapA_eq, imul_eq]; exact .int _ _
  · simp only [ob_some, Option.some.injEq, tdivA, intNat_some] at h
    obtain ⟨r, ⟨x, rfl, y, rfl, h1⟩, rfl⟩ := h
    cases hy : Nat.beq y 0 with
    | true => rw [hy] at h1; cases h1
    | false =>
      rw [hy] at h1; cases h1
      have hy' : y ≠ 0 := by rintro rfl; cases hy
      refine ⟨.int k (k.wrap ((x : Int).tdiv y)), by simp [binOp, Op.intDiv, hy'], ?_⟩
      rw [wrapA_eq]
      have : ((x : Int).tdiv y) = Int.ofNat (Nat.div x y) := rfl
      rw [this]; exact .int _ _
  · simp only [ob_some, Option.some.injEq, tmodA, intNat_some] at h
    obtain ⟨r, ⟨x, rfl, y, rfl, h1⟩, rfl⟩ := h
    cases hy : Nat.beq y 0 with
    | true => rw [hy] at h1; cases h1
    | false =>
      rw [hy] at h1; cases h1
      have hy' : y ≠ 0 := by rintro rfl; cases hy
      refine ⟨.int k ((x : Int).tmod y), by simp [binOp, Op.intDiv, hy'], ?_⟩
      have : ((x : Int).tmod y) = Int.ofNat (Nat.mod x y) := rfl
      rw [this]; exact .int _ _
  · obtain ⟨r, rfl, h1⟩ := bitsA_ok (P := P) (w := w) h; exact ⟨.int k r, by simpa [binOp] using h1, .int _ _⟩
  · obtain ⟨r, rfl, h1⟩ := bitsA_ok (P := P) (w := w) h; exact ⟨.int k r, by simpa [binOp] using h1, .int _ _⟩
  · obtain ⟨r, rfl, h1⟩ := bitsA_ok (P := P) (w := w) h; exact ⟨.int k r, by simpa [binOp] using h1, .int _ _⟩
  · exact absurd rfl hop.1
  · exact absurd rfl hop.2
  · obtain ⟨r, rfl, h1⟩ := bitsA_ok (P := P) (w := w) h; exact ⟨.int k r, by simpa [binOp] using h1, .int _ _⟩
  all_goals
    simp only [ob_some, Option.some.injEq] at h
    obtain ⟨r, h1, rfl⟩ := h
    have := cmpB_int (P := P) (w := w) h1
    exact ⟨.bool r, by simpa [binOp] using this, .bool r⟩

theorem shift_ok {op : BinOp} {k k' : IntKind} {x y : Int} {v : AV} (h : shiftA op k x y = some v) : ∃ u, (Op.shift op k x k' y).run P w = .ok u w ∧ VRel ρ φ v u := by
  simp only [shiftA, intNat_some] at h
  obtain ⟨n, rfl, h⟩ := h
  have hm : sel (Nat.ble n k.bits) n k.bits = min n k.bits := by
    by_cases c : n ≤ k.bits
    · rw [Nat.ble_eq_true_of_le c]; simp; omega
    · have : Nat.ble n k.bits = false := by rw [Bool.eq_false_iff]; intro e; exact c (Nat.le_of_ble_eq_true e)
      rw [this]; simp; omega
  rw [hm] at h
  have hneg : ¬ ((n : Int) < 0) := by omega
  split at h
  · cases h
    refine ⟨.int k (k.wrap (x * 2 ^ (min n k.bits))), by simp [Op.shift]; intro; omega, ?_⟩
    have : shlA k x (min n k.bits) = k.wrap (x * 2 ^ (min n k.bits)) := by
      cases x with
      | negSucc a => rfl
      | ofNat a => simp only [shlA, wrapA_eq]; congr 1
    rw [this]; exact .int _ _
  · cases h
    refine ⟨.int k (x.fdiv (2 ^ (min n k.bits))), by simp [Op.shift]; intro; omega, ?_⟩
    have : shrA x (min n k.bits) = x.fdiv (2 ^ (min n k.bits)) := by
      cases x with
      | negSucc a => rfl
      | ofNat a =>
        simp only [shrA]
        have e : ((2 : Int) ^ (min n k.bits)) = ((2 ^ (min n k.bits) : Nat) : Int) := by simp
        rw [e, Int.fdiv_eq_ediv_of_nonneg _ (Int.natCast_nonneg _)]; rfl
    rw [this]; exact .int _ _
  · cases h

theorem bytesLess_eq (a b : List UInt8) : Op.bytesLess a b = nlLt (a.map UInt8.toNat) (b.map UInt8.toNat) := by
  induction a generalizing b with
  | nil => cases b <;> rfl
  | cons x l ih => cases b with
    | nil => rfl
    | cons y m =>
      simp only [Op.bytesLess, List.map_cons, nlLt, ih]
      by_cases c : x.toNat < y.toNat
      · have c1 : Nat.blt x.toNat y.toNat = true := by rw [Nat.blt_eq]; exact c
        have c2 : decide (x < y) = true := by simpa [UInt8.lt_iff_toNat_lt] using c
        simp [c1, c2]
      · have c1 : Nat.blt x.toNat y.toNat = false := by rw [Bool.eq_false_iff]; intro e; rw [Nat.blt_eq] at e; exact c e
        have c2 : decide (x < y) = false := by simpa [UInt8.lt_iff_toNat_lt] using c
        simp only [c1, c2, sel_false, Bool.false_or]
        by_cases d : x = y
        · subst d; have : Nat.beq x.toNat x.toNat = true := by rw [Nat.beq_eq]
          simp [this]
        · have d' : Nat.beq x.toNat y.toNat = false := by rw [Bool.eq_false_iff]; intro e; rw [Nat.beq_eq] at e; exact d (UInt8.toNat_inj.1 e)
          simp [d', d]

theorem strA_ok {op : BinOp} {x y : ByteArray} {v : AV} (h : strA op (x.data.toList.map UInt8.toNat) (y.data.toList.map UInt8.toNat) = some v) :
    ∃ u, (Op.stringOp op x y).run P w = .ok u w ∧ VRel ρ φ v u := by
  have he : nlEq (x.data.toList.map UInt8.toNat) (y.data.toList.map UInt8.toNat) = (x.toList == y.toList) := by
    rw [nlEq_eq, Bool.eq_iff_iff]; simp only [decide_eq_true_eq, beq_iff_eq]; exact bytes_inj
  have hl : nlLt (x.data.toList.map UInt8.toNat) (y.data.toList.map UInt8.toNat) = Op.bytesLess x.toList y.toList := by
    rw [bytesLess_eq, ByteArray.toList_eq, ByteArray.toList_eq]
  cases op <;> simp only [strA, cmpB, he, hl, ob_some, Option.some.injEq, reduceCtorEq, false_and, exists_false, exists_eq_left'] at h
  case add =>
    simp only [guardB_some, Nat.ble_eq, len_eq, Option.some.injEq] at h
    obtain ⟨h1, rfl⟩ := h
    refine ⟨.string (x ++ y), ?_, ?_⟩
    · have : ¬ (((x.size + y.size : Nat) : Int) > IntKind.i64.max) := by
        have e1 : x.size = (x.data.toList.map UInt8.toNat).length := by simp
        have e2 : y.size = (y.data.toList.map UInt8.toNat).length := by simp
        have h1' : (x.data.toList.map UInt8.toNat).length + (y.data.toList.map UInt8.toNat).length ≤ mostNeed := h1
        simp only [mostNeed] at h1'
        have : IntKind.i64.max = 9223372036854775807 := by decide
        rw [this]; omega
      simp only [Op.stringOp]; rw [if_neg this]; rfl
    · rw [appL_eq, ← List.map_append]
      have : (x ++ y).data.toList = x.data.toList ++ y.data.toList := by simp
      rw [← this]; exact .str _
  all_goals
    subst h
    exact ⟨_, rfl, .bool _⟩

theorem eqGuard_ok {op : BinOp} {t : TypeId} {x y : Operand} {u v : Value} (hg : P.eqGuardType P.depth t = false) (hn : ¬ (u = .nilIface ∧ v = .nilIface)) : (eqGuard op t x y u v).run P w = .ok () w := by
  unfold eqGuard
  cases op <;> simp only [Bool.not_true, Bool.false_eq_true, if_false, Bool.not_false, if_true, Sem.run_pure, Sem.run_ite, Sem.run_bind, Result.andThen_ok] <;> (try rfl)
  all_goals
    split
    · exact absurd ⟨rfl, rfl⟩ hn
    · simp [run_program, hg]
    · rfl

theorem othA_ok (T : TiOk P ti) {op : BinOp} {t : TypeId} {x y : AV} {v : AV} (h : othA ti op t x y = some v) {u1 u2 : Value} (h1 : VRel ρ φ x u1) (h2 : VRel ρ φ y u2)
    (hne : ∀ r, (Op.equal t u1 u2).run P w = .ok r w → (op = .eql → (binOp op t u1 u2).run P w = .ok (.bool r) w) ∧ (op = .neq → (binOp op t u1 u2).run P w = .ok (.bool (!r)) w)) :
    ∃ u, (binOp op t u1 u2).run P w = .ok u w ∧ VRel ρ φ v u := by
  unfold othA at h
  split at h
  · simp only [ob_some, Option.some.injEq] at h
    obtain ⟨r, e, rfl⟩ := h
    have := eqA_equal (w := w) T e h1 h2
    exact ⟨.bool r, (hne r this).1 rfl, .bool r⟩
  · simp only [ob_some, Option.some.injEq] at h
    obtain ⟨r, e, rfl⟩ := h
    have := eqA_equal (w := w) T e h1 h2
    exact ⟨.bool (!r), (hne r this).2 rfl, .bool _⟩
  · cases h
end
end Go.AI
