/-
  The abstract operations are the model's: the binary ones whole; one operand; conversions; slices of slices; aggregates.
-/
import Derived.Test.YthgfmkhpogbonaaGreatDoorAiOp2
set_option linter.unusedVariables false
set_option linter.unusedSimpArgs false
namespace Go.AI
section
variable {P : Program} {ρ : Env} {φ : Phi} {w0 w : World} {h h' : AHeap} {ti : Nat → Option ATy} {bd : Bnd}

theorem intA_ok {op : BinOp} {t : TypeId} {k k' : IntKind} {a b : Int} {v : AV} (h : intA op k a k' b = some v) : ∃ u, (binOp op t (.int k a) (.int k' b)).run P w = .ok u w ∧ VRel ρ φ v u := by
  unfold intA at h
  split at h
  · exact shift_ok (k' := k') h
  · exact shift_ok (k' := k') h
  · rename_i h1 h2
    obtain ⟨e1, e2⟩ := guardB_some.1 h
    rw [keq_iff] at e1; subst e1
    exact arithA_ok ⟨fun e => h1 e, fun e => h2 e⟩ e2

theorem symA_ok (hb : BdOk ρ bd) {op : BinOp} {t : TypeId} {k : IntKind} {i : Nat} {c n : Int} {v : AV} (h : symA bd op k i c n = some v) : ∃ u, (binOp op t (.int k (ρ i + c)) (.int k n)).run P w = .ok u w ∧ VRel ρ φ v u := by
  obtain ⟨b1, b2⟩ := hb i
  have cmp : ∀ {op : BinOp} {r : Bool}, cmpSym op (iadd (bd i).1 c) (iadd (bd i).2 c) n = some r → op ≠ .shl → op ≠ .shr → ∃ u, (binOp op t (.int k (ρ i + c)) (.int k n)).run P w = .ok u w ∧ VRel ρ φ (.bool r) u := by
    intro op r e n1 n2
    rw [iadd_eq, iadd_eq] at e
    have := cmpSym_ok (P := P) (w := w) (x := ρ i + c) e (by omega) (by omega)
    refine ⟨.bool r, ?_, .bool r⟩
    cases op <;> first
      | (exact absurd rfl n1)
      | (exact absurd rfl n2)
      | (simp [cmpSym] at e; done)
      | simpa [binOp] using this
  unfold symA at h
  split at h
  · obtain ⟨e1, e2⟩ := guardB_some.1 h
    cases e2
    simp only [iadd_eq, Bool.and_eq_true] at e1
    obtain ⟨e1, e3⟩ := e1
    rw [kin_iff] at e1 e3
    refine ⟨.int k (k.wrap (ρ i + c + n)), by simp [binOp, Op.intArith], ?_⟩
    rw [wrap_of_kin ((kin_iff k _).2 ⟨by omega, by omega⟩), iadd_eq, show ρ i + c + n = ρ i + (c + n) from by omega]
    exact .sym k i _
  · obtain ⟨e1, e2⟩ := guardB_some.1 h
    cases e2
    simp only [iadd_eq, isub_eq, Bool.and_eq_true] at e1
    obtain ⟨e1, e3⟩ := e1
    rw [kin_iff] at e1 e3
    refine ⟨.int k (k.wrap (ρ i + c - n)), by simp [binOp, Op.intArith], ?_⟩
    rw [wrap_of_kin ((kin_iff k _).2 ⟨by omega, by omega⟩), isub_eq, show ρ i + c - n = ρ i + (c - n) from by omega]
    exact .sym k i _
  · simp only [ob_some, Option.some.injEq] at h
    obtain ⟨r, e, rfl⟩ := h
    refine cmp e ?_ ?_ <;> · rintro rfl; simp [cmpSym] at e

theorem binOp_eql_ptr {t : TypeId} {a b : Option Addr} (r : Bool) (hr : (Op.equal t (.pointer a) (.pointer b)).run P w = .ok r w) (op : BinOp) :
    (op = .eql → (binOp op t (.pointer a) (.pointer b)).run P w = .ok (.bool r) w) ∧ (op = .neq → (binOp op t (.pointer a) (.pointer b)).run P w = .ok (.bool (!r)) w) := by
  constructor <;> rintro rfl <;> simp [binOp, hr]

theorem binA_ok (T : TiOk P ti) (hb : BdOk ρ bd) {op : BinOp} {t : TypeId} {x y : AV} {v : AV} (h : binA ti bd op t x y = some v) {u1 u2 : Value} (h1 : VRel ρ φ x u1) (h2 : VRel ρ φ y u2) :
    ∃ u, (binOp op t u1 u2).run P w = .ok u w ∧ VRel ρ φ v u := by
  unfold binA at h
  split at h
  · cases h1; cases h2; exact intA_ok h
  · cases h1; cases h2
    obtain ⟨e1, e2⟩ := guardB_some.1 h
    rw [keq_iff] at e1; subst e1
    exact symA_ok hb e2
  · cases h1; cases h2
    rename_i k n k' i c
    obtain ⟨e1, e2⟩ := guardB_some.1 h
    rw [keq_iff] at e1; subst e1
    simp only [ob_some, Option.some.injEq, iadd_eq] at e2
    obtain ⟨r, e, rfl⟩ := e2
    obtain ⟨b1, b2⟩ := hb i
    have := cmpFlip_ok (P := P) (w := w) (x := ρ i + c) e (by omega) (by omega)
    refine ⟨.bool r, ?_, .bool r⟩
    cases op <;> first
      | (simp [cmpSym, flipOp] at e; done)
      | simpa [binOp] using this
  · cases h1; cases h2
    obtain ⟨u, e1, e2⟩ := strA_ok (P := P) (w := w) (ρ := ρ) (φ := φ) h
    refine ⟨u, ?_, e2⟩
    cases op <;> first
      | (simp [strA, cmpB, ob] at h; done)
      | simpa [binOp] using e1
  · cases h1; cases h2
    obtain ⟨e1, e2⟩ := guardB_some.1 h
    simp only [Bool.and_eq_true, Nat.beq_eq] at e1
    obtain ⟨e1, e3⟩ := e1
    rw [keq_iff] at e1; subst e1; subst e3
    rename_i c d
    have hx : ∀ a : Int, (a + c == a + d) = ieq c d := by intro a; rw [ieq_beq, Bool.eq_iff_iff]; simp
    cases op <;> simp only [symSym] at e2 <;> cases e2
    · exact ⟨.bool (ieq c d), by simp [binOp, Op.intCmp, hx], .bool _⟩
    · exact ⟨.bool (!ieq c d), by simp [binOp, Op.intCmp, bne, hx], .bool _⟩
  · rename_i n1 n2 n3 n4 n5
    refine othA_ok T h h1 h2 (fun r hr => ?_)
    constructor <;> rintro rfl
    · cases h1 <;> cases h2 <;> first
        | (simp [binOp, hr]; done)
        | (exfalso; first | exact n1 _ _ _ _ rfl rfl | exact n2 _ _ _ _ _ rfl rfl | exact n3 _ _ _ _ _ rfl rfl | exact n4 _ _ rfl rfl | exact n5 _ _ _ _ _ _ rfl rfl)
        | (exfalso; simp [othA, ob, eqA, depthE] at h; done)
        | skip
    · cases h1 <;> cases h2 <;> first
        | (simp [binOp, hr]; done)
        | (exfalso; first | exact n1 _ _ _ _ rfl rfl | exact n2 _ _ _ _ _ rfl rfl | exact n3 _ _ _ _ _ rfl rfl | exact n4 _ _ rfl rfl | exact n5 _ _ _ _ _ _ rfl rfl)
        | skip

theorem xor_all (n a : Nat) (h : a < 2 ^ n) : (BitVec.ofNat n (2 ^ n - 1) ^^^ BitVec.ofNat n a).toNat = 2 ^ n - 1 - a := by
  have e : BitVec.ofNat n (2 ^ n - 1) = BitVec.allOnes n := by
    apply BitVec.eq_of_toNat_eq; rw [BitVec.toNat_ofNat, BitVec.toNat_allOnes]; exact Nat.mod_eq_of_lt (by have := Nat.two_pow_pos n; omega)
  rw [e, BitVec.allOnes_xor, BitVec.toNat_not, BitVec.toNat_ofNat, Nat.mod_eq_of_lt h]

theorem unA_ok {op : UnOp} {x v : AV} (h : unA op x = some v) {u : Value} (hu : VRel ρ φ x u) : ∃ r, (Op.unary op u).run P w = .ok r w ∧ VRel ρ φ v r := by
  unfold unA at h
  split at h
  · cases hu; cases h; exact ⟨_, rfl, .bool _⟩
  · cases hu; cases h
    rename_i k n
    refine ⟨.int k (k.wrap (0 - n)), by simp [Op.unary, Op.intArith], ?_⟩
    rw [wrapA_eq, isub_eq]; exact .int _ _
  · cases hu
    simp only [guardB_some, intNat_some, Nat.ble_eq, Option.some.injEq] at h
    obtain ⟨hs, a, rfl, ha, rfl⟩ := h
    rename_i k
    obtain ⟨m, h1, h2, h3⟩ := khi_pow k
    have hm := h3 hs
    have hk : (if k.signed then (-1 : Int) else k.max) = ((2 ^ k.bits - 1 : Nat) : Int) := by
      cases k <;> first | (cases hs; done) | decide
    refine ⟨.int k ((khi k - a : Nat) : Int), ?_, .int _ _⟩
    simp only [Op.unary, Op.intBits, hk, ofInt_nat]
    rw [xor_all _ _ (by rw [← hm]; omega), ← hm, show 2 ^ m - 1 - a = khi k - a from by omega, wrap_of_kin (kin_nat (by omega))]; rfl
  · cases h

theorem oBin_ok (T : TiOk P ti) (hb : BdOk ρ bd) {op : BinOp} {ty : Nat} {x y : Operand} {t : Tm} {a : Act} {v : AV} (H : HRel ρ w0 φ h w) (ht : TRel ρ φ t a.tmps) (he : oBin ti bd op ty x y t h = some (v, h')) :
    ValOk P ρ w0 (do eqGuard op ty x y (a.eval x) (a.eval y); binOp op ty (a.eval x) (a.eval y)) φ w h v h' := by
  simp only [oBin, ob_some, rOk_some, Prod.mk.injEq] at he
  obtain ⟨u1, h1, u2, h2, r, h3, rfl, rfl⟩ := he
  have r1 := evx_rel h1 ht
  have r2 := evx_rel h2 ht
  obtain ⟨u, k1, k2⟩ := binA_ok (P := P) (w := w) T hb h3 r1 r2
  refine .pure H ?_ k2
  have hn : ¬ (a.eval x = .nilIface ∧ a.eval y = .nilIface) := by
    rintro ⟨e1, e2⟩
    rw [e1] at r1; rw [e2] at r2; cases r1; cases r2
    simp only [binA, othA] at h3
    split at h3 <;> first
      | (cases h3; done)
      | (simp only [ob_some] at h3
         obtain ⟨q, h4, _⟩ := h3
         have h4' : (ob (ti ty) fun ty => eqS ti (eqA ti 63) ty.k .nili .nili) = some q := h4
         simp only [ob_some] at h4'
         obtain ⟨aa, _, h5⟩ := h4'
         unfold eqS at h5
         split at h5 <;> first | (cases h5; done) | (rename_i e1 e2; cases e1; done) | (rename_i e1; cases e1; done) | trivial)
  by_cases hq : op = .eql ∨ op = .neq
  · have hg : (eqGuard op ty x y (a.eval x) (a.eval y)).run P w = .ok () w := by
      by_cases hag : ∃ p q, a.eval x = .agg p ∧ a.eval y = .agg q
      · obtain ⟨p, q, e1, e2⟩ := hag
        rw [e1] at r1; rw [e2] at r2
        rw [e1, e2]
        cases r1; cases r2
        -- the type has a row
        have : ∃ aa, ti ty = some aa := by
          rcases hq with rfl | rfl <;>
          · simp only [binA, othA, ob_some] at h3
            obtain ⟨q, h4, _⟩ := h3
            have h4' : (ob (ti ty) fun ty => eqS ti (eqA ti 63) ty.k _ _) = some q := h4
            simp only [ob_some] at h4'
            obtain ⟨aa, h5, _⟩ := h4'
            exact ⟨aa, h5⟩
        obtain ⟨aa, h5⟩ := this
        exact eqGuard_ok (T _ _ h5).eqg (by rintro ⟨e, _⟩; cases e)
      · unfold eqGuard
        rcases hq with rfl | rfl <;> simp only [Bool.not_true, Bool.false_eq_true, if_false]
        all_goals
          split
          · rename_i e1 e2; exact absurd ⟨e1, e2⟩ hn
          · rename_i e1 e2; exact absurd ⟨_, _, e1, e2⟩ hag
          · rfl
    simp [hg, k1]
  · have hg : (eqGuard op ty x y (a.eval x) (a.eval y)).run P w = .ok () w := by
      unfold eqGuard
      cases op <;> first | (exact absurd (.inl rfl) hq) | (exact absurd (.inr rfl) hq) | rfl
    simp [hg, k1]

theorem oUn_ok {op : UnOp} {x : Operand} {t : Tm} {a : Act} {v : AV} (H : HRel ρ w0 φ h w) (ht : TRel ρ φ t a.tmps) (he : oUn op x t h = some (v, h')) : ValOk P ρ w0 (Op.unary op (a.eval x)) φ w h v h' := by
  simp only [oUn, ob_some, rOk_some, Prod.mk.injEq] at he
  obtain ⟨u1, h1, r, h3, rfl, rfl⟩ := he
  obtain ⟨u, k1, k2⟩ := unA_ok (P := P) (w := w) h3 (evx_rel h1 ht)
  exact .pure H k1 k2

theorem oExtract_ok {x : Operand} {i : Nat} {t : Tm} {a : Act} {v : AV} (H : HRel ρ w0 φ h w) (ht : TRel ρ φ t a.tmps) (he : oExtract x i t h = some (v, h')) : ValOk P ρ w0 (Instr.extract (a.eval x) i) φ w h v h' := by
  simp only [oExtract, ob_some, onTup_some, rOk_some, Prod.mk.injEq, nth_eq] at he
  obtain ⟨u1, h1, l, rfl, r, h3, rfl, rfl⟩ := he
  have hr := evx_rel h1 ht
  generalize a.eval x = z at hr ⊢
  cases hr with
  | tup _ c hc =>
    obtain ⟨u, k1, k2⟩ := hc.get h3
    have : c[i]? = some u := by simpa using k1
    exact .pure H (by simp [Instr.extract, this]) k2

theorem oIface_ok (T : TiOk P ti) {ty : Nat} {x : Operand} {t : Tm} {a : Act} {v : AV} (H : HRel ρ w0 φ h w) (ht : TRel ρ φ t a.tmps) (he : oIface ti ty x t h = some (v, h')) : ValOk P ρ w0 (Instr.makeInterface ty (a.eval x)) φ w h v h' := by
  simp only [oIface, ob_some, rOk_some, Prod.mk.injEq] at he
  obtain ⟨aa, h0, u1, h1, rfl, rfl⟩ := he
  obtain ⟨d, k1, k2⟩ := (T _ _ h0).und
  refine .pure H ?_ (.iface ty _ _ (evx_rel h1 ht))
  simp only [Instr.makeInterface, Sem.run_bind, run_un k1, Result.andThen_ok]
  generalize aa.k = k at k2
  cases k2 <;> first | rfl | (rename_i e1 e2 e3; cases d <;> first | rfl | exact absurd rfl (e3 _))

theorem oFunc_ok {fn : Fn} {p q : Array Operand} {t : Tm} {a : Act} {v : AV} (H : HRel ρ w0 φ h w) (ht : TRel ρ φ t a.tmps) (he : oFunc fn p q t h = some (v, h')) : ValOk P ρ w0 (Instr.makeFunc fn (p.map a.eval) (q.map a.eval)) φ w h v h' := by
  simp only [oFunc, ob_some, rOk_some, Prod.mk.injEq] at he
  obtain ⟨l, h1, m, h2, rfl, rfl⟩ := he
  refine .pure H rfl (.func fn _ _ _ _ ?_ ?_)
  · have := evxs_rel h1 ht; simpa using this
  · have := evxs_rel h2 ht; simpa using this

theorem oMap_ok {ty : TypeId} {t : Tm} {v : AV} (H : HRel ρ w0 φ h w) (he : oMap t h = some (v, h')) : ValOk P ρ w0 (Instr.makeMap ty none) φ w h v h' := by
  simp only [oMap, new_some, rOk_some, Prod.mk.injEq] at he
  obtain ⟨hn, rfl, rfl⟩ := he
  exact ⟨_, wnew w (.map #[] 0), .map (some w.heap.size), by simp [Instr.makeMap]; rfl, .map _ _ 0 (Phi.ext_self _ _ _ _), H.grow rfl rfl, H.new hn (.map [] #[] 0 .nil .nil rfl)⟩

-- conversions
theorem bytesOfA_some {l : List AV} {r : List Nat} (h : bytesOfA l = some r) : l = ofBytes r ∧ ∀ n ∈ r, n ≤ 255 := by
  induction l generalizing r with
  | nil => cases h; exact ⟨rfl, by simp⟩
  | cons v l ih =>
    have h' : (v.onInt fun k n => guardB (keq k .u8) (Int.onNat n fun a => guardB (Nat.ble a 255) (ob (bytesOfA l) fun r => some (a :: r)))) = some r := h
    simp only [onInt_some, guardB_some, intNat_some, Nat.ble_eq, ob_some, Option.some.injEq] at h'
    obtain ⟨k, n, rfl, hk, a, rfl, ha, r', hr, rfl⟩ := h'
    rw [keq_iff] at hk; subst hk
    obtain ⟨e1, e2⟩ := ih hr
    exact ⟨by rw [e1]; rfl, fun m hm => by rcases List.mem_cons.1 hm with rfl | hm; exact ha; exact e2 m hm⟩
theorem ofBytes_rel (s : List UInt8) : VsRel ρ φ (ofBytes (s.map UInt8.toNat)) (s.map fun b => Value.int .u8 b.toNat) := by
  induction s with
  | nil => exact .nil
  | cons b s ih => exact .cons _ _ _ _ (.int .u8 _) ih
theorem ofBytes_flat (l : List Nat) : ∀ v ∈ ofBytes l, v.flat = true := by
  induction l with
  | nil => intro v hv; cases hv
  | cons b s ih => intro v hv; rcases List.mem_cons.1 hv with rfl | hv; rfl; exact ih v hv
theorem ofBytes_inv {l : List Nat} {m : List Value} (h : VsRel ρ φ (ofBytes l) m) : m = l.map fun (n : Nat) => Value.int .u8 (n : Int) := by
  induction l generalizing m with
  | nil => cases h; rfl
  | cons b l ih => cases h with | cons _ _ _ _ h h' => cases h; rw [ih h']; rfl
theorem run_bytes (l : List Nat) (h : ∀ n ∈ l, n ≤ 255) (acc : ByteArray) :
    (forIn (m := Sem) (l.map fun (n : Nat) => Value.int .u8 (n : Int)) acc (fun c (s : ByteArray) => match c with
      | .int .u8 n => pure (ForInStep.yield (s.push (UInt8.ofNat n.toNat)))
      | _ => do let _ ← (stuck "bytesToString: byte expected" : Sem Unit); pure (ForInStep.yield s))).run P w = .ok (⟨(acc.data.toList ++ l.map UInt8.ofNat).toArray⟩ : ByteArray) w := by
  induction l generalizing acc with
  | nil => simp
  | cons b l ih =>
    simp only [List.map_cons, List.forIn_cons, Sem.run_bind, Sem.run_pure, Result.andThen_ok]
    rw [ih (fun n hn => h n (by simp [hn]))]
    congr 2
    simp
theorem u8_map (l : List Nat) (h : ∀ n ∈ l, n ≤ 255) : (l.map UInt8.ofNat).map UInt8.toNat = l := by
  induction l with
  | nil => rfl
  | cons b l ih =>
    have := h b (by simp)
    simp only [List.map_cons, ih (fun n hn => h n (by simp [hn]))]
    congr 1
    simp; omega
end
end Go.AI
