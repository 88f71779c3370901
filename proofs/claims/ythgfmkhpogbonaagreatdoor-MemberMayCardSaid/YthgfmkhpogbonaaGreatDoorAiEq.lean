/-
  The abstract == is the model's.
-/
import Derived.Test.YthgfmkhpogbonaaGreatDoorAiOp1
import Derived.Laws.StructEq
import Derived.Laws.Cover3
import Derived.ChangeKeysEq
set_option linter.unusedVariables false
set_option linter.unusedSimpArgs false
namespace Go.AI
section
variable {P : Program} {ρ : Env} {φ : Phi} {w0 w : World} {h h' : AHeap} {ti : Nat → Option ATy}

theorem nlEq_eq (a b : List Nat) : nlEq a b = decide (a = b) := by
  induction a generalizing b with
  | nil => cases b with
    | nil => rfl
    | cons y m => rfl
  | cons x l ih => cases b with
    | nil => rfl
    | cons y m =>
      show sel (Nat.beq x y) (nlEq l m) false = _
      rw [ih]
      by_cases e : x = y
      · subst e; have : Nat.beq x x = true := by rw [Nat.beq_eq]
        simp [this]
      · have : Nat.beq x y = false := by rw [Bool.eq_false_iff]; intro h; rw [Nat.beq_eq] at h; exact e h
        simp [this, e]
theorem bytes_inj {a b : ByteArray} : a.data.toList.map UInt8.toNat = b.data.toList.map UInt8.toNat ↔ a.toList = b.toList := by
  rw [ByteArray.toList_eq, ByteArray.toList_eq]
  constructor
  · intro h; exact (List.map_inj_right (fun x y h => UInt8.toNat_inj.1 h)).1 h
  · intro h; rw [h]

def EqOk (P : Program) (ρ : Env) (φ : Phi) (w : World) (E : Nat → AV → AV → Option Bool) (d : Nat) : Prop :=
  ∀ t x y r, E t x y = some r → ∀ u v, VRel ρ φ x u → VRel ρ φ y v → (Op.equalIn d t u v).run P w = .ok r w

theorem eqFs_ok (T : TiOk P ti) {E : Nat → AV → AV → Option Bool} {d : Nat} (hE : EqOk P ρ φ w E d) {xs ys : List AV} {us vs : Array Value} (hx : VsRel ρ φ xs us.toList) (hy : VsRel ρ φ ys vs.toList)
    (fx : ∀ v ∈ xs, v.flat = true) (fy : ∀ v ∈ ys, v.flat = true) : ∀ (fs : List Field) (r : Bool), (∀ f ∈ fs, f.name ≠ "_") → eqFs ti E xs ys (fs.map fun f => (f.type, f.offset)) = some r →
    (Op.eqFields d us vs fs).run P w = .ok r w
  | [], r, _, e => by cases e; rfl
  | f :: fs, r, hn, e => by
    have e' : (ob (ti f.type) fun ty => ob (partA ty xs f.offset) fun a => ob (partA ty ys f.offset) fun b => ob (E f.type a b) fun r => sel r (eqFs ti E xs ys (fs.map fun f => (f.type, f.offset))) (some false)) = some r := e
    simp only [ob_some] at e'
    obtain ⟨ty, h1, a, h2, b, h3, q, h4, h5⟩ := e'
    obtain ⟨u, k1, k2⟩ := run_part (P := P) (w := w) T h1 hx fx h2
    obtain ⟨v, k3, k4⟩ := run_part (P := P) (w := w) T h1 hy fy h3
    have k5 := hE _ _ _ _ h4 u v k2 k4
    have hne := hn f (by simp)
    simp only [Op.eqFields, hne, ne_eq, not_false_eq_true, if_true, Sem.run_bind, k1, k3, k5, Result.andThen_ok, Sem.run_ite]
    cases q
    · simp at h5; subst h5; rfl
    · exact eqFs_ok T hE hx hy fx fy fs r (fun g hg => hn g (by simp [hg])) h5

theorem eqArr_ok (T : TiOk P ti) {E : Nat → AV → AV → Option Bool} {d e : Nat} {te : ATy} (he : ti e = some te) (hE : EqOk P ρ φ w E d) {xs ys : List AV} {us vs : Array Value} (hx : VsRel ρ φ xs us.toList) (hy : VsRel ρ φ ys vs.toList)
    (fx : ∀ v ∈ xs, v.flat = true) (fy : ∀ v ∈ ys, v.flat = true) : ∀ (n i : Nat) (r : Bool), eqArr E e te xs ys n i = some r →
    (Op.eqItems d e te.size us vs (List.range' i n)).run P w = .ok r w
  | 0, i, r, h => by cases h; rfl
  | n + 1, i, r, h => by
    have h' : (ob (partA te xs (Nat.mul i te.size)) fun a => ob (partA te ys (Nat.mul i te.size)) fun b => ob (E e a b) fun r => sel r (eqArr E e te xs ys n (Nat.succ i)) (some false)) = some r := h
    simp only [ob_some] at h'
    obtain ⟨a, h2, b, h3, q, h4, h5⟩ := h'
    obtain ⟨u, k1, k2⟩ := run_part (P := P) (w := w) T he hx fx h2
    obtain ⟨v, k3, k4⟩ := run_part (P := P) (w := w) T he hy fy h3
    have k5 := hE _ _ _ _ h4 u v k2 k4
    have k1' : (part e us (i * te.size)).run P w = .ok u w := k1
    have k3' : (part e vs (i * te.size)).run P w = .ok v w := k3
    simp only [List.range'_succ, Op.eqItems, Sem.run_bind, k1', k3', k5, Result.andThen_ok, Sem.run_ite]
    cases q
    · simp at h5; subst h5; rfl
    · exact eqArr_ok T he hE hx hy fx fy n (i + 1) r h5

theorem KRel.of_und {t : TypeId} {a : ATy} (T : TyRel P t a) : ∃ d, P.underlying t = some d ∧ KRel P t a.k d := T.und

theorem eqS_ok (T : TiOk P ti) {E : Nat → AV → AV → Option Bool} {d : Nat} (hE : EqOk P ρ φ w E d) {t : Nat} {a : ATy} (ht : ti t = some a) {x y : AV} {r : Bool} (e : eqS ti E a.k x y = some r) {u v : Value}
    (hu : VRel ρ φ x u) (hv : VRel ρ φ y v) : (Op.equalIn (d + 1) t u v).run P w = .ok r w := by
  have R := T _ _ ht
  obtain ⟨td, k1, k2⟩ := R.und
  generalize hk : a.k = k at e k2
  unfold eqS at e
  split at e
  · -- bool
    cases hu; cases hv; cases k2
    rename_i a b; simp at e; subst e
    rw [run_equalIn_bool' w d t _ _ k1]; cases a <;> cases b <;> rfl
  · cases hu; cases hv; cases k2
    obtain ⟨e1, e2⟩ := guardB_some.1 e
    rw [keq_iff] at e1; subst e1; simp at e2; subst e2
    rw [run_equalIn_int w d t _ _ _ _ k1]
    congr 1
    rename_i a b _
    rw [Bool.eq_iff_iff, ieq_iff]; simp
  · cases hu; cases hv; cases k2
    obtain ⟨e1, e2⟩ := guardB_some.1 e
    simp only [Bool.and_eq_true, Nat.beq_eq] at e1
    obtain ⟨e1, e3⟩ := e1
    rw [keq_iff] at e1; subst e1; subst e3; simp at e2; subst e2
    rw [run_equalIn_int w d t _ _ _ _ k1]
    congr 1
    rw [Bool.eq_iff_iff, ieq_iff]; simp
  · cases hu; cases hv; cases k2
    simp at e; subst e
    rw [run_equalIn_string w d t _ _ k1]
    congr 1
    rw [nlEq_eq, Bool.eq_iff_iff]; simp only [decide_eq_true_eq, beq_iff_eq]; exact bytes_inj.symm
  · cases hu; cases hv; cases k2; simp at e; subst e
    simp [Op.equalIn, run_un k1]
  · cases hu; cases hv; cases k2; simp at e; subst e
    simp [Op.equalIn, run_un k1]
  · cases hu; cases hv; cases k2; simp at e; subst e
    simp [Op.equalIn, run_un k1]
  · cases hu; cases hv; cases k2; simp at e; subst e
    simp [Op.equalIn, run_un k1]
  · cases hu; cases hv; cases k2; simp at e; subst e
    simp [Op.equalIn, run_un k1]
  · cases hu; cases hv; cases k2; simp at e; subst e
    simp [Op.equalIn, run_un k1]
  · cases hu; cases hv; cases k2; simp at e; subst e
    simp [Op.equalIn, run_un k1]
  · cases hu; cases hv; cases k2; simp at e; subst e
    simp [Op.equalIn, run_un k1]
  · cases hu; cases hv; cases k2; simp at e; subst e
    simp [Op.equalIn, run_un k1]
  · rename_i fs xs ys
    obtain ⟨fields, j1, rfl, j3, j4⟩ := R.struct hk
    cases hu with
    | agg _ us hus fus => cases hv with
      | agg _ vs hvs fvs =>
        have hf : P.fieldsOf t = fields := by simp [Program.fieldsOf, j1]
        rw [run_equalIn_struct w d t us vs (by rw [hf]; exact j1) j4, hf]
        exact eqFs_ok T hE hus hvs fus fvs fields.toList r j3 e
  · rename_i n e' xs ys
    have j1 := R.array hk
    cases hu with
    | agg _ us hus fus => cases hv with
      | agg _ vs hvs fvs =>
        simp only [ob_some] at e
        obtain ⟨te, e1, e2⟩ := e
        obtain ⟨i, z, i1, i2, _⟩ := (T _ _ e1).info
        rw [run_equalIn_array w d us vs j1 i1, List.range_eq_range', show P.cellsOf e' = te.size from by simp [Program.cellsOf, i1, i2]]
        exact eqArr_ok T e1 hE hus hvs fus fvs n 0 r e2
  · cases e

theorem eqA_ok (T : TiOk P ti) : ∀ (d m : Nat), EqOk P ρ φ w (eqA ti d) (m + d)
  | 0, m => fun t x y r e => by cases e
  | d + 1, m => fun t x y r e u v hu hv => by
    have e' : (ob (ti t) fun ty => eqS ti (eqA ti d) ty.k x y) = some r := e
    simp only [ob_some] at e'
    obtain ⟨a, h1, h2⟩ := e'
    exact eqS_ok T (eqA_ok T d m) h1 h2 hu hv

theorem eqA_equal (T : TiOk P ti) {t : Nat} {x y : AV} {r : Bool} (e : eqA ti depthE t x y = some r) {u v : Value} (hu : VRel ρ φ x u) (hv : VRel ρ φ y v) : (Op.equal t u v).run P w = .ok r w := by
  have := eqA_ok (w := w) T depthE 9936 t x y r e u v hu hv
  rw [show (9936 + depthE : Nat) = Op.maxDepth from rfl] at this
  exact this

-- keys
def KeyOk (P : Program) (ρ : Env) (φ : Phi) (w : World) (E : Nat → AV → Bool) (d : Nat) : Prop := ∀ (em : Bool) t x, E t x = true → ∀ u, VRel ρ φ x u → (Instr.checkKey em d t u).run P w = .ok () w

theorem keyFs_ok (T : TiOk P ti) {E : Nat → AV → Bool} {d : Nat} (hE : KeyOk P ρ φ w E d) (em : Bool) {xs : List AV} {us : Array Value} (hx : VsRel ρ φ xs us.toList) (fx : ∀ v ∈ xs, v.flat = true) : ∀ (fs : List Field),
    (∀ f ∈ fs, f.name ≠ "_") → keyFs ti E xs (fs.map fun f => (f.type, f.offset)) = true →
    (forIn fs PUnit.unit (fun (f : Field) (_ : PUnit) => if f.name ≠ "_" then (do
        let z ← part f.type us f.offset
        Instr.checkKey em d f.type z
        pure (ForInStep.yield PUnit.unit) : Sem (ForInStep PUnit)) else pure (ForInStep.yield PUnit.unit))).run P w = .ok PUnit.unit w
  | [], _, _ => rfl
  | f :: fs, hn, e => by
    have e' : (Option.rec (motive := fun _ => Bool) false (fun ty => Option.rec (motive := fun _ => Bool) false (fun a => sel (E f.type a) (keyFs ti E xs (fs.map fun f => (f.type, f.offset))) false) (partA ty xs f.offset)) (ti f.type) : Bool) = true := e
    cases h1 : ti f.type with
    | none => rw [h1] at e'; cases e'
    | some ty =>
      rw [h1] at e'
      cases h2 : partA ty xs f.offset with
      | none => simp only [h2] at e'; cases e'
      | some a =>
        simp only [h2] at e'
        cases h3 : E f.type a with
        | false => rw [h3] at e'; cases e'
        | true =>
          rw [h3] at e'
          obtain ⟨u, k1, k2⟩ := run_part (P := P) (w := w) T h1 hx fx h2
          have k3 := hE em _ _ h3 u k2
          have hne := hn f (by simp)
          simp only [List.forIn_cons, hne, ne_eq, not_false_eq_true, if_true, Sem.run_bind, k1, Result.andThen_ok, k3, Sem.run_pure]
          exact keyFs_ok T hE em hx fx fs (fun g hg => hn g (by simp [hg])) e'

theorem keyOk_ok (T : TiOk P ti) : ∀ (d m : Nat), KeyOk P ρ φ w (keyOk ti d) (m + d)
  | 0, m => fun em t x e => by cases e
  | d + 1, m => fun em t x e u hu => by
    have e' : (Option.rec (motive := fun _ => Bool) false (fun ty => keyS ti (keyOk ti d) ty.k x) (ti t) : Bool) = true := e
    cases h1 : ti t with
    | none => rw [h1] at e'; cases e'
    | some a =>
      simp only [h1] at e'
      have R := T _ _ h1
      obtain ⟨td, k1, k2⟩ := R.und
      generalize hk : a.k = k at e' k2
      unfold keyS at e'
      split at e'
      · cases hu; cases k2; simp [Instr.checkKey, run_un k1]
      · cases hu; cases k2; simp [Instr.checkKey, run_un k1]
      · cases hu; cases k2; simp [Instr.checkKey, run_un k1]
      · obtain ⟨fields, j1, rfl, j3, j4⟩ := R.struct hk
        cases hu with
        | agg _ us hus fus =>
          rw [show m + (d + 1) = (m + d) + 1 from rfl, Instr.checkKey]
          simp only [Sem.run_bind, run_un j1, Result.andThen_ok]
          rw [← Array.forIn_toList]
          have := keyFs_ok T (keyOk_ok T d m) em hus fus fields.toList j3 e'
          rw [this]; rfl
      · cases e'
theorem keyOk_check (T : TiOk P ti) (em : Bool) {t : Nat} {x : AV} (e : keyOk ti depthE t x = true) {u : Value} (hu : VRel ρ φ x u) : (Instr.checkKey em 10000 t u).run P w = .ok () w := by
  have := keyOk_ok (w := w) T depthE 9936 em t x e u hu
  rw [show (9936 + depthE : Nat) = 10000 from rfl] at this
  exact this
end
end Go.AI
