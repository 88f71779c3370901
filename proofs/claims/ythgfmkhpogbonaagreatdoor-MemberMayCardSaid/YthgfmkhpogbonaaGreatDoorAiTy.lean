/-
  Constants; what a type's row says, and a test of it.
-/
import Derived.Test.YthgfmkhpogbonaaGreatDoorAiSem
set_option linter.unusedVariables false
namespace Go.AI
section
variable {P : Program} {ρ : Env} {φ : Phi}

theorem allFlat_iff (l : List AV) : allFlat l = true ↔ ∀ v ∈ l, v.flat = true := by
  induction l with
  | nil => simp [allFlat]
  | cons v l ih =>
    show sel v.flat (allFlat l) false = true ↔ _
    cases hv : v.flat <;> simp [hv, ih]

mutual
theorem ofValue_rel : ∀ (z : Value) (v : AV), ofValue z = some v → VRel ρ φ v z
  | .bool b, v, h => by simp only [ofValue, Option.some.injEq] at h; subst h; exact .bool b
  | .int k n, v, h => by simp only [ofValue, Option.some.injEq] at h; subst h; exact .int k n
  | .string s, v, h => by simp only [ofValue, Option.some.injEq] at h; subst h; exact .str s
  | .pointer none, v, h => by simp only [ofValue, Option.some.injEq] at h; subst h; exact .nilp
  | .pointer (some a), v, h => by simp [ofValue] at h
  | .slice none 0 0, v, h => by simp only [ofValue, Option.some.injEq] at h; subst h; exact .nils
  | .slice none 0 (n + 1), v, h => by simp [ofValue] at h
  | .slice none (n + 1) _, v, h => by simp [ofValue] at h
  | .slice (some a) _ _, v, h => by simp [ofValue] at h
  | .map none, v, h => by simp only [ofValue, Option.some.injEq] at h; subst h; exact .nilm
  | .map (some r), v, h => by simp [ofValue] at h
  | .nilFunc, v, h => by simp only [ofValue, Option.some.injEq] at h; subst h; exact .nilf
  | .nilIface, v, h => by simp only [ofValue, Option.some.injEq] at h; subst h; exact .nili
  | .agg ⟨cs⟩, v, h => by
    simp only [ofValue] at h
    cases hc : ofValues cs with
    | none => rw [hc] at h; cases h
    | some l =>
      rw [hc] at h
      obtain ⟨h1, h2⟩ := guardB_some.1 h
      cases h2
      exact .agg l _ (ofValues_rel cs l hc) ((allFlat_iff l).1 h1)
  | .tuple ⟨cs⟩, v, h => by
    simp only [ofValue, Option.map_eq_some_iff] at h
    obtain ⟨l, h1, rfl⟩ := h
    exact .tup l _ (ofValues_rel cs l h1)
  | .float _ _, v, h => by simp [ofValue] at h
  | .complex _ _ _, v, h => by simp [ofValue] at h
  | .chan _, v, h => by simp [ofValue] at h
  | .func _ _ _, v, h => by simp [ofValue] at h
  | .iface _ _, v, h => by simp [ofValue] at h
theorem ofValues_rel : ∀ (cs : List Value) (l : List AV), ofValues cs = some l → VsRel ρ φ l cs
  | [], l, h => by simp only [ofValues, Option.some.injEq] at h; subst h; exact .nil
  | z :: cs, l, h => by
    simp only [ofValues] at h
    cases h1 : ofValue z with
    | none => rw [h1] at h; simp at h
    | some a => cases h2 : ofValues cs with
      | none => rw [h1, h2] at h; simp at h
      | some as_ => rw [h1, h2] at h; simp at h; subst h; exact .cons _ _ _ _ (ofValue_rel z a h1) (ofValues_rel cs as_ h2)
end

inductive KRel (P : Program) (t : TypeId) : AK → TypeDesc → Prop where
  | int (k : IntKind) : KRel P t (.int k) (.int k)
  | bool : KRel P t .bool .bool
  | str : KRel P t .str .string
  | ptr (e : Nat) : KRel P t (.ptr e) (.pointer e)
  | slice (e : Nat) : KRel P t (.slice e) (.slice e)
  | arr (n e : Nat) : KRel P t (.arr n e) (.array n e)
  | struct (fs : Array Field) (hn : ∀ f ∈ fs.toList, f.name ≠ "_") (hs : P.stoodInHeld t = false) (hi : ∀ f ∈ fs.toList, (P.info? f.type).isSome = true) : KRel P t (.struct (fs.toList.map fun f => (f.type, f.offset))) (.struct fs)
  | map (k e : Nat) : KRel P t (.map k e) (.map k e)
  | other (d : TypeDesc) (h1 : ∀ fs, d ≠ .struct fs) (h2 : ∀ n e, d ≠ .array n e) (h3 : ∀ ms, d ≠ .interface ms) : KRel P t .other d

structure TyRel (P : Program) (t : TypeId) (a : ATy) : Prop where
  info : ∃ i z, P.info? t = some i ∧ i.size = a.size ∧ i.bytes = a.bytes ∧ i.zero = some z ∧ ∃ zv, ofValue z = some zv ∧ zv.cells = a.zero ∧ (if a.k.agg then ∃ l, zv = .agg l else zv.flat = true)
  und : ∃ d, P.underlying t = some d ∧ KRel P t a.k d
  eqg : P.eqGuardType P.depth t = false
  zlen : a.zero.length = a.size
  zflat : ∀ v ∈ a.zero, v.flat = true

def TiOk (P : Program) (ti : Nat → Option ATy) : Prop := ∀ t a, ti t = some a → TyRel P t a

-- the test
theorem keq_iff {a b : IntKind} : keq a b = true ↔ a = b := by cases a <;> cases b <;> simp [keq]
theorem ieq_iff {a b : Int} : ieq a b = true ↔ a = b := by
  cases a <;> cases b <;> simp [ieq] <;> omega
theorem nlEqD_eq {a b : List Nat} (h : nlEqD a b = true) : a = b := by
  induction a generalizing b with
  | nil => cases b <;> simp [nlEqD] at h ⊢
  | cons x l ih => cases b with
    | nil => simp [nlEqD] at h
    | cons y m => simp [nlEqD] at h; rw [h.1, ih h.2]
theorem avEq_eq {a b : AV} (h : avEq a b = true) : a = b := by
  cases a <;> cases b <;> simp_all [avEq, keq_iff, ieq_iff]
  all_goals first | exact nlEqD_eq h | (rename_i x y; cases x <;> cases y <;> simp_all)
theorem avsEq_eq {a b : List AV} (h : avsEq a b = true) : a = b := by
  induction a generalizing b with
  | nil => cases b <;> simp [avsEq] at h ⊢
  | cons x l ih => cases b with
    | nil => simp [avsEq] at h
    | cons y m => simp [avsEq] at h; rw [avEq_eq h.1, ih h.2]

theorem beqB_eq {a b : Bool} (h : beqB a b = true) : a = b := by cases a <;> cases b <;> simp_all [beqB]
theorem avEq2_eq {a b : AV} (h : avEq2 a b = true) : a = b := by
  unfold avEq2 at h
  split at h
  · simp only [Bool.and_eq_true, Nat.beq_eq] at h; obtain ⟨rfl, rfl⟩ := h; rfl
  · simp only [Bool.and_eq_true, Nat.beq_eq] at h
    obtain ⟨⟨⟨rfl, rfl⟩, rfl, rfl⟩, hx, rfl⟩ := h
    rw [beqB_eq hx]
  · simp only [Nat.beq_eq] at h; subst h; rfl
  · simp only [Nat.beq_eq] at h; subst h; rfl
  · simp only [Bool.and_eq_true, Nat.beq_eq, keq_iff, ieq_iff] at h; obtain ⟨rfl, rfl, rfl⟩ := h; rfl
  · simp only [Bool.and_eq_true, Nat.beq_eq] at h; obtain ⟨rfl, rfl, rfl⟩ := h; rfl
  · simp only [Bool.and_eq_true, Nat.beq_eq] at h; obtain ⟨rfl, h⟩ := h; rw [avEq_eq h]
  · exact avEq_eq h
theorem avsEq2_eq {a b : List AV} (h : avsEq2 a b = true) : a = b := by
  induction a generalizing b with
  | nil => cases b <;> simp [avsEq2] at h ⊢
  | cons x l ih => cases b with
    | nil => simp [avsEq2] at h
    | cons y m => simp [avsEq2] at h; rw [avEq2_eq h.1, ih h.2]
theorem sameV_eq {a b : AV} (h : sameV a b = true) : a = b := by
  unfold sameV at h
  split at h
  · rw [avsEq2_eq h]
  · rw [avsEq2_eq h]
  · exact avEq2_eq h

def fsEq : List (Nat × Nat) → List Field → Bool
  | [], [] => true
  | p :: l, f :: m => Nat.beq p.1 f.type && Nat.beq p.2 f.offset && f.name != "_" && fsEq l m
  | _, _ => false
theorem fsEq_eq {l : List (Nat × Nat)} {m : List Field} (h : fsEq l m = true) : l = m.map (fun f => (f.type, f.offset)) ∧ ∀ f ∈ m, f.name ≠ "_" := by
  induction l generalizing m with
  | nil => cases m <;> simp [fsEq] at h ⊢
  | cons p l ih => cases m with
    | nil => simp [fsEq] at h
    | cons f m =>
      simp [fsEq] at h
      obtain ⟨⟨⟨h1, h2⟩, h3⟩, h4⟩ := h
      obtain ⟨h5, h6⟩ := ih h4
      refine ⟨by simp [h5, ← h1, ← h2], fun g hg => ?_⟩
      rcases List.mem_cons.1 hg with rfl | hg
      · exact h3
      · exact h6 g hg

def kOk (P : Program) (t : TypeId) (k : AK) (d : TypeDesc) : Bool :=
  match k, d with
  | .int a, .int b => keq a b
  | .bool, .bool => true
  | .str, .string => true
  | .ptr e, .pointer e' => Nat.beq e e'
  | .slice e, .slice e' => Nat.beq e e'
  | .arr n e, .array n' e' => Nat.beq n n' && Nat.beq e e'
  | .struct fs, .struct fs' => fsEq fs fs'.toList && (!P.stoodInHeld t && fs'.toList.all fun f => (P.info? f.type).isSome)
  | .map a e, .map a' e' => Nat.beq a a' && Nat.beq e e'
  | .other, .struct _ => false
  | .other, .array _ _ => false
  | .other, .interface _ => false
  | .other, _ => true
  | _, _ => false
theorem kOk_rel {t : TypeId} {k : AK} {d : TypeDesc} (h : kOk P t k d = true) : KRel P t k d := by
  cases k <;> cases d <;> simp [kOk, keq_iff] at h <;> first
    | (exact .other _ (by intro _ h; cases h) (by intro _ _ h; cases h) (by intro _ h; cases h))
    | (subst h; constructor)
    | (obtain ⟨rfl, rfl⟩ := h; constructor)
    | (obtain ⟨h1, h2, h4⟩ := h; obtain ⟨rfl, h3⟩ := fsEq_eq h1; exact .struct _ h3 h2 (by intro f hf; obtain ⟨i, hi, rfl⟩ := List.getElem_of_mem hf; simpa using h4 i (by simpa using hi)))
    | constructor

noncomputable def tyOk (P : Program) (t : TypeId) (a : ATy) : Bool :=
  match P.info? t, P.underlying t with
  | some i, some d =>
    Nat.beq i.size a.size && Nat.beq i.bytes a.bytes && kOk P t a.k d && !P.eqGuardType P.depth t && Nat.beq a.zero.length a.size && allFlat a.zero &&
    match i.zero with
    | some z => match ofValue z with
      | some zv => avsEq zv.cells a.zero && (if a.k.agg then (match zv with | .agg _ => true | _ => false) else zv.flat)
      | none => false
    | none => false
  | _, _ => false
theorem tyOk_rel {t : TypeId} {a : ATy} (h : tyOk P t a = true) : TyRel P t a := by
  unfold tyOk at h
  split at h
  · rename_i i d hi hd
    simp only [Bool.and_eq_true, Nat.beq_eq, Bool.not_eq_true'] at h
    obtain ⟨⟨⟨⟨⟨⟨h1, h2⟩, h3⟩, h4⟩, h5⟩, h6⟩, h7⟩ := h
    split at h7
    · rename_i z hz
      split at h7
      · rename_i zv hzv
        simp only [Bool.and_eq_true] at h7
        refine ⟨⟨i, z, hi, h1, h2, hz, zv, hzv, avsEq_eq h7.1, ?_⟩, ⟨d, hd, kOk_rel h3⟩, h4, h5, (allFlat_iff _).1 h6⟩
        have := h7.2
        split at this
        · rename_i hk
          rw [if_pos hk]
          cases zv <;> simp at this; exact ⟨_, rfl⟩
        · rename_i hk; rw [if_neg hk]; exact this
      · cases h7
    · cases h7
  · cases h

theorem tiOk_of (T : Tr ATy) (h : ∀ t a, T.get t = some a → tyOk P t a = true) : TiOk P T.get := fun t a e => tyOk_rel (h t a e)

def onV {α : Type} (p : Nat → α → Bool) (o : Nat) (v : Option α) : Bool := match v with | some a => p o a | none => true
/-- all entries of a trie, by place -/
noncomputable def Tr.allT {α : Type} (p : Nat → α → Bool) (T : Tr α) : Nat → Nat → Bool :=
  Tr.rec (motive := fun _ => Nat → Nat → Bool) (fun _ _ => true)
    (fun v _ _ L R s o => onV p o v && L (2 * s) (o + s) && R (2 * s) (o + 2 * s)) T
theorem allT_get {α : Type} (p : Nat → α → Bool) (T : Tr α) : ∀ (s o : Nat), T.allT p s o = true → ∀ n a, T.get n = some a → p (o + n * s) a = true := by
  induction T with
  | nil => intro s o _ n a h; cases h
  | node v l r ihl ihr =>
    intro s o h n a hg
    have h' : (onV p o v && Tr.allT p l (2 * s) (o + s) && Tr.allT p r (2 * s) (o + 2 * s)) = true := h
    simp only [Bool.and_eq_true] at h'
    rw [Tr.get_node] at hg
    by_cases h0 : n = 0
    · subst h0; simp at hg; subst hg; simpa [onV] using h'.1.1
    · rw [if_neg h0] at hg
      by_cases h1 : n % 2 = 1
      · rw [if_pos h1] at hg
        have := ihl _ _ h'.1.2 _ _ hg
        rw [show o + s + n / 2 * (2 * s) = o + n * s from by
          have e : n = 2 * (n / 2) + 1 := by omega
          conv => rhs; rw [e]
          rw [Nat.add_mul, Nat.one_mul, Nat.mul_comm 2 (n / 2), Nat.mul_assoc]; omega] at this
        exact this
      · rw [if_neg h1] at hg
        have := ihr _ _ h'.2 _ _ hg
        rw [show o + 2 * s + (n / 2 - 1) * (2 * s) = o + n * s from by
          obtain ⟨m, e⟩ : ∃ m, n = 2 * (m + 1) := ⟨n / 2 - 1, by omega⟩
          subst e
          rw [show 2 * (m + 1) / 2 - 1 = m from by omega, show 2 * (m + 1) * s = (m + 1) * (2 * s) from by rw [Nat.mul_comm 2 (m + 1), Nat.mul_assoc], Nat.add_mul, Nat.one_mul]; omega] at this
        exact this
theorem tiOk_all (T : Tr ATy) (h : T.allT (tyOk P) 1 0 = true) : TiOk P T.get :=
  tiOk_of T fun t a e => by have := allT_get _ T 1 0 h t a e; simpa using this
end
end Go.AI
