/-
  What an abstract value, heap and frame say of the model's: the relation, and its first laws.
-/
import Derived.Test.YthgfmkhpogbonaaGreatDoorAiDef
import Derived.Calls
set_option linter.unusedVariables false
set_option linter.unusedSimpArgs false
namespace Go.AI

-- tries
theorem pick_eq {β : Sort _} (n : Nat) (z o e : β) : Tr.pick n z o e = if n = 0 then z else if n % 2 = 1 then o else e := by
  unfold Tr.pick
  by_cases h : n = 0
  · subst h; rfl
  · have : Nat.beq n 0 = false := by rw [Bool.eq_false_iff]; simpa using h
    rw [this, if_neg h]
    by_cases h2 : n % 2 = 1
    · have : Nat.beq (Nat.mod n 2) 1 = true := by rw [Nat.beq_eq]; exact h2
      rw [this, if_pos h2]; rfl
    · have : Nat.beq (Nat.mod n 2) 1 = false := by rw [Bool.eq_false_iff]; exact fun e => h2 (by rw [Nat.beq_eq] at e; exact e)
      rw [this, if_neg h2]; rfl

namespace Tr
variable {α : Type}
theorem get_nil (n : Nat) : (Tr.nil : Tr α).get n = none := rfl
theorem get_node (v : Option α) (l r : Tr α) (n : Nat) : (Tr.node v l r).get n = if n = 0 then v else if n % 2 = 1 then l.get (n / 2) else r.get (n / 2 - 1) := by
  show pick n v (l.get (Nat.div n 2)) (r.get (Nat.sub (Nat.div n 2) 1)) = _
  rw [pick_eq]; rfl
theorem set_succ_nil (f : Nat) (x : Option α) (n : Nat) : set (f + 1) x .nil n = if n = 0 then .node x .nil .nil else if n % 2 = 1 then .node none (set f x .nil (n / 2)) .nil else .node none .nil (set f x .nil (n / 2 - 1)) := by
  show pick n _ _ _ = _
  rw [pick_eq]; rfl
theorem set_succ_node (f : Nat) (x v : Option α) (l r : Tr α) (n : Nat) : set (f + 1) x (.node v l r) n = if n = 0 then .node x l r else if n % 2 = 1 then .node v (set f x l (n / 2)) r else .node v l (set f x r (n / 2 - 1)) := by
  show pick n _ _ _ = _
  rw [pick_eq]; rfl

theorem get_set (x : Option α) : ∀ (f : Nat) (t : Tr α) (n m : Nat), n + 1 < 2 ^ f → (set f x t n).get m = if m = n then x else t.get m := by
  intro f
  induction f with
  | zero => intro t n m h; simp at h
  | succ f ih =>
    intro t n m h
    have hp : 2 ^ (f + 1) = 2 * 2 ^ f := by rw [Nat.pow_succ]; omega
    cases t with
    | nil =>
      rw [set_succ_nil]
      by_cases h0 : n = 0
      · subst h0; rw [if_pos rfl, get_node]; by_cases hm : m = 0 <;> simp [hm, get_nil]
      · rw [if_neg h0]
        by_cases h1 : n % 2 = 1
        · rw [if_pos h1, get_node]
          by_cases hm : m = 0
          · subst hm; rw [if_pos rfl, if_neg (by omega)]; rfl
          · rw [if_neg hm]
            by_cases hm1 : m % 2 = 1
            · rw [if_pos hm1, ih _ _ _ (by omega), get_nil, get_nil]
              by_cases e : m = n
              · subst e; simp
              · rw [if_neg e, if_neg (by omega)]
            · rw [if_neg hm1, get_nil, get_nil, if_neg (by omega)]
        · rw [if_neg h1, get_node]
          by_cases hm : m = 0
          · subst hm; rw [if_pos rfl, if_neg (by omega)]; rfl
          · rw [if_neg hm]
            by_cases hm1 : m % 2 = 1
            · rw [if_pos hm1, get_nil, get_nil, if_neg (by omega)]
            · rw [if_neg hm1, ih _ _ _ (by omega), get_nil, get_nil]
              by_cases e : m = n
              · subst e; simp
              · rw [if_neg e, if_neg (by omega)]
    | node v l r =>
      rw [set_succ_node]
      by_cases h0 : n = 0
      · subst h0; rw [if_pos rfl, get_node, get_node]; by_cases hm : m = 0 <;> simp [hm]
      · rw [if_neg h0]
        by_cases h1 : n % 2 = 1
        · rw [if_pos h1, get_node, get_node]
          by_cases hm : m = 0
          · subst hm; rw [if_pos rfl, if_neg (by omega), if_pos rfl]
          · rw [if_neg hm, if_neg hm]
            by_cases hm1 : m % 2 = 1
            · rw [if_pos hm1, if_pos hm1, ih _ _ _ (by omega)]
              by_cases e : m = n
              · subst e; simp
              · rw [if_neg e, if_neg (by omega)]
            · rw [if_neg hm1, if_neg hm1, if_neg (by omega)]
        · rw [if_neg h1, get_node, get_node]
          by_cases hm : m = 0
          · subst hm; rw [if_pos rfl, if_neg (by omega), if_pos rfl]
          · rw [if_neg hm, if_neg hm]
            by_cases hm1 : m % 2 = 1
            · rw [if_pos hm1, if_pos hm1, if_neg (by omega)]
            · rw [if_neg hm1, if_neg hm1, ih _ _ _ (by omega)]
              by_cases e : m = n
              · subst e; simp
              · rw [if_neg e, if_neg (by omega)]
end Tr

-- eliminators
theorem ob_some {α β : Type} {x : Option α} {K : α → Option β} {r : β} : ob x K = some r ↔ ∃ a, x = some a ∧ K a = some r := by
  cases x with
  | none => constructor <;> intro h
            · cases h
            · obtain ⟨_, h, _⟩ := h; cases h
  | some a => exact ⟨fun h => ⟨a, rfl, h⟩, fun ⟨b, e, h⟩ => by cases e; exact h⟩
theorem ob2_some {α β γ : Type} {x : Option (α × β)} {K : α → β → Option γ} {r : γ} : ob2 x K = some r ↔ ∃ a b, x = some (a, b) ∧ K a b = some r := by
  cases x with
  | none => constructor <;> intro h
            · cases h
            · obtain ⟨_, _, h, _⟩ := h; cases h
  | some p => exact ⟨fun h => ⟨p.1, p.2, rfl, h⟩, fun ⟨a, b, e, h⟩ => by cases e; exact h⟩
theorem guardB_some {β : Type} {b : Bool} {x : Option β} {r : β} : guardB b x = some r ↔ b = true ∧ x = some r := by
  cases b <;> simp [guardB]
theorem rOk_some {α : Type} {a : α} {h : AHeap} {r : α × AHeap} : rOk a h = some r ↔ (a, h) = r := by simp [rOk]
section
variable {β : Type} {r : β}
theorem onBool_some {v : AV} {K : Bool → Option β} : v.onBool K = some r ↔ ∃ b, v = .bool b ∧ K b = some r := by
  cases v <;> first | exact ⟨fun h => ⟨_, rfl, h⟩, fun ⟨_, e, h⟩ => by cases e; exact h⟩ | exact ⟨fun h => (by cases h), fun ⟨_, e, h⟩ => by cases e⟩
theorem onInt_some {v : AV} {K : IntKind → Int → Option β} : v.onInt K = some r ↔ ∃ k n, v = .int k n ∧ K k n = some r := by
  cases v <;> first | exact ⟨fun h => ⟨_, _, rfl, h⟩, fun ⟨_, _, e, h⟩ => by cases e; exact h⟩ | exact ⟨fun h => (by cases h), fun ⟨_, _, e, h⟩ => by cases e⟩
theorem onPtr_some {v : AV} {K : Nat → Nat → Option β} : v.onPtr K = some r ↔ ∃ b o, v = .ptr b o ∧ K b o = some r := by
  cases v <;> first | exact ⟨fun h => ⟨_, _, rfl, h⟩, fun ⟨_, _, e, h⟩ => by cases e; exact h⟩ | exact ⟨fun h => (by cases h), fun ⟨_, _, e, h⟩ => by cases e⟩
theorem onStr_some {v : AV} {K : List Nat → Option β} : v.onStr K = some r ↔ ∃ s, v = .str s ∧ K s = some r := by
  cases v <;> first | exact ⟨fun h => ⟨_, rfl, h⟩, fun ⟨_, e, h⟩ => by cases e; exact h⟩ | exact ⟨fun h => (by cases h), fun ⟨_, e, h⟩ => by cases e⟩
theorem onAgg_some {v : AV} {K : List AV → Option β} : v.onAgg K = some r ↔ ∃ s, v = .agg s ∧ K s = some r := by
  cases v <;> first | exact ⟨fun h => ⟨_, rfl, h⟩, fun ⟨_, e, h⟩ => by cases e; exact h⟩ | exact ⟨fun h => (by cases h), fun ⟨_, e, h⟩ => by cases e⟩
theorem onTup_some {v : AV} {K : List AV → Option β} : v.onTup K = some r ↔ ∃ s, v = .tup s ∧ K s = some r := by
  cases v <;> first | exact ⟨fun h => ⟨_, rfl, h⟩, fun ⟨_, e, h⟩ => by cases e; exact h⟩ | exact ⟨fun h => (by cases h), fun ⟨_, e, h⟩ => by cases e⟩
theorem onFunc_some {v : AV} {K : Fn → List AV → List AV → Option β} : v.onFunc K = some r ↔ ∃ f a c, v = .func f a c ∧ K f a c = some r := by
  cases v <;> first | exact ⟨fun h => ⟨_, _, _, rfl, h⟩, fun ⟨_, _, _, e, h⟩ => by cases e; exact h⟩ | exact ⟨fun h => (by cases h), fun ⟨_, _, _, e, h⟩ => by cases e⟩
theorem intNat_some {n : Int} {K : Nat → Option β} : Int.onNat n K = some r ↔ ∃ m : Nat, n = (m : Int) ∧ K m = some r := by
  cases n with
  | ofNat m => exact ⟨fun h => ⟨m, rfl, h⟩, fun ⟨m', e, h⟩ => by cases e; exact h⟩
  | negSucc m => exact ⟨fun h => (by cases h), fun ⟨m', e, h⟩ => by cases e⟩
theorem onNat_some {v : AV} {K : Nat → Option β} : v.onNat K = some r ↔ ∃ k, ∃ m : Nat, v = .int k m ∧ K m = some r := by
  simp only [AV.onNat, onInt_some, intNat_some]
  constructor
  · rintro ⟨k, n, rfl, m, rfl, h⟩; exact ⟨k, m, rfl, h⟩
  · rintro ⟨k, m, rfl, h⟩; exact ⟨k, m, rfl, m, rfl, h⟩
theorem onSlice_some {v : AV} {N : Option β} {K : Nat → Nat → Nat → Nat → Bool → Nat → Option β} :
    v.onSlice N K = some r ↔ (v = .nils ∧ N = some r) ∨ ∃ b o n c ex es, v = .slice b o n c ex es ∧ K b o n c ex es = some r := by
  cases v <;> first | exact ⟨fun h => .inl ⟨rfl, h⟩, fun h => by rcases h with ⟨_, h⟩ | ⟨_, _, _, _, _, _, e, h⟩; exact h; cases e⟩ | exact ⟨fun h => .inr ⟨_, _, _, _, _, _, rfl, h⟩, fun h => by rcases h with ⟨e, h⟩ | ⟨_, _, _, _, _, _, e, h⟩; cases e; cases e; exact h⟩ | exact ⟨fun h => (by cases h), fun h => by rcases h with ⟨e, h⟩ | ⟨_, _, _, _, _, _, e, h⟩ <;> cases e⟩
theorem onMapV_some {v : AV} {N : Option β} {K : Nat → Option β} : v.onMap N K = some r ↔ (v = .nilm ∧ N = some r) ∨ ∃ m, v = .map m ∧ K m = some r := by
  cases v <;> first | exact ⟨fun h => .inl ⟨rfl, h⟩, fun h => by rcases h with ⟨_, h⟩ | ⟨_, e, h⟩; exact h; cases e⟩ | exact ⟨fun h => .inr ⟨_, rfl, h⟩, fun h => by rcases h with ⟨e, h⟩ | ⟨_, e, h⟩; cases e; cases e; exact h⟩ | exact ⟨fun h => (by cases h), fun h => by rcases h with ⟨e, h⟩ | ⟨_, e, h⟩ <;> cases e⟩
theorem onCells_some {v : AObj} {K : List AV → Option β} : v.onCells K = some r ↔ ∃ l, v = .cells l ∧ K l = some r := by
  cases v <;> first | exact ⟨fun h => ⟨_, rfl, h⟩, fun ⟨_, e, h⟩ => by cases e; exact h⟩ | exact ⟨fun h => (by cases h), fun ⟨_, e, h⟩ => by cases e⟩
theorem onMapO_some {v : AObj} {K : List (AV × AV × Nat) → Nat → Option β} : v.onMap K = some r ↔ ∃ es c, v = .map es c ∧ K es c = some r := by
  cases v <;> first | exact ⟨fun h => ⟨_, _, rfl, h⟩, fun ⟨_, _, e, h⟩ => by cases e; exact h⟩ | exact ⟨fun h => (by cases h), fun ⟨_, _, e, h⟩ => by cases e⟩
theorem kSlice_some {k : AK} {K : Nat → Option β} : k.onSlice K = some r ↔ ∃ e, k = .slice e ∧ K e = some r := by
  cases k <;> first | exact ⟨fun h => ⟨_, rfl, h⟩, fun ⟨_, e, h⟩ => by cases e; exact h⟩ | exact ⟨fun h => (by cases h), fun ⟨_, e, h⟩ => by cases e⟩
theorem kStruct_some {k : AK} {K : List (Nat × Nat) → Option β} : k.onStruct K = some r ↔ ∃ fs, k = .struct fs ∧ K fs = some r := by
  cases k <;> first | exact ⟨fun h => ⟨_, rfl, h⟩, fun ⟨_, e, h⟩ => by cases e; exact h⟩ | exact ⟨fun h => (by cases h), fun ⟨_, e, h⟩ => by cases e⟩
theorem kMap_some {k : AK} {K : Nat → Nat → Option β} : k.onMap K = some r ↔ ∃ t e, k = .map t e ∧ K t e = some r := by
  cases k <;> first | exact ⟨fun h => ⟨_, _, rfl, h⟩, fun ⟨_, _, e, h⟩ => by cases e; exact h⟩ | exact ⟨fun h => (by cases h), fun ⟨_, _, e, h⟩ => by cases e⟩
theorem kArr_some {k : AK} {K : Nat → Nat → Option β} : k.onArr K = some r ↔ ∃ n e, k = .arr n e ∧ K n e = some r := by
  cases k <;> first | exact ⟨fun h => ⟨_, _, rfl, h⟩, fun ⟨_, _, e, h⟩ => by cases e; exact h⟩ | exact ⟨fun h => (by cases h), fun ⟨_, _, e, h⟩ => by cases e⟩
end

-- lists
section
variable {α : Type}
theorem nth_eq (l : List α) (n : Nat) : nth l n = l[n]? := by
  induction l generalizing n with
  | nil => rfl
  | cons x l ih => cases n with
    | zero => rfl
    | succ n => exact ih n
theorem dropN_eq (l : List α) (n : Nat) : dropN n l = l.drop n := by
  induction n generalizing l with
  | zero => rfl
  | succ n ih => cases l with
    | nil => rfl
    | cons x l => exact ih l
theorem takeN_some {n : Nat} {l r : List α} : takeN n l = some r ↔ n ≤ l.length ∧ r = l.take n := by
  induction n generalizing l r with
  | zero => show some [] = some r ↔ _; simp [eq_comm]
  | succ n ih => cases l with
    | nil => show (none : Option _) = some r ↔ _; simp
    | cons x l =>
      show (ob (takeN n l) fun r => some (x :: r)) = some r ↔ _
      rw [ob_some]
      constructor
      · rintro ⟨a, h, e⟩; obtain ⟨h1, rfl⟩ := ih.1 h; simp at e; exact ⟨by simpa using h1, e.symm⟩
      · rintro ⟨h1, rfl⟩; exact ⟨l.take n, ih.2 ⟨by simpa using h1, rfl⟩, rfl⟩
theorem len_eq (l : List α) : len l = l.length := by
  induction l with
  | nil => rfl
  | cons x l ih => show Nat.succ (len l) = _; rw [ih]; rfl
theorem appL_eq (l m : List α) : appL l m = l ++ m := by
  induction l with
  | nil => rfl
  | cons x l ih => show x :: appL l m = _; rw [ih]; rfl
theorem over_some {vs l r : List α} : over vs l = some r ↔ vs.length ≤ l.length ∧ r = vs ++ l.drop vs.length := by
  induction vs generalizing l r with
  | nil => show some l = some r ↔ _; simp; exact eq_comm
  | cons v vs ih => cases l with
    | nil => show (none : Option _) = some r ↔ _; simp
    | cons x l =>
      show (ob (over vs l) fun r => some (v :: r)) = some r ↔ _
      rw [ob_some]
      constructor
      · rintro ⟨a, h, e⟩; obtain ⟨h1, rfl⟩ := ih.1 h; simp at e; exact ⟨by simpa using h1, by simp [e.symm]⟩
      · rintro ⟨h1, rfl⟩; exact ⟨_, ih.2 ⟨by simpa using h1, rfl⟩, by simp⟩
theorem splice_some {n : Nat} {vs l r : List α} : splice n vs l = some r ↔ n + vs.length ≤ l.length ∧ r = l.take n ++ vs ++ l.drop (n + vs.length) := by
  induction n generalizing l r with
  | zero => show over vs l = some r ↔ _; rw [over_some]; simp
  | succ n ih => cases l with
    | nil => show (none : Option _) = some r ↔ _; simp
    | cons x l =>
      show (ob (splice n vs l) fun r => some (x :: r)) = some r ↔ _
      rw [ob_some]
      constructor
      · rintro ⟨a, h, e⟩; obtain ⟨h1, rfl⟩ := ih.1 h; simp at e; subst e; simp; constructor
        · omega
        · rw [show n + 1 + vs.length = (n + vs.length) + 1 from by omega]; rfl
      · rintro ⟨h1, rfl⟩
        refine ⟨_, ih.2 ⟨by simp at h1; omega, rfl⟩, ?_⟩
        simp; rw [show n + 1 + vs.length = (n + vs.length) + 1 from by omega]; rfl
theorem replA_length (n : Nat) (z : List α) : (replA n z).length = n * z.length := by
  induction n with
  | zero => show ([] : List α).length = _; simp
  | succ n ih => show (appL z (replA n z)).length = _; rw [appL_eq, List.length_append, ih, Nat.succ_mul]; omega
theorem replA_succ (n : Nat) (z : List α) : replA (n + 1) z = z ++ replA n z := by
  show appL z (replA n z) = _; rw [appL_eq]
end

/-- what the symbols are; and of which texts something is known -/
structure Env where
  val : Nat → Int
  good : Nat → (Nat → Option (List Row)) → Code → Prop
instance : CoeFun Env fun _ => Nat → Int := ⟨Env.val⟩

-- the relation
abbrev Phi := Nat → Option (Nat × Nat)
def Phi.le (φ φ' : Phi) : Prop := ∀ i p, φ i = some p → φ' i = some p
theorem Phi.le_refl (φ : Phi) : φ.le φ := fun _ _ h => h
theorem Phi.le_trans {a b c : Phi} (h : a.le b) (h' : b.le c) : a.le c := fun i p e => h' i p (h i p e)

section
variable (ρ : Env) (φ : Phi)
mutual
inductive VRel : AV → Value → Prop where
  | bool (b : Bool) : VRel (.bool b) (.bool b)
  | int (k : IntKind) (n : Int) : VRel (.int k n) (.int k n)
  | sym (k : IntKind) (i : Nat) (c : Int) : VRel (.sym k i c) (.int k (ρ i + c))
  | str (s : ByteArray) : VRel (.str (s.data.toList.map UInt8.toNat)) (.string s)
  | nilp : VRel .nilp (.pointer none)
  | ptr (b o blk sz : Nat) (h : φ b = some (blk, sz)) : VRel (.ptr b o) (.pointer (some ⟨blk, o, none⟩))
  | nils : VRel .nils (.slice none 0 0)
  | slice (b o n cap : Nat) (ex : Bool) (es blk sz off c : Nat) (h : φ b = some (blk, sz)) (h1 : cap ≤ c) (h2 : ex = true → c = cap) (h3 : n ≤ cap)
      (h4 : c = 0 ∨ off = o) (h5 : o + c * es ≤ sz) : VRel (.slice b o n cap ex es) (.slice (some ⟨blk, off, none⟩) n c)
  | nilm : VRel .nilm (.map none)
  | map (r blk sz : Nat) (h : φ r = some (blk, sz)) : VRel (.map r) (.map (some blk))
  | func (fn : Fn) (a c : List AV) (a' c' : Array Value) (h : VsRel a a'.toList) (h' : VsRel c c'.toList) : VRel (.func fn a c) (.func fn a' c')
  | yield (r blk sz : Nat) (h : φ r = some (blk, sz)) : VRel (.yield r) (.func (.yield blk) #[] #[])
  | nilf : VRel .nilf .nilFunc
  | iface (t : TypeId) (v : AV) (u : Value) (h : VRel v u) : VRel (.iface t v) (.iface t u)
  | nili : VRel .nili .nilIface
  | agg (l : List AV) (a : Array Value) (h : VsRel l a.toList) (hf : ∀ v ∈ l, v.flat = true) : VRel (.agg l) (.agg a)
  | tup (l : List AV) (a : Array Value) (h : VsRel l a.toList) : VRel (.tup l) (.tuple a)
inductive VsRel : List AV → List Value → Prop where
  | nil : VsRel [] []
  | cons (v : AV) (u : Value) (l : List AV) (m : List Value) (h : VRel v u) (h' : VsRel l m) : VsRel (v :: l) (u :: m)
end
end

theorem VRel.mono {ρ : Env} {φ φ' : Phi} (hl : φ.le φ') : ∀ {v : AV} {u : Value}, VRel ρ φ v u → VRel ρ φ' v u := by
  intro v u h
  refine VRel.rec (motive_1 := fun v u _ => VRel ρ φ' v u) (motive_2 := fun l m _ => VsRel ρ φ' l m)
    .bool .int .sym .str .nilp (fun b o blk sz h => .ptr b o blk sz (hl _ _ h)) .nils
    (fun b o n cap ex es blk sz off c h h1 h2 h3 h4 h5 => .slice b o n cap ex es blk sz off c (hl _ _ h) h1 h2 h3 h4 h5) .nilm
    (fun r blk sz h => .map r blk sz (hl _ _ h)) (fun fn a c a' c' _ _ ih ih' => .func fn a c a' c' ih ih') (fun r blk sz h => .yield r blk sz (hl _ _ h)) .nilf (fun t v u _ ih => .iface t v u ih) .nili
    (fun l a _ hf ih => .agg l a ih hf) (fun l a _ ih => .tup l a ih) .nil (fun v u l m _ _ ih ih' => .cons v u l m ih ih') h
theorem VsRel.mono {ρ : Env} {φ φ' : Phi} (hl : φ.le φ') {l : List AV} {m : List Value} (h : VsRel ρ φ l m) : VsRel ρ φ' l m := by
  induction m generalizing l with
  | nil => cases h; exact .nil
  | cons u m ih => cases h with | cons v _ l _ h h' => exact .cons _ _ _ _ (h.mono hl) (ih h')

section
variable {ρ : Env} {φ : Phi}
theorem VsRel.length {l : List AV} {m : List Value} (h : VsRel ρ φ l m) : l.length = m.length := by
  induction m generalizing l with
  | nil => cases h; rfl
  | cons u m ih => cases h with | cons v _ l _ h h' => simp [ih h']
theorem VsRel.get {l : List AV} {m : List Value} (h : VsRel ρ φ l m) {i : Nat} {v : AV} (hv : l[i]? = some v) : ∃ u, m[i]? = some u ∧ VRel ρ φ v u := by
  induction m generalizing l i with
  | nil => cases h; simp at hv
  | cons u m ih => cases h with | cons v' _ l _ h h' => cases i with
    | zero => simp at hv; subst hv; exact ⟨u, rfl, h⟩
    | succ i => exact ih h' (by simpa using hv)
theorem VsRel.take {l : List AV} {m : List Value} (h : VsRel ρ φ l m) (n : Nat) : VsRel ρ φ (l.take n) (m.take n) := by
  induction m generalizing l n with
  | nil => cases h; simp; exact .nil
  | cons u m ih => cases h with | cons v' _ l _ h h' => cases n with
    | zero => exact .nil
    | succ n => exact .cons _ _ _ _ h (ih h' n)
theorem VsRel.drop {l : List AV} {m : List Value} (h : VsRel ρ φ l m) (n : Nat) : VsRel ρ φ (l.drop n) (m.drop n) := by
  induction m generalizing l n with
  | nil => cases h; simp; exact .nil
  | cons u m ih => cases h with | cons v' _ l _ h h' => cases n with
    | zero => exact .cons _ _ _ _ h h'
    | succ n => exact ih h' n
theorem VsRel.append {l l' : List AV} {m m' : List Value} (h : VsRel ρ φ l m) (h' : VsRel ρ φ l' m') : VsRel ρ φ (l ++ l') (m ++ m') := by
  induction m generalizing l with
  | nil => cases h; exact h'
  | cons u m ih => cases h with | cons v' _ l _ h h'' => exact .cons _ _ _ _ h (ih h'')
theorem VsRel.single {v : AV} {u : Value} (h : VRel ρ φ v u) : VsRel ρ φ [v] [u] := .cons _ _ _ _ h .nil
theorem VRel.cells {v : AV} {u : Value} (h : VRel ρ φ v u) : VsRel ρ φ v.cells u.cells.toList := by
  cases h <;> try exact .single (by first | constructor <;> assumption | assumption)
  assumption

/-- the relation of an object with its block -/
inductive ORel (ρ : Env) (φ : Phi) (sz : Nat) : AObj → Obj → Prop where
  | cells (l : List AV) (c : Array Value) (e : TypeId) (lo hi : Nat) (hs : c.size = sz) (hl : l.length ≤ sz) (hv : VsRel ρ φ l (c.toList.take l.length))
      (hfl : ∀ v ∈ l, v.flat = true) (hf : ∀ k, k < sz → ¬ (lo ≤ k ∧ k < hi)) : ORel ρ φ sz (.cells l) (.cells c e (lo, hi))
  | map (es : Ents) (es' : Array MapEntry) (clock : Nat) (hk : VsRel ρ φ (es.map (·.1)) (es'.toList.map (·.key))) (hv : VsRel ρ φ (es.map (·.2.1)) (es'.toList.map (·.val)))
      (hb : es.map (·.2.2) = es'.toList.map (·.born)) : ORel ρ φ sz (.map es clock) (.map es' clock)
  | nilIter (since stepped : Nat) (seen : List Nat) (seen' : Array Nat) : ORel ρ φ sz (.mapIter none since seen stepped) (.mapIter none since seen' stepped)
  | mapIter (m blk bsz since stepped : Nat) (seen : List Nat) (seen' : Array Nat) (hm : φ m = some (blk, bsz)) (hs : seen'.toList = seen) :
      ORel ρ φ sz (.mapIter (some m) since seen stepped) (.mapIter (some blk) since seen' stepped)
  | strIter (s : ByteArray) (p : Nat) : ORel ρ φ sz (.strIter (s.data.toList.map UInt8.toNat) p) (.stringIter s p)
  | loop (D : Nat → Option (List Row)) (t : Nat → AV) (ps : Array Tmp) (asg body : Code) (st : LoopState) (p : Option Code) (N fn b : Nat) (tmps : Array Value)
      (ht : ∀ i, VRel ρ φ (t i) (tmps.getD i undef)) (hn : N ≤ tmps.size) (hp : ∀ i ∈ ps.toList, i < N) (hg : ρ.good N D asg) (hg' : ρ.good N D body) :
      ORel ρ φ sz (.loop D t ps.toList asg body st p) (.loop { state := st, pending := p, fn := fn, tmps := tmps, params := ps, assign := asg, body := body, defers := b })
  | dfr : ORel ρ φ sz .dfr (.deferred (some []))

theorem ORel.mono {φ' : Phi} (hl : φ.le φ') {sz : Nat} {o : AObj} {b : Obj} (h : ORel ρ φ sz o b) : ORel ρ φ' sz o b := by
  cases h with
  | cells l c e lo hi hs hl' hv hfl hf => exact .cells l c e lo hi hs hl' (hv.mono hl) hfl hf
  | map es es' clock hk hv hb => exact .map es es' clock (hk.mono hl) (hv.mono hl) hb
  | nilIter since stepped seen seen' => exact .nilIter ..
  | mapIter m blk bsz since stepped seen seen' hm hs => exact .mapIter _ _ bsz _ _ _ _ (hl _ _ hm) hs
  | strIter s p => exact .strIter ..
  | loop D t ps asg body st p N fn b tmps ht hn hp hg hg' => exact .loop _ _ _ _ _ _ _ _ _ _ _ (fun i => (ht i).mono hl) hn hp hg hg'
  | dfr => exact .dfr

/-- the relation of heaps: w0 is the world at the beginning, of which nothing is changed -/
structure HRel (ρ : Env) (w0 : World) (φ : Phi) (h : AHeap) (w : World) : Prop where
  size : w0.heap.size ≤ w.heap.size
  base : ∀ b, b < w0.heap.size → w.heap[b]? = w0.heap[b]?
  next : w.os = w0.os ∧ w.output = w0.output ∧ w.tape = w0.tape
  dom : ∀ i blk sz, φ i = some (blk, sz) → i < h.next ∧ w0.heap.size ≤ blk ∧ blk < w.heap.size
  inj : ∀ i j blk sz sz', h.get i ≠ none → h.get j ≠ none → φ i = some (blk, sz) → φ j = some (blk, sz') → i = j
  obj : ∀ i o blk sz, h.get i = some o → φ i = some (blk, sz) → ∃ b, w.heap[blk]? = some b ∧ ORel ρ φ sz o b

/-- temporaries -/
def TRel (ρ : Env) (φ : Phi) (t : Tm) (a : Array Value) : Prop := ∀ i, VRel ρ φ (t i) (a.getD i undef)
theorem TRel.mono {φ' : Phi} (hl : φ.le φ') {t : Tm} {a : Array Value} (h : TRel ρ φ t a) : TRel ρ φ' t a := fun i => (h i).mono hl

-- heaps
theorem lt_pow (n : Nat) : n + 1 < 2 ^ (n + 2) := by
  have : n + 2 < 2 ^ (n + 2) := Nat.lt_two_pow_self
  omega
theorem get_put (h : AHeap) (b : Nat) (o : AObj) (i : Nat) (hb : True) : (h.put b o).get i = if i = b then some o else h.get i :=
  Tr.get_set (some o) (b + 2) h.tr b i (lt_pow b)
theorem get_kill (h : AHeap) (b : Nat) (i : Nat) (hb : True) : (h.kill b).get i = if i = b then none else h.get i :=
  Tr.get_set none (b + 2) h.tr b i (lt_pow b)
noncomputable def AHeap.newH (h : AHeap) (o : AObj) : AHeap := ⟨h.tr.set (Nat.add h.next 2) (some o) h.next, Nat.succ h.next⟩
theorem new_some {β : Type} {h : AHeap} {o : AObj} {K : Nat → AHeap → Option β} {r : β} : h.new o K = some r ↔ True ∧ K h.next (h.newH o) = some r :=
  ⟨fun e => ⟨trivial, e⟩, fun e => e.2⟩
theorem get_newH (h : AHeap) (o : AObj) (i : Nat) (hb : True) : (h.newH o).get i = if i = h.next then some o else h.get i :=
  Tr.get_set (some o) (h.next + 2) h.tr h.next i (lt_pow h.next)

theorem HRel.id_le {w0 w : World} {h : AHeap} (H : HRel ρ w0 φ h w) {i blk sz : Nat} (hi : φ i = some (blk, sz)) : True := trivial

end
end Go.AI
