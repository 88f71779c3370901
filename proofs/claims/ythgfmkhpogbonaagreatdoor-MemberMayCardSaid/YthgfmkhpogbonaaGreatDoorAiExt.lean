/-
  Functions without a body: what the abstract machine answers for some of them, and that the model answers so.
-/
import Derived.Test.YthgfmkhpogbonaaGreatDoorAiDraw5
import Derived.Laws.Externs
set_option linter.unusedVariables false
set_option linter.unusedSimpArgs false
namespace Go.AI

inductive ExtK where
  | idxByteS
  | same

noncomputable def idxB (c : Nat) (l : List Nat) : Nat → Int :=
  List.rec (motive := fun _ => Nat → Int) (fun _ => .negSucc 0) (fun a _ ih i => sel (Nat.beq a c) (.ofNat i) (ih (Nat.succ i))) l

noncomputable def idxA (c : Nat) (l : List Nat) (h : AHeap) : Option (AV × AHeap) := guardB (Nat.ble c 255) (rOk (.int .i64 (idxB c l 0)) h)
noncomputable def extA (k : ExtK) (args : List AV) (h : AHeap) : Option (AV × AHeap) :=
  match k, args with
  | .idxByteS, [.str l, .int .u8 (.ofNat c)] => idxA c l h
  | .same, [v] => rOk v h
  | _, _ => none
noncomputable def orcE (ext : Nat → Option ExtK) (f : Nat) (args : List AV) (h : AHeap) : Option (AV × AHeap) := ob (ext f) fun k => extA k args h

def ExtK.sem : ExtK → Array Value → Sem Value
  | .idxByteS => Extern.BytealgIndexByte.indexByte
  | .same => Extern.AbiNoEscape.same

/-- what is asked of a table of such functions -/
def ExtOk (P : Program) (ext : Nat → Option ExtK) : Prop := ∀ f k, ext f = some k → ∃ fn, P.funcs[f]? = some fn ∧ (fn.name == "runtime.NumGoroutine") = false ∧ fn.body.isNone = true ∧ Extern.findNext fn = none ∧ Extern.find fn = some k.sem

theorem idxB_find (c : Nat) : ∀ (l : List Nat) (i : Nat), idxB c l i = match (List.range l.length).find? (fun j => l[j]! == c) with | some j => ((i + j : Nat) : Int) | none => -1
  | [], i => rfl
  | a :: l, i => by
    show sel (Nat.beq a c) (.ofNat i) (idxB c l (i + 1)) = _
    rw [List.length_cons, List.range_succ_eq_map, List.find?_cons, List.find?_map]
    have h0 : ((a :: l)[0]! == c) = Nat.beq a c := by rw [Bool.eq_iff_iff]; simp
    rw [h0]
    cases hb : Nat.beq a c with
    | true => rfl
    | false =>
      simp only [sel_false]
      rw [idxB_find c l (i + 1)]
      have : ((fun j => (a :: l)[j]! == c) ∘ Nat.succ) = fun j => l[j]! == c := by
        funext j; simp
      rw [this]
      cases (List.range l.length).find? (fun j => l[j]! == c) with
      | none => rfl
      | some j => simp only [Option.map_some, Nat.succ_eq_add_one]; congr 1; omega

theorem bytes_get (s : ByteArray) (j : Nat) (h : j < s.size) : (s.data.toList.map UInt8.toNat)[j]! = (s[j]!).toNat := by
  have h' : j < s.data.size := h
  simp [List.getElem!_eq_getElem?_getD, h', getElem!_pos, h]; rfl

theorem find_congr {α : Type} (l : List α) (p q : α → Bool) (h : ∀ x ∈ l, p x = q x) : l.find? p = l.find? q := by
  induction l with
  | nil => rfl
  | cons x l ih =>
    rw [List.find?_cons, List.find?_cons, h x (by simp), ih fun y hy => h y (by simp [hy])]

theorem idxB_first (s : ByteArray) (c : Nat) (hc : c ≤ 255) : idxB c (s.data.toList.map UInt8.toNat) 0 = firstIdx s ((c : Int).toNat.toUInt8) := by
  rw [idxB_find]
  have hl : (s.data.toList.map UInt8.toNat).length = s.size := by simp
  rw [hl]
  unfold firstIdx
  rw [find_congr (List.range s.size) _ (fun i => s[i]! == ((c : Int).toNat.toUInt8)) fun j hj => by
    rw [bytes_get s j (List.mem_range.1 hj)]
    rw [Bool.eq_iff_iff]
    simp only [beq_iff_eq]
    constructor
    · intro e; apply UInt8.toNat_inj.1; simp [e]; omega
    · intro e; rw [e]; simp; try omega]
  cases (List.range s.size).find? (fun i => s[i]! == ((c : Int).toNat.toUInt8)) with
  | none => rfl
  | some j => simp

section
variable {P : Program} {ρ : Env} {φ : Phi} {w0 w : World} {h h' : AHeap}
theorem extA_ok {k : ExtK} {args : List AV} {us : Array Value} {v : AV} (H : HRel ρ w0 φ h w) (hx : VsRel ρ φ args us.toList) (he : extA k args h = some (v, h')) :
    h' = h ∧ ∃ u, (k.sem us).run P w = .ok u w ∧ VRel ρ φ v u := by
  unfold extA at he
  split at he
  · rename_i l c
    simp only [idxA, guardB_some, rOk_some, Prod.mk.injEq] at he
    obtain ⟨hc, rfl, rfl⟩ := he
    have hc : c ≤ 255 := by simpa using hc
    obtain ⟨ul⟩ := us
    cases hx with
    | cons _ u1 _ us hu1 hus => cases hus with
      | cons _ u2 _ us hu2 hus =>
        cases hus
        cases hu2
        generalize hl : l = l' at hu1
        cases hu1 with
        | str s =>
          refine ⟨rfl, _, run_indexByte_string s (Int.ofNat c) w, ?_⟩
          rw [idxB_first s c hc]
          exact .int _ _
  · rename_i v'
    simp only [rOk_some, Prod.mk.injEq] at he
    obtain ⟨rfl, rfl⟩ := he
    obtain ⟨ul⟩ := us
    cases hx with
    | cons _ u1 _ us hu1 hus =>
      cases hus
      exact ⟨rfl, u1, rfl, hu1⟩
  · cases he

theorem orcE_ok {ext : Nat → Option ExtK} {fns : Nat → Option FnA} (hE : ExtOk P ext) : OrcOk P ρ w0 fns (orcE ext) := by
  intro f args h v h' _ he φ w uargs H hx
  simp only [orcE, ob_some] at he
  obtain ⟨k, h1, he⟩ := he
  obtain ⟨fn, k1, k2, k3, k4, k5⟩ := hE f k h1
  obtain ⟨rfl, u, h2, h3⟩ := extA_ok (P := P) H hx he
  refine .inl ⟨φ, w, .value u, ?_, .inl ⟨u, rfl, h3⟩, .same rfl, H⟩
  rw [run_callFunc_extern k1 k2 k3 k4 k5, h2]; rfl
end
end Go.AI
