/-
  Tables: what is asked of all entries.
-/
import Derived.Test.YthgfmkhpogbonaaGreatDoorAiDraw5
set_option linter.unusedVariables false
namespace Go.AI
/-- a name that tells a function apart from the one the model treats by itself -/
noncomputable def bodyOk (ti : Nat → Option ATy) (F : FnA) : Bool := match F.F.body with | some c => codeOk F.F.ntmps F.D.get (drawOk ti) c | none => true
theorem fnOk_of {P : Program} {ti : Nat → Option ATy} {f : Nat} {F : FnA} (h : P.funcs[f]? = some F.F) (hn : (F.F.name == "runtime.NumGoroutine") = false) (hb : bodyOk ti F = true) : fnOk P (drawOk ti) f F :=
  ⟨h, hn, fun c hc => by unfold bodyOk at hb; rw [hc] at hb; exact hb⟩

def AllT {α : Type} (p : Nat → α → Prop) : Tr α → Nat → Nat → Prop
  | .nil, _, _ => True
  | .node v l r, s, o => (∀ a, v = some a → p o a) ∧ AllT p l (2 * s) (o + s) ∧ AllT p r (2 * s) (o + 2 * s)
theorem AllT.here {α : Type} {p : Nat → α → Prop} {o : Nat} {x : α} (h : p o x) : ∀ a, some x = some a → p o a := fun a e => by cases e; exact h
theorem AllT.none {α : Type} {p : Nat → α → Prop} {o : Nat} : ∀ a, (Option.none : Option α) = some a → p o a := fun a e => by cases e
theorem AllT.get {α : Type} (p : Nat → α → Prop) (T : Tr α) : ∀ (s o : Nat), AllT p T s o → ∀ n a, T.get n = some a → p (o + n * s) a := by
  induction T with
  | nil => intro s o _ n a h; cases h
  | node v l r ihl ihr =>
    intro s o h n a hg
    obtain ⟨h1', h2', h3'⟩ := h
    rw [Tr.get_node] at hg
    by_cases h0 : n = 0
    · subst h0; simp at hg; simpa using h1' a hg
    · rw [if_neg h0] at hg
      by_cases h1 : n % 2 = 1
      · rw [if_pos h1] at hg
        have := ihl _ _ h2' _ _ hg
        rw [show o + s + n / 2 * (2 * s) = o + n * s from by
          have e : n = 2 * (n / 2) + 1 := by omega
          conv => rhs; rw [e]
          rw [Nat.add_mul, Nat.one_mul, Nat.mul_comm 2 (n / 2), Nat.mul_assoc]; omega] at this
        exact this
      · rw [if_neg h1] at hg
        have := ihr _ _ h3' _ _ hg
        rw [show o + 2 * s + (n / 2 - 1) * (2 * s) = o + n * s from by
          obtain ⟨m, e⟩ : ∃ m, n = 2 * (m + 1) := ⟨n / 2 - 1, by omega⟩
          subst e
          rw [show 2 * (m + 1) / 2 - 1 = m from by omega, show 2 * (m + 1) * s = (m + 1) * (2 * s) from by rw [Nat.mul_comm 2 (m + 1), Nat.mul_assoc], Nat.add_mul, Nat.one_mul]; omega] at this
        exact this
theorem fns_all {P : Program} {ti : Nat → Option ATy} (T : Tr FnA) (h : AllT (fnOk P (drawOk ti)) T 1 0) : ∀ f F, T.get f = some F → fnOk P (drawOk ti) f F :=
  fun f F e => by have := AllT.get _ T 1 0 h f F e; simpa using this
end Go.AI
