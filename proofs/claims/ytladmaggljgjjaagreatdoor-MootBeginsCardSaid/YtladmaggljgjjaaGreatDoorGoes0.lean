/-
  A program none of whose functions starts a goroutine: the card's cell 'goes'.
-/
import GoSem.ClaimGoes
namespace Go.AI
theorem goes_none {P : Program} {c : OpenClaim} (hs : c.start = .entering) (h : (P.funcs.any Func.goes) = false) : false = c.goesBy P := by
  have hg : ∀ g : Nat, ((P.funcs[g]?).any Func.goes) = false := by
    intro g
    cases hx : P.funcs[g]? with
    | none => rfl
    | some fn =>
      have hn : ¬ (P.funcs.any Func.goes) = true := by rw [h]; simp
      rw [Array.any_eq_true] at hn
      obtain ⟨hl, he⟩ := Array.getElem?_eq_some_iff.1 hx
      cases hf : fn.goes with
      | false => simp [hf]
      | true => exact absurd ⟨g, hl, by rw [he]; exact hf⟩ hn
  have h2 : ∀ f, P.goes f = false := by
    intro f
    unfold Program.goes
    rw [h, Bool.and_false, Bool.or_false]
    rw [List.any_eq_false]
    intro g _
    rw [hg g]; simp
  unfold OpenClaim.goesBy Program.goesAt Program.goesFrom
  rw [hs]
  cases hx : P.funcNamed c.func with
  | none => rfl
  | some f => simp [h2]
end Go.AI
