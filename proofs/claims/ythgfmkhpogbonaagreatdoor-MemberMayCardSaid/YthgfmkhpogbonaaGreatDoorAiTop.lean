/-
  From a run of the abstract machine to a contract of the model; oracles out of contracts.
-/
import Derived.Test.YthgfmkhpogbonaaGreatDoorAiExt
import Derived.Below
set_option autoImplicit false
set_option linter.unusedVariables false
namespace Go.AI
open Go.RowKit

noncomputable def h0 : AHeap := ⟨.nil, 0⟩
def φ0 : Phi := fun _ => none
def isTrue (r : Option (AV × AHeap)) : Bool := match r with
  | some (.bool true, _) => true
  | _ => false
theorem isTrue_some {r : Option (AV × AHeap)} (h : isTrue r = true) : ∃ h', r = some (.bool true, h') := by
  unfold isTrue at h
  split at h
  · exact ⟨_, rfl⟩
  · cases h

/-- what a law's call does: it returns true; all that there was is as it was -/
def TrueQ (w : World) (e : Ending) (w' : World) : Prop := e = .returned (.bool true) ∧ Below w.heap.size w w'

section
variable {P : Program} {ρ : Env} {φ : Phi} {w0 w : World} {h h' : AHeap} {ti : Nat → Option ATy} {bd : Bnd}

theorem HRel.start (ρ : Env) (w : World) : HRel ρ w φ0 h0 w :=
  ⟨Nat.le_refl _, fun _ _ => rfl, ⟨rfl, rfl, rfl⟩, (fun i blk sz e => by cases e), (fun i j _ _ _ _ _ e => by cases e), (fun i o blk sz _ e => by cases e)⟩
theorem HRel.isBelow (H : HRel ρ w0 φ h w) : Below w0.heap.size w0 w := ⟨H.next.1, H.next.2.2, H.next.2.1, H.size, H.base⟩
theorem HRel.below (H : HRel ρ w0 φ h w) {w' : World} (b : Below w.heap.size w w') : HRel ρ w0 φ h w' := by
  refine ⟨Nat.le_trans H.size b.size, fun k hk => ?_, ⟨b.os.trans H.next.1, b.output.trans H.next.2.1, b.tape.trans H.next.2.2⟩, fun i blk sz e => ?_, H.inj, fun i o blk sz hg e => ?_⟩
  · have := H.size
    rw [b.block k (by omega)]; exact H.base k hk
  · have := H.dom i blk sz e; have := b.size; omega
  · obtain ⟨x, h1, h2⟩ := H.obj i o blk sz hg e
    have := H.dom i blk sz e
    exact ⟨x, by rw [b.block blk (by omega)]; exact h1, h2⟩

/-- a run from an empty heap -/
theorem run_calls {C : CallF} (hC : ∀ w, CallOk P ρ w C) {f : FuncId} {F : Func} {c : Code} (hf : P.funcs[f]? = some F) (hn : (F.name == "runtime.NumGoroutine") = false) (hb : F.body = some c)
    {args : List AV} {uargs : Array Value} (hx : VsRel ρ φ0 args uargs.toList) (he : isTrue (C (.func f) args h0) = true) (w : World) : Calls P f uargs w (TrueQ w) := by
  obtain ⟨h', he⟩ := isTrue_some he
  rcases hC w _ _ _ _ _ he with ⟨f', e, hok⟩ | ⟨r, e, _⟩
  · cases e
    refine ((hok φ0 w uargs (.start ρ w) hx).calls hf hn hb).mono fun e w' q => ?_
    cases e with
    | returned u =>
      obtain ⟨φ', g, hv, H⟩ := q
      cases hv
      exact ⟨rfl, H.isBelow⟩
    | panicked c => exact q.elim
    | outgrown => exact q.elim
  · cases e

/-- a law's anchor as an oracle -/
noncomputable def orcTrue (f0 : Nat) (o : Nat → List AV → AHeap → Option (AV × AHeap)) (f : Nat) (args : List AV) (h : AHeap) : Option (AV × AHeap) :=
  sel (Nat.beq f f0) (nil0 args (rOk (.bool true) h)) (o f args h)
theorem orcTrue_ok {fns : Nat → Option FnA} {f0 : FuncId} {o : Nat → List AV → AHeap → Option (AV × AHeap)} {F : Func} {c : Code} (hf : P.funcs[f0]? = some F) (hn : (F.name == "runtime.NumGoroutine") = false) (hb : F.body = some c)
    (ha : ∀ w, Calls P f0 #[] w (TrueQ w)) (ho : OrcOk P ρ w0 fns o) : OrcOk P ρ w0 fns (orcTrue f0 o) := by
  intro f args h v h' hn' he φ w uargs H hx
  cases hc : Nat.beq f f0 with
  | false => simp only [orcTrue, hc, sel_false] at he; exact ho f args h v h' hn' he φ w uargs H hx
  | true =>
    simp only [orcTrue, hc, sel_true, nil0_some, rOk_some, Prod.mk.injEq] at he
    obtain ⟨rfl, rfl, rfl⟩ := he
    have : f = f0 := by simpa using hc
    subst this
    obtain ⟨l⟩ := uargs
    cases hx
    refine .inr (.inl ⟨f, #[], w, run_callFunc hf hn hb w, (ha w).mono fun e w' q => ?_⟩)
    obtain ⟨rfl, b⟩ := q
    exact ⟨φ, .same rfl, .bool true, H.below b⟩

/-- an oracle that answers by calls that are the model's -/
theorem orc_of_call {fns : Nat → Option FnA} {C : CallF} (hC : CallOk P ρ w0 C) {o o' : Nat → List AV → AHeap → Option (AV × AHeap)} (ho : OrcOk P ρ w0 fns o)
    (h : ∀ f args h r, o' f args h = some r → C (.func f) args h = some r ∨ o f args h = some r) : OrcOk P ρ w0 fns o' := by
  intro f args hh v h' hn he φ w uargs H hx
  rcases h _ _ _ _ he with he | he
  · rcases hC _ _ _ _ _ he with ⟨f', e, hok⟩ | ⟨r, e, _⟩
    · cases e; exact hok φ w uargs H hx
    · cases e
  · exact ho f args hh v h' hn he φ w uargs H hx
end
end Go.AI
