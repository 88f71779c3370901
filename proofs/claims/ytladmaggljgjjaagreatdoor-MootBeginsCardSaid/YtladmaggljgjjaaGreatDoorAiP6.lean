/-
  Runs in parts: what a call does from a heap that is written out to another one that is, as an oracle.
-/
import Derived.Test.YtladmaggljgjjaaGreatDoorAiP5
import Derived.Test.YtladmaggljgjjaaGreatDoorAiP4
set_option linter.unusedVariables false
set_option linter.unusedSimpArgs false
namespace Go.AI

noncomputable def entsEq : List (AV × AV × Nat) → List (AV × AV × Nat) → Bool
  | [], [] => true
  | (k, v, n) :: l, (k', v', n') :: m => sel (sameV k k') (sel (sameV v v') (sel (Nat.beq n n') (entsEq l m) false) false) false
  | _, _ => false
noncomputable def objEq (x y : AObj) : Bool := match x, y with
  | .cells l, .cells m => avsEq2 l m
  | .map es c, .map es' c' => sel (entsEq es es') (Nat.beq c c') false
  | _, _ => false
noncomputable def argsEq : List AV → List AV → Bool
  | [], [] => true
  | a :: l, b :: m => sel (sameV a b) (argsEq l m) false
  | _, _ => false
noncomputable def allTB (p : Nat → AObj → Bool) (T : Tr AObj) : Nat → Nat → Bool :=
  Tr.rec (motive := fun _ => Nat → Nat → Bool) (fun _ _ => true)
    (fun v _ _ il ir s o => sel (Option.rec (motive := fun _ => Bool) true (p o) v) (sel (il (Nat.mul 2 s) (Nat.add o s)) (ir (Nat.mul 2 s) (Nat.add o (Nat.mul 2 s))) false) false) T
/-- the one heap says no more than the other -/
noncomputable def subB (hp h : AHeap) : Bool :=
  sel (Nat.beq hp.next h.next) (allTB (fun n a => Option.rec (motive := fun _ => Bool) false (fun b => objEq b a) (h.get n)) hp.tr 1 0) false
noncomputable def chkE (r : Option (AV × AHeap)) (v : AV) (hp : AHeap) : Bool := Option.rec (motive := fun _ => Bool) false (fun x => sel (sameV x.1 v) (subB hp x.2) false) r

structure HEnt where
  f : Nat
  args : List AV
  pre : AHeap
  v : AV
  post : AHeap
noncomputable def matchE (e : HEnt) (f : Nat) (args : List AV) (h : AHeap) : Bool := sel (Nat.beq e.f f) (sel (argsEq e.args args) (subB e.pre h) false) false
noncomputable def orcH (o : Nat → List AV → AHeap → Option (AV × AHeap)) (es : List HEnt) (f : Nat) (args : List AV) (h : AHeap) : Option (AV × AHeap) :=
  List.rec (motive := fun _ => Option (AV × AHeap)) (o f args h) (fun e _ ih => sel (matchE e f args h) (rOk e.v e.post) ih) es

theorem sel_and {a b : Bool} (h : sel a b false = true) : a = true ∧ b = true := by cases a <;> simp_all
theorem sameV_eq' {a b : AV} (h : sameV a b = true) : a = b := by
  unfold sameV at h
  split at h
  · rw [avsEq2_eq h]
  · rw [avsEq2_eq h]
  · exact avEq2_eq h
theorem entsEq_eq : ∀ {a b : List (AV × AV × Nat)}, entsEq a b = true → a = b
  | [], [], _ => rfl
  | [], _ :: _, h => by simp [entsEq] at h
  | (_, _, _) :: _, [], h => by simp [entsEq] at h
  | (k, v, n) :: l, (k', v', n') :: m, h => by
    simp only [entsEq] at h
    obtain ⟨h1, h⟩ := sel_and h
    obtain ⟨h2, h⟩ := sel_and h
    obtain ⟨h3, h⟩ := sel_and h
    rw [sameV_eq' h1, sameV_eq' h2, Nat.beq_eq.mp h3, entsEq_eq h]
theorem objEq_eq {x y : AObj} (h : objEq x y = true) : x = y := by
  unfold objEq at h
  split at h
  · rw [avsEq2_eq h]
  · obtain ⟨h1, h2⟩ := sel_and h
    rw [entsEq_eq h1, Nat.beq_eq.mp h2]
  · cases h
theorem argsEq_eq : ∀ {a b : List AV}, argsEq a b = true → a = b
  | [], [], _ => rfl
  | [], _ :: _, h => by simp [argsEq] at h
  | _ :: _, [], h => by simp [argsEq] at h
  | a :: l, b :: m, h => by
    simp only [argsEq] at h
    obtain ⟨h1, h⟩ := sel_and h
    rw [sameV_eq' h1, argsEq_eq h]
theorem allTB_ok {p : Nat → AObj → Bool} : ∀ (T : Tr AObj) (s o : Nat), allTB p T s o = true → AllT (fun n a => p n a = true) T s o
  | .nil, _, _, _ => trivial
  | .node v l r, s, o, h => by
    have h : sel (Option.rec (motive := fun _ => Bool) true (p o) v) (sel (allTB p l (2 * s) (o + s)) (allTB p r (2 * s) (o + 2 * s)) false) false = true := h
    obtain ⟨h1, h⟩ := sel_and h
    obtain ⟨h2, h3⟩ := sel_and h
    exact ⟨fun a e => by subst e; exact h1, allTB_ok l _ _ h2, allTB_ok r _ _ h3⟩

def SubH (hp h : AHeap) : Prop := hp.next = h.next ∧ ∀ i o, hp.get i = some o → h.get i = some o
theorem subB_ok {hp h : AHeap} (hb : subB hp h = true) : SubH hp h := by
  obtain ⟨h1, h2⟩ := sel_and hb
  refine ⟨Nat.beq_eq.mp h1, fun i o hg => ?_⟩
  have := AllT.get _ hp.tr 1 0 (allTB_ok hp.tr 1 0 h2) i o hg
  simp only [Nat.mul_one, Nat.zero_add] at this
  cases hx : h.get i with
  | none => rw [hx] at this; cases this
  | some b => rw [hx] at this; rw [objEq_eq this]

section
variable {P : Program} {ρ : Env} {φ : Phi} {w0 w : World} {h h' : AHeap}
theorem HRel.sub (H : HRel ρ w0 φ h w) {hp : AHeap} (s : SubH hp h) : HRel ρ w0 φ hp w :=
  ⟨H.size, H.base, H.next, fun i blk sz e => by rw [s.1]; exact H.dom i blk sz e,
    fun i j blk sz sz' hi hj => by
      obtain ⟨o, ho⟩ := Option.ne_none_iff_exists'.1 hi
      obtain ⟨o', ho'⟩ := Option.ne_none_iff_exists'.1 hj
      exact H.inj i j blk sz sz' (by rw [s.2 _ _ ho]; simp) (by rw [s.2 _ _ ho']; simp),
    fun i o blk sz hg e => H.obj i o blk sz (s.2 _ _ hg) e⟩
theorem NextOk.weaken {s : Sem Next} {v : AV} {pre post : AHeap} (H : NextOk P ρ w0 s φ w pre v h') (h1 : pre.next = h.next) (h2 : SubH post h') : NextOk P ρ w0 s φ w h v post := by
  have gr : ∀ {φ'}, Grow pre h' φ φ' → Grow h post φ φ' := fun g => ⟨g.le, fun i hi => g.old i (by omega), by have := g.next; have := h2.1; omega⟩
  have rt : ∀ e w', RetOk ρ w0 φ pre v h' e w' → RetOk ρ w0 φ h v post e w' := by
    intro e w' q
    cases e with
    | returned u => obtain ⟨φ', g, r1, r2⟩ := q; exact ⟨φ', gr g, r1, r2.sub h2⟩
    | panicked c => exact q.elim
    | outgrown => exact q.elim
  rcases H with ⟨φ', w', r, k1, k2, k3, k4⟩ | ⟨f, args, w', k1, k2⟩ | ⟨l, fn, tmps, assign, body, w', k1, k2⟩
  · exact .inl ⟨φ', w', r, k1, k2, gr k3, k4.sub h2⟩
  · exact .inr (.inl ⟨f, args, w', k1, k2.mono rt⟩)
  · exact .inr (.inr ⟨l, fn, tmps, assign, body, w', k1, RoundIn.mono k2 rt⟩)

theorem orcH_ok {fns : Nat → Option FnA} {C : CallF} (hC : CallOk P ρ w0 C) {o : Nat → List AV → AHeap → Option (AV × AHeap)} (ho : OrcOk P ρ w0 fns o) : ∀ (es : List HEnt),
    (∀ e ∈ es, chkE (C (.func e.f) e.args e.pre) e.v e.post = true) → OrcOk P ρ w0 fns (orcH o es) := by
  intro es
  induction es with
  | nil => intro _; exact ho
  | cons e es ih =>
    intro hes f args h v h' hn he φ w uargs H hx
    have he : sel (matchE e f args h) (rOk e.v e.post) (orcH o es f args h) = some (v, h') := he
    cases hm : matchE e f args h with
    | false =>
      rw [hm, sel_false] at he
      exact ih (fun e he => hes e (by simp [he])) f args h v h' hn he φ w uargs H hx
    | true =>
      rw [hm, sel_true, rOk_some] at he
      obtain ⟨rfl, rfl⟩ := Prod.mk.inj he
      obtain ⟨m1, hm⟩ := sel_and hm
      obtain ⟨m2, m3⟩ := sel_and hm
      have ef := Nat.beq_eq.mp m1
      have ea := argsEq_eq m2
      subst ef ea
      have s := subB_ok m3
      have hk := hes e (by simp)
      unfold chkE at hk
      cases hr : C (.func e.f) e.args e.pre with
      | none => rw [hr] at hk; cases hk
      | some x =>
        obtain ⟨v', h''⟩ := x
        rw [hr] at hk
        obtain ⟨k1, k2⟩ := sel_and hk
        have k1 : v' = e.v := sameV_eq' k1
        subst k1
        rcases hC _ _ _ _ _ hr with ⟨f', e1, hok⟩ | ⟨r, e1, _⟩
        · cases e1
          exact (hok φ w uargs (H.sub s) hx).weaken s.1 (subB_ok k2)
        · cases e1
end
end Go.AI
