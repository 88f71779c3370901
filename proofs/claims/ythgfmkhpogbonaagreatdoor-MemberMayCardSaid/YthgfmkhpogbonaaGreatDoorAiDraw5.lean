/-
  Regions that ask the tape: the theorem; calls.
-/
import Derived.Test.YthgfmkhpogbonaaGreatDoorAiDraw4
set_option linter.unusedVariables false
set_option linter.unusedSimpArgs false
namespace Go.AI
section
variable {P : Program} {ρ : Env} {φ : Phi} {w0 w : World} {ti : Nat → Option ATy} {bd : Bnd} {N : Nat} {ds : List Deferred}

theorem countP_less {α : Type} {p q : α → Bool} : ∀ {l : List α}, (∀ x ∈ l, p x = true → q x = true) → (∃ x ∈ l, q x = true ∧ p x = false) → l.countP p < l.countP q
  | [], _, ⟨x, hx, _⟩ => by cases hx
  | y :: l, hm, ⟨x, hx, h1, h2⟩ => by
    have hmono := List.countP_mono_left (l := l) fun x hx => hm x (by simp [hx])
    rcases List.mem_cons.1 hx with rfl | hx
    · rw [List.countP_cons_of_neg (by simp [h2]), List.countP_cons_of_pos h1]; omega
    · have ih := countP_less (l := l) (fun x hx => hm x (by simp [hx])) ⟨x, hx, h1, h2⟩
      have hy := hm y (by simp)
      simp only [List.countP_cons]
      cases hpy : p y with
      | true => rw [hy hpy]; simp; exact ih
      | false => simp; omega

theorem hc_hits {rs : List Row} {s : Nat} : ∀ {n : Nat}, n ≤ rs.length → s < hc rs n → ∃ j r, rs[j]? = some r ∧ r.isH = true ∧ hc rs j = s
  | 0, _, h => by simp [hc] at h
  | n + 1, hn, h => by
    by_cases c : s < hc rs n
    · exact hc_hits (by omega) c
    · have hr : rs[n]? = some rs[n] := List.getElem?_eq_getElem (by omega)
      refine ⟨n, rs[n], hr, ?_, ?_⟩
      · cases hh : rs[n].isH with
        | true => rfl
        | false =>
          have : hc rs (n + 1) = hc rs n := by
            unfold hc; rw [List.take_add_one, hr, List.countP_append]; simp [hh]
          omega
      · have : hc rs (n + 1) ≤ hc rs n + 1 := by
          unfold hc; rw [List.take_add_one, hr, List.countP_append]
          have : List.countP Row.isH (some rs[n]).toList ≤ 1 := by simp [List.countP_cons]; split <;> omega
          omega
        omega

section
variable {ops : Array Oper} {rs : List Row} {h h1 : AHeap} {tf : Tm} {hs : List AHeap}

theorem all_listed (D : DrawF ti N ops.toList rs) {listed : Array Bool} (hsz : listed.size = ops.size) (hr : Region.ready .any ops listed = []) : ∀ j, listed.getD j true = true := by
  intro j
  induction j using Nat.strongRecOn with
  | _ j ih =>
    cases hl : listed.getD j true with
    | true => rfl
    | false =>
      exfalso
      have hjs : j < ops.size := by
        rcases Nat.lt_or_ge j listed.size with h | h
        · omega
        · simp [h] at hl
      have hoj : ops[j]? = some ops[j] := Array.getElem?_eq_getElem hjs
      have hoj' : ops.toList[j]? = some ops[j] := by simp
      have : j ∈ Region.ready .any ops listed := by
        rw [mem_ready]
        refine ⟨hl, _, hoj, fun e he hbi => ?_⟩
        have hlt := D.edge j _ e.on hoj' (mem_edges.2 ⟨e, he, hbi, rfl⟩)
        have := ih e.on hlt
        have hes : e.on < listed.size := by omega
        simp [hes] at this ⊢; exact this
      rw [hr] at this; cases this

theorem wpAny_ok {rd : Option Nat} {n : Nat} (T : TiOk P ti) (hb : BdOk ρ bd) {C : CallF} (hC : CallOk P ρ w0 C) {t t1 : Tm} {hf : AHeap} (R : RunF ti bd C N ops rs t h t1 h1 tf hf hs) : ∀ (fuel : Nat) (listed : Array Bool) (a : Act) (w : World),
    (∃ s hh φ', Inv ρ w0 N ds ops rs φ t h h1 tf hs listed a w s hh φ') → (List.range ops.size).countP (fun i => !listed.getD i true) ≤ fuel → wpAnyIn (fe rd) n P .any ops (OutQ ρ w0 N ds h φ ⟨.normal, tf, hf, []⟩) fuel listed a w := by
  have fin : ∀ (listed : Array Bool) (a : Act) (w : World), (∃ s hh φ', Inv ρ w0 N ds ops rs φ t h h1 tf hs listed a w s hh φ') → Region.ready .any ops listed = [] → OutQ ρ w0 N ds h φ ⟨.normal, tf, hf, []⟩ .normal a w := by
    rintro listed a w ⟨s, hh, φ', I⟩ hr
    have hall := all_listed R.D I.size hr
    have hs : s = hc rs rs.length := by
      have := I.le
      rcases Nat.lt_or_ge s (hc rs rs.length) with hlt | hge
      · obtain ⟨j, r, hj, hH, hcs⟩ := hc_hits (Nat.le_refl _) hlt
        have := (I.heavy j r hj hH).1 (hall j)
        omega
      · omega
    subst hs
    have := I.heap
    rw [R.Pa.last] at this
    cases this
    refine ⟨trivial, φ', [], I.grow, .nil, I.H, fun d => ?_, I.n, I.d⟩
    by_cases hx : ∃ (i : Nat) (oi : Oper), ops.toList[i]? = some oi ∧ oi.dst = some d
    · obtain ⟨i, oi, hi, hd⟩ := hx
      exact I.vals i oi d hi (hall i) hd
    · have e : tf d = t d := by
        rw [R.Pa.keep d fun k o r hk _ _ e => hx ⟨k, o, hk, e⟩, R.F.keep d fun k o r hk _ _ e => hx ⟨k, o, hk, e⟩]
      show VRel ρ φ' (tf d) _
      rw [e]
      exact I.rest d fun i oi hi hd => absurd ⟨i, oi, hi, hd⟩ hx
  intro fuel
  induction fuel with
  | zero =>
    intro listed a w hI hcnt
    have hr : Region.ready .any ops listed = [] := by
      cases hx : Region.ready .any ops listed with
      | nil => rfl
      | cons j l =>
        exfalso
        have hm : j ∈ Region.ready .any ops listed := by rw [hx]; simp
        have hm2 := mem_ready.1 hm
        have hjs : j < ops.size := by obtain ⟨_, o, ho, _⟩ := hm2; exact (Array.getElem?_eq_some_iff.1 ho).1
        have : 0 < (List.range ops.size).countP (fun i => !listed.getD i true) := List.countP_pos_iff.2 ⟨j, List.mem_range.2 hjs, by simp only [hm2.1]; rfl⟩
        omega
    exact ⟨hr, fin listed a w hI hr⟩
  | succ fuel ih =>
    intro listed a w hI hcnt
    refine ⟨fin listed a w hI, fun j hj => ?_⟩
    obtain ⟨s, hh, φ', I⟩ := hI
    refine wpOpIn_mono (fun a' w' hI' => ih _ a' w' hI' ?_) (I.op T hb hC R hj)
    have hm2 := mem_ready.1 hj
    have hjs : j < ops.size := by obtain ⟨_, o, ho, _⟩ := hm2; exact (Array.getElem?_eq_some_iff.1 ho).1
    have hjl : j < listed.size := by rw [I.size]; exact hjs
    have := countP_less (l := List.range ops.size) (p := fun i => !(listed.setIfInBounds j true).getD i true) (q := fun i => !listed.getD i true) (fun x hx hp => by
      simp only [Bool.not_eq_true'] at hp ⊢
      exact ((getD_set_false hjl).1 hp).2) ⟨j, List.mem_range.2 hjs, by simp only [hm2.1]; rfl, by
        simp only [Bool.not_eq_false']; exact (getD_set hjl).2 (.inl rfl)⟩
    omega
end

theorem draw_ok (T : TiOk P ti) (hb : BdOk ρ bd) (hm : P.follows .mixedOrders = true) {C : CallF} (hC : CallOk P ρ w0 C) {id : Nat} {ops : Array Oper} {rs : List Row} (hd : drawOk ti N ops rs = true) : DrawOk P ρ w0 N ti bd C id ops rs := by
  intro rd n ds t h t' h' φ a w he S
  have D := drawOk_facts hd
  have ha : Apart ops.toList := D.dst
  simp only [drawA, ob2_some, ob_some] at he
  obtain ⟨t1, h1, hF, x, hP, he⟩ := he
  obtain ⟨tf, hf, hs⟩ := x
  cases hpo : postA ti bd C ops tf hs ops.toList rs with
  | false => simp only [hpo, sel_false] at he; cases he
  | true =>
    simp only [hpo, sel_true, Option.some.injEq, Prod.mk.injEq] at he
    obtain ⟨rfl, rfl⟩ := he
    have R : RunF ti bd C N ops rs t h t1 h1 tf hf hs := ⟨D, freshA_facts ha (fun k o r hk hr hf => by
      have hc0 : r.c = .fresh := by cases hx : r.c <;> simp [Row.isF, hx] at hf; rfl
      have := D.cls k o r hk hr
      simp only [clsOk, hc0, Bool.and_eq_true] at this
      exact this.1.1) hF, passA_facts ha D.len hP, postA_facts hpo⟩
    refine wpIn_region_any hm (wpAny_ok T hb hC R ops.size _ a _ ⟨0, h1, φ, ?_⟩ ?_)
    · have hfalse : ∀ j o, ops.toList[j]? = some o → (Array.replicate ops.size false).getD j true = false := by
        intro j o hj
        have : j < ops.size := by simpa using (List.getElem?_eq_some_iff.1 hj).1
        simp [this]
      refine ⟨by simp, R.Pa.head, Nat.zero_le _, fun j r hj _ => ?_, fun j o hj hl => ?_, ⟨φ.le_refl, fun _ _ => rfl, R.F.next⟩, Nat.le_refl _, R.F.rel _ _ _ _ (S.H.heap_eq rfl), fun j o r d b hj hr hf hl hdst ht => ?_, fun j o d hj hl => ?_, fun d hdst => ?_, S.n, S.d⟩
      · have hjl : j < ops.toList.length := by rw [D.len]; exact (List.getElem?_eq_some_iff.1 hj).1
        rw [hfalse j _ (List.getElem?_eq_getElem hjl)]; simp
      · rw [hfalse j o hj] at hl; cases hl
      · obtain ⟨b2, x1, x2, x3⟩ := R.F.named j o r d hj hr hf hdst
        have htf : tf d = t1 d := by
          refine R.Pa.keep d fun k o2 r2 hk hr2 hf2 e => ?_
          have := D.dst k j o2 o d hk hj e hdst
          subst this
          rw [hr] at hr2; cases hr2
          rw [hf] at hf2; cases hf2
        rw [htf] at ht
        have := x1.inj ht
        subst this
        cases hp : φ b2 with
        | none => rfl
        | some p => have := (S.H.dom b2 p.1 p.2 hp).1; omega
      · rw [hfalse j o hj] at hl; cases hl
      · exact S.t d
    · have := List.countP_le_length (p := fun i => !(Array.replicate ops.size false).getD i true) (l := List.range ops.size)
      simpa using this

/-- **calls of the abstract machine are the model's** -/
theorem call_ok (T : TiOk P ti) (hb : BdOk ρ bd) (hm : P.follows .mixedOrders = true) {fns : Nat → Option FnA} {orc : Nat → List AV → AHeap → Option (AV × AHeap)}
    (hfns : ∀ f F, fns f = some F → fnOk P (drawOk ti) f F) (ho : OrcOk P ρ w0 fns orc) (hG : ∀ N D c, codeOk N D (drawOk ti) c = true ↔ ρ.good N D c) (n : Nat) : CallOk P ρ w0 (callA ti bd fns orc n) :=
  callA_ok T hb hfns ho (fun C hC N id ops rs hd => draw_ok T hb hm hC hd) hG n
end
end Go.AI
