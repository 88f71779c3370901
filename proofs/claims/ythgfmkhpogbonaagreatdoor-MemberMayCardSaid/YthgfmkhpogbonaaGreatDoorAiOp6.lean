/-
  The abstract operations are the model's: maps.
-/
import Derived.Test.YthgfmkhpogbonaaGreatDoorAiOp5
set_option linter.unusedVariables false
set_option linter.unusedSimpArgs false
namespace Go.AI
section
variable {P : Program} {ρ : Env} {φ : Phi} {w0 w : World} {h h' : AHeap} {ti : Nat → Option ATy} {bd : Bnd}

theorem run_getObj {r : Nat} {o : Obj} (hg : w.heap[r]? = some o) (hn : ∀ c e f, o ≠ .cells c e f) : (getObj r).run P w = .ok o w := by
  cases o <;> first | exact absurd rfl (hn _ _ _) | simp [getObj, Sem.run, hg]
theorem run_setObj {r : Nat} {o o' : Obj} (hg : w.heap[r]? = some o) (hn : ∀ c e f, o ≠ .cells c e f) : (setObj r o').run P w = .ok () (wput w r o') := by
  cases o <;> first | exact absurd rfl (hn _ _ _) | simp [setObj, Sem.run, hg, wput]
theorem wput_same {r : Nat} {o : Obj} (hg : w.heap[r]? = some o) : wput w r o = w := by
  have hgl : r < w.heap.size := (Array.getElem?_eq_some_iff.1 hg).1
  have hgv : w.heap[r] = o := (Array.getElem?_eq_some_iff.1 hg).2
  have : w.heap.setIfInBounds r o = w.heap := by
    apply Array.ext_getElem?
    intro k
    rw [Array.getElem?_setIfInBounds]
    by_cases hgk : r = k
    · subst hgk; rw [if_pos rfl, if_pos hgl, hg]
    · rw [if_neg hgk]
  simp only [wput, this]

theorem entsOf_some {β : Type} {r : Nat} {K : Ents → Nat → Option β} {x : β} : entsOf h r K = some x ↔ ∃ es c, h.get r = some (.map es c) ∧ K es c = some x := by
  unfold entsOf
  simp only [ob_some, onMapO_some]
  constructor
  · rintro ⟨o, h1, es, c, rfl, h2⟩; exact ⟨es, c, h1, h2⟩
  · rintro ⟨es, c, h1, h2⟩; exact ⟨_, h1, es, c, rfl, h2⟩

/-- entries -/
structure ERel (ρ : Env) (φ : Phi) (es : Ents) (es' : Array MapEntry) : Prop where
  k : VsRel ρ φ (es.map (·.1)) (es'.toList.map (·.key))
  v : VsRel ρ φ (es.map (·.2.1)) (es'.toList.map (·.val))
  b : es.map (·.2.2) = es'.toList.map (·.born)
theorem ERel.nil : ERel ρ φ [] #[] := ⟨.nil, .nil, rfl⟩
theorem ERel.length {es : Ents} {es' : Array MapEntry} (R : ERel ρ φ es es') : es.length = es'.size := by
  have := R.k.length; simpa using this
theorem HRel.ents (H : HRel ρ w0 φ h w) {r blk sz : Nat} {es : Ents} {c : Nat} (hr : φ r = some (blk, sz)) (hg : h.get r = some (.map es c)) : ∃ es', w.heap[blk]? = some (.map es' c) ∧ ERel ρ φ es es' := by
  obtain ⟨o, ho, hr⟩ := H.obj _ _ _ _ hg hr
  cases hr with
  | map _ es' _ hk hv hb => exact ⟨es', ho, hk, hv, hb⟩
theorem notCells_map {es : Array MapEntry} {c : Nat} : ∀ a b d, Obj.map es c ≠ .cells a b d := by intro a b d h; cases h

theorem sameNow_equal {kt : TypeId} {kd : TypeDesc} (hu : P.underlying kt = some kd) {u v : Value} {b : Bool} (e : Instr.sameNow kd u v = some b) : (Op.equal kt u v).run P w = .ok b w := by
  unfold Instr.sameNow at e
  split at e
  · split at e
    · rename_i hk; subst hk; cases e; exact run_equalIn_int w 9999 kt _ _ _ _ hu
    · cases e
  · cases e
    rename_i a c
    rw [show (a == c) = (a.toList == c.toList) from beq_toListBytes a c]
    exact run_equalIn_string w 9999 kt _ _ hu
  · cases e; exact run_equalIn_bool' w 9999 kt _ _ hu
  · cases e

theorem findNow_asking {kt : TypeId} {kd : TypeDesc} (hu : P.underlying kt = some kd) (u : Value) : ∀ (es : List MapEntry) (i : Nat) (r : Option (Nat × Value)), Instr.findNow kd u es i = some r → (Instr.findAsking kt u es i).run P w = .ok r w
  | [], i, r, e => by cases e; rfl
  | x :: es, i, r, e => by
    simp only [Instr.findNow] at e
    split at e
    · rename_i hs
      cases e
      simp [Instr.findAsking, sameNow_equal (w := w) hu hs]
    · rename_i hs
      simp only [Instr.findAsking, Sem.run_bind, sameNow_equal (w := w) hu hs, Result.andThen_ok]
      exact findNow_asking hu u es (i + 1) r e
    · cases e

theorem findKey_asking {kt : TypeId} {kd : TypeDesc} (hu : P.underlying kt = some kd) (u : Value) (es : List MapEntry) {r : Option (Nat × Value)} (e : (Instr.findAsking kt u es 0).run P w = .ok r w) : (Instr.findKey kt u es).run P w = .ok r w := by
  simp only [Instr.findKey, Sem.run_bind, run_un hu, Result.andThen_ok]
  split
  · rename_i q hq
    have := findNow_asking (w := w) hu u es 0 q hq
    rw [e] at this; cases this; rfl
  · exact e

def FRel (ρ : Env) (φ : Phi) : Option (Nat × AV) → Option (Nat × Value) → Prop
  | none, none => True
  | some p, some q => p.1 = q.1 ∧ VRel ρ φ p.2 q.2
  | _, _ => False

theorem findA_ok (T : TiOk P ti) {kt : Nat} {k : AV} {u : Value} (hk : VRel ρ φ k u) : ∀ (es : Ents) (es' : List MapEntry) (i : Nat) (r : Option (Nat × AV)), VsRel ρ φ (es.map (·.1)) (es'.map (·.key)) → VsRel ρ φ (es.map (·.2.1)) (es'.map (·.val)) →
    findA ti kt k es i = some r → ∃ q, (Instr.findAsking kt u es' i).run P w = .ok q w ∧ FRel ρ φ r q
  | [], es', i, r, h1, h2, e => by
    cases e
    cases es' with
    | nil => exact ⟨none, rfl, trivial⟩
    | cons x l => cases h1
  | x :: es, es', i, r, h1, h2, e => by
    cases es' with
    | nil => cases h1
    | cons y es' =>
      cases h1 with
      | cons _ _ _ _ a1 a2 => cases h2 with
        | cons _ _ _ _ b1 b2 =>
          have e' : (ob (eqA ti depthE kt k x.1) fun r => sel r (some (some (i, x.2.1))) (findA ti kt k es (Nat.succ i))) = some r := e
          simp only [ob_some] at e'
          obtain ⟨q, h3, h4⟩ := e'
          have h5 := eqA_equal (w := w) T h3 hk a1
          cases q
          · obtain ⟨r', k1, k2⟩ := findA_ok T hk es es' (i + 1) r a2 b2 h4
            exact ⟨r', by simp [Instr.findAsking, h5, k1], k2⟩
          · cases h4
            exact ⟨some (i, y.val), by simp [Instr.findAsking, h5], rfl, b1⟩

theorem zeroA_ok {t : TypeId} {te : ATy} (R : TyRel P t te) {z : AV} (e : zeroA te = some z) (w : World) : ∃ u, (zeroValue t).run P w = .ok u w ∧ VRel ρ φ z u := by
  obtain ⟨u, zv, h1, h2, h3, h4⟩ := R.run_zero w
  have hr := ofValue_rel (ρ := ρ) (φ := φ) _ _ h2
  refine ⟨u, h1, ?_⟩
  unfold zeroA at e
  cases hk : te.k.agg with
  | true =>
    rw [hk] at e; rw [hk, if_pos rfl] at h4
    obtain ⟨l, rfl⟩ := h4
    cases e; rw [← h3]; exact hr
  | false =>
    rw [hk] at e; rw [hk] at h4
    simp only [Bool.false_eq_true, if_false] at h4
    have : zv.cells = [zv] := by cases zv <;> first | rfl | cases h4
    rw [this] at h3
    rw [← h3] at e
    have e' : some zv = some z := e
    cases e'; exact hr

theorem lookupE_ok (T : TiOk P ti) {kt : Nat} {te : ATy} {e : Nat} (he : ti e = some te) {k : AV} {u : Value} (hk : VRel ρ φ k u) {ok : Bool} {es : Ents} {es' : Array MapEntry} (R : ERel ρ φ es es') {kd : TypeDesc} (hu : P.underlying kt = some kd) {v : AV}
    (hl : lookupE ti kt te k ok h es = some (v, h')) : h' = h ∧ ∃ r, (Instr.findKey kt u es'.toList).run P w = .ok r w ∧ ∃ z : Value × Bool, (match r with | some (_, v) => (pure (v, true) : Sem (Value × Bool)) | none => do pure (← zeroValue e, false)).run P w = .ok z w ∧
      VRel ρ φ v (if ok then .tuple #[z.1, .bool z.2] else z.1) := by
  simp only [lookupE, ob_some] at hl
  obtain ⟨r, h1, h2⟩ := hl
  obtain ⟨q, k1, k2⟩ := findA_ok (w := w) T hk es es'.toList 0 r R.k R.v h1
  have k3 := findKey_asking (w := w) hu u es'.toList k1
  cases r with
  | some p =>
    cases q with
    | none => cases k2
    | some q =>
      simp only [rOk_some, Prod.mk.injEq] at h2
      obtain ⟨rfl, rfl⟩ := h2
      refine ⟨rfl, _, k3, (q.2, true), rfl, ?_⟩
      cases ok
      · exact k2.2
      · exact .tup _ _ (.cons _ _ _ _ k2.2 (.cons _ _ _ _ (.bool true) .nil))
  | none =>
    cases q with
    | some q => cases k2
    | none =>
      simp only [ob_some, rOk_some, Prod.mk.injEq] at h2
      obtain ⟨z, h3, rfl, rfl⟩ := h2
      obtain ⟨u', z1, z2⟩ := zeroA_ok (ρ := ρ) (φ := φ) (T _ _ he) h3 w
      refine ⟨rfl, _, k3, (u', false), by simp [z1], ?_⟩
      cases ok
      · exact z2
      · exact .tup _ _ (.cons _ _ _ _ z2 (.cons _ _ _ _ (.bool false) .nil))

theorem lookupA_ok (T : TiOk P ti) {t : TypeId} {m k v : AV} {um uk : Value} {ok : Bool} (H : HRel ρ w0 φ h w) (hm : VRel ρ φ m um) (hk : VRel ρ φ k uk) (he : lookupA ti t m k ok h = some (v, h')) :
    ValOk P ρ w0 (Instr.lookup t um uk ok) φ w h v h' := by
  simp only [lookupA, ob_some, kMap_some, guardB_some, onMapV_some, entsOf_some] at he
  obtain ⟨ty, h1, kt, e, hty, te, h2, hko, he⟩ := he
  have k1 := (T _ _ h1).map hty
  -- the key's type has a row
  obtain ⟨kd, hkd⟩ : ∃ kd, P.underlying kt = some kd := by
    have : (Option.rec (motive := fun _ => Bool) false (fun ty => keyS ti (keyOk ti 63) ty.k k) (ti kt) : Bool) = true := hko
    cases hkt : ti kt with
    | none => rw [hkt] at this; cases this
    | some akt => obtain ⟨d, d1, _⟩ := (T _ _ hkt).und; exact ⟨d, d1⟩
  have hck : ∀ em, (Instr.checkKey em 10000 kt uk).run P w = .ok () w := fun em => keyOk_check T em hko hk
  rcases he with ⟨rfl, he⟩ | ⟨r, rfl, es, c, hg, he⟩
  · cases hm
    obtain ⟨rfl, r, f1, z, f2, f3⟩ := lookupE_ok (w := w) T h2 hk ERel.nil hkd he
    refine .pure H ?_ f3
    simp only [Instr.lookup, Sem.run_bind, run_un k1, Result.andThen_ok, Sem.run_pure, hck]
    rw [f1]; simp only [Result.andThen_ok]
    cases r <;> simp only [Sem.run_bind, Sem.run_pure, Result.andThen_ok] at f2 ⊢
    · generalize (zeroValue e).run P w = q at f2 ⊢
      cases q <;> simp at f2 ⊢
      obtain ⟨f2, rfl⟩ := f2; subst f2; cases ok <;> simp
    · simp at f2; subst f2; cases ok <;> simp
  · cases hm with
    | map _ blk sz hb =>
      obtain ⟨es', g1, R⟩ := H.ents hb hg
      obtain ⟨rfl, r, f1, z, f2, f3⟩ := lookupE_ok (w := w) T h2 hk R hkd he
      refine .pure H ?_ f3
      simp only [Instr.lookup, Sem.run_bind, run_un k1, Result.andThen_ok, Sem.run_pure, run_getObj g1 notCells_map, hck]
      rw [f1]; simp only [Result.andThen_ok]
      cases r <;> simp only [Sem.run_bind, Sem.run_pure, Result.andThen_ok] at f2 ⊢
      · generalize (zeroValue e).run P w = q at f2 ⊢
        cases q <;> simp at f2 ⊢
        obtain ⟨f2, rfl⟩ := f2; subst f2; cases ok <;> simp
      · simp at f2; subst f2; cases ok <;> simp
end
end Go.AI
