/-
  Joined texts: AiOp6 AiOp7 AiOp8 AiOp9 AiCall AiCode AiRun.
-/
import Derived.Test.YtladmaggljgjjaaGreatDoorAiP2
import Derived.RangeFuncIn
import Derived.RangeFuncCalls
import Derived.TacticsIn
import Derived.LoopNIn
import Derived.RangeFuncRecord
import Derived.RangeFuncLeaves
set_option linter.unusedVariables false
set_option linter.unusedSimpArgs false
namespace Go.AI
section
variable {P : Program} {ρ : Env} {φ : Phi} {w0 w : World} {h h' : AHeap} {ti : Nat → Option ATy} {bd : Bnd}

theorem run_getObj {r : Nat} {o : Obj} (hg : w.heap[r]? = some o) (hn : ∀ c e f, o ≠ .cells c e f) : (getObj r).run P w = .ok o w := by
  cases o <;> first | exact absurd rfl (hn _ _ _) | simp [getObj, Sem.run, hg]
theorem run_setObj {r : Nat} {o o' : Obj} (hg : w.heap[r]? = some o) (hn : ∀ c e f, o ≠ .cells c e f) : (setObj r o').run P w = .ok () (wput w r o') := by
  cases o <;> first | exact absurd rfl (hn _ _ _) | simp [setObj, Sem.run, hg, wput]
theorem wput_same {r : Nat} {o : Obj} (hg : w.heap[r]? = some o) : wput w r o = w := by
  have hgl : r < w.heap.size := (Array.getElem?_eq_some_iff.1 hg).1
  have hgv : w.heap[r] = o := (Array.getElem?_eq_some_iff.1 hg).2
  have : w.heap.setIfInBounds r o = w.heap := by
    apply Array.ext_getElem?
    intro k
    rw [Array.getElem?_setIfInBounds]
    by_cases hgk : r = k
    · subst hgk; rw [if_pos rfl, if_pos hgl, hg]
    · rw [if_neg hgk]
  simp only [wput, this]

theorem entsOf_some {β : Type} {r : Nat} {K : Ents → Nat → Option β} {x : β} : entsOf h r K = some x ↔ ∃ es c, h.get r = some (.map es c) ∧ K es c = some x := by
  unfold entsOf
  simp only [ob_some, onMapO_some]
  constructor
  · rintro ⟨o, h1, es, c, rfl, h2⟩; exact ⟨es, c, h1, h2⟩
  · rintro ⟨es, c, h1, h2⟩; exact ⟨_, h1, es, c, rfl, h2⟩

/-- entries -/
structure ERel (ρ : Env) (φ : Phi) (es : Ents) (es' : Array MapEntry) : Prop where
  k : VsRel ρ φ (es.map (·.1)) (es'.toList.map (·.key))
  v : VsRel ρ φ (es.map (·.2.1)) (es'.toList.map (·.val))
  b : es.map (·.2.2) = es'.toList.map (·.born)
theorem ERel.nil : ERel ρ φ [] #[] := ⟨.nil, .nil, rfl⟩
theorem ERel.length {es : Ents} {es' : Array MapEntry} (R : ERel ρ φ es es') : es.length = es'.size := by
  have := R.k.length; simpa using this
theorem HRel.ents (H : HRel ρ w0 φ h w) {r blk sz : Nat} {es : Ents} {c : Nat} (hr : φ r = some (blk, sz)) (hg : h.get r = some (.map es c)) : ∃ es', w.heap[blk]? = some (.map es' c) ∧ ERel ρ φ es es' := by
  obtain ⟨o, ho, hr⟩ := H.obj _ _ _ _ hg hr
  cases hr with
  | map _ es' _ hk hv hb => exact ⟨es', ho, hk, hv, hb⟩
theorem notCells_map {es : Array MapEntry} {c : Nat} : ∀ a b d, Obj.map es c ≠ .cells a b d := by intro a b d h; cases h

theorem sameNow_equal {kt : TypeId} {kd : TypeDesc} (hu : P.underlying kt = some kd) {u v : Value} {b : Bool} (e : Instr.sameNow kd u v = some b) : (Op.equal kt u v).run P w = .ok b w := by
  unfold Instr.sameNow at e
  split at e
  · split at e
    · rename_i hk; subst hk; cases e; exact run_equalIn_int w 9999 kt _ _ _ _ hu
    · cases e
  · cases e
    rename_i a c
    rw [show (a == c) = (a.toList == c.toList) from beq_toListBytes a c]
    exact run_equalIn_string w 9999 kt _ _ hu
  · cases e; exact run_equalIn_bool' w 9999 kt _ _ hu
  · cases e

theorem findNow_asking {kt : TypeId} {kd : TypeDesc} (hu : P.underlying kt = some kd) (u : Value) : ∀ (es : List MapEntry) (i : Nat) (r : Option (Nat × Value)), Instr.findNow kd u es i = some r → (Instr.findAsking kt u es i).run P w = .ok r w
  | [], i, r, e => by cases e; rfl
  | x :: es, i, r, e => by
    simp only [Instr.findNow] at e
    split at e
    · rename_i hs
      cases e
      simp [Instr.findAsking, sameNow_equal (w := w) hu hs]
    · rename_i hs
      simp only [Instr.findAsking, Sem.run_bind, sameNow_equal (w := w) hu hs, Result.andThen_ok]
      exact findNow_asking hu u es (i + 1) r e
    · cases e

theorem findKey_asking {kt : TypeId} {kd : TypeDesc} (hu : P.underlying kt = some kd) (u : Value) (es : List MapEntry) {r : Option (Nat × Value)} (e : (Instr.findAsking kt u es 0).run P w = .ok r w) : (Instr.findKey kt u es).run P w = .ok r w := by
  simp only [Instr.findKey, Sem.run_bind, run_un hu, Result.andThen_ok]
  split
  · rename_i q hq
    have := findNow_asking (w := w) hu u es 0 q hq
    rw [e] at this; cases this; rfl
  · exact e

def FRel (ρ : Env) (φ : Phi) : Option (Nat × AV) → Option (Nat × Value) → Prop
  | none, none => True
  | some p, some q => p.1 = q.1 ∧ VRel ρ φ p.2 q.2
  | _, _ => False

theorem findA_ok (T : TiOk P ti) {kt : Nat} {k : AV} {u : Value} (hk : VRel ρ φ k u) : ∀ (es : Ents) (es' : List MapEntry) (i : Nat) (r : Option (Nat × AV)), VsRel ρ φ (es.map (·.1)) (es'.map (·.key)) → VsRel ρ φ (es.map (·.2.1)) (es'.map (·.val)) →
    findA ti kt k es i = some r → ∃ q, (Instr.findAsking kt u es' i).run P w = .ok q w ∧ FRel ρ φ r q
  | [], es', i, r, h1, h2, e => by
    cases e
    cases es' with
    | nil => exact ⟨none, rfl, trivial⟩
    | cons x l => cases h1
  | x :: es, es', i, r, h1, h2, e => by
    cases es' with
    | nil => cases h1
    | cons y es' =>
      cases h1 with
      | cons _ _ _ _ a1 a2 => cases h2 with
        | cons _ _ _ _ b1 b2 =>
          have e' : (ob (eqA ti depthE kt k x.1) fun r => sel r (some (some (i, x.2.1))) (findA ti kt k es (Nat.succ i))) = some r := e
          simp only [ob_some] at e'
          obtain ⟨q, h3, h4⟩ := e'
          have h5 := eqA_equal (w := w) T h3 hk a1
          cases q
          · obtain ⟨r', k1, k2⟩ := findA_ok T hk es es' (i + 1) r a2 b2 h4
            exact ⟨r', by simp [Instr.findAsking, h5, k1], k2⟩
          · cases h4
            exact ⟨some (i, y.val), by simp [Instr.findAsking, h5], rfl, b1⟩

theorem zeroA_ok {t : TypeId} {te : ATy} (R : TyRel P t te) {z : AV} (e : zeroA te = some z) (w : World) : ∃ u, (zeroValue t).run P w = .ok u w ∧ VRel ρ φ z u := by
  obtain ⟨u, zv, h1, h2, h3, h4⟩ := R.run_zero w
  have hr := ofValue_rel (ρ := ρ) (φ := φ) _ _ h2
  refine ⟨u, h1, ?_⟩
  unfold zeroA at e
  cases hk : te.k.agg with
  | true =>
    rw [hk] at e; rw [hk, if_pos rfl] at h4
    obtain ⟨l, rfl⟩ := h4
    cases e; rw [← h3]; exact hr
  | false =>
    rw [hk] at e; rw [hk] at h4
    simp only [Bool.false_eq_true, if_false] at h4
    have : zv.cells = [zv] := by cases zv <;> first | rfl | cases h4
    rw [this] at h3
    rw [← h3] at e
    have e' : some zv = some z := e
    cases e'; exact hr

theorem lookupE_ok (T : TiOk P ti) {kt : Nat} {te : ATy} {e : Nat} (he : ti e = some te) {k : AV} {u : Value} (hk : VRel ρ φ k u) {ok : Bool} {es : Ents} {es' : Array MapEntry} (R : ERel ρ φ es es') {kd : TypeDesc} (hu : P.underlying kt = some kd) {v : AV}
    (hl : lookupE ti kt te k ok h es = some (v, h')) : h' = h ∧ ∃ r, (Instr.findKey kt u es'.toList).run P w = .ok r w ∧ ∃ z : Value × Bool, (match r with | some (_, v) => (pure (v, true) : Sem (Value × Bool)) | none => do pure (← zeroValue e, false)).run P w = .ok z w ∧
      VRel ρ φ v (if ok then .tuple #[z.1, .bool z.2] else z.1) := by
  simp only [lookupE, ob_some] at hl
  obtain ⟨r, h1, h2⟩ := hl
  obtain ⟨q, k1, k2⟩ := findA_ok (w := w) T hk es es'.toList 0 r R.k R.v h1
  have k3 := findKey_asking (w := w) hu u es'.toList k1
  cases r with
  | some p =>
    cases q with
    | none => cases k2
    | some q =>
      simp only [rOk_some, Prod.mk.injEq] at h2
      obtain ⟨rfl, rfl⟩ := h2
      refine ⟨rfl, _, k3, (q.2, true), rfl, ?_⟩
      cases ok
      · exact k2.2
      · exact .tup _ _ (.cons _ _ _ _ k2.2 (.cons _ _ _ _ (.bool true) .nil))
  | none =>
    cases q with
    | some q => cases k2
    | none =>
      simp only [ob_some, rOk_some, Prod.mk.injEq] at h2
      obtain ⟨z, h3, rfl, rfl⟩ := h2
      obtain ⟨u', z1, z2⟩ := zeroA_ok (ρ := ρ) (φ := φ) (T _ _ he) h3 w
      refine ⟨rfl, _, k3, (u', false), by simp [z1], ?_⟩
      cases ok
      · exact z2
      · exact .tup _ _ (.cons _ _ _ _ z2 (.cons _ _ _ _ (.bool false) .nil))

theorem lookupA_ok (T : TiOk P ti) {t : TypeId} {m k v : AV} {um uk : Value} {ok : Bool} (H : HRel ρ w0 φ h w) (hm : VRel ρ φ m um) (hk : VRel ρ φ k uk) (he : lookupA ti t m k ok h = some (v, h')) :
    ValOk P ρ w0 (Instr.lookup t um uk ok) φ w h v h' := by
  simp only [lookupA, ob_some, kMap_some, guardB_some, onMapV_some, entsOf_some] at he
  obtain ⟨ty, h1, kt, e, hty, te, h2, hko, he⟩ := he
  have k1 := (T _ _ h1).map hty
  -- the key's type has a row
  obtain ⟨kd, hkd⟩ : ∃ kd, P.underlying kt = some kd := by
    have : (Option.rec (motive := fun _ => Bool) false (fun ty => keyS ti (keyOk ti 63) ty.k k) (ti kt) : Bool) = true := hko
    cases hkt : ti kt with
    | none => rw [hkt] at this; cases this
    | some akt => obtain ⟨d, d1, _⟩ := (T _ _ hkt).und; exact ⟨d, d1⟩
  have hck : ∀ em, (Instr.checkKey em 10000 kt uk).run P w = .ok () w := fun em => keyOk_check T em hko hk
  rcases he with ⟨rfl, he⟩ | ⟨r, rfl, es, c, hg, he⟩
  · cases hm
    obtain ⟨rfl, r, f1, z, f2, f3⟩ := lookupE_ok (w := w) T h2 hk ERel.nil hkd he
    refine .pure H ?_ f3
    simp only [Instr.lookup, Sem.run_bind, run_un k1, Result.andThen_ok, Sem.run_pure, hck]
    rw [f1]; simp only [Result.andThen_ok]
    cases r <;> simp only [Sem.run_bind, Sem.run_pure, Result.andThen_ok] at f2 ⊢
    · generalize (zeroValue e).run P w = q at f2 ⊢
      cases q <;> simp at f2 ⊢
      obtain ⟨f2, rfl⟩ := f2; subst f2; cases ok <;> simp
    · simp at f2; subst f2; cases ok <;> simp
  · cases hm with
    | map _ blk sz hb =>
      obtain ⟨es', g1, R⟩ := H.ents hb hg
      obtain ⟨rfl, r, f1, z, f2, f3⟩ := lookupE_ok (w := w) T h2 hk R hkd he
      refine .pure H ?_ f3
      simp only [Instr.lookup, Sem.run_bind, run_un k1, Result.andThen_ok, Sem.run_pure, run_getObj g1 notCells_map, hck]
      rw [f1]; simp only [Result.andThen_ok]
      cases r <;> simp only [Sem.run_bind, Sem.run_pure, Result.andThen_ok] at f2 ⊢
      · generalize (zeroValue e).run P w = q at f2 ⊢
        cases q <;> simp at f2 ⊢
        obtain ⟨f2, rfl⟩ := f2; subst f2; cases ok <;> simp
      · simp at f2; subst f2; cases ok <;> simp
end
end Go.AI
set_option linter.unusedVariables false
set_option linter.unusedSimpArgs false
namespace Go.AI
section
variable {P : Program} {ρ : Env} {φ : Phi} {w0 w : World} {h h' : AHeap} {ti : Nat → Option ATy} {bd : Bnd}

theorem VsRel.set {l : List AV} {m : List Value} (h : VsRel ρ φ l m) {v : AV} {u : Value} (hv : VRel ρ φ v u) (i : Nat) : VsRel ρ φ (l.set i v) (m.set i u) := by
  induction m generalizing l i with
  | nil => cases h; exact .nil
  | cons x m ih => cases h with | cons v' _ l _ h h' => cases i with
    | zero => exact .cons _ _ _ _ hv h'
    | succ i => exact .cons _ _ _ _ h (ih h' i)
theorem VsRel.eraseIdx {l : List AV} {m : List Value} (h : VsRel ρ φ l m) (i : Nat) : VsRel ρ φ (l.eraseIdx i) (m.eraseIdx i) := by
  induction m generalizing l i with
  | nil => cases h; exact .nil
  | cons x m ih => cases h with | cons v' _ l _ h h' => cases i with
    | zero => exact h'
    | succ i => exact .cons _ _ _ _ h (ih h' i)

theorem modA_maps (k v : AV) (es : Ents) (i : Nat) : (modA k v es i).map (·.1) = (es.map (·.1)).set i k ∧ (modA k v es i).map (·.2.1) = (es.map (·.2.1)).set i v ∧ (modA k v es i).map (·.2.2) = es.map (·.2.2) := by
  induction es generalizing i with
  | nil => exact ⟨rfl, rfl, rfl⟩
  | cons e es ih =>
    cases i with
    | zero => exact ⟨rfl, rfl, rfl⟩
    | succ i =>
      obtain ⟨h1, h2, h3⟩ := ih i
      refine ⟨?_, ?_, ?_⟩
      · show e.1 :: (modA k v es i).map (·.1) = _; rw [h1]; rfl
      · show e.2.1 :: (modA k v es i).map (·.2.1) = _; rw [h2]; rfl
      · show e.2.2 :: (modA k v es i).map (·.2.2) = _; rw [h3]; rfl
theorem erase_map' {α β : Type} (f : α → β) (l : List α) (i : Nat) : (l.eraseIdx i).map f = (l.map f).eraseIdx i := by
  induction l generalizing i with
  | nil => rfl
  | cons x l ih => cases i with
    | zero => rfl
    | succ i => simp [ih]
theorem eraA_maps (es : Ents) (i : Nat) : eraA es i = es.eraseIdx i := by
  induction es generalizing i with
  | nil => rfl
  | cons e es ih => cases i with
    | zero => rfl
    | succ i => show e :: eraA es i = _; rw [ih]; rfl

theorem str_inv {l : List Nat} {u : Value} (h : VRel ρ φ (.str l) u) : ∃ s : ByteArray, u = .string s ∧ l = s.data.toList.map UInt8.toNat := by
  cases h; exact ⟨_, rfl, rfl⟩
theorem sameBits_flat {v : AV} {u u' : Value} (e : kEq v v = true) (h : VRel ρ φ v u) (h' : VRel ρ φ v u') (n : Nat) : Instr.sameBits n u u' = true := by
  cases v
  case str l =>
    obtain ⟨s, rfl, e1⟩ := str_inv h
    obtain ⟨s', rfl, e2⟩ := str_inv h'
    have : s = s' := by
      have := bytes_inj.1 (e1.symm.trans e2)
      rw [ByteArray.toList_eq, ByteArray.toList_eq] at this
      obtain ⟨⟨x⟩⟩ := s; obtain ⟨⟨y⟩⟩ := s'; simp at this; rw [this]
    rw [this]; cases n <;> simp [Instr.sameBits, beq_toListBytes]
  all_goals first
    | (simp [kEq] at e; done)
    | (cases h; cases h'; cases n <;> simp [Instr.sameBits])

theorem sameBits_list {l : List AV} {m m' : List Value} (e : ksEq l l = true) (h : VsRel ρ φ l m) (h' : VsRel ρ φ l m') (n : Nat) : ((m.zip m').all fun (x, y) => Instr.sameBits n x y) = true := by
  induction l generalizing m m' with
  | nil => cases h; rfl
  | cons v l ih =>
    cases h with
    | cons _ _ _ _ a b => cases h' with
      | cons _ _ _ _ a' b' =>
        simp only [ksEq, Bool.and_eq_true] at e
        simp only [List.zip_cons_cons, List.all_cons, Bool.and_eq_true]
        exact ⟨sameBits_flat e.1 a a' n, ih e.2 b b'⟩

theorem kEq_eq {a b : AV} (h : kEq a b = true) : a = b := by
  cases a <;> cases b <;> simp_all [kEq, keq_iff, ieq_iff]
  all_goals first | exact nlEqD_eq h | (rename_i x y; cases x <;> cases y <;> simp_all)
theorem ksEq_eq {a b : List AV} (h : ksEq a b = true) : a = b := by
  induction a generalizing b with
  | nil => cases b <;> simp [ksEq] at h ⊢
  | cons x l ih => cases b with
    | nil => simp [ksEq] at h
    | cons y m => simp [ksEq] at h; rw [kEq_eq h.1, ih h.2]

theorem keySame_bits {a b : AV} {u u' : Value} (e : keySame a b = true) (h : VRel ρ φ a u) (h' : VRel ρ φ b u') : Instr.sameBits 10000 u u' = true := by
  unfold keySame at e
  split at e
  · rename_i l m
    have := ksEq_eq e
    subst this
    cases h with
    | agg _ p hp fp => cases h' with
      | agg _ q hq fq =>
        have hl := hp.length
        have hl' := hq.length
        simp only [Instr.sameBits, Bool.and_eq_true, beq_iff_eq]
        refine ⟨by simp at hl hl'; omega, sameBits_list e hp hq 9999⟩
  · have := kEq_eq e
    subst this
    exact sameBits_flat e h h' 10000

theorem ERel.mod {es : Ents} {es' : Array MapEntry} (R : ERel ρ φ es es') {k v : AV} {uk uv : Value} (hk : VRel ρ φ k uk) (hv : VRel ρ φ v uv) (i : Nat) : ERel ρ φ (modA k v es i) (es'.modify i fun e => { e with key := uk, val := uv }) := by
  obtain ⟨m1, m2, m3⟩ := modA_maps k v es i
  refine ⟨?_, ?_, ?_⟩
  · rw [m1]
    have := R.k.set hk i
    have e : ((es'.modify i fun e => { e with key := uk, val := uv }).toList.map (·.key)) = (es'.toList.map (·.key)).set i uk := by
      apply List.ext_getElem?; intro j
      simp only [List.getElem?_map, Array.toList_modify, List.getElem?_modify, List.getElem?_set, List.length_map]
      by_cases c : i = j
      · subst c; by_cases d : i < es'.size
        · simp [d]
        · simp [d, Nat.le_of_not_lt d]
      · simp [c]
    rw [e]; exact this
  · rw [m2]
    have := R.v.set hv i
    have e : ((es'.modify i fun e => { e with key := uk, val := uv }).toList.map (·.val)) = (es'.toList.map (·.val)).set i uv := by
      apply List.ext_getElem?; intro j
      simp only [List.getElem?_map, Array.toList_modify, List.getElem?_modify, List.getElem?_set, List.length_map]
      by_cases c : i = j
      · subst c; by_cases d : i < es'.size
        · simp [d]
        · simp [d, Nat.le_of_not_lt d]
      · simp [c]
    rw [e]; exact this
  · rw [m3, R.b]
    apply List.ext_getElem?; intro j
    simp only [List.getElem?_map, Array.toList_modify, List.getElem?_modify]
    by_cases c : i = j
    · subst c; cases es'.toList[i]? <;> simp
    · simp [c]

theorem HRel.putMap (H : HRel ρ w0 φ h w) {r blk sz : Nat} {es es2 : Ents} {c c2 : Nat} {es2' : Array MapEntry} (hr : φ r = some (blk, sz)) (hg : h.get r = some (.map es c)) (R : ERel ρ φ es2 es2') :
    HRel ρ w0 φ (h.put r (.map es2 c2)) (wput w blk (.map es2' c2)) := H.put hg hr (.map es2 es2' c2 R.k R.v R.b)

theorem updateA_ok (T : TiOk P ti) {t : TypeId} {m k x v : AV} {um uk ux : Value} (H : HRel ρ w0 φ h w) (hm : VRel ρ φ m um) (hk : VRel ρ φ k uk) (hx : VRel ρ φ x ux) (he : updateA ti t m k x h = some (v, h')) :
    v = undefA ∧ UnitOk P ρ w0 (Instr.mapUpdate t um uk ux) φ w h h' := by
  simp only [updateA, ob_some, kMap_some, guardB_some, onMapV_some, entsOf_some] at he
  obtain ⟨ty, h1, kt, e, hty, hko, he⟩ := he
  have k1 := (T _ _ h1).map hty
  obtain ⟨kd, hkd⟩ : ∃ kd, P.underlying kt = some kd := by
    have : (Option.rec (motive := fun _ => Bool) false (fun ty => keyS ti (keyOk ti 63) ty.k k) (ti kt) : Bool) = true := hko
    cases hkt : ti kt with
    | none => rw [hkt] at this; cases this
    | some akt => obtain ⟨d, d1, _⟩ := (T _ _ hkt).und; exact ⟨d, d1⟩
  have hck : ∀ em, (Instr.checkKey em 10000 kt uk).run P w = .ok () w := fun em => keyOk_check T em hko hk
  rcases he with ⟨_, he⟩ | ⟨r, rfl, es, c, hg, f, hf, he⟩
  · cases he
  · cases hm with
    | map _ blk sz hb =>
      obtain ⟨es', g1, R⟩ := H.ents hb hg
      obtain ⟨q, f1, f2⟩ := findA_ok (w := w) T hk es es'.toList 0 f R.k R.v hf
      have f3 := findKey_asking (w := w) hkd uk es'.toList f1
      cases f with
      | some p =>
        cases q with
        | none => cases f2
        | some q =>
          simp only [ob_some, guardB_some, rOk_some, Prod.mk.injEq, nth_eq] at he
          obtain ⟨en, e1, e2, rfl, rfl⟩ := he
          obtain ⟨hpq, _⟩ := f2
          have hi : (es.map (·.1))[p.1]? = some en.1 := by simp [e1]
          obtain ⟨old, o1, o2⟩ := R.k.get hi
          have hold : (es'[q.1]?).map (·.key) = some old := by rw [← hpq]; simpa using o1
          have hbits := keySame_bits e2 o2 hk
          refine ⟨rfl, φ, _, ?_, .same rfl, H.putMap hb hg (R.mod hk hx p.1)⟩
          simp only [Instr.mapUpdate, Sem.run_bind, run_un k1, Result.andThen_ok, run_getObj g1 notCells_map, hck]
          rw [f3]
          simp only [Result.andThen_ok, Sem.run_bind]
          have hstay : (Instr.keyThatStays (((es'[q.1]?).map (·.key)).getD uk) uk).run P w = .ok uk w := by
            rw [hold]; simp [Instr.keyThatStays, hbits]
          rw [hstay]
          simp only [Result.andThen_ok, run_setObj g1 notCells_map, hpq]
      | none =>
        cases q with
        | some q => cases f2
        | none =>
          simp only [rOk_some, Prod.mk.injEq] at he
          obtain ⟨rfl, rfl⟩ := he
          have R2 : ERel ρ φ (appL es [(k, x, c)]) (es'.push { key := uk, val := ux, born := c }) := by
            rw [appL_eq]
            refine ⟨?_, ?_, ?_⟩
            · simp only [List.map_append, Array.toList_push, List.map_cons, List.map_nil]; exact R.k.append (.single hk)
            · simp only [List.map_append, Array.toList_push, List.map_cons, List.map_nil]; exact R.v.append (.single hx)
            · simp only [List.map_append, Array.toList_push, List.map_cons, List.map_nil, R.b]
          refine ⟨rfl, φ, _, ?_, .same rfl, H.putMap hb hg R2⟩
          simp only [Instr.mapUpdate, Sem.run_bind, run_un k1, Result.andThen_ok, run_getObj g1 notCells_map, hck]
          rw [f3]
          simp only [Result.andThen_ok, run_setObj g1 notCells_map]

theorem deleteA_ok (T : TiOk P ti) {t : TypeId} {m k v : AV} {um uk : Value} (at1 : Array TypeId) (ty' : TypeId) (H : HRel ρ w0 φ h w) (hm : VRel ρ φ m um) (hk : VRel ρ φ k uk) (h0 : at1[0]? = some t) (he : deleteA ti t m k h = some (v, h')) :
    ValOk P ρ w0 (Builtin.delete_ at1 ty' #[um, uk]) φ w h v h' := by
  simp only [deleteA, ob_some, kMap_some, guardB_some, onMapV_some, entsOf_some] at he
  obtain ⟨ty, h1, kt, e, hty, hko, he⟩ := he
  have k1 := (T _ _ h1).map hty
  obtain ⟨kd, hkd⟩ : ∃ kd, P.underlying kt = some kd := by
    have : (Option.rec (motive := fun _ => Bool) false (fun ty => keyS ti (keyOk ti 63) ty.k k) (ti kt) : Bool) = true := hko
    cases hkt : ti kt with
    | none => rw [hkt] at this; cases this
    | some akt => obtain ⟨d, d1, _⟩ := (T _ _ hkt).und; exact ⟨d, d1⟩
  have hck : ∀ em, (Instr.checkKey em 10000 kt uk).run P w = .ok () w := fun em => keyOk_check T em hko hk
  rcases he with ⟨rfl, he⟩ | ⟨r, rfl, es, c, hg, f, hf, he⟩
  · cases hm
    simp only [rOk_some, Prod.mk.injEq] at he
    obtain ⟨rfl, rfl⟩ := he
    refine .pure H ?_ undef_rel
    simp [Builtin.delete_, h0, run_un k1, hck]; rfl
  · cases hm with
    | map _ blk sz hb =>
      obtain ⟨es', g1, R⟩ := H.ents hb hg
      obtain ⟨q, f1, f2⟩ := findA_ok (w := w) T hk es es'.toList 0 f R.k R.v hf
      have f3 := findKey_asking (w := w) hkd uk es'.toList f1
      cases f with
      | some p =>
        cases q with
        | none => cases f2
        | some q =>
          simp only [rOk_some, Prod.mk.injEq] at he
          obtain ⟨rfl, rfl⟩ := he
          obtain ⟨hpq, _⟩ := f2
          have e1 : (es'.eraseIdxIfInBounds p.1).toList = es'.toList.eraseIdx p.1 := by
            simp only [Array.eraseIdxIfInBounds]
            split
            · simp
            · rename_i hn; rw [List.eraseIdx_of_length_le (by simpa using Nat.le_of_not_lt hn)]
          have R2 : ERel ρ φ (eraA es p.1) (es'.eraseIdxIfInBounds p.1) := by
            rw [eraA_maps]
            refine ⟨?_, ?_, ?_⟩
            · rw [e1, erase_map', erase_map']; exact R.k.eraseIdx _
            · rw [e1, erase_map', erase_map']; exact R.v.eraseIdx _
            · rw [e1, erase_map', erase_map', R.b]
          refine ⟨φ, _, undef, ?_, undef_rel, .same rfl, H.putMap hb hg R2⟩
          simp [Builtin.delete_, h0, run_un k1, run_getObj g1 notCells_map, hck, f3, run_setObj g1 notCells_map, hpq]; rfl
      | none =>
        cases q with
        | some q => cases f2
        | none =>
          simp only [rOk_some, Prod.mk.injEq] at he
          obtain ⟨rfl, rfl⟩ := he
          refine .pure H ?_ undef_rel
          simp [Builtin.delete_, h0, run_un k1, run_getObj g1 notCells_map, hck, f3, run_setObj g1 notCells_map, wput_same g1]; rfl
end
end Go.AI
set_option linter.unusedVariables false
set_option linter.unusedSimpArgs false
namespace Go.AI
section
variable {P : Program} {ρ : Env} {φ : Phi} {w0 w : World} {h h' : AHeap} {ti : Nat → Option ATy} {bd : Bnd}

theorem run_newObj' (o : Obj) : (newObj o).run P w = .ok w.heap.size (wnew w o) := rfl

theorem rangeA_ok (T : TiOk P ti) {t : TypeId} {x v : AV} {u : Value} (H : HRel ρ w0 φ h w) (hx : VRel ρ φ x u) (he : rangeA ti t x h = some (v, h')) : ValOk P ρ w0 (Instr.range t u) φ w h v h' := by
  simp only [rangeA, ob_some] at he
  obtain ⟨ty, h1, he⟩ := he
  have R := T _ _ h1
  split at he
  · rename_i hk
    have k1 := R.str hk
    simp only [onStr_some, new_some, rOk_some, Prod.mk.injEq] at he
    obtain ⟨s, rfl, hn, rfl, rfl⟩ := he
    cases hx with
    | str s =>
      refine ⟨_, wnew w (.stringIter s 0), .pointer (some ⟨w.heap.size, 0, none⟩), ?_, .ptr _ _ _ 0 (Phi.ext_self _ _ _ _), H.grow rfl rfl, H.new hn (.strIter s 0)⟩
      simp [Instr.range, run_un k1, run_newObj']; rfl
  · rename_i kt e hk
    have k1 := R.map hk
    simp only [onMapV_some, new_some, rOk_some, Prod.mk.injEq, entsOf_some] at he
    rcases he with ⟨rfl, hn, rfl, rfl⟩ | ⟨m, rfl, es, c, hg, hn, rfl, rfl⟩
    · cases hx
      refine ⟨_, wnew w (.mapIter none 0 #[] 0), .pointer (some ⟨w.heap.size, 0, none⟩), ?_, .ptr _ _ _ 0 (Phi.ext_self _ _ _ _), H.grow rfl rfl, H.new hn (.nilIter 0 0 [] #[])⟩
      simp [Instr.range, run_un k1, run_newObj']; rfl
    · cases hx with
      | map _ blk sz hb =>
        obtain ⟨es', g1, R⟩ := H.ents hb hg
        refine ⟨_, wnew w (.mapIter (some blk) c #[] c), .pointer (some ⟨w.heap.size, 0, none⟩), ?_, .ptr _ _ _ 0 (Phi.ext_self _ _ _ _), H.grow rfl rfl,
          H.new hn (.mapIter m blk sz c c [] #[] (H.le_ext _ _ _ _ hb) rfl)⟩
        simp [Instr.range, run_un k1, run_getObj g1 notCells_map, run_newObj']; rfl
  · cases he

theorem decode_ascii (s : ByteArray) (p : Nat) {c : Nat} (hc : (s.data.toList.map UInt8.toNat)[p]? = some c) (h : c ≤ 127) : Utf8.decode s p = (c, 1) := by
  simp only [List.getElem?_map, Option.map_eq_some_iff, Array.getElem?_toList] at hc
  obtain ⟨b, hb, rfl⟩ := hc
  have : s.get! p = b := by
    obtain ⟨a⟩ := s
    rw [Array.getElem?_eq_some_iff] at hb
    obtain ⟨hlt, hb⟩ := hb
    simp [ByteArray.get!, hlt] ; exact hb
  simp only [Utf8.decode, Nat.add_zero, this]
  rw [if_pos (by omega)]

theorem nextA_ok {it v : AV} {b : Bool} {ty : TypeId} {u : Value} (H : HRel ρ w0 φ h w) (hx : VRel ρ φ it u) (he : nextA it b h = some (v, h')) : ValOk P ρ w0 (Instr.next u b ty) φ w h v h' := by
  simp only [nextA, onPtr_some, guardB_some, Nat.beq_eq, ob_some] at he
  obtain ⟨r, o, rfl, rfl, ob_, hg, he⟩ := he
  cases hx with
  | ptr _ _ blk sz hb =>
    obtain ⟨obj, g1, g2⟩ := H.obj _ _ _ _ hg hb
    split at he
    · rename_i s p
      cases g2 with
      | strIter s p =>
        have hnc : ∀ a b d, Obj.stringIter s p ≠ .cells a b d := by intro a b d h; cases h
        have gob := run_getObj (P := P) g1 hnc
        unfold nextStr at he
        rw [nth_eq] at he
        cases hc : (s.data.toList.map UInt8.toNat)[p]? with
        | none =>
          rw [hc] at he; simp only [rOk_some, Prod.mk.injEq] at he
          obtain ⟨rfl, rfl⟩ := he
          have : ¬ p < s.size := by
            intro hlt
            have : p < (s.data.toList.map UInt8.toNat).length := by simp; exact hlt
            rw [List.getElem?_eq_getElem this] at hc; cases hc
          refine .pure H (u := .tuple #[.bool false]) ?_ (.tup _ _ (.single (.bool false)))
          simp [Instr.next, gob, this]
        | some c =>
          rw [hc] at he; simp only [guardB_some, Nat.ble_eq, rOk_some, Prod.mk.injEq] at he
          obtain ⟨h127, rfl, rfl⟩ := he
          have hlt : p < s.size := by
            have := (List.getElem?_eq_some_iff.1 hc).1; simpa using this
          have hd := decode_ascii s p hc h127
          refine ⟨φ, wput w blk (.stringIter s (p + 1)), .tuple #[.bool true, goInt p, .int .i32 c], ?_, ?_, .same rfl, H.put hg hb (.strIter s (p + 1))⟩
          · simp [Instr.next, gob, hlt, hd, run_setObj g1 hnc]
          · exact .tup _ _ (.cons _ _ _ _ (.bool true) (.cons _ _ _ _ (.int _ _) (.single (.int _ _))))
    · cases g2
      rename_i s1 s2 s3 s4
      refine ?_
      simp only [rOk_some, Prod.mk.injEq] at he
      obtain ⟨rfl, rfl⟩ := he
      refine .pure H (u := .tuple #[.bool false]) ?_ (.tup _ _ (.single (.bool false)))
      have hnc : ∀ a b d, Obj.mapIter none s1 s4 s3 ≠ .cells a b d := by intro a b d h; cases h
      simp [Instr.next, run_getObj (P := P) g1 hnc]
    · rename_i m since seen last
      cases g2 with
      | mapIter _ mb bsz _ _ _ seen' hm hs =>
        have hnc : ∀ a b d, Obj.mapIter (some mb) since seen' last ≠ .cells a b d := by intro a b d h; cases h
        have gob := run_getObj (P := P) g1 hnc
        simp only [entsOf_some] at he
        obtain ⟨es, c, hge, he⟩ := he
        obtain ⟨es', g3, R⟩ := H.ents hm hge
        simp only [nextMap, guardB_some, Nat.beq_eq] at he
        obtain ⟨rfl, he⟩ := he
        have hgm := run_getObj (P := P) g3 notCells_map
        split at he
        · -- nothing in the map
          simp only [rOk_some, Prod.mk.injEq] at he
          obtain ⟨rfl, rfl⟩ := he
          have e0 : es' = #[] := by have := R.length; simpa using this.symm
          subst e0
          have s0 : seen' = #[] := by simpa using hs
          subst s0
          refine .pure H (u := .tuple #[.bool false]) ?_ (.tup _ _ (.single (.bool false)))
          simp [Instr.next, gob, hgm, Question.forced]
        · rename_i k x b
          simp only [guardB_some, Nat.blt_eq, rOk_some, Prod.mk.injEq] at he
          obtain ⟨hlt, rfl, rfl⟩ := he
          have s0 : seen' = #[] := by simpa using hs
          subst s0
          obtain ⟨en, e0⟩ : ∃ en, es' = #[en] := by
            have := R.length
            simp at this
            exact Array.size_eq_one_iff.1 this.symm
          subst e0
          have rk := R.k; have rv := R.v; have rb := R.b
          simp at rk rv rb
          cases rk with
          | cons _ _ _ _ rk _ => cases rv with
            | cons _ _ _ _ rv _ =>
              have hb2 : en.born < c := by omega
              refine ⟨φ, wput w blk (.mapIter (some mb) c #[en.born] c), .tuple #[.bool true, en.key, en.val], ?_, ?_, .same rfl, H.put hg hb (.mapIter m mb bsz c c _ _ hm (by simp [rb]))⟩
              · have hn : ¬ c ≤ en.born := by omega
                simp [Instr.next, gob, hgm, hb2, hn, Question.forced, run_setObj g1 hnc]
              · exact .tup _ _ (.cons _ _ _ _ (.bool true) (.cons _ _ _ _ rk (.single rv)))
        · rename_i a k x b
          simp only [guardB_some, Bool.and_eq_true, Nat.beq_eq, Nat.blt_eq, rOk_some, Prod.mk.injEq] at he
          obtain ⟨⟨rfl, hlt⟩, rfl, rfl⟩ := he
          obtain ⟨en, e0⟩ : ∃ en, es' = #[en] := by
            have := R.length
            simp at this
            exact Array.size_eq_one_iff.1 this.symm
          subst e0
          have rb := R.b
          simp at rb
          subst rb
          have s0 : seen' = #[en.born] := by apply Array.toList_inj.1; rw [hs]
          subst s0
          have hn : ¬ last ≤ en.born := by omega
          refine .pure H (u := .tuple #[.bool false]) ?_ (.tup _ _ (.single (.bool false)))
          simp [Instr.next, gob, hgm, hn, Question.forced]
        · simp only [rOk_some, Prod.mk.injEq] at he
          obtain ⟨rfl, rfl⟩ := he
          have e0 : es' = #[] := by have := R.length; simpa using this.symm
          subst e0
          refine .pure H (u := .tuple #[.bool false]) ?_ (.tup _ _ (.single (.bool false)))
          simp [Instr.next, gob, hgm, Question.forced]
        · cases he
    · cases he

theorem entryA_ok {it v : AV} {u : Value} (H : HRel ρ w0 φ h w) (hx : VRel ρ φ it u) (he : entryA it h = some (v, h')) : ValOk P ρ w0 (Instr.entry u) φ w h v h' := by
  simp only [entryA, onPtr_some, guardB_some, Nat.beq_eq, ob_some] at he
  obtain ⟨r, o, rfl, rfl, ob_, hg, he⟩ := he
  cases hx with
  | ptr _ _ blk sz hb =>
    obtain ⟨obj, g1, g2⟩ := H.obj _ _ _ _ hg hb
    split at he
    · rename_i m since b stepped
      cases g2 with
      | mapIter _ mb bsz _ _ _ seen' hm hs =>
        have hnc : ∀ a b d, Obj.mapIter (some mb) since seen' stepped ≠ .cells a b d := by intro a b d h; cases h
        have gob := run_getObj (P := P) g1 hnc
        simp only [entsOf_some, guardB_some, Nat.beq_eq] at he
        obtain ⟨es, c, hge, rfl, he⟩ := he
        obtain ⟨es', g3, R⟩ := H.ents hm hge
        have hgm := run_getObj (P := P) g3 notCells_map
        split at he
        · rename_i k x b'
          simp only [guardB_some, Nat.beq_eq, rOk_some, Prod.mk.injEq] at he
          obtain ⟨rfl, rfl, rfl⟩ := he
          obtain ⟨en, e0⟩ : ∃ en, es' = #[en] := by
            have := R.length
            simp at this
            exact Array.size_eq_one_iff.1 this.symm
          subst e0
          have rk := R.k; have rv := R.v; have rb := R.b
          simp at rk rv rb
          subst rb
          have s0 : seen' = #[en.born] := by apply Array.toList_inj.1; rw [hs]
          subst s0
          cases rk with
          | cons _ _ _ _ rk _ => cases rv with
            | cons _ _ _ _ rv _ =>
              refine .pure H (u := .tuple #[en.key, en.val]) ?_ (.tup _ _ (.cons _ _ _ _ rk (.single rv)))
              simp [Instr.entry, gob, hgm]
        · cases he
    · cases he

theorem lenA_ok (T : TiOk P ti) {at1 : Array TypeId} {ty' : TypeId} {t : TypeId} {x v : AV} {u : Value} (H : HRel ρ w0 φ h w) (hx : VRel ρ φ x u) (h0 : at1[0]? = some t) (he : lenA ti t x h = some (v, h')) : ValOk P ρ w0 (Builtin.len_ at1 ty' #[u]) φ w h v h' := by
  simp only [lenA, ob_some] at he
  obtain ⟨ty, h1, he⟩ := he
  have R := T _ _ h1
  split at he
  · rename_i hk
    have k1 := R.str hk
    simp only [onStr_some, rOk_some, Prod.mk.injEq, len_eq] at he
    obtain ⟨s, rfl, rfl, rfl⟩ := he
    cases hx with
    | str s =>
      refine .pure H (u := goInt s.size) ?_ ?_
      · simp [Builtin.len_, h0, run_un k1]
      · have : (s.data.toList.map UInt8.toNat).length = s.size := by simp
        rw [this]; exact .int _ _
  · rename_i e hk
    have k1 := R.slice hk
    simp only [onSlice_some, rOk_some, Prod.mk.injEq] at he
    rcases he with ⟨rfl, rfl, rfl⟩ | ⟨b, o, n, c, ex, es, rfl, rfl, rfl⟩
    · cases hx
      exact .pure H (u := goInt 0) (by simp [Builtin.len_, h0, run_un k1]) (.int _ _)
    · cases hx
      exact .pure H (u := goInt n) (by simp [Builtin.len_, h0, run_un k1]) (.int _ _)
  · rename_i kt e hk
    have k1 := R.map hk
    simp only [onMapV_some, rOk_some, Prod.mk.injEq, entsOf_some, len_eq] at he
    rcases he with ⟨rfl, rfl, rfl⟩ | ⟨m, rfl, es, c, hg, rfl, rfl⟩
    · cases hx
      exact .pure H (u := goInt 0) (by simp [Builtin.len_, h0, run_un k1]) (.int _ _)
    · cases hx with
      | map _ blk sz hb =>
        obtain ⟨es', g1, R⟩ := H.ents hb hg
        refine .pure H (u := goInt es'.size) ?_ ?_
        · simp [Builtin.len_, h0, run_un k1, run_getObj g1 notCells_map]
        · rw [R.length]; exact .int _ _
  · rename_i n e hk
    have k1 := R.array hk
    simp only [rOk_some, Prod.mk.injEq] at he
    obtain ⟨rfl, rfl⟩ := he
    exact .pure H (u := goInt n) (by simp [Builtin.len_, h0, run_un k1]) (.int _ _)
  · rename_i a hk
    have k1 := R.ptr hk
    simp only [ob_some, kArr_some, rOk_some, Prod.mk.injEq] at he
    obtain ⟨ta, h2, n, e, hka, rfl, rfl⟩ := he
    have k2 := (T _ _ h2).array hka
    exact .pure H (u := goInt n) (by simp [Builtin.len_, h0, run_un k1, run_un k2]) (.int _ _)
  · cases he

theorem capA_ok (T : TiOk P ti) {at1 : Array TypeId} {ty' : TypeId} {t : TypeId} {x v : AV} {u : Value} (H : HRel ρ w0 φ h w) (hx : VRel ρ φ x u) (h0 : at1[0]? = some t) (he : capA ti t x h = some (v, h')) : ValOk P ρ w0 (Builtin.cap_ at1 ty' #[u]) φ w h v h' := by
  simp only [capA, ob_some, guardB_some] at he
  obtain ⟨ty, h1, hk, he⟩ := he
  have R := T _ _ h1
  obtain ⟨e, hk'⟩ : ∃ e, ty.k = .slice e := by cases hty : ty.k <;> rw [hty] at hk <;> first | exact ⟨_, rfl⟩ | cases hk
  have k1 := R.slice hk'
  simp only [onSlice_some, rOk_some, Prod.mk.injEq, guardB_some] at he
  rcases he with ⟨rfl, rfl, rfl⟩ | ⟨b, o, n, c, ex, es, rfl, hex, rfl, rfl⟩
  · cases hx
    exact .pure H (u := goInt 0) (by simp [Builtin.cap_, h0, run_un k1]) (.int _ _)
  · cases hx with
    | slice _ _ _ _ _ _ blk sz off cc hb q1 q2 q3 q4 q5 =>
      have := q2 hex
      subst this
      exact .pure H (u := goInt cc) (by simp [Builtin.cap_, h0, run_un k1]) (.int _ _)
end
end Go.AI
set_option linter.unusedVariables false
set_option linter.unusedSimpArgs false
namespace Go.AI
section
variable {P : Program} {ρ : Env} {φ : Phi} {w0 w : World} {h h' : AHeap} {ti : Nat → Option ATy} {bd : Bnd}

theorem run_loadCells_zero (a : Addr) (w : World) : (loadCells a 0).run P w = .ok #[] w := by
  have := run_loadCells_list (P := P) w a [] (fun j v hj => by simp at hj)
  simpa using this

theorem growBy_le (need : Nat) : ∀ r c, c ≤ 2 * need + 1000 → Builtin.growBy need r c ≤ 2 * need + 1000
  | 0, c, h => h
  | r + 1, c, h => by
    unfold Builtin.growBy
    split
    · exact h
    · exact growBy_le need r _ (by omega)

theorem nextslicecap_le {need old : Nat} (h : old < need) : Builtin.nextslicecap need old ≤ 2 * need + 1000 := by
  unfold Builtin.nextslicecap
  split
  · omega
  · split
    · omega
    · exact growBy_le need 4 old (by omega)


/-- what an append adds, in the model -/
def NewOk (P : Program) (w : World) (at1 : Array TypeId) (x : Value) (e : TypeId) (size n : Nat) (z : Value) (arr : Array Value) : Prop :=
  ∃ t1 d1, at1[1]? = some t1 ∧ P.underlying t1 = some d1 ∧
    ((((∃ e', d1 = .slice e') ∨ d1 = .string) ∧ (∀ w', (Builtin.lenOf x).run P w' = .ok n w') ∧ (∀ w', w'.heap = w.heap → (Builtin.firstCells size n x).run P w' = .ok arr w'))
     ∨ ((∃ k, d1 = .int k) ∧ (∃ k, x = .int k (n : Int)) ∧ arr = Builtin.zeroCells z.cells n))

theorem zeroCells_nil {z : Array Value} {n size : Nat} (h : z.size = size) (h0 : n * size = 0) : Builtin.zeroCells z n = #[] := by
  subst h; simp [Builtin.zeroCells, h0]

theorem append_in {at1 : Array TypeId} {ty t0 e : TypeId} {ii : TypeInfo} {x : Value} {size n : Nat} {base : Option Addr} {sLen sCap : Nat} {z : Value} {arr : Array Value} {w' : World}
   (h0 : at1[0]? = some t0) (u0 : P.underlying t0 = some (.slice e)) (hs : ∀ w, (sizeOf e).run P w = .ok size w) (hi : P.info? e = some ii) (hi2 : ii.bytes ≤ 65536)
   (hz : ∀ w, (zeroValue e).run P w = .ok z w) (hzs : z.cells.size = size)
   (hneed : n ≤ 1073741824) (hx : NewOk P w at1 x e size n z arr) (c : sLen + n ≤ sCap)
   (hb : (base = none ∧ w' = w) ∨ ∃ a, base = some a ∧ (storeCells (a.add (sLen * size)) arr.toList 0).run P w = .ok () w') :
   (Builtin.append_ at1 ty #[.slice base sLen sCap, x]).run P w = .ok (.slice base (sLen + n) sCap) w' := by
  obtain ⟨t1, d1, h1, u1, ⟨hd, hl, hf⟩ | ⟨⟨k, rfl⟩, ⟨k', rfl⟩, rfl⟩⟩ := hx
  · rcases hd with ⟨e', rfl⟩ | rfl
    all_goals
      simp only [Builtin.append_, h0, h1, List.getElem?_toArray, List.getElem?_cons_zero, List.getElem?_cons_succ, Sem.run_bind, run_un u0, run_un u1, Result.andThen_ok, hs, Sem.run_pure, hl, Bool.false_eq_true, if_false, Bool.not_false, if_true]
      rw [if_pos c]
      simp only [Sem.run_bind, hf w rfl, Result.andThen_ok]
      rcases hb with ⟨rfl, rfl⟩ | ⟨a, rfl, hb⟩
      · rfl
      · simp only [Sem.run_bind, hb, Result.andThen_ok, Sem.run_pure]
  · have w1 : IntKind.i64.wrap (n : Int) = (n : Int) := wrap_of_kin (by rw [kin_iff]; simp [klo, khi]; omega)
    have w2 : ¬ ((n : Int) < 0) := by omega
    have w3 : ¬ ((n : Int) * (ii.bytes : Int) > 2 ^ 48) := by
      have : n * ii.bytes ≤ 1073741824 * 65536 := Nat.mul_le_mul (by omega) hi2
      have : ((n : Int) * (ii.bytes : Int)) = ((n * ii.bytes : Nat) : Int) := by simp
      rw [this]; omega
    simp only [Builtin.append_, h0, h1, List.getElem?_toArray, List.getElem?_cons_zero, List.getElem?_cons_succ, Sem.run_bind, run_un u0, run_un u1, Result.andThen_ok, hs, Sem.run_pure, if_true, asInt, asIntOf, w1, w2, if_false, run_ti hi, w3, Int.toNat_natCast, Bool.not_true, Bool.false_eq_true]
    rw [if_pos c]
    by_cases hn0 : n * size = 0
    · rw [zeroCells_nil hzs hn0] at hb
      simp only [Sem.run_bind, hn0, if_true, Sem.run_pure, Result.andThen_ok]
      rcases hb with ⟨rfl, rfl⟩ | ⟨a, rfl, hb⟩
      · rfl
      · simp only [Sem.run_bind, hb, Result.andThen_ok, Sem.run_pure]
    · simp only [Sem.run_bind, hn0, if_false, hz, Sem.run_pure, Result.andThen_ok]
      rcases hb with ⟨rfl, rfl⟩ | ⟨a, rfl, hb⟩
      · rfl
      · simp only [Sem.run_bind, hb, Result.andThen_ok, Sem.run_pure]

theorem append_new {at1 : Array TypeId} {ty t0 e : TypeId} {ii : TypeInfo} {x : Value} {size n : Nat} {base : Option Addr} {sLen sCap : Nat} {z : Value} {arr old : Array Value} {cap : Nat} {w1 : World}
   (h0 : at1[0]? = some t0) (u0 : P.underlying t0 = some (.slice e)) (hs : ∀ w, (sizeOf e).run P w = .ok size w) (hi : P.info? e = some ii) (hi1 : 1 ≤ ii.bytes) (hi2 : ii.bytes ≤ 65536)
   (hz : ∀ w, (zeroValue e).run P w = .ok z w) (hzs : z.cells.size = size)
   (hneed : sLen + n ≤ 1073741824) (hx : NewOk P w at1 x e size n z arr) (c : ¬ sLen + n ≤ sCap)
   (hcap : (choose (.appendCap (sLen + n) sCap e)).run P w = .ok cap w1) (hw1 : w1.heap = w.heap)
   (hold : (Builtin.firstCells size sLen (.slice base sLen sCap)).run P w1 = .ok old w1) :
   (Builtin.append_ at1 ty #[.slice base sLen sCap, x]).run P w = .ok (.slice (some ⟨w.heap.size, 0, none⟩) (sLen + n) cap) (wnew w1 (.cells (old ++ arr ++ Builtin.zeroCells z.cells (cap - (sLen + n))) e)) := by
  have b1 := nextslicecap_le (need := sLen + n) (old := sCap) (by omega)
  have b2 : Builtin.nextslicecap (sLen + n) sCap * ii.bytes ≤ (2 * 1073741824 + 1000) * 65536 := Nat.mul_le_mul (by omega) hi2
  have b3 : ¬ (Builtin.nextslicecap (sLen + n) sCap * ii.bytes > 2 ^ 48) := by omega
  have bm : ¬ (((sLen + n : Nat) : Int) > IntKind.i64.max) := by
    have : IntKind.i64.max = 9223372036854775807 := by decide
    rw [this]; omega
  obtain ⟨t1, d1, h1, u1, ⟨hd, hl, hf⟩ | ⟨⟨k, rfl⟩, ⟨k', rfl⟩, rfl⟩⟩ := hx
  · rcases hd with ⟨e', rfl⟩ | rfl
    all_goals
      simp only [Builtin.append_, h0, h1, List.getElem?_toArray, List.getElem?_cons_zero, List.getElem?_cons_succ, Sem.run_bind, run_un u0, run_un u1, Result.andThen_ok, hs, Sem.run_pure, hl, Bool.false_eq_true, if_false, Bool.not_false, if_true]
      rw [if_neg c]
      simp only [Sem.run_bind, run_ti hi, Result.andThen_ok, b3, bm, false_and, if_false, hcap, run_askRoom, hold, hf w1 hw1, hz, Sem.run_pure, run_newRow, hw1]
  · have w1' : IntKind.i64.wrap (n : Int) = (n : Int) := wrap_of_kin (by rw [kin_iff]; simp [klo, khi]; omega)
    have w2 : ¬ ((n : Int) < 0) := by omega
    have w3 : ¬ ((n : Int) * (ii.bytes : Int) > 2 ^ 48) := by
      have : n * ii.bytes ≤ 1073741824 * 65536 := Nat.mul_le_mul (by omega) hi2
      have : ((n : Int) * (ii.bytes : Int)) = ((n * ii.bytes : Nat) : Int) := by simp
      rw [this]; omega
    simp only [Builtin.append_, h0, h1, List.getElem?_toArray, List.getElem?_cons_zero, List.getElem?_cons_succ, Sem.run_bind, run_un u0, run_un u1, Result.andThen_ok, hs, Sem.run_pure, if_true, asInt, asIntOf, w1', w2, if_false, run_ti hi, w3, Int.toNat_natCast, Bool.not_true, Bool.false_eq_true]
    rw [if_neg c]
    by_cases hn0 : n * size = 0
    · rw [zeroCells_nil hzs hn0]
      simp only [Sem.run_bind, run_ti hi, Result.andThen_ok, b3, bm, false_and, if_false, hcap, run_askRoom, hold, hn0, if_true, hz, Sem.run_pure, run_newRow, hw1]
    · simp only [Sem.run_bind, run_ti hi, Result.andThen_ok, b3, bm, false_and, if_false, hcap, run_askRoom, hold, hn0, if_true, hz, Sem.run_pure, run_newRow, hw1]

theorem zeroCells_rel {z : Value} {te : ATy} (hz : VsRel ρ φ te.zero z.cells.toList) (n : Nat) : VsRel ρ φ (replA n te.zero) (Builtin.zeroCells z.cells n).toList := rep_rel hz n

theorem run_firstCells_str (s : ByteArray) (w : World) : (Builtin.firstCells 1 s.size (.string s)).run P w = .ok (s.data.map fun b => .int .u8 b.toNat) w := by
  simp only [Builtin.firstCells, Sem.run_pure]
  have : s.extract 0 s.size = s := ByteArray.extract_zero_size
  rw [this]

theorem newOf_ok (T : TiOk P ti) {at1 : Array TypeId} {t1 e : TypeId} {te : ATy} {β : Type} {x : AV} {u : Value} {K : Nat → List AV → Option β} {r : β} (H : HRel ρ w0 φ h w) (hx : VRel ρ φ x u)
    (h1 : at1[1]? = some t1) (R : TyRel P e te) {z : Value} (hz : VsRel ρ φ te.zero z.cells.toList) (hzs : z.cells.size = te.size) (he : newOf ti te t1 x h K = some r) :
    ∃ n new arr, K n new = some r ∧ NewOk P w at1 u e te.size n z arr ∧ VsRel ρ φ new arr.toList ∧ (∀ v ∈ new, v.flat = true) ∧ arr.size = n * te.size ∧ (n = 0 → arr = #[]) := by
  simp only [newOf, ob_some] at he
  obtain ⟨a1, h2, he⟩ := he
  have R1 := T _ _ h2
  split at he
  · -- nothing
    simp only [guardB_some] at he
    obtain ⟨hk, he⟩ := he
    obtain ⟨e', hk'⟩ : ∃ e, a1.k = .slice e := by cases hty : a1.k <;> rw [hty] at hk <;> first | exact ⟨_, rfl⟩ | cases hk
    cases hx
    refine ⟨0, [], #[], he, ⟨t1, _, h1, R1.slice hk', .inl ⟨.inl ⟨e', rfl⟩, fun _ => rfl, fun _ _ => rfl⟩⟩, .nil, fun v hv => by (cases hv), by simp, fun _ => rfl⟩
  · rename_i b o n c1 c2 es
    simp only [guardB_some, Bool.and_eq_true, Nat.beq_eq, loadN_some] at he
    obtain ⟨⟨hk, rfl⟩, l, hg, hn, he⟩ := he
    obtain ⟨e', hk'⟩ : ∃ e, a1.k = .slice e := by cases hty : a1.k <;> rw [hty] at hk <;> first | exact ⟨_, rfl⟩ | cases hk
    cases hx with
    | slice _ _ _ _ _ _ blk sz off c hb q1 q2 q3 q4 q5 =>
      by_cases h0 : n * te.size = 0
      · have h0' : n.mul te.size = 0 := h0
        rw [h0'] at he
        refine ⟨n, _, #[], he, ⟨t1, _, h1, R1.slice hk', .inl ⟨.inl ⟨e', rfl⟩, fun _ => rfl, fun w' _ => ?_⟩⟩, ?_, fun v hv => ?_, by simp [h0], fun _ => rfl⟩
        · simp only [Builtin.firstCells, h0]; exact run_loadCells_zero _ _
        · simp; exact .nil
        · simp at hv
      · have hn0 : n ≠ 0 := by rintro rfl; simp at h0
        have hoff : off = o := by rcases q4 with h | h; omega; exact h
        subst hoff
        obtain ⟨a, k1, k2, k3, k4⟩ := H.loadN (P := P) hb hg hn (fun e => absurd e h0)
        refine ⟨n, _, a, he, ⟨t1, _, h1, R1.slice hk', .inl ⟨.inl ⟨e', rfl⟩, fun _ => rfl, fun w' hw' => ?_⟩⟩, k2, k3, k4, fun e => absurd e hn0⟩
        obtain ⟨a', k1', _⟩ := (H.heap_eq' hw').loadN (P := P) hb hg hn (fun e => absurd e h0)
        obtain ⟨c, e, lo, hi, g1, g2, g3, g4, g5, g6⟩ := H.cells hb hg
        have hle : off + n * te.size ≤ c.size := by simp at hn; have : n.mul te.size = n * te.size := rfl; omega
        have e1 := run_loadCells_row P w blk c e (lo, hi) g1 off (n * te.size) hle
        have e2 := run_loadCells_row P w' blk c e (lo, hi) (by rw [hw']; exact g1) off (n * te.size) hle
        have k1 : (loadCells ⟨blk, off, none⟩ (n * te.size)).run P w = .ok a w := k1
        rw [e1] at k1
        simp only [Result.ok.injEq, and_true] at k1
        subst k1
        exact e2
  · rename_i l
    simp only [guardB_some, Bool.and_eq_true, Nat.beq_eq] at he
    obtain ⟨⟨hk, hs⟩, he⟩ := he
    have hk' : a1.k = .str := by cases hty : a1.k <;> rw [hty] at hk <;> first | rfl | cases hk
    cases hx with
    | str s =>
      have hsz : (s.data.toList.map UInt8.toNat).length = s.size := by simp
      rw [len_eq, hsz] at he
      refine ⟨s.size, _, s.data.map fun b => .int .u8 b.toNat, he, ⟨t1, _, h1, R1.str hk', .inl ⟨.inr rfl, fun _ => rfl, fun w' _ => ?_⟩⟩, ?_, ofBytes_flat _, by simp [hs], fun h => ?_⟩
      · rw [hs]; exact run_firstCells_str s w'
      · rw [Array.toList_map]; exact ofBytes_rel _
      · apply Array.eq_empty_of_size_eq_zero; rw [Array.size_map]; exact h
  · simp only [guardB_some, intNat_some, Nat.ble_eq] at he
    obtain ⟨hk, n, rfl, hn, he⟩ := he
    obtain ⟨k, hk'⟩ : ∃ k, a1.k = .int k := by cases hty : a1.k <;> rw [hty] at hk <;> first | exact ⟨_, rfl⟩ | cases hk
    cases hx
    refine ⟨n, _, Builtin.zeroCells z.cells n, he, ⟨t1, _, h1, R1.int hk', .inr ⟨⟨k, rfl⟩, ⟨_, rfl⟩, rfl⟩⟩, zeroCells_rel hz n, rep_flat R.zflat n, by simp [Builtin.zeroCells, hzs], fun h => ?_⟩
    subst h; exact zeroCells_nil rfl (by simp)
  · cases he

theorem wput_heap_size (w : World) (b : Nat) (o : Obj) : (wput w b o).heap.size = w.heap.size := by simp [wput]

theorem appNil_ok {at1 : Array TypeId} {ty t0 e : TypeId} {te : ATy} {x : Value} {n : Nat} {z : Value} {new : List AV} {arr : Array Value} {v : AV} (H : HRel ρ w0 φ h w)
    (h0 : at1[0]? = some t0) (u0 : P.underlying t0 = some (.slice e)) (R : TyRel P e te) (hb1 : 1 ≤ te.bytes) (hb2 : te.bytes ≤ 65536)
    (hz : ∀ w, (zeroValue e).run P w = .ok z w) (hzs : z.cells.size = te.size) (hx : NewOk P w at1 x e te.size n z arr) (hv : VsRel ρ φ new arr.toList) (hf : ∀ v ∈ new, v.flat = true)
    (ha : arr.size = n * te.size) (he : appNil te n new h = some (v, h')) : ValOk P ρ w0 (Builtin.append_ at1 ty #[.slice none 0 0, x]) φ w h v h' := by
  obtain ⟨ii, i1, i2⟩ := R.run_bytes
  simp only [appNil] at he
  cases hc : Nat.beq n 0 with
  | true =>
    rw [hc] at he; simp only [sel_true, rOk_some, Prod.mk.injEq] at he
    obtain ⟨rfl, rfl⟩ := he
    have : n = 0 := by simpa using hc
    subst this
    exact .pure H (append_in h0 u0 (fun _ => R.run_size _) i1 (by omega) hz hzs (by omega) hx (by omega) (.inl ⟨rfl, rfl⟩)) .nils
  | false =>
    rw [hc] at he; simp only [sel_false, guardB_some, Nat.ble_eq, new_some, rOk_some, Prod.mk.injEq] at he
    obtain ⟨hn, hN, rfl, rfl⟩ := he
    have hn' : n ≤ 1073741824 := hn
    have : n ≠ 0 := by intro e; subst e; simp at hc
    obtain ⟨cap, w1, hcap, hw1, hw2, hle⟩ : ∃ cap w1, (choose (.appendCap (0 + n) 0 e)).run P w = .ok cap w1 ∧ w1.heap = w.heap ∧ (w1.os = w.os ∧ w1.output = w.output ∧ w1.tape = w.tape) ∧ n ≤ cap := by
      rw [run_choose]
      exact ⟨_, _, rfl, rfl, ⟨rfl, rfl, rfl⟩, by simp [Question.cut]⟩
    have hrun := append_new (ty := ty) (base := none) (old := #[]) h0 u0 (fun _ => R.run_size _) i1 (by omega) (by omega) hz hzs (by omega) hx (by omega) hcap hw1 rfl
    generalize hd : (#[] ++ arr ++ Builtin.zeroCells z.cells (cap - (0 + n))) = d at hrun
    have hds : d.size = cap * te.size := by
      rw [← hd]; simp [ha, Builtin.zeroCells, hzs]
      rw [← Nat.add_mul]; congr 1; omega
    have H1 := H.heap_eq hw1 hw2
    have hrel : new.length ≤ d.size ∧ VsRel ρ φ new (d.toList.take new.length) := by
      have hl := hv.length
      rw [← hd]; simp
      refine ⟨by simp at hl; omega, ?_⟩
      rw [hl, Array.length_toList]
      simp; exact hv
    have hnew := H1.newCells hN e hrel.1 hrel.2 hf
    refine ⟨_, _, .slice (some ⟨w.heap.size, 0, none⟩) (0 + n) cap, hrun, ?_, H1.grow rfl rfl, hnew⟩
    rw [Nat.zero_add, hw1]
    exact .slice _ 0 n n false te.size _ d.size 0 cap (Phi.ext_self _ _ _ _) hle (by simp) (Nat.le_refl _) (.inr rfl) (by omega)

theorem appSl_ok {at1 : Array TypeId} {ty t0 e : TypeId} {te : ATy} {x : Value} {n : Nat} {z : Value} {new : List AV} {arr : Array Value} {v : AV} {b o ln cap es blk sz off c : Nat} {ex : Bool} (H : HRel ρ w0 φ h w)
    (h0 : at1[0]? = some t0) (u0 : P.underlying t0 = some (.slice e)) (R : TyRel P e te) (hs1 : 1 ≤ te.size) (hb1 : 1 ≤ te.bytes) (hb2 : te.bytes ≤ 65536)
    (hz : ∀ w, (zeroValue e).run P w = .ok z w) (hzs : z.cells.size = te.size) (hx : NewOk P w at1 x e te.size n z arr) (hv : VsRel ρ φ new arr.toList) (hf : ∀ v ∈ new, v.flat = true)
    (ha : arr.size = n * te.size) (ha0 : n = 0 → arr = #[]) 
    (hb : φ b = some (blk, sz)) (q1 : cap ≤ c) (q2 : ex = true → c = cap) (q3 : ln ≤ cap) (q4 : c = 0 ∨ off = o) (q5 : o + c * es ≤ sz)
    (he : appSl te n new h b o ln cap ex es = some (v, h')) : ValOk P ρ w0 (Builtin.append_ at1 ty #[.slice (some ⟨blk, off, none⟩) ln c, x]) φ w h v h' := by
  obtain ⟨ii, i1, i2⟩ := R.run_bytes
  have hlen : new.length = n * te.size := by have := hv.length; simp at this; omega
  simp only [appSl, guardB_some, Nat.beq_eq] at he
  obtain ⟨rfl, he⟩ := he
  cases hc : Nat.beq n 0 with
  | true =>
    rw [hc] at he; simp only [sel_true, rOk_some, Prod.mk.injEq] at he
    obtain ⟨rfl, rfl⟩ := he
    have : n = 0 := by simpa using hc
    subst this
    have := ha0 rfl
    subst this
    exact .pure H (append_in (base := some ⟨blk, off, none⟩) h0 u0 (fun _ => R.run_size _) i1 (by omega) hz hzs (by omega) hx (by omega) (.inr ⟨_, rfl, rfl⟩)) (.slice _ _ _ _ _ _ _ _ _ _ hb q1 q2 q3 q4 q5)
  | false =>
    rw [hc] at he; simp only [sel_false, guardB_some, Nat.ble_eq] at he
    obtain ⟨hn, he⟩ := he
    have hn' : ln + n ≤ 1073741824 := hn
    have hn0 : n ≠ 0 := by intro e; subst e; simp at hc
    cases hcap : Nat.ble (Nat.add ln n) cap with
    | true =>
      rw [hcap] at he; simp only [sel_true, storeN_some, rOk_some, Prod.mk.injEq] at he
      obtain ⟨l, hg, hle, rfl, rfl⟩ := he
      have hcap' : ln + n ≤ cap := by simpa using hcap
      have hoff : off = o := by rcases q4 with h | h; omega; exact h
      subst hoff
      obtain ⟨w', s1, s2⟩ := H.storeN (P := P) hb hg hle hv hf
      have hrun := append_in (ty := ty) (base := some ⟨blk, off, none⟩) (sLen := ln) (sCap := c) (w' := w') h0 u0 (fun _ => R.run_size _) i1 (by omega) hz hzs (by omega) hx (by omega) (.inr ⟨_, rfl, by rw [add_none]; exact s1⟩)
      exact ⟨_, _, _, hrun, .slice _ _ _ _ _ _ _ _ _ _ hb q1 q2 hcap' (.inr rfl) q5, .same rfl, s2⟩
    | false =>
      rw [hcap] at he; simp only [sel_false, loadN_some] at he
      obtain ⟨l, hg, hle, he⟩ := he
      have hcap' : ¬ ln + n ≤ cap := by
        intro h
        have : Nat.ble (Nat.add ln n) cap = true := by rw [Nat.ble_eq]; exact h
        rw [this] at hcap; cases hcap
      have hle' : ln * te.size ≤ (l.drop o).length := hle
      -- the old cells
      obtain ⟨cc, e', lo, hi, g1, g2, g3, g4, g5, g6⟩ := H.cells hb hg
      have holdr : ∀ w1 : World, w1.heap = w.heap → ∃ old, (Builtin.firstCells te.size ln (.slice (some ⟨blk, off, none⟩) ln c)).run P w1 = .ok old w1 ∧ VsRel ρ φ ((l.drop o).take (ln * te.size)) old.toList ∧ old.size = ln * te.size := by
        intro w1 hw1
        by_cases hz0 : ln * te.size = 0
        · refine ⟨#[], ?_, by rw [hz0]; simp; exact .nil, by simp [hz0]⟩
          simp only [Builtin.firstCells, hz0]; exact run_loadCells_zero _ _
        · have hln : ln ≠ 0 := by rintro rfl; simp at hz0
          have hoff : off = o := by rcases q4 with h | h; omega; exact h
          subst hoff
          obtain ⟨a, k1, k2, k3, k4⟩ := (H.heap_eq' hw1).loadN (P := P) hb hg hle' (fun e => absurd e hz0)
          exact ⟨a, k1, k2, k4⟩
      have hnewb : c < ln + n → ∀ hh : AHeap, HRel ρ w0 φ hh w → True → hh.next = h.next → ∀ vv, vv = AV.slice hh.next 0 (ln + n) (ln + n) false te.size →
          ValOk P ρ w0 (Builtin.append_ at1 ty #[.slice (some ⟨blk, off, none⟩) ln c, x]) φ w h vv (hh.newH (.cells (appL ((l.drop o).take (ln * te.size)) new))) := by
        intro hlt hh HH hN hNe vv hvv
        obtain ⟨ncap, w1, hcap, hw1, hw2, hle⟩ : ∃ cap w1, (choose (.appendCap (ln + n) c e)).run P w = .ok cap w1 ∧ w1.heap = w.heap ∧ (w1.os = w.os ∧ w1.output = w.output ∧ w1.tape = w.tape) ∧ ln + n ≤ cap := by
          rw [run_choose]
          exact ⟨_, _, rfl, rfl, ⟨rfl, rfl, rfl⟩, by simp [Question.cut]⟩
        obtain ⟨old, hold, hor, hos⟩ := holdr w1 hw1
        have hrun := append_new (ty := ty) (base := some ⟨blk, off, none⟩) h0 u0 (fun _ => R.run_size _) i1 (by omega) (by omega) hz hzs hn' hx (by omega) hcap hw1 hold
        generalize hd : (old ++ arr ++ Builtin.zeroCells z.cells (ncap - (ln + n))) = d at hrun
        have hds : d.size = ncap * te.size := by
          rw [← hd]; simp [ha, hos, Builtin.zeroCells, hzs]
          rw [← Nat.add_mul, ← Nat.add_mul]; congr 1; omega
        have H1 := HH.heap_eq hw1 hw2
        have hrel2 := hor.append hv
        have hll : ((l.drop o).take (ln * te.size) ++ new).length = ln * te.size + n * te.size := by have := hrel2.length; simp only [List.length_append, Array.length_toList] at this ⊢; omega
        have hrel : VsRel ρ φ ((l.drop o).take (ln * te.size) ++ new) (d.toList.take ((l.drop o).take (ln * te.size) ++ new).length) := by
          rw [hll, ← hd]
          have e1 : (old ++ arr ++ Builtin.zeroCells z.cells (ncap - (ln + n))).toList = (old.toList ++ arr.toList) ++ (Builtin.zeroCells z.cells (ncap - (ln + n))).toList := by simp
          have e2 : ln * te.size + n * te.size = (old.toList ++ arr.toList).length := by simp; omega
          rw [e1, e2, List.take_left]; exact hrel2
        have hlen2 : ((l.drop o).take (ln * te.size) ++ new).length ≤ d.size := by rw [hll, hds, ← Nat.add_mul]; exact Nat.mul_le_mul_right _ hle
        rw [appL_eq]
        have hnew := H1.newCells hN e hlen2 hrel (fun v hv => by
          rcases List.mem_append.1 hv with hv | hv
          · exact flat_take (flat_drop g5 o) _ v hv
          · exact hf v hv)
        refine ⟨_, _, .slice (some ⟨w.heap.size, 0, none⟩) (ln + n) ncap, hrun, ?_, H1.grow hNe (congrArg (· + 1) hNe), hnew⟩
        rw [hvv, ← hw1]
        exact .slice _ 0 _ _ false te.size _ d.size 0 ncap (Phi.ext_self _ _ _ _) hle (by simp) (Nat.le_refl _) (.inr rfl) (by omega)
      cases hex : ex with
      | true =>
        rw [hex] at he; simp only [sel_true, new_some, rOk_some, Prod.mk.injEq] at he
        obtain ⟨hN, rfl, rfl⟩ := he
        have := q2 hex
        exact hnewb (by omega) h H hN rfl _ rfl
      | false =>
        rw [hex] at he; simp only [sel_false, guardB_some, Nat.beq_eq, new_some, rOk_some, Prod.mk.injEq] at he
        obtain ⟨rfl, hN, rfl, rfl⟩ := he
        by_cases hlt : c < ln + n
        · exact hnewb hlt _ (H.kill hb) hN rfl _ rfl
        · -- it goes in place, under a new name
          have hoff : off = 0 := by rcases q4 with h | h; omega; exact h
          subst hoff
          simp only [List.drop_zero] at hle' holdr ⊢
          have g3' : ln * te.size ≤ l.length := hle'
          have hmul : ln * te.size + n * te.size = (ln + n) * te.size := by rw [Nat.add_mul]
          have hcs : (ln + n) * te.size ≤ c * te.size := Nat.mul_le_mul_right _ (by omega)
          have hus := (hv.one hf)
          have hrs := run_storeCells_row P blk (ln * te.size) e' lo hi arr.toList 0 cc w g1 (by simp; omega) (fun k hk => g6 k (by omega)) hus
          have hrun := append_in (ty := ty) (base := some ⟨blk, 0, none⟩) (sLen := ln) (sCap := c) h0 u0 (fun _ => R.run_size _) i1 (by omega) hz hzs (by omega) hx (by omega) (.inr ⟨_, rfl, by rw [add_none, Nat.zero_add]; exact hrs⟩)
          have hor : VsRel ρ φ (l.take (ln * te.size)) (cc.toList.take (ln * te.size)) := by
            have := g4.take (ln * te.size)
            rwa [List.take_take, show min (ln * te.size) l.length = ln * te.size from by omega] at this
          have hrel2 := hor.append hv
          refine ⟨φ.ext h.next blk sz, _, _, hrun, ?_, H.grow rfl rfl, H.rename hg hb hN ?_⟩
          · exact .slice _ 0 _ _ false te.size _ sz 0 c (Phi.ext_self _ _ _ _) (by show ln + n ≤ c; omega) (by simp) (Nat.le_refl _) (.inr rfl) (by omega)
          · have hll : (List.take (ln * te.size) l ++ new).length = ln * te.size + n * te.size := by simp; omega
            rw [appL_eq]
            refine .cells _ _ _ _ _ ?_ ?_ ?_ ?_ g6
            · simp; omega
            · show (List.take (ln * te.size) l ++ new).length ≤ sz; rw [hll]; omega
            · show VsRel _ _ (List.take (ln * te.size) l ++ new) _
              have hll' : (List.take (Nat.mul ln te.size) l ++ new).length = ln * te.size + n * te.size := hll
              rw [hll']
              have e2 : ln * te.size + n * te.size = (cc.toList.take (ln * te.size) ++ arr.toList).length := by simp; omega
              simp only [Nat.add_zero]
              rw [e2, List.take_left]
              exact hrel2.mono (H.le_ext _ _)
            · intro v hv
              rcases List.mem_append.1 hv with hv | hv
              · exact flat_take g5 _ v hv
              · exact hf v hv

theorem appendA_ok (T : TiOk P ti) {at1 : Array TypeId} {ty t0 t1 : TypeId} {s x v : AV} {us ux : Value} (H : HRel ρ w0 φ h w) (hs : VRel ρ φ s us) (hx : VRel ρ φ x ux) (h0 : at1[0]? = some t0) (h1 : at1[1]? = some t1)
    (he : appendA ti t0 t1 s x h = some (v, h')) : ValOk P ρ w0 (Builtin.append_ at1 ty #[us, ux]) φ w h v h' := by
  simp only [appendA, ob_some, kSlice_some, guardB_some, Bool.and_eq_true, Nat.ble_eq] at he
  obtain ⟨a0, k0, e, hk, te, ke, ⟨hs1, hb1, hb2⟩, he⟩ := he
  have R := T _ _ ke
  have u0 := (T _ _ k0).slice hk
  obtain ⟨z, zv, z1, z2, z3, z4⟩ := R.run_zero w
  have hzz : ∀ w', (zeroValue e).run P w' = .ok z w' := by
    intro w'
    obtain ⟨ii, i1, _⟩ := R.run_bytes
    revert z1
    simp only [zeroValue, Sem.run_bind, run_ti i1, Result.andThen_ok]
    cases ii.zero with
    | none => intro h; cases h
    | some zz => simp only [Sem.run_pure, Result.ok.injEq, and_true]; exact id
  have zr := (ofValue_rel (ρ := ρ) (φ := φ) _ _ z2).cells
  rw [z3] at zr
  have zs : z.cells.size = te.size := by have a := zr.length; have b := R.zlen; simp at *; omega
  obtain ⟨n, new, arr, he', n1, n2, n3, n4, n5⟩ := newOf_ok T H hx h1 R zr zs he
  replace he := he'
  simp only [onSlice_some] at he
  rcases he with ⟨rfl, he⟩ | ⟨b, o, ln, cap, ex, es, rfl, he⟩
  · cases hs
    exact appNil_ok H h0 u0 R hb1 hb2 hzz zs n1 n2 n3 n4 he
  · cases hs with
    | slice _ _ _ _ _ _ blk sz off c hb q1 q2 q3 q4 q5 =>
      exact appSl_ok H h0 u0 R hs1 hb1 hb2 hzz zs n1 n2 n3 n4 n5 hb q1 q2 q3 q4 q5 he

theorem copyA_ok (T : TiOk P ti) {at1 : Array TypeId} {ty t0 : TypeId} {d x v : AV} {ud ux : Value} (H : HRel ρ w0 φ h w) (hd : VRel ρ φ d ud) (hx : VRel ρ φ x ux) (h0 : at1[0]? = some t0)
    (he : copyA ti t0 d x h = some (v, h')) : ValOk P ρ w0 (Builtin.copy_ at1 ty #[ud, ux]) φ w h v h' := by
  simp only [copyA, ob_some, kSlice_some, onSlice_some, guardB_some, Nat.beq_eq, reduceCtorEq, and_false, false_or] at he
  obtain ⟨a0, k0, e, hk, te, ke, b, o, n, cap, ex, es, rfl, rfl, he⟩ := he
  have R := T _ _ ke
  have u0 := (T _ _ k0).slice hk
  cases hd with
  | slice _ _ _ _ _ _ blk sz off c hb q1 q2 q3 q4 q5 =>
    rcases he with ⟨rfl, he⟩ | ⟨b', o', n', cap', ex', es', rfl, rfl, he⟩
    · simp only [rOk_some, Prod.mk.injEq] at he
      obtain ⟨rfl, rfl⟩ := he
      cases hx
      refine .pure H (u := goInt 0) ?_ (.int _ _)
      simp [Builtin.copy_, h0, run_un u0, Builtin.lenOf, R.run_size, Builtin.firstCells, storeCells]
    · cases hx with
      | slice _ _ _ _ _ _ blk' sz' off' c' hb' p1 p2 p3 p4 p5 =>
        have hmin : (sel (Nat.ble n' n) n' n) = Nat.min n' n := by
          cases hc : Nat.ble n' n with
          | true => have h : n' ≤ n := by simpa using hc
                    exact (Nat.min_eq_left h).symm
          | false => have h : ¬ n' ≤ n := by intro h; rw [← Nat.ble_eq] at h; rw [h] at hc; cases hc
                     exact (Nat.min_eq_right (by omega : n ≤ n')).symm
        rw [hmin] at he
        simp only [loadN_some, storeN_some, rOk_some, Prod.mk.injEq] at he
        obtain ⟨l, hg', hn', l2, hg, hn, rfl, rfl⟩ := he
        have hm1 : Nat.min n' n ≤ n' := Nat.min_le_left _ _
        have hm2 : Nat.min n' n ≤ n := Nat.min_le_right _ _
        generalize hm : Nat.min n' n = m at hn' hn hm1 hm2 ⊢
        by_cases hm0 : m * te.size = 0
        · have hm0' : m.mul te.size = 0 := hm0
          rw [hm0'] at hn hn' ⊢
          simp only [List.take_zero] at hn ⊢
          obtain ⟨w', s1, s2⟩ := H.storeN (P := P) (vs := []) (us := []) hb hg hn .nil (fun v hv => by cases hv)
          simp only [storeCells, Sem.run_pure, Result.ok.injEq, true_and] at s1
          subst s1
          refine ⟨φ, w, goInt m, ?_, .int _ _, .same rfl, s2⟩
          simp [Builtin.copy_, h0, run_un u0, Builtin.lenOf, R.run_size, Builtin.firstCells, storeCells, hm, hm0, run_loadCells_zero]
        · have hm00 : m ≠ 0 := by rintro rfl; simp at hm0
          have hoff : off = o := by rcases q4 with h | h; omega; exact h
          have hoff' : off' = o' := by rcases p4 with h | h; omega; exact h
          subst hoff; subst hoff'
          obtain ⟨a, k1, k2, k3, k4⟩ := H.loadN (P := P) hb' hg' hn' (fun e => absurd e hm0)
          obtain ⟨w', s1, s2⟩ := H.storeN (P := P) hb hg hn k2 k3
          refine ⟨φ, w', goInt m, ?_, .int _ _, .same rfl, s2⟩
          have k1' : (loadCells ⟨blk', off', none⟩ (m * te.size)).run P w = .ok a w := k1
          simp [Builtin.copy_, h0, run_un u0, Builtin.lenOf, R.run_size, Builtin.firstCells, hm, k1', s1]

theorem clearA_ok (T : TiOk P ti) {at1 : Array TypeId} {ty t0 : TypeId} {x v : AV} {ux : Value} (H : HRel ρ w0 φ h w) (hx : VRel ρ φ x ux) (h0 : at1[0]? = some t0)
    (he : clearA ti t0 x h = some (v, h')) : ValOk P ρ w0 (Builtin.clear_ at1 ty #[ux]) φ w h v h' := by
  simp only [clearA, ob_some, kSlice_some, onSlice_some] at he
  obtain ⟨a0, k0, e, hk, te, ke, he⟩ := he
  have R := T _ _ ke
  have u0 := (T _ _ k0).slice hk
  rcases he with ⟨rfl, he⟩ | ⟨b, o, n, cap, ex, es, rfl, he⟩
  · simp only [rOk_some, Prod.mk.injEq] at he
    obtain ⟨rfl, rfl⟩ := he
    cases hx
    exact .pure H (u := undef) (by simp [Builtin.clear_, h0, run_un u0]; rfl) undef_rel
  · cases hx with
    | slice _ _ _ _ _ _ blk sz off c hb q1 q2 q3 q4 q5 =>
      cases hc : Nat.beq n 0 with
      | true =>
        rw [hc] at he; simp only [sel_true, rOk_some, Prod.mk.injEq] at he
        obtain ⟨rfl, rfl⟩ := he
        have : n = 0 := by simpa using hc
        subst this
        exact .pure H (u := undef) (by simp [Builtin.clear_, h0, run_un u0]; rfl) undef_rel
      | false =>
        rw [hc] at he; simp only [sel_false, guardB_some, Nat.beq_eq, storeN_some, rOk_some, Prod.mk.injEq] at he
        obtain ⟨rfl, l, hg, hn, rfl, rfl⟩ := he
        have hn0 : n ≠ 0 := by intro e; subst e; simp at hc
        have hoff : off = o := by rcases q4 with h | h; omega; exact h
        subst hoff
        obtain ⟨z, z1, z2, z3⟩ := zero_cells (ρ := ρ) (φ := φ) R w
        obtain ⟨w', s1, s2⟩ := H.storeN (P := P) hb hg hn (zeroCells_rel z2 n) (rep_flat R.zflat n)
        refine ⟨φ, w', undef, ?_, undef_rel, .same rfl, s2⟩
        obtain ⟨m, rfl⟩ : ∃ m, n = m + 1 := ⟨n - 1, by omega⟩
        simp [Builtin.clear_, h0, run_un u0, z1, s1]; rfl

theorem max2_ok {x y v : AV} {ux uy : Value} (hx : VRel ρ φ x ux) (hy : VRel ρ φ y uy) (he : max2A x y = some v) : ∃ u, (∀ w, (Builtin.max2 ux uy).run P w = .ok u w) ∧ VRel ρ φ v u := by
  simp only [max2A, onInt_some, guardB_some, Option.some.injEq] at he
  obtain ⟨k, a, rfl, k', b, rfl, hk, rfl⟩ := he
  cases hx; cases hy
  refine ⟨_, fun w => rfl, ?_⟩
  by_cases hb : b > a
  · rw [if_pos hb, ilt_iff.2 hb]; exact .int _ _
  · rw [if_neg hb]
    cases hi : ilt a b with
    | true => exact absurd (ilt_iff.1 hi) hb
    | false => exact .int _ _

theorem min2_ok {x y v : AV} {ux uy : Value} (hx : VRel ρ φ x ux) (hy : VRel ρ φ y uy) (he : min2A x y = some v) : ∃ u, (∀ w, (Builtin.min2 ux uy).run P w = .ok u w) ∧ VRel ρ φ v u := by
  simp only [min2A, onInt_some, guardB_some, Option.some.injEq] at he
  obtain ⟨k, a, rfl, k', b, rfl, hk, rfl⟩ := he
  cases hx; cases hy
  refine ⟨_, fun w => rfl, ?_⟩
  by_cases hb : b < a
  · rw [if_pos hb, ilt_iff.2 hb]; exact .int _ _
  · rw [if_neg hb]
    cases hi : ilt b a with
    | true => exact absurd (ilt_iff.1 hi) hb
    | false => exact .int _ _

theorem foldA_ok {f : AV → AV → Option AV} {g : Value → Value → Sem Value}
    (hfg : ∀ {x y v : AV} {ux uy : Value}, VRel ρ φ x ux → VRel ρ φ y uy → f x y = some v → ∃ u, (∀ w, (g ux uy).run P w = .ok u w) ∧ VRel ρ φ v u) :
    ∀ {l : List AV} {m : List Value} {x v : AV} {ux : Value}, VsRel ρ φ l m → VRel ρ φ x ux → foldA f l x = some v → ∃ u, (∀ w, (m.foldlM g ux).run P w = .ok u w) ∧ VRel ρ φ v u := by
  intro l
  induction l with
  | nil =>
    intro m x v ux hl hx he
    cases hl
    cases he
    exact ⟨ux, fun w => rfl, hx⟩
  | cons y l ih =>
    intro m x v ux hl hx he
    cases hl with
    | cons _ u _ m hy hl =>
      have he : ob (f x y) (foldA f l) = some v := he
      simp only [ob_some] at he
      obtain ⟨r, hr, he⟩ := he
      obtain ⟨u1, h1, h2⟩ := hfg hx hy hr
      obtain ⟨u2, h3, h4⟩ := ih hl h2 he
      exact ⟨u2, fun w => by simp [h1, h3], h4⟩
end
end Go.AI
set_option linter.unusedVariables false
set_option linter.unusedSimpArgs false
namespace Go.AI
section
variable {P : Program} {ρ : Env} {φ : Phi} {w0 w : World} {h h' : AHeap} {ti : Nat → Option ATy} {bd : Bnd}

/-- the ending of a call that returns what is said -/
def RetOk (ρ : Env) (w0 : World) (φ : Phi) (h : AHeap) (v : AV) (h' : AHeap) : Ending → World → Prop
  | .returned u, w' => ∃ φ', Grow h h' φ φ' ∧ VRel ρ φ' v u ∧ HRel ρ w0 φ' h' w'
  | _, _ => False

/-- an operation's step: a value, or a call -/
def NextOk (P : Program) (ρ : Env) (w0 : World) (s : Sem Next) (φ : Phi) (w : World) (h : AHeap) (v : AV) (h' : AHeap) : Prop :=
  OpOk P ρ w0 s φ w h v h' ∨ (∃ f args w', s.run P w = .ok (.enter f args) w' ∧ Calls P f args w' (RetOk ρ w0 φ h v h')) ∨
    ∃ l fn tmps assign body w', s.run P w = .ok (.round l fn tmps assign body) w' ∧ RoundIn Fence.wide 0 P l fn tmps assign body w' (RetOk ρ w0 φ h v h')

/-- calls are the model's -/
def CallOk (P : Program) (ρ : Env) (w0 : World) (C : CallF) : Prop :=
  ∀ fn args h v h', C fn args h = some (v, h') → (∃ f, fn = .func f ∧ ∀ φ w uargs, HRel ρ w0 φ h w → VsRel ρ φ args uargs.toList → NextOk P ρ w0 (callFunc f uargs) φ w h v h') ∨
    ∃ r, fn = .yield r ∧ ∀ φ w uargs blk sz, φ r = some (blk, sz) → HRel ρ w0 φ h w → VsRel ρ φ args uargs.toList → NextOk P ρ w0 (Instr.yield blk uargs) φ w h v h'

theorem NextOk.bind {α : Type} {s : Sem α} {K : α → Sem Next} {x : α} (hs : s.run P w = .ok x w) {v : AV} (H : NextOk P ρ w0 (K x) φ w h v h') : NextOk P ρ w0 (s >>= K) φ w h v h' := by
  rcases H with ⟨φ', w', r, h1, h2⟩ | ⟨f, args, w', h1, h2⟩ | ⟨l, fn, tmps, assign, body, w', h1, h2⟩
  · exact .inl ⟨φ', w', r, by rw [Sem.run_bind, hs]; exact h1, h2⟩
  · exact .inr (.inl ⟨f, args, w', by rw [Sem.run_bind, hs]; exact h1, h2⟩)
  · exact .inr (.inr ⟨l, fn, tmps, assign, body, w', by rw [Sem.run_bind, hs]; exact h1, h2⟩)

theorem arg0_some {α β : Type} {l : List α} {K : α → List α → Option β} {r : β} : arg0 l K = some r ↔ ∃ x m, l = x :: m ∧ K x m = some r := by
  cases l with
  | nil => simp [arg0]
  | cons x m =>
    constructor
    · intro h; exact ⟨x, m, rfl, h⟩
    · rintro ⟨y, n, h, h'⟩; cases h; exact h'
theorem nil0_some {α β : Type} {l : List α} {o : Option β} {r : β} : nil0 l o = some r ↔ l = [] ∧ o = some r := by
  cases l with
  | nil => simp [nil0]
  | cons x m => simp [nil0]

theorem builtinA_ok (T : TiOk P ti) {b : Builtin} {at1 : Array TypeId} {ty : TypeId} {consts : Array Bool} {args : List AV} {us : Array Value} {v : AV} (H : HRel ρ w0 φ h w) (hx : VsRel ρ φ args us.toList)
    (he : builtinA ti b at1.toList args h = some (v, h')) : OpOk P ρ w0 (builtin b at1 ty consts us) φ w h v h' := by
  simp only [builtinA, arg0_some] at he
  obtain ⟨t, ts, ht, x, xs, rfl, he⟩ := he
  obtain ⟨l⟩ := us
  cases hx with
  | cons _ u _ us hu hus =>
    have h0 : at1[0]? = some t := by rw [← Array.getElem?_toList, ht]; rfl
    cases b <;> simp only [reduceCtorEq, arg0_some, nil0_some] at he
    case len => obtain ⟨rfl, he⟩ := he; cases hus; exact .of_val (lenA_ok T H hu h0 he)
    case cap => obtain ⟨rfl, he⟩ := he; cases hus; exact .of_val (capA_ok T H hu h0 he)
    case clear => obtain ⟨rfl, he⟩ := he; cases hus; exact .of_val (clearA_ok T H hu h0 he)
    case copy =>
      obtain ⟨y, ys, rfl, rfl, he⟩ := he
      cases hus with | cons _ u2 _ us hu2 hus => cases hus; exact .of_val (copyA_ok T H hu hu2 h0 he)
    case delete =>
      obtain ⟨y, ys, rfl, rfl, he⟩ := he
      cases hus with | cons _ u2 _ us hu2 hus => cases hus; exact .of_val (deleteA_ok T _ _ H hu hu2 h0 he)
    case append =>
      obtain ⟨t1, ts', rfl, y, ys, rfl, rfl, he⟩ := he
      have h1 : at1[1]? = some t1 := by rw [← Array.getElem?_toList, ht]; rfl
      cases hus with | cons _ u2 _ us hu2 hus => cases hus; exact .of_val (appendA_ok T H hu hu2 h0 h1 he)
    case max =>
      simp only [ob_some, rOk_some, Prod.mk.injEq] at he
      obtain ⟨r, h1, rfl, rfl⟩ := he
      obtain ⟨u2, h2, h3⟩ := foldA_ok (P := P) (fun hx hy he => max2_ok hx hy he) hus hu h1
      refine .of_val (.pure H (u := u2) ?_ h3)
      simp only [Builtin.max_]; exact h2 w
    case min =>
      simp only [ob_some, rOk_some, Prod.mk.injEq] at he
      obtain ⟨r, h1, rfl, rfl⟩ := he
      obtain ⟨u2, h2, h3⟩ := foldA_ok (P := P) (fun hx hy he => min2_ok hx hy he) hus hu h1
      refine .of_val (.pure H (u := u2) ?_ h3)
      simp only [Builtin.min_]; exact h2 w

theorem appL_rel {a b : List AV} {l m : List Value} (h : VsRel ρ φ a l) (h' : VsRel ρ φ b m) : VsRel ρ φ (appL a b) (l ++ m) := by rw [appL_eq]; exact h.append h'

theorem calleeA_ok {C : CallF} (hC : CallOk P ρ w0 C) {f : AV} {uf : Value} {args : List AV} {uargs : Array Value} {v : AV} (H : HRel ρ w0 φ h w) (hf : VRel ρ φ f uf) (hx : VsRel ρ φ args uargs.toList)
    (he : calleeA C f args h = some (v, h')) : NextOk P ρ w0 (do let d ← Deferred.ofValue uf uargs; invoke d.target d.args) φ w h v h' := by
  unfold calleeA at he
  split at he
  · rename_i fi first cap
    rcases hC _ _ _ _ _ he with ⟨f', e, hok⟩ | ⟨r, e, hok⟩
    · cases e
      cases hf with
      | func _ _ _ fa fc ra rc =>
        refine .bind (x := { target := .fn (.func fi) fc, args := fa ++ uargs }) (by simp [Deferred.ofValue]) ?_
        refine hok φ w _ H ?_
        have := appL_rel ra (appL_rel hx rc)
        simpa using this
    · cases e
  · rename_i r
    rcases hC _ _ _ _ _ he with ⟨fi, e, hok⟩ | ⟨r', e, hok⟩
    · cases e
    · cases e
      cases hf with
      | yield _ blk sz hr =>
        refine .bind (x := { target := .fn (.yield blk) #[], args := #[] ++ uargs }) (by simp [Deferred.ofValue]) ?_
        refine hok φ w _ blk sz hr H ?_
        simpa using hx
  · cases he

theorem oCall_ok (T : TiOk P ti) {C : CallF} (hC : CallOk P ρ w0 C) {c : Call} {ty : TypeId} {t : Tm} {a : Act} {v : AV} (H : HRel ρ w0 φ h w) (ht : TRel ρ φ t a.tmps) (he : oCall ti C c t h = some (v, h')) :
    NextOk P ρ w0 (do let d ← resolve a.eval c ty; invoke d.target d.args) φ w h v h' := by
  simp only [oCall, ob_some, oCallee] at he
  obtain ⟨args, h1, he⟩ := he
  have hargs := evxs_rel h1 ht
  have hargs' : VsRel ρ φ args (c.args.map a.eval).toList := by rw [Array.toList_map]; exact hargs
  split at he
  · rename_i b hc
    simp only [resolve, hc]
    refine NextOk.bind (Sem.run_pure ..) ?_
    exact .inl (builtinA_ok T H hargs' he)
  · rename_i f hc
    simp only [ob_some] at he
    obtain ⟨u, h2, he⟩ := he
    have := calleeA_ok hC H (evx_rel h2 ht) hargs' he
    simpa only [resolve, hc] using this
  · cases he

theorem opA_ok (T : TiOk P ti) (hb : BdOk ρ bd) {C : CallF} (hC : CallOk P ρ w0 C) {o : Oper} {t : Tm} {a : Act} {v : AV} (H : HRel ρ w0 φ h w) (ht : TRel ρ φ t a.tmps) (he : opA ti bd C o.op t h = some (v, h')) :
    NextOk P ρ w0 (execOp a.eval o) φ w h v h' := by
  cases hop : o.op <;> rw [hop] at he <;> simp only [execOp, hop]
  case move x => exact .inl (oMove_ok H ht he)
  case assign x => exact .inl (oMove_ok H ht he)
  case pick => exact .inl (oPick_ok H ht he)
  case alloc => exact .inl (.of_val (oAlloc_ok (t := t) T H he))
  case box => exact .inl (.of_val (oBox_ok H ht he))
  case build => exact .inl (.of_val (oBuild_ok T H ht he))
  case buildSlice => exact .inl (.of_val (oBuildSlice_ok T H ht he))
  case load => exact .inl (.of_val (oLoad_ok T H ht he))
  case store => obtain ⟨rfl, he2⟩ := oStore_ok (P := P) T H ht he; exact .inl (.of_unit he2)
  case nilCheck x =>
    obtain ⟨h1, rfl, h2⟩ := oNil_ok H ht he
    rcases h2 with ⟨a', h2⟩ | ⟨f, p, q, h2⟩ | ⟨l, h2⟩
    · rw [h2] at h1 ⊢; exact .inl (.pure H h1)
    · rw [h2] at h1 ⊢; exact .inl (.pure H h1)
    · rw [h2] at h1 ⊢; exact .inl (.pure H h1)
  case binOp => exact .inl (.of_val (oBin_ok T hb H ht he))
  case unOp => exact .inl (.of_val (oUn_ok H ht he))
  case convert => exact .inl (.of_val (oConv_ok T H ht he))
  case makeInterface => exact .inl (.of_val (oIface_ok T H ht he))
  case makeFunc => exact .inl (.of_val (oFunc_ok H ht he))
  case makeMap ty r =>
    cases r with
    | none => exact .inl (.of_val (oMap_ok (t := t) H he))
    | some r => cases he
  case makeSlice => exact .inl (.of_val (oMakeSlice_ok T H ht he))
  case slice => exact .inl (.of_val (oSlice_ok T H ht he))
  case fieldAddr => exact .inl (.of_val (oFieldAddr_ok T H ht he))
  case field => exact .inl (.of_val (oField_ok T H ht he))
  case indexAddr => exact .inl (.of_val (oIndexAddr_ok T H ht he))
  case index => exact .inl (.of_val (oIndex_ok T H ht he))
  case lookup ty m k ok =>
    have he : oLookup ti ty m k ok t h = some (v, h') := he
    simp only [oLookup, ob_some] at he
    obtain ⟨m', h1, k', h2, he⟩ := he
    exact .inl (.of_val (lookupA_ok T H (evx_rel h1 ht) (evx_rel h2 ht) he))
  case mapUpdate ty m k x =>
    have he : oUpdate ti ty m k x t h = some (v, h') := he
    simp only [oUpdate, ob_some] at he
    obtain ⟨m', h1, k', h2, x', h3, he⟩ := he
    obtain ⟨rfl, he2⟩ := updateA_ok (P := P) T H (evx_rel h1 ht) (evx_rel h2 ht) (evx_rel h3 ht) he
    exact .inl (.of_unit he2)
  case insert ty m k x =>
    have he : oUpdate ti ty m k x t h = some (v, h') := he
    simp only [oUpdate, ob_some] at he
    obtain ⟨m', h1, k', h2, x', h3, he⟩ := he
    obtain ⟨rfl, he2⟩ := updateA_ok (P := P) T H (evx_rel h1 ht) (evx_rel h2 ht) (evx_rel h3 ht) he
    exact .inl (.of_unit he2)
  case range ty x =>
    have he : oRange ti ty x t h = some (v, h') := he
    simp only [oRange, ob_some] at he
    obtain ⟨x', h1, he⟩ := he
    exact .inl (.of_val (rangeA_ok T H (evx_rel h1 ht) he))
  case next it s =>
    have he : oNext it s t h = some (v, h') := he
    simp only [oNext, ob_some] at he
    obtain ⟨x', h1, he⟩ := he
    exact .inl (.of_val (nextA_ok H (evx_rel h1 ht) he))
  case entry it =>
    have he : oEntry it t h = some (v, h') := he
    simp only [oEntry, ob_some] at he
    obtain ⟨x', h1, he⟩ := he
    exact .inl (.of_val (entryA_ok H (evx_rel h1 ht) he))
  case extract => exact .inl (.of_val (oExtract_ok H ht he))
  case call => exact oCall_ok T hC H ht he
  all_goals cases he

theorem opA_notDefer {C : CallF} {o : Op} {t : Tm} {v : AV} (he : opA ti bd C o t h = some (v, h')) : ∀ c, o ≠ .defer c := by
  intro c e
  rw [e] at he; cases he
end
end Go.AI
set_option linter.unusedVariables false
set_option linter.unusedSimpArgs false
namespace Go.AI
section
variable {P : Program} {ρ : Env} {φ : Phi} {w0 w : World} {h h' : AHeap} {ti : Nat → Option ATy} {bd : Bnd} {N : Nat} {ds : List Deferred}

/-- a frame's state -/
structure St (ρ : Env) (w0 : World) (N : Nat) (ds : List Deferred) (φ : Phi) (t : Tm) (h : AHeap) (a : Act) (w : World) : Prop where
  H : HRel ρ w0 φ h w
  t : TRel ρ φ t a.tmps
  n : N ≤ a.tmps.size
  d : a.defers = ds

theorem putA_rel {t : Tm} {a : Act} {dst : Option Tmp} {v : AV} {u : Value} (ht : TRel ρ φ t a.tmps) (hv : VRel ρ φ v u) (hn : N ≤ a.tmps.size) (hd : ∀ d, dst = some d → d < N) : TRel ρ φ (putA t dst v) (a.put dst u).tmps := by
  cases dst with
  | none => exact ht
  | some d =>
    intro i
    have hd := hd d rfl
    show VRel ρ φ (putD t v d i) ((a.tmps.setIfInBounds d u).getD i undef)
    unfold putD
    cases hc : Nat.beq i d with
    | true =>
      have : i = d := by simpa using hc
      subst this
      have : i < a.tmps.size := Nat.lt_of_lt_of_le hd hn
      simp [this]; exact hv
    | false =>
      have : i ≠ d := by intro e; subst e; simp at hc
      have e : (a.tmps.setIfInBounds d u).getD i undef = a.tmps.getD i undef := by
        simp [Array.getElem?_setIfInBounds_ne (Ne.symm this)]
      rw [e]; exact ht i

theorem put_size (a : Act) (dst : Option Tmp) (u : Value) : (a.put dst u).tmps.size = a.tmps.size := by cases dst <;> simp [Act.put]
theorem put_defers (a : Act) (dst : Option Tmp) (u : Value) : (a.put dst u).defers = a.defers := by cases dst <;> rfl

theorem wantA_ok {ops : Array Oper} {o : Oper} {t : Tm} {a : Act} {b : Bool} (ht : TRel ρ φ t a.tmps) (he : wantA ops o t = some b) : Region.wanted o (yielded ops a.tmps) = b := by
  unfold wantA at he
  unfold Region.wanted
  cases hg : o.guard with
  | none => rw [hg] at he; simpa using he
  | some g =>
    rw [hg] at he
    obtain ⟨g, want⟩ := g
    have he : wantG ops t (g, want) = some b := he
    simp only [wantG, ob_some, nth_eq] at he
    obtain ⟨p, h1, d, h2, he⟩ := he
    have h1' : ops[g]? = some p := by simpa using h1
    have hr := ht d
    unfold yielded
    simp only [h1', Option.bind_some, h2]
    split at he
    · rename_i r hr'
      rw [hr'] at hr
      generalize hu : a.tmps.getD d undef = u at hr
      cases hr
      have : a.tmps[d]? = some (.bool r) := by
        cases hx : a.tmps[d]? with
        | none => simp [hx, undef] at hu
        | some x => simp [hx] at hu; rw [hu]
      rw [this]
      simp only [Option.some.injEq] at he
      subst he
      cases r <;> cases want <;> rfl
    · rename_i l hr'
      rw [hr'] at hr
      generalize hu : a.tmps.getD d undef = u at hr
      cases hr with
      | tup _ x _ =>
        simp only [Option.some.injEq] at he
        subst he
        cases hx : a.tmps[d]? with
        | none => simp
        | some y =>
          simp [hx] at hu; subst hu
          simp
    · cases he

/-- the fences: of a function's frame, of a round's -/
def fe : Option Nat → Fence
  | none => Fence.wide
  | some l => Fence.wide.inRound l
theorem fe_round (rd : Option Nat) : (fe rd).round = rd := by cases rd <;> rfl
theorem fe_fn (rd : Option Nat) (f : FuncId) : (fe rd).fn f := by cases rd <;> exact trivial
theorem fe_depth (rd : Option Nat) : (fe rd).depth.isSome = true → False := by cases rd <;> (intro h; cases h)
theorem fe_calls {rd : Option Nat} {n : Nat} {f : FuncId} {args : Array Value} {w : World} {R : Ending → World → Prop} (h : Calls P f args w R) : CallsIn (fe rd) n P f args w R := by
  cases rd with
  | none => exact callsIn_wide.2 h
  | some l => exact CallsIn.inRound l (callsIn_wide.2 h)
theorem fe_rounds {rd : Option Nat} {n l : Nat} {f : FuncId} {tmps : Array Value} {assign body : Code} {w : World} {R : Ending → World → Prop} (h : RoundIn Fence.wide 0 P l f tmps assign body w R) : RoundIn (fe rd) n P l f tmps assign body w R := by
  have h2 : RoundIn Fence.wide n P l f tmps assign body w R := ⟨h.1, fun c cs _ => h.2 c cs (room_wide _)⟩
  cases rd with
  | none => exact h2
  | some l => exact h2

/-- an operation, and what comes after -/
theorem NextOk.upon {rd : Option Nat} {n : Nat} {o : Oper} {a : Act} {K : Act → World → Prop} {Q : Exit → Act → World → Prop} {v : AV} (H : NextOk P ρ w0 (execOp a.eval o) φ w h v h') (hd : ∀ c, o.op ≠ .defer c)
    (hK : ∀ φ' u w', Grow h h' φ φ' → VRel ρ φ' v u → HRel ρ w0 φ' h' w' → K (a.put o.dst u) w') : o.wpIn (fe rd) n P a w K Q := by
  unfold Oper.wpIn
  refine ⟨fun f _ => fe_fn rd f, ?_⟩
  rw [Oper.semAt_eq _ _ _ hd]
  rcases H with ⟨φ', w', r, h1, h2, h3, h4⟩ | ⟨f, args, w', h1, h2⟩ | ⟨l, fn, tmps, assign, body, w', h1, h2⟩
  · rw [h1]
    rcases h2 with ⟨u, rfl, h2⟩ | ⟨rfl, rfl⟩
    · exact hK φ' u w' h3 h2 h4
    · exact hK φ' undef w' h3 undef_rel h4
  · rw [h1]
    refine ⟨fun h => (fe_depth rd h).elim, CallsIn.mono (fe_calls h2) fun e w'' he => ?_⟩
    cases e with
    | returned u => obtain ⟨φ', g, r1, r2⟩ := he; exact hK φ' u w'' g r1 r2
    | panicked c => exact he.elim
    | outgrown => exact he.elim
  · rw [h1]
    refine ⟨fun h => (fe_depth rd h).elim, RoundIn.mono (fe_rounds h2) fun e w'' he => ?_⟩
    cases e with
    | returned u => obtain ⟨φ', g, r1, r2⟩ := he; exact hK φ' u w'' g r1 r2
    | panicked c => exact he.elim
    | outgrown => exact he.elim

theorem putK_eq {β : Type} {t : Tm} {dst : Option Tmp} {v : AV} {K : Tm → β} : putK t dst v K = K (putA t dst v) := by cases dst <;> rfl

theorem rowsT_get (t : Tm) : ∀ (n j k : Nat), k < n → (rowsT t n j)[k]? = some (row8 t (j + 8 * k)) := by
  intro n
  induction n with
  | zero => intro j k h; omega
  | succ n ih =>
    intro j k h
    show (row8 t j :: rowsT t n (j + 8))[k]? = _
    cases k with
    | zero => rfl
    | succ k => rw [List.getElem?_cons_succ, ih (j + 8) k (by omega), show j + 8 + 8 * k = j + 8 * (k + 1) from by omega]
theorem row8_get (t : Tm) (j k : Nat) (h : k < 8) : (row8 t j)[k]? = some (t (j + k)) := by
  match k, h with
  | 0, _ => rfl
  | 1, _ => rfl
  | 2, _ => rfl
  | 3, _ => rfl
  | 4, _ => rfl
  | 5, _ => rfl
  | 6, _ => rfl
  | 7, _ => rfl
theorem normT_eq (t : Tm) : normT t = t := by
  funext i
  unfold normT normR
  rw [nth_eq]
  by_cases h : i / 8 < 200
  · rw [show Nat.div i 8 = i / 8 from rfl, rowsT_get t 200 0 (i / 8) h]
    show Option.rec (motive := fun _ => AV) (t i) (fun v => v) (nth (row8 t (0 + 8 * (i / 8))) (i % 8)) = _
    rw [nth_eq, row8_get t _ _ (by omega), show 0 + 8 * (i / 8) + i % 8 = i from by omega]
  · have : (rowsT t 200 0)[Nat.div i 8]? = none := by
      have hl : ∀ n j, (rowsT t n j).length = n := by
        intro n
        induction n with
        | zero => intro j; rfl
        | succ n ih => intro j; show (row8 t j :: rowsT t n (j + 8)).length = _; rw [List.length_cons, ih]
      rw [List.getElem?_eq_none_iff, hl]
      have : Nat.div i 8 = i / 8 := rfl
      omega
    rw [this]

def dstLt (N : Nat) (o : Oper) : Bool := match o.dst with | some d => Nat.blt d N | none => true
theorem dstLt_iff {o : Oper} (h : dstLt N o = true) : ∀ d, o.dst = some d → d < N := by
  intro d hd
  simp only [dstLt, hd] at h
  simpa using h

theorem opsA_ok (T : TiOk P ti) (hb : BdOk ρ bd) {C : CallF} (hC : CallOk P ρ w0 C) {rd : Option Nat} {n : Nat} {ops : Array Oper} {Q : Exit → Act → World → Prop} : ∀ {l : List Oper} {t t' : Tm} {h h' : AHeap} {φ : Phi} {a : Act} {w : World},
    (∀ o ∈ l, dstLt N o = true) → St ρ w0 N ds φ t h a w → opsA ti bd C ops l t h = some (t', h') → (∀ φ' a' w', Grow h h' φ φ' → St ρ w0 N ds φ' t' h' a' w' → Q .normal a' w') → wpListIn (fe rd) n P ops Q l a w := by
  intro l
  induction l with
  | nil =>
    intro t t' h h' φ a w hl S he hQ
    cases he
    exact hQ φ a w (.same rfl) S
  | cons o l ih =>
    intro t t' h h' φ a w hl S he hQ
    have he : opsS ti bd C ops o (opsA ti bd C ops l) t h = some (t', h') := he
    simp only [opsS, ob_some, putK_eq] at he
    obtain ⟨b, h1, he⟩ := he
    have hw := wantA_ok S.t h1
    have hlt := dstLt_iff (hl o (by simp))
    unfold wpListIn
    rw [hw]
    cases b with
    | true =>
      simp only [sel_true, ob2_some] at he
      obtain ⟨v, h2, h3, he⟩ := he
      refine (opA_ok T hb hC S.H S.t h3).upon (opA_notDefer h3) fun φ' u w' g r1 r2 => ?_
      refine ih (fun o ho => hl o (by simp [ho])) ⟨r2, putA_rel (S.t.mono g.le) r1 S.n hlt, by rw [put_size]; exact S.n, by rw [put_defers]; exact S.d⟩ he fun φ'' a' w'' g' S' => hQ φ'' a' w'' (g.trans g') S'
    | false =>
      simp only [sel_false] at he
      refine ⟨fun f _ => fe_fn rd f, ?_⟩
      exact ih (fun o ho => hl o (by simp [ho])) ⟨S.H, putA_rel S.t undef_rel S.n hlt, by rw [put_size]; exact S.n, by rw [put_defers]; exact S.d⟩ he hQ

/-- marks: the blocks of the deferred calls of ranges over functions -/
def MarkRel (φ : Phi) (i : Nat) (d : Deferred) : Prop := ∃ blk sz, φ i = some (blk, sz) ∧ d = { target := .collected blk, args := #[] }
inductive MarksRel (φ : Phi) : List Nat → List Deferred → Prop where
  | nil : MarksRel φ [] []
  | cons (i : Nat) (d : Deferred) (m : List Nat) (l : List Deferred) (h : MarkRel φ i d) (h' : MarksRel φ m l) : MarksRel φ (i :: m) (d :: l)
theorem MarksRel.mono {φ φ' : Phi} (hl : φ.le φ') {m : List Nat} {l : List Deferred} (h : MarksRel φ m l) : MarksRel φ' m l := by
  induction h with
  | nil => exact .nil
  | cons i d m l h _ ih => obtain ⟨blk, sz, h1, h2⟩ := h; exact .cons _ _ _ _ ⟨blk, sz, hl _ _ h1, h2⟩ ih
theorem MarksRel.append {m m' : List Nat} {l l' : List Deferred} (h : MarksRel φ m l) (h' : MarksRel φ m' l') : MarksRel φ (m ++ m') (l ++ l') := by
  induction h with
  | nil => exact h'
  | cons i d m l h _ ih => exact .cons _ _ _ _ h ih

/-- what a run's end says of the model's -/
def OutQ (ρ : Env) (w0 : World) (N : Nat) (ds : List Deferred) (h : AHeap) (φ : Phi) (out : Out) (e : Exit) (a : Act) (w : World) : Prop :=
  (match out.e, e with
    | .normal, .normal => True
    | .exit i, .exit j => i = j
    | .ret, .ret => True
    | _, _ => False) ∧ ∃ φ' new, Grow h out.h φ φ' ∧ MarksRel φ' out.m new ∧ St ρ w0 N (new ++ ds) φ' out.t out.h a w

/-- which functions may be ranged over: none within a round -/
def RngOk (P : Program) (rng : Nat → Bool) (rd : Option Nat) : Prop :=
  ∀ f, rng f = true → rd = none ∧ ∃ F c, P.funcs[f]? = some F ∧ (F.name == "runtime.NumGoroutine") = false ∧ F.body = some c
theorem RngOk.none {P : Program} {rd : Option Nat} : RngOk P (fun _ => false) rd := fun _ h => by cases h

def RunOk (P : Program) (ρ : Env) (w0 : World) (N : Nat) (rng : Nat → Bool) (F : Run) (c : Code) : Prop :=
  ∀ rd n ds t h out φ a w, RngOk P rng rd → F t h = some out → St ρ w0 N ds φ t h a w → c.wpIn (fe rd) n P (OutQ ρ w0 N ds h φ out) a w

/-- a region that asks the tape -/
def DrawOk (P : Program) (ρ : Env) (w0 : World) (N : Nat) (ti : Nat → Option ATy) (bd : Bnd) (C : CallF) (id : Nat) (ops : Array Oper) (rs : List Row) : Prop :=
  ∀ rd n ds t h t' h' φ a w, drawA ti bd C ops rs t h = some (t', h') → St ρ w0 N ds φ t h a w → (Code.region id ops true).wpIn (fe rd) n P (OutQ ρ w0 N ds h φ ⟨.normal, t', h', []⟩) a w

/-- what is asked of a text -/
def codeOk (N : Nat) (D : Nat → Option (List Row)) (dr : Nat → Array Oper → List Row → Bool) : Code → Bool
  | .region id ops draw => (if draw then (match D id with | some rs => dr N ops rs | none => true) else ops.toList.all (dstLt N))
  | .seq a b => codeOk N D dr a && codeOk N D dr b
  | .cond _ a b => codeOk N D dr a && codeOk N D dr b
  | .block _ a => codeOk N D dr a
  | .loop a => codeOk N D dr a
  | .rangeFunc _ ps a b => ps.toList.all (fun i => Nat.blt i N) && (codeOk N D dr a && codeOk N D dr b)
  | _ => true

theorem OutQ.pre {φ φ' : Phi} {h h1 : AHeap} {out : Out} {e : Exit} {a : Act} {w : World} {m : List Nat} {new : List Deferred} (g : Grow h h1 φ φ') (hm : MarksRel φ' m new)
    (H : OutQ ρ w0 N (new ++ ds) h1 φ' out e a w) : OutQ ρ w0 N ds h φ ⟨out.e, out.t, out.h, out.m ++ m⟩ e a w := by
  obtain ⟨h1, φ'', n2, h2, h3, h4⟩ := H
  exact ⟨h1, φ'', n2 ++ new, g.trans h2, h3.append (hm.mono h2.le), by rw [List.append_assoc]; exact h4⟩

theorem marked_some {m : List Nat} {r : Option Out} {out : Out} (h : marked m r = some out) : ∃ o2, r = some o2 ∧ out = ⟨o2.e, o2.t, o2.h, o2.m ++ m⟩ := by
  cases m with
  | nil =>
    have h : r = some out := h
    exact ⟨out, h, by simp⟩
  | cons x m =>
    have h : (ob r fun y => some (⟨y.e, y.t, y.h, appL y.m (x :: m)⟩ : Out)) = some out := h
    simp only [ob_some, Option.some.injEq, appL_eq] at h
    obtain ⟨o2, h1, h2⟩ := h
    exact ⟨o2, h1, h2.symm⟩

theorem thenA_ok {rd : Option Nat} {n : Nat} {rng : Nat → Bool} {F : Run} {x : Code} {K : Run} {Kw : Act → World → Prop} (hr : RngOk P rng rd) (hF : RunOk P ρ w0 N rng F x) {t : Tm} {h : AHeap} {out : Out} {a : Act} {w : World} (he : thenA (F t h) K = some out) (S : St ρ w0 N ds φ t h a w)
    (hK : ∀ φ' t' h' a' w' m new o2, Grow h h' φ φ' → MarksRel φ' m new → St ρ w0 N (new ++ ds) φ' t' h' a' w' → K t' h' = some o2 → out = ⟨o2.e, o2.t, o2.h, o2.m ++ m⟩ → Kw a' w') : x.wpIn (fe rd) n P (Exit.then Kw (OutQ ρ w0 N ds h φ out)) a w := by
  simp only [thenA, ob_some] at he
  obtain ⟨o1, h1, he⟩ := he
  refine Code.wpIn_mono (fun e a' w' q => ?_) (hF rd n ds t h o1 φ a w hr h1 S)
  obtain ⟨q1, φ', new, q2, qm, q3⟩ := q
  obtain ⟨oe, ot, oh, om⟩ := o1
  cases oe with
  | normal =>
    cases e <;> try simp only at q1
    obtain ⟨o2, k1, k2⟩ := marked_some he
    exact hK φ' ot oh a' w' om new o2 q2 qm q3 k1 k2
  | exit i =>
    cases he
    cases e <;> try simp only at q1
    exact ⟨q1, φ', new, q2, qm, q3⟩
  | ret =>
    cases he
    cases e <;> try simp only at q1
    exact ⟨trivial, φ', new, q2, qm, q3⟩

theorem iter_ok {rd : Option Nat} {rng : Nat → Bool} (hr : RngOk P rng rd) {m : Nat} {F : Run} {x : Code} (hF : RunOk P ρ w0 N rng F x) : ∀ (n : Nat) {ds : List Deferred} {t : Tm} {h : AHeap} {out : Out} {φ : Phi} {a : Act} {w : World}, iter F n t h = some out → St ρ w0 N ds φ t h a w →
    Code.roundsIn (fe rd) m P x (OutQ ρ w0 N ds h φ out) n a w := by
  intro n
  induction n with
  | zero => intro ds t h out φ a w he S; cases he
  | succ n ih =>
    intro ds t h out φ a w he S
    have he : thenA (F (normT t) h) (iter F n) = some out := he
    rw [normT_eq] at he
    refine thenA_ok hr hF he S fun φ' t' h' a' w' mm new o2 g hm S' he' ho => ?_
    have := ih he' S'
    have mono : ∀ n a w, Code.roundsIn (fe rd) m P x (OutQ ρ w0 N (new ++ ds) h' φ' o2) n a w → Code.roundsIn (fe rd) m P x (OutQ ρ w0 N ds h φ out) n a w := by
      intro n
      induction n with
      | zero => intro a w h; exact h
      | succ n ih =>
        intro a w hh
        refine Code.wpIn_mono (fun e a w q => ?_) hh
        subst ho
        cases e with
        | normal => exact ih a w q
        | _ => exact OutQ.pre g hm q
    exact mono n a' w' this

theorem run_callFunc {f : FuncId} {args : Array Value} {F : Func} (hf : P.funcs[f]? = some F) (hn : (F.name == "runtime.NumGoroutine") = false) {c : Code} (hc : F.body = some c) (w : World) :
    (callFunc f args).run P w = .ok (.enter f args) w := by
  have hn' : F.name ≠ "runtime.NumGoroutine" := by simpa using hn
  simp [callFunc, hf, hn', hc]

/-- a call of a function with a body -/
theorem NextOk.calls {f : FuncId} {args : Array Value} {F : Func} (hf : P.funcs[f]? = some F) (hn : (F.name == "runtime.NumGoroutine") = false) {c : Code} (hc : F.body = some c) {v : AV} (H : NextOk P ρ w0 (callFunc f args) φ w h v h') :
    Calls P f args w (RetOk ρ w0 φ h v h') := by
  have hr := run_callFunc (P := P) (args := args) hf hn hc w
  rcases H with ⟨φ', w', r, h1, h2⟩ | ⟨f', args', w', h1, h2⟩ | ⟨l, fn, tmps, assign, body, w', h1, h2⟩
  · rw [hr] at h1; cases h1
    rcases h2 with ⟨⟨u, e, _⟩ | ⟨e, _⟩, _⟩ <;> cases e
  · rw [hr] at h1; cases h1; exact h2
  · rw [hr] at h1; cases h1

theorem jumpA_some {p : Option Code} {t : Tm} {h : AHeap} {m : List Nat} {out : Out} (he : jumpA p t h m = some out) :
    (p = none ∧ out = ⟨.normal, t, h, m⟩) ∨ (p = some .ret ∧ out = ⟨.ret, t, h, m⟩) ∨ ∃ id, p = some (.exit id) ∧ out = ⟨.exit id, t, h, m⟩ := by
  unfold jumpA at he
  split at he
  · exact .inl ⟨rfl, (Option.some.inj he).symm⟩
  · exact .inr (.inl ⟨rfl, (Option.some.inj he).symm⟩)
  · exact .inr (.inr ⟨_, rfl, (Option.some.inj he).symm⟩)
  · cases he

theorem range_ok {C : CallF} (hC : CallOk P ρ w0 C) {rng : Nat → Bool} {D : Nat → Option (List Row)} {f : Operand} {ps : Array Tmp} {asg body : Code} (hps : ∀ i ∈ ps.toList, i < N) (hga : ρ.good N D asg) (hgb : ρ.good N D body) :
    RunOk P ρ w0 N rng (cRange C rng D f ps asg body) (.rangeFunc f ps asg body) := by
  intro rd n ds t h out φ a w hr he S
  simp only [cRange, ob_some] at he
  obtain ⟨g, h1, he⟩ := he
  split at he <;> try (simp only [reduceCtorEq] at he)
  rename_i fi first cap
  simp only [guardB_some, new_some, ob2_some] at he
  obtain ⟨h2, hn1, hn2, v, h3, hcall, hend⟩ := he
  obtain ⟨rfl, F, c, k1, k2, k3⟩ := hr fi h2
  have hg := evx_rel h1 S.t
  refine wpIn_rangeFunc fun fn _ => ?_
  have H1 := S.H.new (o := .dfr) (ob' := .deferred (some [])) (sz := 0) hn1 .dfr
  have le1 := S.H.le_ext w.heap.size 0
  have H2 := H1.new (o := .loop D t ps.toList asg body .ready none) (sz := 0)
    (ob' := .loop { state := .ready, pending := none, fn := fn, tmps := a.tmps, params := ps, assign := asg, body := body, defers := w.heap.size }) hn2
    (.loop _ _ _ _ _ _ _ N _ _ _ (fun i => ((S.t i).mono le1).mono (H1.le_ext _ _)) S.n hps hga hgb)
  have le2 := H1.le_ext (wnew w (.deferred (some []))).heap.size 0
  have hgv := (hg.mono le1).mono le2
  generalize hev : a.eval f = uf at hgv
  cases hgv with
  | func _ _ _ fa fc ra rc =>
    rcases hC _ _ _ _ _ hcall with ⟨f', e, hok⟩ | ⟨r, e, _⟩
    · cases e
      have hsz : (wnew w (.deferred (some []))).heap.size = w.heap.size + 1 := by simp [wnew]
      have hyl : VRel ρ ((φ.ext h.next w.heap.size 0).ext (h.newH .dfr).next (wnew w (.deferred (some []))).heap.size 0) (.yield (h.newH .dfr).next) (.func (.yield (w.heap.size + 1)) #[] #[]) :=
        .yield _ _ 0 (by rw [← hsz]; exact Phi.ext_self ..)
      have hargs : VsRel ρ ((φ.ext h.next w.heap.size 0).ext (h.newH .dfr).next (wnew w (.deferred (some []))).heap.size 0) (appL first (appL [.yield (h.newH .dfr).next] cap)) (fa ++ #[Value.func (.yield (w.heap.size + 1)) #[] #[]] ++ fc).toList := by
        have := appL_rel ra (appL_rel (VsRel.single hyl) rc)
        simpa using this
      have hcalls := (hok _ _ _ H2 hargs).calls k1 k2 k3
      refine ⟨w.heap.size + 1, [{ target := .collected w.heap.size, args := #[] }], _, { target := .fn (.func fi) fc, args := fa ++ #[Value.func (.yield (w.heap.size + 1)) #[] #[]] }, _, fi, fa ++ #[Value.func (.yield (w.heap.size + 1)) #[] #[]] ++ fc, _, run_enterLoop_outer .., ?_, fun f' _ => trivial, run_callFunc k1 k2 k3 _, (fun e => by cases e), callsIn_wide.2 (hcalls.mono fun e w3 q => ?_)⟩
      · have hcst : a.eval (.const (.func (.yield (w.heap.size + 1)) #[] #[])) = .func (.yield (w.heap.size + 1)) #[] #[] := rfl
        simp [resolve, rangeCall, hev, Deferred.ofValue, hcst]
        rfl
      · cases e with
        | panicked c => exact q.elim
        | outgrown => exact q.elim
        | returned u =>
          obtain ⟨φ3, g3, r1, r2⟩ := q
          have gg : Grow h h3 φ φ3 := ((S.H.grow (h' := h.newH .dfr) rfl rfl).trans (H1.grow (h := h.newH .dfr) (h' := (h.newH .dfr).newH _) rfl rfl)).trans g3
          have hl3 : φ3 (h.newH .dfr).next = some (w.heap.size + 1, 0) := g3.le _ _ (by rw [← hsz]; exact Phi.ext_self ..)
          have hd3 : φ3 h.next = some (w.heap.size, 0) := g3.le _ _ (le2 _ _ (Phi.ext_self ..))
          simp only [endLoopA, ob_some] at hend
          obtain ⟨o, e1, hend⟩ := hend
          obtain ⟨b, e2, e3⟩ := r2.obj _ _ _ _ e1 hl3
          cases e3 <;> try (simp only [reduceCtorEq] at hend)
          case loop D' t' ps' asg' body' st p N' fn' b' tmps' q1 q2 q3 q4 q5 =>
            simp only [guardB_some] at hend
            obtain ⟨nb, hend⟩ := hend
            have hnb : st ≠ .busy := by intro e; subst e; cases nb
            refine ⟨p, _, run_endLoop e2 hnb, ?_⟩
            have H4 := r2.put (o' := .loop D' t' ps'.toList asg' body' .exhausted p) e1 hl3 (.loop D' t' ps' asg' body' .exhausted p N' fn' b' tmps' q1 q2 q3 q4 q5)
            have S4 : St ρ w0 N ([{ target := .collected w.heap.size, args := #[] }] ++ ds) φ3 t (h3.put (h.newH .dfr).next (.loop D' t' ps'.toList asg' body' .exhausted p)) { a with defers := [{ target := .collected w.heap.size, args := #[] }] ++ a.defers } _ :=
              ⟨H4, S.t.mono gg.le, S.n, by rw [S.d]⟩
            have g4 : Grow h (h3.put (h.newH .dfr).next (.loop D' t' ps'.toList asg' body' .exhausted p)) φ φ3 := gg.trans (.same rfl)
            have mk : MarksRel φ3 [h.next] [{ target := .collected w.heap.size, args := #[] }] := .cons _ _ _ _ ⟨_, _, hd3, rfl⟩ .nil
            rcases jumpA_some hend with ⟨rfl, rfl⟩ | ⟨rfl, rfl⟩ | ⟨id, rfl, rfl⟩
            · exact ⟨trivial, φ3, _, g4, mk, S4⟩
            · exact wpIn_ret ⟨trivial, φ3, _, g4, mk, S4⟩
            · exact wpIn_exit ⟨rfl, φ3, _, g4, mk, S4⟩
    · cases e

theorem codeA_ok (T : TiOk P ti) (hb : BdOk ρ bd) {C : CallF} (hC : CallOk P ρ w0 C) {D : Nat → Option (List Row)} {dr : Nat → Array Oper → List Row → Bool} {rng : Nat → Bool}
    (hD : ∀ id ops rs, dr N ops rs = true → DrawOk P ρ w0 N ti bd C id ops rs) (hG : ∀ N D c, codeOk N D dr c = true → ρ.good N D c) : ∀ c : Code, codeOk N D dr c = true → RunOk P ρ w0 N rng (codeA ti bd C rng D c) c := by
  intro c
  induction c with
  | skip =>
    intro _ rd n ds t h out φ a w hr he S
    cases he
    exact wpIn_skip ⟨trivial, φ, [], .same rfl, .nil, S⟩
  | region id ops draw =>
    intro hc rd n ds t h out φ a w hr he S
    replace he : cRegion ti bd C D id ops draw t h = some out := he
    simp only [cRegion, ob2_some, Option.some.injEq] at he
    obtain ⟨t', h', he, rfl⟩ := he
    cases draw with
    | true =>
      simp only [sel_true, ob_some] at he
      obtain ⟨rs, h1, he⟩ := he
      simp only [codeOk, if_true, h1] at hc
      exact hD id ops rs hc rd n ds t h t' h' φ a w he S
    | false =>
      simp only [sel_false] at he
      simp only [codeOk, Bool.false_eq_true, if_false, List.all_eq_true] at hc
      exact wpIn_region_list (opsA_ok T hb hC hc S he fun φ' a' w' g S' => ⟨trivial, φ', [], g, .nil, S'⟩)
  | seq x y ihx ihy =>
    intro hc rd n ds t h out φ a w hr he S
    simp only [codeOk, Bool.and_eq_true] at hc
    have he : thenA (codeA ti bd C rng D x t h) (codeA ti bd C rng D y) = some out := he
    refine wpIn_seq (thenA_ok hr (ihx hc.1) he S fun φ' t' h' a' w' m new o2 g hm S' he' ho => ?_)
    subst ho
    exact Code.wpIn_mono (fun e a w q => OutQ.pre g hm q) (ihy hc.2 rd n _ t' h' o2 φ' a' w' hr he' S')
  | cond x a1 b1 iha ihb =>
    intro hc rd n ds t h out φ a w hr he S
    simp only [codeOk, Bool.and_eq_true] at hc
    have he : cCond x (codeA ti bd C rng D a1) (codeA ti bd C rng D b1) t h = some out := he
    simp only [cCond, ob_some, onBool_some] at he
    obtain ⟨v, h1, r, rfl, he⟩ := he
    have hr := evx_rel h1 S.t
    generalize hu : a.eval x = u at hr
    cases hr
    cases r with
    | true => exact wpIn_cond_true hu (iha hc.1 rd n ds t h out φ a w hr he S)
    | false => exact wpIn_cond_false hu (ihb hc.2 rd n ds t h out φ a w hr he S)
  | block id x ih =>
    intro hc rd n ds t h out φ a w hr he S
    simp only [codeOk] at hc
    have he : cBlock id (codeA ti bd C rng D x) t h = some out := he
    simp only [cBlock, ob_some] at he
    obtain ⟨o1, h1, he⟩ := he
    refine wpIn_block (Code.wpIn_mono (fun e a' w' q => ?_) (ih hc rd n ds t h o1 φ a w hr h1 S))
    obtain ⟨q1, φ', new, q2, qm, q3⟩ := q
    obtain ⟨oe, ot, oh, om⟩ := o1
    cases oe with
    | normal =>
      cases he
      cases e <;> try simp only at q1
      exact ⟨trivial, φ', new, q2, qm, q3⟩
    | exit i =>
      cases e <;> try simp only at q1
      subst q1
      cases hc' : Nat.beq i id with
      | true =>
        simp only [hc', sel_true, Option.some.injEq] at he
        subst he
        have : i = id := by simpa using hc'
        simp only [Exit.inBlock, this, if_true]
        exact ⟨trivial, φ', new, q2, qm, q3⟩
      | false =>
        simp only [hc', sel_false, Option.some.injEq] at he
        subst he
        have : i ≠ id := by intro e; subst e; simp at hc'
        simp only [Exit.inBlock, this, if_false]
        exact ⟨rfl, φ', new, q2, qm, q3⟩
    | ret =>
      cases he
      cases e <;> try simp only at q1
      exact ⟨trivial, φ', new, q2, qm, q3⟩
  | loop x ih =>
    intro hc rd n ds t h out φ a w hr he S
    simp only [codeOk] at hc
    have he : iter (codeA ti bd C rng D x) mostIter t h = some out := he
    exact wpIn_loop_rounds mostIter (iter_ok hr (ih hc) mostIter he S)
  | rangeFunc f ps asg body _ _ =>
    intro hc rd n ds t h out φ a w hr he S
    simp only [codeOk, Bool.and_eq_true, List.all_eq_true] at hc
    exact range_ok hC (fun i hi => by simpa using hc.1 i hi) (hG _ _ _ hc.2.1) (hG _ _ _ hc.2.2) rd n ds t h out φ a w hr he S
  | exit id =>
    intro _ rd n ds t h out φ a w hr he S
    cases he
    exact wpIn_exit ⟨rfl, φ, [], .same rfl, .nil, S⟩
  | ret =>
    intro _ rd n ds t h out φ a w hr he S
    cases he
    exact wpIn_ret ⟨trivial, φ, [], .same rfl, .nil, S⟩
  | _ => intro _ rd n ds t h out φ a w hr he S; cases he
end
end Go.AI
set_option linter.unusedVariables false
set_option linter.unusedSimpArgs false
namespace Go.AI
section
variable {P : Program} {ρ : Env} {φ : Phi} {w0 w : World} {h h' : AHeap} {ti : Nat → Option ATy} {bd : Bnd} {N : Nat} {ds : List Deferred}

theorem resV_ok (T : TiOk P ti) {t : Tm} {a : Act} {r : ResultVar} {v : AV} (S : St ρ w0 N ds φ t h a w) (he : resV ti t h r = some v) :
    ∃ u, (match r with | .tmp i => pure (a.tmps.getD i undef) | .cell i ty => do loadVar ty (← asAddr (a.tmps.getD i undef)) : Sem Value).run P w = .ok u w ∧ VRel ρ φ v u := by
  cases r with
  | tmp i => cases he; exact ⟨_, rfl, S.t i⟩
  | cell i ty =>
    simp only [resV, ob_some, onPtr_some] at he
    obtain ⟨aty, h1, b, o, h2, h3⟩ := he
    have hr := S.t i
    rw [h2] at hr
    obtain ⟨ad, u, hz, h4, h5⟩ := loadA_run T S.H h1 hr h3
    exact ⟨u, by simp only [hz, asAddr, Sem.run_bind, Sem.run_pure, Result.andThen_ok, h4], h5⟩

theorem resA_ok (T : TiOk P ti) {t : Tm} {a : Act} : ∀ {l : List ResultVar} {vs : List AV}, St ρ w0 N ds φ t h a w → resA ti t h l = some vs →
    ∃ us, (l.mapM fun r => (match r with | .tmp i => pure (a.tmps.getD i undef) | .cell i ty => do loadVar ty (← asAddr (a.tmps.getD i undef)) : Sem Value)).run P w = .ok us w ∧ VsRel ρ φ vs us := by
  intro l
  induction l with
  | nil => intro vs S he; cases he; exact ⟨[], rfl, .nil⟩
  | cons r l ih =>
    intro vs S he
    have he : (ob (resV ti t h r) fun v => ob (resA ti t h l) fun l => some (v :: l)) = some vs := he
    simp only [ob_some, Option.some.injEq] at he
    obtain ⟨v, h1, l', h2, rfl⟩ := he
    obtain ⟨u, k1, k2⟩ := resV_ok T S h1
    obtain ⟨us, k3, k4⟩ := ih S h2
    refine ⟨u :: us, ?_, .cons _ _ _ _ k2 k4⟩
    rw [List.mapM_cons]
    simp only [Sem.run_bind, k1, Result.andThen_ok, k3, Sem.run_pure]

theorem results_ok (T : TiOk P ti) {F : Func} {t : Tm} {a : Act} {l : List AV} (S : St ρ w0 N ds φ t h a w) (he : resA ti t h F.results.toList = some l) :
    ∃ u, (results F a.tmps).run P w = .ok u w ∧ VRel ρ φ (one l) u := by
  obtain ⟨us, h1, h2⟩ := resA_ok T S he
  have hm : (F.results.mapM fun | .tmp i => pure (a.tmps.getD i undef) | .cell i ty => do loadVar ty (← asAddr (a.tmps.getD i undef)) : Sem (Array Value)).run P w = .ok us.toArray w := by
    rw [Array.mapM_eq_mapM_toList, Sem.run_map]
    rw [h1]; rfl
  have hr : (results F a.tmps).run P w = .ok (if h : us.toArray.size = 1 then us.toArray[0] else .tuple us.toArray) w := by
    rw [results, Sem.run_bind]
    exact (congrArg (fun r => Result.andThen r _) hm).trans rfl
  refine ⟨_, hr, ?_⟩
  cases h2 with
  | nil => exact .tup [] _ .nil
  | cons v u l m hv hl =>
    cases hl with
    | nil => exact hv
    | cons v2 u2 l m hv2 hl => exact .tup _ _ (.cons _ _ _ _ hv (.cons _ _ _ _ hv2 hl))

theorem tmOf_rel {args : List AV} {us : Array Value} (h : VsRel ρ φ args us.toList) (n : Nat) : TRel ρ φ (tmOf args) (us ++ Array.replicate n undef) := by
  intro i
  unfold tmOf
  rw [nth_eq]
  have hl := h.length
  cases hc : args[i]? with
  | none =>
    have : ¬ i < us.size := by
      intro hlt; rw [List.getElem?_eq_none_iff] at hc; simp at hl; omega
    have e : (us ++ Array.replicate n undef).getD i undef = undef := by
      simp only [Array.getD_eq_getD_getElem?]
      rw [Array.getElem?_append_right (by omega)]
      cases hx : (Array.replicate n undef)[i - us.size]? with
      | none => rfl
      | some x => rw [Array.getElem?_replicate] at hx; split at hx <;> cases hx; rfl
    rw [e]; exact undef_rel
  | some v =>
    obtain ⟨u, h1, h2⟩ := h.get hc
    have hu : us[i]? = some u := by simpa using h1
    have hlt : i < us.size := (Array.getElem?_eq_some_iff.1 hu).1
    have e : (us ++ Array.replicate n undef).getD i undef = u := by
      simp only [Array.getD_eq_getD_getElem?]
      rw [Array.getElem?_append_left hlt, hu]; rfl
    rw [e]; exact h2

/-- what is asked of a table of functions -/
def fnOk (P : Program) (dr : Nat → Array Oper → List Row → Bool) (f : Nat) (F : FnA) : Prop :=
  P.funcs[f]? = some F.F ∧ (F.F.name == "runtime.NumGoroutine") = false ∧ ∀ c, F.F.body = some c → codeOk F.F.ntmps F.D.get dr c = true

/-- what is asked of an oracle: what it answers, the model answers -/
def OrcOk (P : Program) (ρ : Env) (w0 : World) (fns : Nat → Option FnA) (orc : Nat → List AV → AHeap → Option (AV × AHeap)) : Prop :=
  ∀ f args h v h', fns f = none → orc f args h = some (v, h') → ∀ φ w uargs, HRel ρ w0 φ h w → VsRel ρ φ args uargs.toList → NextOk P ρ w0 (callFunc f uargs) φ w h v h'

/-- a block whose name is struck may become anything -/
theorem HRel.shut (H : HRel ρ w0 φ h w) {i blk sz : Nat} {o : AObj} (hg : h.get i = some o) (hi : φ i = some (blk, sz)) (ob' : Obj) : HRel ρ w0 φ (h.kill i) (wput w blk ob') := by
  have hle := H.id_le hi
  obtain ⟨h1, h2, h3⟩ := H.dom _ _ _ hi
  have K := H.kill hi
  refine ⟨by simp [wput]; exact K.size, fun b hb => ?_, K.next, fun j bj sj hj => ?_, K.inj, fun j oj bj sj hj pj => ?_⟩
  · simp only [wput]
    rw [Array.getElem?_setIfInBounds_ne (by omega)]; exact H.base b hb
  · have := K.dom _ _ _ hj; simp only [wput, Array.size_setIfInBounds]; exact this
  · obtain ⟨b, k1, k2⟩ := K.obj _ _ _ _ hj pj
    refine ⟨b, ?_, k2⟩
    have hne : blk ≠ bj := by
      intro e; subst e
      rw [get_kill _ _ _ hle] at hj
      by_cases ej : j = i
      · rw [if_pos ej] at hj; cases hj
      · rw [if_neg ej] at hj
        exact ej (H.inj j i _ _ _ (by rw [hj]; simp) (by rw [hg]; simp) pj hi)
    simp only [wput]; rw [Array.getElem?_setIfInBounds_ne hne]; exact k1

theorem leave_ok {F : Func} {tmps : Array Value} {R : Ending → World → Prop} : ∀ {m : List Nat} {ds : List Deferred} {h h' : AHeap} {w : World}, MarksRel φ m ds → HRel ρ w0 φ h w → shutA m h = some h' →
    (∀ w', HRel ρ w0 φ h' w' → h'.next = h.next → ∃ v, (results F tmps).run P w' = .ok v w' ∧ R (.returned v) w') → LeavesInM Fence.wide 0 P F tmps R ds .returning w := by
  intro m
  induction m with
  | nil =>
    intro ds h h' w hm H he hK
    cases hm
    cases he
    exact hK w H rfl
  | cons d m ih =>
    intro ds h h' w hm H he hK
    cases hm with
    | cons _ d' _ l hd hm =>
      obtain ⟨blk, sz, k1, rfl⟩ := hd
      have he : (ob (h.get d) fun o => match o with | .dfr => shutA m (h.kill d) | _ => none) = some h' := he
      simp only [ob_some] at he
      obtain ⟨o, k2, he⟩ := he
      split at he
      · obtain ⟨b, k3, k4⟩ := H.obj _ _ _ _ k2 k1
        cases k4
        refine ⟨by simp, .inl ⟨blk, w.putObj blk (.deferred none), rfl, run_takeDeferred k3, ?_⟩⟩
        exact ih hm (H.shut k2 k1 (.deferred none)) he fun w' H' e => hK w' H' (by rw [e]; rfl)
      · cases he

theorem onLoop_some {β : Type} {l : Nat} {K : (Nat → Option (List Row)) → Tm → List Nat → Code → Code → LoopState → Option Code → Option β} {r : β} :
    onLoop h l K = some r ↔ ∃ D t ps asg body st p, h.get l = some (.loop D t ps asg body st p) ∧ K D t ps asg body st p = some r := by
  unfold onLoop
  rw [ob_some]
  constructor
  · rintro ⟨o, h1, h2⟩
    split at h2
    · exact ⟨_, _, _, _, _, _, _, h1, h2⟩
    · cases h2
  · rintro ⟨D, t, ps, asg, body, st, p, h1, h2⟩; exact ⟨_, h1, h2⟩

/-- the record of a loop, as the heap has it -/
theorem HRel.loop (H : HRel ρ w0 φ h w) {l blk sz : Nat} {D : Nat → Option (List Row)} {t : Tm} {ps : List Nat} {asg body : Code} {st : LoopState} {p : Option Code} (hl : φ l = some (blk, sz)) (hg : h.get l = some (.loop D t ps asg body st p)) :
    ∃ (N : Nat) (r : Loop), w.heap[blk]? = some (.loop r) ∧ r.state = st ∧ r.params.toList = ps ∧ r.assign = asg ∧ r.body = body ∧ TRel ρ φ t r.tmps ∧ N ≤ r.tmps.size ∧ (∀ i ∈ ps, i < N) ∧ ρ.good N D asg ∧ ρ.good N D body ∧
      ∀ st' p', ORel ρ φ sz (.loop D t ps asg body st' p') (.loop { r with state := st', pending := p' }) := by
  obtain ⟨b, h1, h2⟩ := H.obj _ _ _ _ hg hl
  cases h2 with
  | loop _ _ ps' _ _ _ _ N fn b tmps ht hn hp hg hg' =>
    exact ⟨N, _, h1, rfl, rfl, rfl, rfl, ht, hn, hp, hg, hg', fun st' p' => .loop _ _ _ _ _ _ _ _ _ _ _ ht hn hp hg hg'⟩

theorem putsA_ok : ∀ {ps : List Nat} {vs : List AV} {us : List Value} {t t' : Tm} {tmps : Array Value}, putsA ps vs t = some t' → VsRel ρ φ vs us → TRel ρ φ t tmps → (∀ i ∈ ps, i < N) → N ≤ tmps.size →
    ps.length = us.length ∧ TRel ρ φ t' ((ps.zip us).foldl (fun tmps (t, a) => tmps.setIfInBounds t a) tmps) ∧ N ≤ ((ps.zip us).foldl (fun tmps (t, a) => tmps.setIfInBounds t a) tmps).size := by
  intro ps
  induction ps with
  | nil =>
    intro vs us t t' tmps he hv ht hp hn
    have he : nil0 vs (some t) = some t' := he
    rw [nil0_some] at he
    obtain ⟨rfl, he⟩ := he
    cases he
    cases hv
    exact ⟨rfl, ht, hn⟩
  | cons p ps ih =>
    intro vs us t t' tmps he hv ht hp hn
    have he : arg0 vs (fun v vs => putsA ps vs (putD t v p)) = some t' := he
    rw [arg0_some] at he
    obtain ⟨v, vs', rfl, he⟩ := he
    cases hv with
    | cons _ u _ us hu hv =>
      have := ih (tmps := tmps.setIfInBounds p u) he hv (putA_rel (a := { tmps := tmps, defers := [] }) (dst := some p) (N := N) ht hu hn fun d e => by cases e; exact hp p (by simp)) (fun i hi => hp i (by simp [hi])) (by simp; exact hn)
      exact ⟨by simp [this.1], this.2⟩

theorem endRound_ok (H : HRel ρ w0 φ h w) {l blk sz : Nat} (hl : φ l = some (blk, sz)) {p : Option Code} {v : AV} {h2 : AHeap} (he : endRoundA l h p = some (v, h2)) {h0 : AHeap} {φ0 : Phi} (g : Grow h0 h φ0 φ) :
    ∃ u w', (Instr.endRound blk p).run P w = .ok u w' ∧ RetOk ρ w0 φ0 h0 v h2 (.returned u) w' := by
  simp only [endRoundA, onLoop_some, rOk_some, Prod.mk.injEq] at he
  obtain ⟨D, t, ps, asg, body, st, p0, h1, rfl, rfl⟩ := he
  obtain ⟨N, r, k1, k2, k3, k4, k5, k6, k7, k8, k9, k10, k11⟩ := H.loop hl h1
  refine ⟨_, _, run_endRound p k1, φ, g.trans (.same rfl), .bool _, ?_⟩
  cases p with
  | none => exact H.put h1 hl (k11 .ready none)
  | some c => exact H.put h1 hl (k11 .done (some c))

theorem roundA_ok (T : TiOk P ti) (hb : BdOk ρ bd) {C : CallF} (hC : CallOk P ρ w0 C) {dr : Nat → Array Oper → List Row → Bool}
    (hD : ∀ N id ops rs, dr N ops rs = true → DrawOk P ρ w0 N ti bd C id ops rs) (hG : ∀ N D c, codeOk N D dr c = true ↔ ρ.good N D c) {l : Nat} {args : List AV} {v : AV} (he : roundA ti bd C l args h = some (v, h'))
    {uargs : Array Value} {blk sz : Nat} (hl : φ l = some (blk, sz)) (H : HRel ρ w0 φ h w) (hx : VsRel ρ φ args uargs.toList) : NextOk P ρ w0 (Instr.yield blk uargs) φ w h v h' := by
  simp only [roundA, onLoop_some, ob_some] at he
  obtain ⟨D, t, ps, asg, body, st, p, h1, t1, h2, x, h3, he⟩ := he
  obtain ⟨N, r, k1, k2, k3, k4, k5, k6, k7, k8, k9, k10, k11⟩ := H.loop hl h1
  obtain ⟨p1, p2, p3⟩ := putsA_ok h2 hx k6 k8 k7
  have hsz : uargs.size = r.params.size := by rw [← k3] at p1; simpa using p1.symm
  have hz : (r.params.zip uargs).foldl (fun tmps (t, a) => tmps.setIfInBounds t a) r.tmps = (ps.zip uargs.toList).foldl (fun tmps (t, a) => tmps.setIfInBounds t a) r.tmps := by
    rw [← Array.foldl_toList, Array.toList_zip, k3]
  refine .inr (.inr ⟨blk, r.fn, _, r.assign, r.body, w, run_yield k1 hsz, ?_⟩)
  rw [hz, k4, k5]
  refine roundIn_of_wpIn trivial ?_
  have S : St ρ w0 N [] φ t1 h { tmps := (ps.zip uargs.toList).foldl (fun tmps (t, a) => tmps.setIfInBounds t a) r.tmps, defers := [] } w := ⟨H, p2, p3, rfl⟩
  refine Code.wpIn_mono (fun e a1 w1 q => ?_) (codeA_ok (rng := fun _ => false) T hb hC (hD N) (fun N D c => (hG N D c).1) asg ((hG _ _ _).2 k9) (some blk) 0 [] t1 h x φ _ w .none h3 S)
  obtain ⟨q1, φ1, new, g1, qm, S1⟩ := q
  obtain ⟨xe, xt, xh, xm⟩ := x
  cases xe with
  | exit i => cases he
  | ret => cases he
  | normal =>
    cases e <;> try simp only at q1
    simp only [roundBody, onLoop_some, guardB_some, ob_some] at he
    obtain ⟨D', t', ps', asg', bd', st', p', j1, j2, y, j3, he⟩ := he
    have hl1 : φ1 l = some (blk, sz) := g1.le _ _ hl
    obtain ⟨N', r', i1, i2, i3, i4, i5, i6, i7, i8, i9, i10, i11⟩ := S1.H.loop hl1 j1
    have hst : r'.state = .ready := by rw [i2]; cases st' <;> first | rfl | cases j2
    refine ⟨_, run_beginRound i1 hst, ?_⟩
    have H2 := S1.H.put (o' := .loop D' t' ps' asg' bd' .busy p') j1 hl1 (i11 .busy p')
    have hp' : r'.pending = p' := by
      obtain ⟨b, e1, e2⟩ := S1.H.obj _ _ _ _ j1 hl1
      rw [i1] at e1; cases e1
      cases e2; rfl
    have hr' : ({ r' with state := .busy, pending := p' } : Loop) = { r' with state := .busy } := by rw [← hp']
    rw [hr'] at H2
    have S2 : St ρ w0 N (new ++ []) φ1 xt (xh.put l (.loop D' t' ps' asg' bd' .busy p')) a1 (w1.putObj blk (.loop { r' with state := .busy })) := ⟨H2, S1.t, S1.n, S1.d⟩
    refine Code.wpIn_mono (fun e2 a2 w2 q2 => ?_) (codeA_ok (rng := fun _ => false) T hb hC (hD N) (fun N D c => (hG N D c).1) body ((hG _ _ _).2 k10) (some blk) 0 _ xt _ y φ1 _ _ .none j3 S2)
    obtain ⟨z1, φ2, new2, g2, zm, S3⟩ := q2
    have gg : Grow h y.h φ φ2 := (g1.trans (h'' := xh.put l (.loop D' t' ps' asg' bd' .busy p')) (.same rfl)).trans g2
    have hl2 : φ2 l = some (blk, sz) := g2.le _ _ hl1
    obtain ⟨ye, yt, yh, ym⟩ := y
    cases ye with
    | normal =>
      cases e2 <;> try simp only at z1
      exact endRound_ok S3.H hl2 he gg
    | ret =>
      cases e2 <;> try simp only at z1
      exact endRound_ok S3.H hl2 he gg
    | exit i =>
      cases e2 <;> try simp only at z1
      subst z1
      exact endRound_ok S3.H hl2 he gg

theorem callA_ok (T : TiOk P ti) (hb : BdOk ρ bd) {fns : Nat → Option FnA} {orc : Nat → List AV → AHeap → Option (AV × AHeap)} {dr : Nat → Array Oper → List Row → Bool}
    (hfns : ∀ f F, fns f = some F → fnOk P dr f F) (ho : OrcOk P ρ w0 fns orc)
    (hD : ∀ C, CallOk P ρ w0 C → ∀ N id ops rs, dr N ops rs = true → DrawOk P ρ w0 N ti bd C id ops rs) (hG : ∀ N D c, codeOk N D dr c = true ↔ ρ.good N D c) : ∀ n, CallOk P ρ w0 (callA ti bd fns orc n) := by
  intro n
  induction n with
  | zero => intro fn args h v h' he; cases he
  | succ n ih =>
    intro fn args h v h' he
    have he : callS ti bd fns orc (callA ti bd fns orc n) fn args h = some (v, h') := he
    cases fn with
    | yield l => exact .inr ⟨l, rfl, fun φ w uargs blk sz hl H hx => roundA_ok T hb ih (hD _ ih) hG he hl H hx⟩
    | func f =>
      refine .inl ⟨f, rfl, fun φ w uargs H hx => ?_⟩
      cases hf : fns f with
      | none =>
        simp only [callS, hf] at he
        exact ho f args h v h' hf he φ w uargs H hx
      | some F =>
        simp only [callS, hf] at he
        obtain ⟨k1, k2, k3⟩ := hfns f F hf
        simp only [enterA, ob_some] at he
        obtain ⟨c, h1, out, h2, he⟩ := he
        have hco := k3 c h1
        have hr : RngOk P (rngA fns) none := by
          intro g hg
          unfold rngA at hg
          cases hfg : fns g with
          | none => rw [hfg] at hg; cases hg
          | some G =>
            rw [hfg] at hg
            obtain ⟨g1, g2, _⟩ := hfns g G hfg
            have hg : G.F.body.isSome = true := hg
            obtain ⟨b, hb⟩ := Option.isSome_iff_exists.1 hg
            exact ⟨rfl, G.F, b, g1, g2, hb⟩
        refine .inr (.inl ⟨f, uargs, w, run_callFunc k1 k2 h1 w, ?_⟩)
        refine callsIn_wide.1 (callsIn_of_wp_marks k1 h1 trivial (n := 0) ?_)
        have S : St ρ w0 F.F.ntmps [] φ (tmOf args) h { tmps := uargs ++ Array.replicate (F.F.ntmps - uargs.size) undef, defers := [] } w :=
          ⟨H, tmOf_rel hx _, by simp; omega, rfl⟩
        refine Code.wpIn_mono (fun e a w' q => ?_) (codeA_ok T hb ih (hD _ ih _) (fun N D c => (hG N D c).1) c hco none 0 [] _ _ out φ _ w hr h2 S)
        obtain ⟨q1, φ', new, g, qm, S'⟩ := q
        obtain ⟨oe, ot, oh, om⟩ := out
        have fin : (ob (shutA om oh) fun h => ob (resA ti ot h F.F.results.toList) fun l => rOk (one l) h) = some (v, h') → LeavesInM Fence.wide 0 P F.F a.tmps (RetOk ρ w0 φ h v h') a.defers .returning w' := by
          intro he
          simp only [ob_some, rOk_some, Prod.mk.injEq] at he
          obtain ⟨h2, e1, l, e2, rfl, rfl⟩ := he
          have hd := S'.d
          rw [List.append_nil] at hd
          rw [hd]
          refine leave_ok qm S'.H e1 fun w2 H2 en => ?_
          have S2 : St ρ w0 F.F.ntmps (new ++ []) φ' ot h2 a w2 := ⟨H2, S'.t, S'.n, S'.d⟩
          obtain ⟨u, h4, h5⟩ := results_ok T S2 e2
          exact ⟨u, h4, φ', g.trans (.same en), h5, H2⟩
        cases oe with
        | exit i => cases he
        | normal =>
          cases e <;> try simp only at q1
          exact fin he
        | ret =>
          cases e <;> try simp only at q1
          exact fin he
    | _ => cases he
end
end Go.AI
