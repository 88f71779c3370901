/-
  The abstract operations are the model's: maps written and gone through; lengths.
-/
import Derived.Test.YthgfmkhpogbonaaGreatDoorAiOp6
set_option linter.unusedVariables false
set_option linter.unusedSimpArgs false
namespace Go.AI
section
variable {P : Program} {ρ : Env} {φ : Phi} {w0 w : World} {h h' : AHeap} {ti : Nat → Option ATy} {bd : Bnd}

theorem VsRel.set {l : List AV} {m : List Value} (h : VsRel ρ φ l m) {v : AV} {u : Value} (hv : VRel ρ φ v u) (i : Nat) : VsRel ρ φ (l.set i v) (m.set i u) := by
  induction m generalizing l i with
  | nil => cases h; exact .nil
  | cons x m ih => cases h with | cons v' _ l _ h h' => cases i with
    | zero => exact .cons _ _ _ _ hv h'
    | succ i => exact .cons _ _ _ _ h (ih h' i)
theorem VsRel.eraseIdx {l : List AV} {m : List Value} (h : VsRel ρ φ l m) (i : Nat) : VsRel ρ φ (l.eraseIdx i) (m.eraseIdx i) := by
  induction m generalizing l i with
  | nil => cases h; exact .nil
  | cons x m ih => cases h with | cons v' _ l _ h h' => cases i with
    | zero => exact h'
    | succ i => exact .cons _ _ _ _ h (ih h' i)

theorem modA_maps (k v : AV) (es : Ents) (i : Nat) : (modA k v es i).map (·.1) = (es.map (·.1)).set i k ∧ (modA k v es i).map (·.2.1) = (es.map (·.2.1)).set i v ∧ (modA k v es i).map (·.2.2) = es.map (·.2.2) := by
  induction es generalizing i with
  | nil => exact ⟨rfl, rfl, rfl⟩
  | cons e es ih =>
    cases i with
    | zero => exact ⟨rfl, rfl, rfl⟩
    | succ i =>
      obtain ⟨h1, h2, h3⟩ := ih i
      refine ⟨?_, ?_, ?_⟩
      · show e.1 :: (modA k v es i).map (·.1) = _; rw [h1]; rfl
      · show e.2.1 :: (modA k v es i).map (·.2.1) = _; rw [h2]; rfl
      · show e.2.2 :: (modA k v es i).map (·.2.2) = _; rw [h3]; rfl
theorem erase_map' {α β : Type} (f : α → β) (l : List α) (i : Nat) : (l.eraseIdx i).map f = (l.map f).eraseIdx i := by
  induction l generalizing i with
  | nil => rfl
  | cons x l ih => cases i with
    | zero => rfl
    | succ i => simp [ih]
theorem eraA_maps (es : Ents) (i : Nat) : eraA es i = es.eraseIdx i := by
  induction es generalizing i with
  | nil => rfl
  | cons e es ih => cases i with
    | zero => rfl
    | succ i => show e :: eraA es i = _; rw [ih]; rfl

theorem str_inv {l : List Nat} {u : Value} (h : VRel ρ φ (.str l) u) : ∃ s : ByteArray, u = .string s ∧ l = s.data.toList.map UInt8.toNat := by
  cases h; exact ⟨_, rfl, rfl⟩
theorem sameBits_flat {v : AV} {u u' : Value} (e : kEq v v = true) (h : VRel ρ φ v u) (h' : VRel ρ φ v u') (n : Nat) : Instr.sameBits n u u' = true := by
  cases v
  case str l =>
    obtain ⟨s, rfl, e1⟩ := str_inv h
    obtain ⟨s', rfl, e2⟩ := str_inv h'
    have : s = s' := by
      have := bytes_inj.1 (e1.symm.trans e2)
      rw [ByteArray.toList_eq, ByteArray.toList_eq] at this
      obtain ⟨⟨x⟩⟩ := s; obtain ⟨⟨y⟩⟩ := s'; simp at this; rw [this]
    rw [this]; cases n <;> simp [Instr.sameBits, beq_toListBytes]
  all_goals first
    | (simp [kEq] at e; done)
    | (cases h; cases h'; cases n <;> simp [Instr.sameBits])

theorem sameBits_list {l : List AV} {m m' : List Value} (e : ksEq l l = true) (h : VsRel ρ φ l m) (h' : VsRel ρ φ l m') (n : Nat) : ((m.zip m').all fun (x, y) => Instr.sameBits n x y) = true := by
  induction l generalizing m m' with
  | nil => cases h; rfl
  | cons v l ih =>
    cases h with
    | cons _ _ _ _ a b => cases h' with
      | cons _ _ _ _ a' b' =>
        simp only [ksEq, Bool.and_eq_true] at e
        simp only [List.zip_cons_cons, List.all_cons, Bool.and_eq_true]
        exact ⟨sameBits_flat e.1 a a' n, ih e.2 b b'⟩

theorem kEq_eq {a b : AV} (h : kEq a b = true) : a = b := by
  cases a <;> cases b <;> simp_all [kEq, keq_iff, ieq_iff]
  all_goals first | exact nlEqD_eq h | (rename_i x y; cases x <;> cases y <;> simp_all)
theorem ksEq_eq {a b : List AV} (h : ksEq a b = true) : a = b := by
  induction a generalizing b with
  | nil => cases b <;> simp [ksEq] at h ⊢
  | cons x l ih => cases b with
    | nil => simp [ksEq] at h
    | cons y m => simp [ksEq] at h; rw [kEq_eq h.1, ih h.2]

theorem keySame_bits {a b : AV} {u u' : Value} (e : keySame a b = true) (h : VRel ρ φ a u) (h' : VRel ρ φ b u') : Instr.sameBits 10000 u u' = true := by
  unfold keySame at e
  split at e
  · rename_i l m
    have := ksEq_eq e
    subst this
    cases h with
    | agg _ p hp fp => cases h' with
      | agg _ q hq fq =>
        have hl := hp.length
        have hl' := hq.length
        simp only [Instr.sameBits, Bool.and_eq_true, beq_iff_eq]
        refine ⟨by simp at hl hl'; omega, sameBits_list e hp hq 9999⟩
  · have := kEq_eq e
    subst this
    exact sameBits_flat e h h' 10000

theorem ERel.mod {es : Ents} {es' : Array MapEntry} (R : ERel ρ φ es es') {k v : AV} {uk uv : Value} (hk : VRel ρ φ k uk) (hv : VRel ρ φ v uv) (i : Nat) : ERel ρ φ (modA k v es i) (es'.modify i fun e => { e with key := uk, val := uv }) := by
  obtain ⟨m1, m2, m3⟩ := modA_maps k v es i
  refine ⟨?_, ?_, ?_⟩
  · rw [m1]
    have := R.k.set hk i
    have e : ((es'.modify i fun e => { e with key := uk, val := uv }).toList.map (·.key)) = (es'.toList.map (·.key)).set i uk := by
      apply List.ext_getElem?; intro j
      simp only [List.getElem?_map, Array.toList_modify, List.getElem?_modify, List.getElem?_set, List.length_map]
      by_cases c : i = j
      · subst c; by_cases d : i < es'.size
        · simp [d]
        · simp [d, Nat.le_of_not_lt d]
      · simp [c]
    rw [e]; exact this
  · rw [m2]
    have := R.v.set hv i
    have e : ((es'.modify i fun e => { e with key := uk, val := uv }).toList.map (·.val)) = (es'.toList.map (·.val)).set i uv := by
      apply List.ext_getElem?; intro j
      simp only [List.getElem?_map, Array.toList_modify, List.getElem?_modify, List.getElem?_set, List.length_map]
      by_cases c : i = j
      · subst c; by_cases d : i < es'.size
        · simp [d]
        · simp [d, Nat.le_of_not_lt d]
      · simp [c]
    rw [e]; exact this
  · rw [m3, R.b]
    apply List.ext_getElem?; intro j
    simp only [List.getElem?_map, Array.toList_modify, List.getElem?_modify]
    by_cases c : i = j
    · subst c; cases es'.toList[i]? <;> simp
    · simp [c]

theorem HRel.putMap (H : HRel ρ w0 φ h w) {r blk sz : Nat} {es es2 : Ents} {c c2 : Nat} {es2' : Array MapEntry} (hr : φ r = some (blk, sz)) (hg : h.get r = some (.map es c)) (R : ERel ρ φ es2 es2') :
    HRel ρ w0 φ (h.put r (.map es2 c2)) (wput w blk (.map es2' c2)) := H.put hg hr (.map es2 es2' c2 R.k R.v R.b)

theorem updateA_ok (T : TiOk P ti) {t : TypeId} {m k x v : AV} {um uk ux : Value} (H : HRel ρ w0 φ h w) (hm : VRel ρ φ m um) (hk : VRel ρ φ k uk) (hx : VRel ρ φ x ux) (he : updateA ti t m k x h = some (v, h')) :
    v = undefA ∧ UnitOk P ρ w0 (Instr.mapUpdate t um uk ux) φ w h h' := by
  simp only [updateA, ob_some, kMap_some, guardB_some, onMapV_some, entsOf_some] at he
  obtain ⟨ty, h1, kt, e, hty, hko, he⟩ := he
  have k1 := (T _ _ h1).map hty
  obtain ⟨kd, hkd⟩ : ∃ kd, P.underlying kt = some kd := by
    have : (Option.rec (motive := fun _ => Bool) false (fun ty => keyS ti (keyOk ti 63) ty.k k) (ti kt) : Bool) = true := hko
    cases hkt : ti kt with
    | none => rw [hkt] at this; cases this
    | some akt => obtain ⟨d, d1, _⟩ := (T _ _ hkt).und; exact ⟨d, d1⟩
  have hck : ∀ em, (Instr.checkKey em 10000 kt uk).run P w = .ok () w := fun em => keyOk_check T em hko hk
  rcases he with ⟨_, he⟩ | ⟨r, rfl, es, c, hg, f, hf, he⟩
  · cases he
  · cases hm with
    | map _ blk sz hb =>
      obtain ⟨es', g1, R⟩ := H.ents hb hg
      obtain ⟨q, f1, f2⟩ := findA_ok (w := w) T hk es es'.toList 0 f R.k R.v hf
      have f3 := findKey_asking (w := w) hkd uk es'.toList f1
      cases f with
      | some p =>
        cases q with
        | none => cases f2
        | some q =>
          simp only [ob_some, guardB_some, rOk_some, Prod.mk.injEq, nth_eq] at he
          obtain ⟨en, e1, e2, rfl, rfl⟩ := he
          obtain ⟨hpq, _⟩ := f2
          have hi : (es.map (·.1))[p.1]? = some en.1 := by simp [e1]
          obtain ⟨old, o1, o2⟩ := R.k.get hi
          have hold : (es'[q.1]?).map (·.key) = some old := by rw [← hpq]; simpa using o1
          have hbits := keySame_bits e2 o2 hk
          refine ⟨rfl, φ, _, ?_, .same rfl, H.putMap hb hg (R.mod hk hx p.1)⟩
          simp only [Instr.mapUpdate, Sem.run_bind, run_un k1, Result.andThen_ok, run_getObj g1 notCells_map, hck]
          rw [f3]
          simp only [Result.andThen_ok, Sem.run_bind]
          have hstay : (Instr.keyThatStays (((es'[q.1]?).map (·.key)).getD uk) uk).run P w = .ok uk w := by
            rw [hold]; simp [Instr.keyThatStays, hbits]
          rw [hstay]
          simp only [Result.andThen_ok, run_setObj g1 notCells_map, hpq]
      | none =>
        cases q with
        | some q => cases f2
        | none =>
          simp only [rOk_some, Prod.mk.injEq] at he
          obtain ⟨rfl, rfl⟩ := he
          have R2 : ERel ρ φ (appL es [(k, x, c)]) (es'.push { key := uk, val := ux, born := c }) := by
            rw [appL_eq]
            refine ⟨?_, ?_, ?_⟩
            · simp only [List.map_append, Array.toList_push, List.map_cons, List.map_nil]; exact R.k.append (.single hk)
            · simp only [List.map_append, Array.toList_push, List.map_cons, List.map_nil]; exact R.v.append (.single hx)
            · simp only [List.map_append, Array.toList_push, List.map_cons, List.map_nil, R.b]
          refine ⟨rfl, φ, _, ?_, .same rfl, H.putMap hb hg R2⟩
          simp only [Instr.mapUpdate, Sem.run_bind, run_un k1, Result.andThen_ok, run_getObj g1 notCells_map, hck]
          rw [f3]
          simp only [Result.andThen_ok, run_setObj g1 notCells_map]

theorem deleteA_ok (T : TiOk P ti) {t : TypeId} {m k v : AV} {um uk : Value} (at1 : Array TypeId) (ty' : TypeId) (H : HRel ρ w0 φ h w) (hm : VRel ρ φ m um) (hk : VRel ρ φ k uk) (h0 : at1[0]? = some t) (he : deleteA ti t m k h = some (v, h')) :
    ValOk P ρ w0 (Builtin.delete_ at1 ty' #[um, uk]) φ w h v h' := by
  simp only [deleteA, ob_some, kMap_some, guardB_some, onMapV_some, entsOf_some] at he
  obtain ⟨ty, h1, kt, e, hty, hko, he⟩ := he
  have k1 := (T _ _ h1).map hty
  obtain ⟨kd, hkd⟩ : ∃ kd, P.underlying kt = some kd := by
    have : (Option.rec (motive := fun _ => Bool) false (fun ty => keyS ti (keyOk ti 63) ty.k k) (ti kt) : Bool) = true := hko
    cases hkt : ti kt with
    | none => rw [hkt] at this; cases this
    | some akt => obtain ⟨d, d1, _⟩ := (T _ _ hkt).und; exact ⟨d, d1⟩
  have hck : ∀ em, (Instr.checkKey em 10000 kt uk).run P w = .ok () w := fun em => keyOk_check T em hko hk
  rcases he with ⟨rfl, he⟩ | ⟨r, rfl, es, c, hg, f, hf, he⟩
  · cases hm
    simp only [rOk_some, Prod.mk.injEq] at he
    obtain ⟨rfl, rfl⟩ := he
    refine .pure H ?_ undef_rel
    simp [Builtin.delete_, h0, run_un k1, hck]; rfl
  · cases hm with
    | map _ blk sz hb =>
      obtain ⟨es', g1, R⟩ := H.ents hb hg
      obtain ⟨q, f1, f2⟩ := findA_ok (w := w) T hk es es'.toList 0 f R.k R.v hf
      have f3 := findKey_asking (w := w) hkd uk es'.toList f1
      cases f with
      | some p =>
        cases q with
        | none => cases f2
        | some q =>
          simp only [rOk_some, Prod.mk.injEq] at he
          obtain ⟨rfl, rfl⟩ := he
          obtain ⟨hpq, _⟩ := f2
          have e1 : (es'.eraseIdxIfInBounds p.1).toList = es'.toList.eraseIdx p.1 := by
            simp only [Array.eraseIdxIfInBounds]
            split
            · simp
            · rename_i hn; rw [List.eraseIdx_of_length_le (by simpa using Nat.le_of_not_lt hn)]
          have R2 : ERel ρ φ (eraA es p.1) (es'.eraseIdxIfInBounds p.1) := by
            rw [eraA_maps]
            refine ⟨?_, ?_, ?_⟩
            · rw [e1, erase_map', erase_map']; exact R.k.eraseIdx _
            · rw [e1, erase_map', erase_map']; exact R.v.eraseIdx _
            · rw [e1, erase_map', erase_map', R.b]
          refine ⟨φ, _, undef, ?_, undef_rel, .same rfl, H.putMap hb hg R2⟩
          simp [Builtin.delete_, h0, run_un k1, run_getObj g1 notCells_map, hck, f3, run_setObj g1 notCells_map, hpq]; rfl
      | none =>
        cases q with
        | some q => cases f2
        | none =>
          simp only [rOk_some, Prod.mk.injEq] at he
          obtain ⟨rfl, rfl⟩ := he
          refine .pure H ?_ undef_rel
          simp [Builtin.delete_, h0, run_un k1, run_getObj g1 notCells_map, hck, f3, run_setObj g1 notCells_map, wput_same g1]; rfl
end
end Go.AI
