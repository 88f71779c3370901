/-
  The abstract operations are the model's: moves, blocks, loads, stores, fields, indexes, slices.
-/
import Derived.Test.YthgfmkhpogbonaaGreatDoorAiTy
set_option linter.unusedVariables false
set_option linter.unusedSimpArgs false
namespace Go.AI
section
variable {P : Program} {ρ : Env} {φ : Phi} {w0 w : World} {h h' : AHeap} {ti : Nat → Option ATy}

/-- the naming grows: no name that there was is changed or filled -/
structure Grow (h h' : AHeap) (φ φ' : Phi) : Prop where
  le : φ.le φ'
  old : ∀ i, i < h.next → φ' i = φ i
  next : h.next ≤ h'.next
theorem Grow.same (e : h'.next = h.next) : Grow h h' φ φ := ⟨φ.le_refl, fun _ _ => rfl, by omega⟩
theorem Grow.trans {h h' h'' : AHeap} {φ φ' φ'' : Phi} (a : Grow h h' φ φ') (b : Grow h' h'' φ' φ'') : Grow h h'' φ φ'' :=
  ⟨fun i p e => b.le _ _ (a.le _ _ e), fun i hi => (b.old i (by have := a.next; omega)).trans (a.old i hi), by have := a.next; have := b.next; omega⟩
theorem HRel.grow {hh : AHeap} (H : HRel ρ w0 φ hh w) {blk sz : Nat} (e : hh.next = h.next) (e' : h'.next = h.next + 1) : Grow h h' φ (φ.ext hh.next blk sz) :=
  ⟨H.le_ext _ _, fun i hi => by simp only [Phi.ext]; rw [if_neg (by omega)], by omega⟩

def OpOk (P : Program) (ρ : Env) (w0 : World) (s : Sem Next) (φ : Phi) (w : World) (h : AHeap) (v : AV) (h' : AHeap) : Prop :=
  ∃ φ' w' r, s.run P w = .ok r w' ∧ ((∃ u, r = .value u ∧ VRel ρ φ' v u) ∨ (r = .skip ∧ v = undefA)) ∧ Grow h h' φ φ' ∧ HRel ρ w0 φ' h' w'
def ValOk (P : Program) (ρ : Env) (w0 : World) (s : Sem Value) (φ : Phi) (w : World) (h : AHeap) (v : AV) (h' : AHeap) : Prop :=
  ∃ φ' w' u, s.run P w = .ok u w' ∧ VRel ρ φ' v u ∧ Grow h h' φ φ' ∧ HRel ρ w0 φ' h' w'
def UnitOk (P : Program) (ρ : Env) (w0 : World) (s : Sem Unit) (φ : Phi) (w : World) (h h' : AHeap) : Prop :=
  ∃ φ' w', s.run P w = .ok () w' ∧ Grow h h' φ φ' ∧ HRel ρ w0 φ' h' w'

theorem OpOk.of_val {s : Sem Value} {v : AV} (H : ValOk P ρ w0 s φ w h v h') : OpOk P ρ w0 (do pure (.value (← s))) φ w h v h' := by
  obtain ⟨φ', w', u, h1, h2, h3, h4⟩ := H
  exact ⟨φ', w', .value u, by simp [h1], .inl ⟨u, rfl, h2⟩, h3, h4⟩
theorem OpOk.of_unit {s : Sem Unit} (H : UnitOk P ρ w0 s φ w h h') : OpOk P ρ w0 (do s; pure .skip) φ w h undefA h' := by
  obtain ⟨φ', w', h1, h3, h4⟩ := H
  exact ⟨φ', w', .skip, by simp [h1], .inr ⟨rfl, rfl⟩, h3, h4⟩
theorem OpOk.pure {v : AV} {u : Value} (H : HRel ρ w0 φ h w) (hv : VRel ρ φ v u) : OpOk P ρ w0 (Pure.pure (.value u)) φ w h v h :=
  ⟨φ, w, _, rfl, .inl ⟨u, rfl, hv⟩, .same rfl, H⟩
theorem ValOk.pure {v : AV} {u : Value} {s : Sem Value} (H : HRel ρ w0 φ h w) (hs : s.run P w = .ok u w) (hv : VRel ρ φ v u) : ValOk P ρ w0 s φ w h v h :=
  ⟨φ, w, u, hs, hv, .same rfl, H⟩

theorem undef_rel : VRel ρ φ undefA undef := .tup [] #[] .nil

theorem evx_rel {x : Operand} {t : Tm} {v : AV} {a : Act} (hv : evx x t = some v) (ht : TRel ρ φ t a.tmps) : VRel ρ φ v (a.eval x) := by
  cases x with
  | tmp i => cases hv; exact ht i
  | const z => exact ofValue_rel z v hv
  | global g => cases hv
  | func f => cases hv; exact .func _ _ _ _ _ .nil .nil

theorem evxs_rel {l : List Operand} {t : Tm} {vs : List AV} {a : Act} (hv : evxs l t = some vs) (ht : TRel ρ φ t a.tmps) : VsRel ρ φ vs (l.map a.eval) := by
  induction l generalizing vs with
  | nil => cases hv; exact .nil
  | cons x l ih =>
    have hv' : (ob (evx x t) fun a => ob (evxs l t) fun r => some (a :: r)) = some vs := hv
    simp only [ob_some] at hv'
    obtain ⟨v, h1, r, h2, h3⟩ := hv'
    cases h3
    exact .cons _ _ _ _ (evx_rel h1 ht) (ih h2)

-- a type's row
theorem run_ti {t : TypeId} {i : TypeInfo} (h : P.info? t = some i) (w : World) : (typeInfo t).run P w = .ok i w := by simp [typeInfo, h]
theorem run_un {t : TypeId} {d : TypeDesc} (h : P.underlying t = some d) (w : World) : (underlying t).run P w = .ok d w := by simp [underlying, h]
theorem TyRel.run_size {t : TypeId} {a : ATy} (T : TyRel P t a) (w : World) : (sizeOf t).run P w = .ok a.size w := by
  obtain ⟨i, z, h1, h2, h3, h4, h5⟩ := T.info
  simp [sizeOf, run_ti h1, h2]
theorem TyRel.run_bytes {t : TypeId} {a : ATy} (T : TyRel P t a) : ∃ i, P.info? t = some i ∧ i.bytes = a.bytes := by
  obtain ⟨i, z, h1, h2, h3, h4, h5⟩ := T.info
  exact ⟨i, h1, h3⟩
theorem TyRel.run_zero {t : TypeId} {a : ATy} (T : TyRel P t a) (w : World) : ∃ z zv, (zeroValue t).run P w = .ok z w ∧ ofValue z = some zv ∧ zv.cells = a.zero ∧ (if a.k.agg then ∃ l, zv = .agg l else zv.flat = true) := by
  obtain ⟨i, z, h1, h2, h3, h4, zv, h5, h6, h7⟩ := T.info
  exact ⟨z, zv, by simp [zeroValue, run_ti h1, h4], h5, h6, h7⟩
def descAgg (d : TypeDesc) : Bool := match d with | .struct _ | .array _ _ => true | _ => false
theorem KRel.agg {t : TypeId} {k : AK} {d : TypeDesc} (K : KRel P t k d) : descAgg d = k.agg := by
  cases K <;> try rfl
  rename_i h1 h2 h3
  cases d <;> first | rfl | exact absurd rfl (h1 _) | exact absurd rfl (h2 _ _)
theorem TyRel.run_agg {t : TypeId} {a : ATy} (T : TyRel P t a) (w : World) : (Go.isAgg t).run P w = .ok a.k.agg w := by
  obtain ⟨d, h1, h2⟩ := T.und
  have := h2.agg
  simp only [Go.isAgg, Sem.run_bind, run_un h1, Result.andThen_ok]
  rw [← this]; cases d <;> rfl

-- new cells
theorem HRel.newCells (H : HRel ρ w0 φ h w) (hn : True) {l : List AV} {c : Array Value} (e : TypeId) (hl : l.length ≤ c.size) (hv : VsRel ρ φ l (c.toList.take l.length)) (hf : ∀ v ∈ l, v.flat = true) :
    HRel ρ w0 (φ.ext h.next w.heap.size c.size) (h.newH (.cells l)) (wnew w (.cells c e)) :=
  H.new hn (.cells l c e 0 0 rfl hl (hv.mono (H.le_ext _ _)) hf (fun k _ => by omega))
theorem run_newRow (e : TypeId) (c : Array Value) : (newRow e c).run P w = .ok ⟨w.heap.size, 0, none⟩ (wnew w (.cells c e)) := by
  simp [newRow]; rfl
theorem HRel.newAll (H : HRel ρ w0 φ h w) (hn : True) {l : List AV} {c : Array Value} (e : TypeId) (hv : VsRel ρ φ l c.toList) (hf : ∀ v ∈ l, v.flat = true) :
    HRel ρ w0 (φ.ext h.next w.heap.size c.size) (h.newH (.cells l)) (wnew w (.cells c e)) := by
  have := hv.length
  refine H.newCells hn e (by simp at this; omega) ?_ hf
  rw [List.take_of_length_le (by omega)]; exact hv

theorem storable_cells {v : AV} {u : Value} (hs : v.storable = true) (hr : VRel ρ φ v u) : ∀ x ∈ v.cells, x.flat = true := by
  cases hr with
  | agg l a h hf => exact hf
  | tup l a h => cases hs
  | _ => intro x hx; simp [AV.cells] at hx; subst hx; rfl

theorem oMove_ok {x : Operand} {t : Tm} {a : Act} {v : AV} (H : HRel ρ w0 φ h w) (ht : TRel ρ φ t a.tmps) (e : oMove x t h = some (v, h')) :
    OpOk P ρ w0 (Pure.pure (.value (a.eval x))) φ w h v h' := by
  simp only [oMove, ob_some, rOk_some, Prod.mk.injEq] at e
  obtain ⟨_, h1, rfl, rfl⟩ := e
  exact .pure H (evx_rel h1 ht)

theorem oPick_ok {c x y : Operand} {t : Tm} {a : Act} {v : AV} (H : HRel ρ w0 φ h w) (ht : TRel ρ φ t a.tmps) (e : oPick c x y t h = some (v, h')) :
    OpOk P ρ w0 (do pure (.value (if ← asBool (a.eval c) then a.eval x else a.eval y))) φ w h v h' := by
  simp only [oPick, ob_some, onBool_some] at e
  obtain ⟨_, h1, b, rfl, h2⟩ := e
  have hb := evx_rel h1 ht
  generalize hc : a.eval c = z at hb ⊢
  cases hb
  cases b
  · obtain ⟨φ', w', r, k1, k2⟩ := oMove_ok (P := P) H ht h2
    exact ⟨φ', w', r, by simpa [asBool] using k1, k2⟩
  · obtain ⟨φ', w', r, k1, k2⟩ := oMove_ok (P := P) H ht h2
    exact ⟨φ', w', r, by simpa [asBool] using k1, k2⟩

theorem oAlloc_ok (T : TiOk P ti) {e : Nat} {t : Tm} {v : AV} (H : HRel ρ w0 φ h w) (he : oAlloc ti e t h = some (v, h')) :
    ValOk P ρ w0 (Instr.alloc e true (.tuple #[])) φ w h v h' := by
  simp only [oAlloc, ob_some, new_some, rOk_some, Prod.mk.injEq] at he
  obtain ⟨ty, h1, hn, rfl, rfl⟩ := he
  have R := T _ _ h1
  obtain ⟨z, zv, hz, ho, hc, _⟩ := R.run_zero w
  have hr : VRel ρ φ zv z := ofValue_rel z zv ho
  refine ⟨_, wnew w (.cells z.cells e), .pointer (some ⟨w.heap.size, 0, none⟩), by simp [Instr.alloc, hz, newVar, run_newRow], .ptr _ _ _ _ (Phi.ext_self _ _ _ _), H.grow rfl rfl, H.newAll hn e (by rw [← hc]; exact hr.cells) R.zflat⟩

theorem oBox_ok {e : TypeId} {x : Operand} {t : Tm} {a : Act} {v : AV} (H : HRel ρ w0 φ h w) (ht : TRel ρ φ t a.tmps) (he : oBox x t h = some (v, h')) :
    ValOk P ρ w0 (Instr.box e (a.eval x)) φ w h v h' := by
  simp only [oBox, ob_some, guardB_some, new_some, rOk_some, Prod.mk.injEq] at he
  obtain ⟨u, h1, hs, hn, rfl, rfl⟩ := he
  have hr := evx_rel h1 ht
  refine ⟨_, wnew w (.cells (a.eval x).cells e), .pointer (some ⟨w.heap.size, 0, none⟩), by simp [Instr.box, newVar, run_newRow], .ptr _ _ _ _ (Phi.ext_self _ _ _ _), H.grow rfl rfl, H.newAll hn e hr.cells (storable_cells hs hr)⟩

-- parts
theorem partA_some {ty : ATy} {cs : List AV} {off : Nat} {v : AV} : partA ty cs off = some v ↔ (ty.k.agg = true ∧ ty.size ≤ (cs.drop off).length ∧ v = .agg ((cs.drop off).take ty.size)) ∨ (ty.k.agg = false ∧ cs[off]? = some v) := by
  unfold partA
  cases hk : ty.k.agg
  · simp [nth_eq]
  · simp only [sel_true, ob_some, takeN_some, dropN_eq, Option.some.injEq]
    constructor
    · rintro ⟨r, ⟨h1, rfl⟩, rfl⟩; exact .inl ⟨trivial, h1, rfl⟩
    · rintro (⟨_, h1, rfl⟩ | ⟨h, _⟩)
      · exact ⟨_, ⟨h1, rfl⟩, rfl⟩
      · cases h

theorem loadA_run (T : TiOk P ti) {ty : Nat} {aty : ATy} {b o : Nat} {v : AV} {z : Value} (H : HRel ρ w0 φ h w) (h1 : ti ty = some aty) (hr : VRel ρ φ (.ptr b o) z) (he : loadA aty h b o = some v) :
    ∃ ad u, z = .pointer (some ad) ∧ (loadVar ty ad).run P w = .ok u w ∧ VRel ρ φ v u := by
  simp only [loadA, cellsOf_some] at he
  obtain ⟨l, h3, h4⟩ := he
  have R := T _ _ h1
  cases hr with
  | ptr _ _ blk sz hb =>
    refine ⟨⟨blk, o, none⟩, ?_⟩
    rcases partA_some.1 h4 with ⟨hk, h5, rfl⟩ | ⟨hk, h5⟩
    · by_cases h0 : aty.size = 0
      · -- nothing is read
        have : (loadCells ⟨blk, o, none⟩ aty.size).run P w = .ok #[] w := by rw [h0]; rfl
        refine ⟨_, rfl, ?_, .agg _ #[] (by rw [h0]; exact .nil) (by rw [h0]; simp)⟩
        simp [loadVar, R.run_agg, R.run_size, hk, this]
      · obtain ⟨c, k1, k2, k3, k4⟩ := H.loadN (P := P) hb h3 h5 (fun e => absurd e h0)
        refine ⟨_, rfl, ?_, .agg _ c k2 k3⟩
        simp [loadVar, R.run_agg, R.run_size, hk, k1]
    · obtain ⟨c, e, lo, hi, g1, g2, g3, g4, g5, g6⟩ := H.cells hb h3
      obtain ⟨u, k1, k2⟩ := g4.get h5
      have hlt : o < l.length := (List.getElem?_eq_some_iff.1 h5).1
      have hcu : c[o]? = some u := by
        rw [List.getElem?_take, if_pos hlt] at k1; simpa using k1
      refine ⟨_, rfl, ?_, k2⟩
      simp [loadVar, R.run_agg, hk, World.cell?, g1, hcu]

theorem oLoad_ok (T : TiOk P ti) {ty : Nat} {x : Operand} {t : Tm} {a : Act} {v : AV} (H : HRel ρ w0 φ h w) (ht : TRel ρ φ t a.tmps) (he : oLoad ti ty x t h = some (v, h')) :
    ValOk P ρ w0 (Instr.loadAt ty (a.eval x)) φ w h v h' := by
  simp only [oLoad, ob_some, onPtr_some, rOk_some, Prod.mk.injEq] at he
  obtain ⟨aty, h1, u, h2, b, o, rfl, r, h3, rfl, rfl⟩ := he
  obtain ⟨ad, u, hz, h4, h5⟩ := loadA_run T H h1 (evx_rel h2 ht) h3
  rw [hz]
  refine .pure H ?_ h5
  simp only [Instr.loadAt, Instr.sureAddr, Sem.run_bind, Sem.run_pure, Result.andThen_ok, h4]

theorem oStore_ok (T : TiOk P ti) {ty : Nat} {x y : Operand} {t : Tm} {a : Act} {v : AV} (H : HRel ρ w0 φ h w) (ht : TRel ρ φ t a.tmps) (he : oStore ti ty x y t h = some (v, h')) :
    v = undefA ∧ UnitOk P ρ w0 (Instr.storeAt ty (a.eval x) (a.eval y)) φ w h h' := by
  simp only [oStore, ob_some, onPtr_some, guardB_some, storeN_some, rOk_some, Prod.mk.injEq, Bool.and_eq_true, Nat.beq_eq, len_eq] at he
  obtain ⟨aty, h1, u, h2, b, o, rfl, u2, h3, ⟨hs, hsz⟩, l, h4, h5, rfl, rfl⟩ := he
  have R := T _ _ h1
  have hr := evx_rel h2 ht
  have hy := evx_rel h3 ht
  generalize hc : a.eval x = z at hr ⊢
  refine ⟨rfl, ?_⟩
  cases hr with
  | ptr _ _ blk sz hb =>
    have hcells := hy.cells
    have hl := hcells.length
    obtain ⟨w', k1, k2⟩ := H.storeN (P := P) hb h4 h5 hcells (storable_cells hs hy)
    refine ⟨φ, w', ?_, .same rfl, k2⟩
    have : (a.eval y).cells.size = aty.size := by simp at hl; omega
    simp [Instr.storeAt, Instr.sureAddr, storeVar, R.run_size, this, k1]

theorem oNil_ok {x : Operand} {t : Tm} {a : Act} {v : AV} (H : HRel ρ w0 φ h w) (ht : TRel ρ φ t a.tmps) (he : oNil x t h = some (v, h')) :
    VRel ρ φ v (a.eval x) ∧ h' = h ∧ ((∃ a', a.eval x = .pointer (some a')) ∨ (∃ f p q, a.eval x = .func (.func f) p q) ∨ ∃ l, a.eval x = .func (.yield l) #[] #[]) := by
  simp only [oNil, ob_some] at he
  obtain ⟨u, h1, h2⟩ := he
  have hr := evx_rel h1 ht
  generalize hc : a.eval x = z at hr ⊢
  cases hr <;> simp [rOk] at h2
  · obtain ⟨rfl, rfl⟩ := h2; exact ⟨.ptr _ _ _ _ (by assumption), rfl, .inl ⟨_, rfl⟩⟩
  · rename_i fn _ _ _ _ _ _
    cases fn <;> simp at h2
    obtain ⟨rfl, rfl⟩ := h2; exact ⟨.func _ _ _ _ _ (by assumption) (by assumption), rfl, .inr (.inl ⟨_, _, _, rfl⟩)⟩
  · obtain ⟨rfl, rfl⟩ := h2; exact ⟨.yield _ _ _ (by assumption), rfl, .inr (.inr ⟨_, rfl⟩)⟩

-- fields
theorem fieldOf_some {β : Type} {t f : Nat} {K : ATy → Nat → Option β} {r : β} : fieldOf ti t f K = some r ↔ ∃ ty fs p tf, ti t = some ty ∧ ty.k = .struct fs ∧ fs[f]? = some p ∧ ti p.1 = some tf ∧ K tf p.2 = some r := by
  simp only [fieldOf, ob_some, kStruct_some, nth_eq]
  constructor
  · rintro ⟨ty, h1, fs, h2, p, h3, tf, h4, h5⟩; exact ⟨ty, fs, p, tf, h1, h2, h3, h4, h5⟩
  · rintro ⟨ty, fs, p, tf, h1, h2, h3, h4, h5⟩; exact ⟨ty, h1, fs, h2, p, h3, tf, h4, h5⟩

theorem TyRel.struct {t : TypeId} {a : ATy} (T : TyRel P t a) {fs : List (Nat × Nat)} (hk : a.k = .struct fs) :
    ∃ fields : Array Field, P.underlying t = some (.struct fields) ∧ fs = fields.toList.map (fun f => (f.type, f.offset)) ∧ (∀ f ∈ fields.toList, f.name ≠ "_") ∧ P.stoodInHeld t = false := by
  obtain ⟨d, h1, h2⟩ := T.und
  rw [hk] at h2
  cases h2 with
  | struct fields hn hs hi => exact ⟨fields, h1, rfl, hn, hs⟩
theorem TyRel.structInfo {t : TypeId} {a : ATy} (T : TyRel P t a) {fs : List (Nat × Nat)} (hk : a.k = .struct fs) {fields : Array Field} (hu : P.underlying t = some (.struct fields)) :
    ∀ f ∈ fields.toList, (P.info? f.type).isSome = true := by
  obtain ⟨d, h1, h2⟩ := T.und
  rw [hk] at h2
  rw [h1] at hu; cases hu
  cases h2 with
  | struct _ hn hs hi => exact hi
theorem TyRel.array {t : TypeId} {a : ATy} (T : TyRel P t a) {n e : Nat} (hk : a.k = .arr n e) : P.underlying t = some (.array n e) := by
  obtain ⟨d, h1, h2⟩ := T.und
  rw [hk] at h2; cases h2; exact h1
theorem TyRel.slice {t : TypeId} {a : ATy} (T : TyRel P t a) {e : Nat} (hk : a.k = .slice e) : P.underlying t = some (.slice e) := by
  obtain ⟨d, h1, h2⟩ := T.und
  rw [hk] at h2; cases h2; exact h1
theorem TyRel.ptr {t : TypeId} {a : ATy} (T : TyRel P t a) {e : Nat} (hk : a.k = .ptr e) : P.underlying t = some (.pointer e) := by
  obtain ⟨d, h1, h2⟩ := T.und
  rw [hk] at h2; cases h2; exact h1
theorem TyRel.map {t : TypeId} {a : ATy} (T : TyRel P t a) {k e : Nat} (hk : a.k = .map k e) : P.underlying t = some (.map k e) := by
  obtain ⟨d, h1, h2⟩ := T.und
  rw [hk] at h2; cases h2; exact h1
theorem TyRel.str {t : TypeId} {a : ATy} (T : TyRel P t a) (hk : a.k = .str) : P.underlying t = some .string := by
  obtain ⟨d, h1, h2⟩ := T.und
  rw [hk] at h2; cases h2; exact h1
theorem TyRel.int {t : TypeId} {a : ATy} (T : TyRel P t a) {k : IntKind} (hk : a.k = .int k) : P.underlying t = some (.int k) := by
  obtain ⟨d, h1, h2⟩ := T.und
  rw [hk] at h2; cases h2; exact h1

theorem add_none (b o n : Nat) : (⟨b, o, none⟩ : Addr).add n = ⟨b, o + n, none⟩ := by unfold Addr.add; split <;> simp_all

theorem oFieldAddr_ok (T : TiOk P ti) {s f : Nat} {x : Operand} {t : Tm} {a : Act} {v : AV} (H : HRel ρ w0 φ h w) (ht : TRel ρ φ t a.tmps) (he : oFieldAddr ti s x f t h = some (v, h')) :
    ValOk P ρ w0 (Instr.fieldAt s (a.eval x) f) φ w h v h' := by
  simp only [oFieldAddr, fieldOf_some, ob_some, onPtr_some, guardB_some, rOk_some, Prod.mk.injEq, Nat.ble_eq] at he
  obtain ⟨ty, fs, p, tf, h1, h2, h3, h4, u, h5, b, o, rfl, h6, rfl, rfl⟩ := he
  obtain ⟨fields, k1, rfl, k3, k4⟩ := (T _ _ h1).struct h2
  have hr := evx_rel h5 ht
  generalize hc : a.eval x = z at hr ⊢
  simp only [List.getElem?_map, Option.map_eq_some_iff, Array.getElem?_toList] at h3
  obtain ⟨fd, h7, rfl⟩ := h3
  cases hr with
  | ptr _ _ blk sz hb =>
    refine .pure H ?_ (.ptr b (o + fd.offset) blk sz hb)
    have hz : tf.size ≠ 0 := by omega
    simp [Instr.fieldAt, run_un k1, h7, Instr.sureAddr, fieldPlace, (T _ _ h4).run_size, hz, add_none]

theorem run_part (T : TiOk P ti) {ft off : Nat} {tf : ATy} (hf : ti ft = some tf) {cs : List AV} {c : Array Value} {v : AV} (hc : VsRel ρ φ cs c.toList) (hfl : ∀ v ∈ cs, v.flat = true) (hv : partA tf cs off = some v) :
    ∃ u, (part ft c off).run P w = .ok u w ∧ VRel ρ φ v u := by
  have R := T _ _ hf
  rcases partA_some.1 hv with ⟨hk, h5, rfl⟩ | ⟨hk, h5⟩
  · refine ⟨.agg (c.extract off (off + tf.size)), by simp [part, R.run_agg, hk, R.run_size], .agg _ _ ?_ (flat_take (flat_drop hfl off) _)⟩
    have := (hc.drop off).take tf.size
    simp only [Array.toList_extract, List.extract_eq_take_drop, show off + tf.size - off = tf.size from by omega]
    exact this
  · obtain ⟨u, k1, k2⟩ := hc.get h5
    have : c[off]? = some u := by simpa using k1
    exact ⟨u, by simp [part, R.run_agg, hk, this], k2⟩

theorem oField_ok (T : TiOk P ti) {s f : Nat} {x : Operand} {t : Tm} {a : Act} {v : AV} (H : HRel ρ w0 φ h w) (ht : TRel ρ φ t a.tmps) (he : oField ti s x f t h = some (v, h')) :
    ValOk P ρ w0 (Instr.field s (a.eval x) f) φ w h v h' := by
  simp only [oField, fieldOf_some, ob_some, onAgg_some, rOk_some, Prod.mk.injEq] at he
  obtain ⟨ty, fs, p, tf, h1, h2, h3, h4, u, h5, cs, rfl, r, h6, rfl, rfl⟩ := he
  obtain ⟨fields, k1, rfl, k3, k4⟩ := (T _ _ h1).struct h2
  have hr := evx_rel h5 ht
  generalize hc : a.eval x = z at hr ⊢
  simp only [List.getElem?_map, Option.map_eq_some_iff, Array.getElem?_toList] at h3
  obtain ⟨fd, h7, rfl⟩ := h3
  cases hr with
  | agg _ c hcs hfl =>
    obtain ⟨u, g1, g2⟩ := run_part (P := P) (w := w) T h4 hcs hfl h6
    refine .pure H ?_ g2
    simp [Instr.field, run_un k1, h7, asAgg, g1]

theorem oIndexAddr_ok (T : TiOk P ti) {ty : Nat} {x i : Operand} {t : Tm} {a : Act} {v : AV} (H : HRel ρ w0 φ h w) (ht : TRel ρ φ t a.tmps) (he : oIndexAddr ti ty x i t h = some (v, h')) :
    ValOk P ρ w0 (Instr.indexAt ty (a.eval x) (a.eval i)) φ w h v h' := by
  simp only [oIndexAddr, ob_some, rOk_some, Prod.mk.injEq, indexAddrA, onNat_some] at he
  obtain ⟨u, h1, ui, h2, r, ⟨k, n, rfl, aty, h3, h4⟩, rfl, rfl⟩ := he
  have hx := evx_rel h1 ht
  have hi := evx_rel h2 ht
  generalize hc : a.eval x = z at hx ⊢
  generalize hci : a.eval i = zi at hi ⊢
  cases hi
  split at h4
  · rename_i e hk
    simp only [ob_some, onSlice_some, guardB_some, Bool.and_eq_true, Nat.beq_eq, Nat.blt_eq, Option.some.injEq, false_and, and_false, false_or, reduceCtorEq] at h4
    obtain ⟨te, h5, b, o, len, cap, ex, es, rfl, ⟨h6, h7⟩, rfl⟩ := h4
    have k1 := (T _ _ h3).slice hk
    cases hx with
    | slice _ _ _ _ _ _ blk sz off c hb e1 e2 e3 e4 e5 =>
      have hoff : off = o := by rcases e4 with e4 | e4 <;> omega
      subst hoff
      refine .pure H ?_ (.ptr b (off + n * es) blk sz hb)
      have : (n : Int) < (len : Int) := by omega
      simp [Instr.indexAt, run_un k1, asIntOf, (T _ _ h5).run_size, h6, add_none]
      intro hh; omega
  · rename_i len e hk
    simp only [ob_some, onPtr_some, guardB_some, Nat.blt_eq, Option.some.injEq] at h4
    obtain ⟨te, h5, b, o, rfl, h7, rfl⟩ := h4
    have k1 := (T _ _ h3).array hk
    cases hx with
    | ptr _ _ blk sz hb =>
      refine .pure H ?_ (.ptr b (o + n * te.size) blk sz hb)
      have : (n : Int) < (len : Int) := by omega
      simp [Instr.indexAt, run_un k1, asIntOf, Instr.sureAddr, (T _ _ h5).run_size, add_none]
      intro hh; omega
  · cases h4

theorem oIndex_ok (T : TiOk P ti) {ty : Nat} {x i : Operand} {t : Tm} {a : Act} {v : AV} (H : HRel ρ w0 φ h w) (ht : TRel ρ φ t a.tmps) (he : oIndex ti ty x i t h = some (v, h')) :
    ValOk P ρ w0 (Instr.index ty (a.eval x) (a.eval i)) φ w h v h' := by
  simp only [oIndex, ob_some, rOk_some, Prod.mk.injEq, indexA, onNat_some] at he
  obtain ⟨u, h1, ui, h2, r, ⟨k, n, rfl, aty, h3, h4⟩, rfl, rfl⟩ := he
  have hx := evx_rel h1 ht
  have hi := evx_rel h2 ht
  generalize hc : a.eval x = z at hx ⊢
  generalize hci : a.eval i = zi at hi ⊢
  cases hi
  split at h4
  · rename_i len e hk
    simp only [ob_some, onAgg_some, guardB_some, Nat.blt_eq] at h4
    obtain ⟨te, h5, cs, rfl, h7, h8⟩ := h4
    have k1 := (T _ _ h3).array hk
    cases hx with
    | agg _ c hcs hfl =>
      obtain ⟨u, g1, g2⟩ := run_part (P := P) (w := w) T h5 hcs hfl h8
      refine .pure H ?_ g2
      have : (n : Int) < (len : Int) := by omega
      simp only [Instr.index, asIntOf, run_un k1, Sem.run_bind, Sem.run_pure, Result.andThen_ok, Sem.run_ite, (T _ _ h5).run_size, Int.toNat_natCast]
      rw [if_pos ⟨by omega, this⟩]; exact g1
  · rename_i hk
    simp only [onStr_some, ob_some, nth_eq, Option.some.injEq] at h4
    obtain ⟨s, rfl, c, h5, rfl⟩ := h4
    have k1 := (T _ _ h3).str hk
    cases hx with
    | str s =>
      simp only [List.getElem?_map, Option.map_eq_some_iff, Array.getElem?_toList] at h5
      obtain ⟨b, h6, rfl⟩ := h5
      have hb : s[n]? = some b := by
        rw [Array.getElem?_eq_some_iff] at h6
        obtain ⟨hlt, h6⟩ := h6
        have hlt' : n < s.size := hlt
        simp only [getElem?_def]
        rw [dif_pos hlt']
        exact congrArg some h6
      refine .pure H ?_ (.int .u8 b.toNat)
      simp [Instr.index, asIntOf, run_un k1, hb]
  · cases h4
end
end Go.AI
