/-
  The abstract operations are the model's: slices of slices; aggregates; made slices.
-/
import Derived.Test.YthgfmkhpogbonaaGreatDoorAiOp4
set_option linter.unusedVariables false
set_option linter.unusedSimpArgs false
namespace Go.AI
section
variable {P : Program} {ρ : Env} {φ : Phi} {w0 w : World} {h h' : AHeap} {ti : Nat → Option ATy} {bd : Bnd}

/-- an operand that may be missing -/
def ORelO (ρ : Env) (φ : Phi) : Option AV → Option Value → Prop
  | none, none => True
  | some v, some u => VRel ρ φ v u
  | _, _ => False

theorem optA_some {β : Type} {t : Tm} {x : Option Operand} {K : Option AV → Option β} {r : β} {a : Act} (ht : TRel ρ φ t a.tmps) (e : optA t x K = some r) : ∃ o, ORelO ρ φ o (x.map a.eval) ∧ K o = some r := by
  cases x with
  | none => exact ⟨none, trivial, e⟩
  | some x =>
    simp only [optA, ob_some] at e
    obtain ⟨v, h1, h2⟩ := e
    exact ⟨some v, evx_rel h1 ht, h2⟩

theorem optN_some {β : Type} {o : Option AV} {d : Nat} {K : Nat → Option β} {r : β} (e : optN o d K = some r) : ∃ n, K n = some r ∧ ((o = none ∧ n = d) ∨ ∃ k, o = some (.int k (n : Int))) := by
  cases o with
  | none => exact ⟨d, e, .inl ⟨rfl, rfl⟩⟩
  | some v =>
    simp only [optN, onNat_some] at e
    obtain ⟨k, m, rfl, h⟩ := e
    exact ⟨m, h, .inr ⟨k, rfl⟩⟩

theorem run_bound {k : IntKind} {n y : Nat} {c : BoundsCode} (h : n ≤ y) : (Instr.sliceBound (.int k (n : Int)) y c).run P w = .ok n w := by
  simp only [Instr.sliceBound, asIntOf, Sem.run_bind, Sem.run_pure, Result.andThen_ok]
  rw [if_pos ⟨by omega, by omega⟩]; simp

/-- the bounds of a slice expression without a third index -/
theorem run_bounds {lo hi : Option AV} {lov hiv : Option Value} (hl : ORelO ρ φ lo lov) (hh : ORelO ρ φ hi hiv) (b : Bool) {ln cap l hh' : Nat}
    (el : (lo = none ∧ l = 0) ∨ ∃ k, lo = some (.int k (l : Int))) (eh : (hi = none ∧ hh' = ln) ∨ ∃ k, hi = some (.int k (hh' : Int))) (h1 : l ≤ hh') (h2 : hh' ≤ cap) :
    (Instr.sliceBounds b ln cap lov hiv none).run P w = .ok (l, hh', cap) w := by
  have H1 : ∃ q, (match hiv, (none : Option Value) with
      | some v, some _ => Instr.sliceBound v cap .slice3B
      | some v, none => Instr.sliceBound v cap (if b then .sliceAcap else .sliceAlen)
      | none, none => pure ln
      | none, some _ => stuck "Slice: max without high") = q ∧ q.run P w = .ok hh' w := by
    rcases eh with ⟨rfl, rfl⟩ | ⟨k, rfl⟩
    · cases hiv with
      | none => exact ⟨_, rfl, rfl⟩
      | some v => cases hh
    · cases hiv with
      | none => cases hh
      | some v => cases hh; exact ⟨_, rfl, run_bound h2⟩
  obtain ⟨q, e1, e2⟩ := H1
  simp only [Instr.sliceBounds, Sem.run_bind, Sem.run_pure, Result.andThen_ok]
  rcases eh with ⟨rfl, rfl⟩ | ⟨k, rfl⟩
  · cases hiv with
    | some v => cases hh
    | none =>
      rcases el with ⟨rfl, rfl⟩ | ⟨k', rfl⟩
      · cases lov with
        | some v => cases hl
        | none => simp
      · cases lov with
        | none => cases hl
        | some v => cases hl; simp [run_bound h1]
  · cases hiv with
    | none => cases hh
    | some v =>
      cases hh
      rcases el with ⟨rfl, rfl⟩ | ⟨k', rfl⟩
      · cases lov with
        | some v => cases hl
        | none => simp [run_bound h2]
      · cases lov with
        | none => cases hl
        | some v => cases hl; simp [run_bound h2, run_bound h1]

theorem run_bounds3 {lo hi : Option AV} {lov hiv : Option Value} (hl : ORelO ρ φ lo lov) (hh : ORelO ρ φ hi hiv) {ln cap l hh' m : Nat} {km : IntKind}
    (el : (lo = none ∧ l = 0) ∨ ∃ k, lo = some (.int k (l : Int))) (eh : ∃ k, hi = some (.int k (hh' : Int))) (h1 : l ≤ hh') (h2 : hh' ≤ m) (h3 : m ≤ cap) :
    (Instr.sliceBounds true ln cap lov hiv (some (.int km (m : Int)))).run P w = .ok (l, hh', m) w := by
  obtain ⟨k, rfl⟩ := eh
  cases hiv with
  | none => cases hh
  | some v =>
    cases hh
    rcases el with ⟨rfl, rfl⟩ | ⟨k', rfl⟩
    · cases lov with
      | some v => cases hl
      | none => simp [Instr.sliceBounds, run_bound h3, run_bound h2]
    · cases lov with
      | none => cases hl
      | some v => cases hl; simp [Instr.sliceBounds, run_bound h3, run_bound h2, run_bound h1]

theorem sliceSl_rel {b o cap es blk sz off c l hh m : Nat} {ex' : Bool} (hb : φ b = some (blk, sz)) (q1 : cap ≤ c) (q4 : c = 0 ∨ off = o) (q5 : o + c * es ≤ sz) (h1 : l ≤ hh) (h2 : hh ≤ m) (h3 : m ≤ c)
    {cap' : Nat} (g1 : cap' ≤ m - l) (g2 : ex' = true → m - l = cap') (g3 : hh - l ≤ cap') :
    VRel ρ φ (.slice b (o + l * es) (hh - l) cap' ex' es) (.slice (if m = l then some ⟨blk, off, none⟩ else (some (⟨blk, off, none⟩ : Addr)).map (·.add (l * es))) (hh - l) (m - l)) := by
  by_cases e : m = l
  · rw [if_pos e]
    refine .slice _ _ _ _ _ _ blk sz off (m - l) hb g1 g2 g3 (.inl (by omega)) ?_
    have : l * es + (m - l) * es ≤ c * es := by rw [← Nat.add_mul]; exact Nat.mul_le_mul_right _ (by omega)
    omega
  · rw [if_neg e]
    simp only [Option.map_some, add_none]
    have ho : off = o := by rcases q4 with q4 | q4 <;> omega
    refine .slice _ _ _ _ _ _ blk sz _ (m - l) hb g1 g2 g3 (.inr (by rw [ho])) ?_
    have : l * es + (m - l) * es ≤ c * es := by rw [← Nat.add_mul]; exact Nat.mul_le_mul_right _ (by omega)
    omega

theorem sliceArr_ok (T : TiOk P ti) {n e : Nat} {x v : AV} {lo hi mx : Option AV} {lov hiv mxv : Option Value} {u : Value} (H : HRel ρ w0 φ h w) (hx : VRel ρ φ x u)
    (hl : ORelO ρ φ lo lov) (hh : ORelO ρ φ hi hiv) (hm : ORelO ρ φ mx mxv) (he : sliceArr ti h n e x lo hi mx = some v) :
    ∃ blk off, u = .pointer (some ⟨blk, off, none⟩) ∧ ∃ l q z, (Instr.sliceBounds false n n lov hiv mxv).run P w = .ok (l, q, n) w ∧ (sizeOf e).run P w = .ok z w ∧
      VRel ρ φ v (.slice (some (if n = l then ⟨blk, off, none⟩ else (⟨blk, off, none⟩ : Addr).add (l * z))) (q - l) (n - l)) := by
  unfold sliceArr at he
  cases mx with
  | some m => cases he
  | none =>
    cases mxv with
    | some m => cases hm
    | none =>
      simp only [ob_some, onPtr_some, cellsOf_some] at he
      obtain ⟨te, h1, b, o, rfl, cs, hg, he⟩ := he
      obtain ⟨l, he, el⟩ := optN_some he
      obtain ⟨q, he, eq⟩ := optN_some he
      simp only [guardB_some, Bool.and_eq_true, Nat.ble_eq, len_eq, Option.some.injEq] at he
      obtain ⟨⟨⟨g1, g2⟩, g3⟩, rfl⟩ := he
      cases hx with
      | ptr _ _ blk sz hb =>
        obtain ⟨c, ce, clo, chi, k1, k2, k3, k4, k5, k6⟩ := H.cells hb hg
        refine ⟨blk, o, rfl, l, q, te.size, run_bounds hl hh false el eq g1 g2, (T _ _ h1).run_size w, ?_⟩
        have g3' : o + n * te.size ≤ cs.length := g3
        have hlen : l * te.size + (n - l) * te.size = n * te.size := by rw [← Nat.add_mul]; congr 1; omega
        by_cases e : n = l
        · rw [if_pos e]
          exact .slice _ _ _ _ _ _ blk sz o (n - l) hb (Nat.le_refl _) (fun _ => rfl) (Nat.sub_le_sub_right g2 l) (.inl (by omega)) (by show o + l * te.size + _ ≤ _; omega)
        · rw [if_neg e, add_none]
          exact .slice _ _ _ _ _ _ blk sz _ (n - l) hb (Nat.le_refl _) (fun _ => rfl) (Nat.sub_le_sub_right g2 l) (.inr rfl) (by show o + l * te.size + _ ≤ _; omega)

theorem sliceA_ok (T : TiOk P ti) {t : TypeId} {x v : AV} {lo hi mx : Option AV} {lov hiv mxv : Option Value} {u : Value} (H : HRel ρ w0 φ h w) (hx : VRel ρ φ x u)
    (hl : ORelO ρ φ lo lov) (hh : ORelO ρ φ hi hiv) (hm : ORelO ρ φ mx mxv) (he : sliceA ti h t x lo hi mx = some v) : ∃ r, (Instr.sliceAt t u lov hiv mxv).run P w = .ok r w ∧ VRel ρ φ v r := by
  simp only [sliceA, ob_some] at he
  obtain ⟨ty, h1, he⟩ := he
  have R := T _ _ h1
  generalize hk : ty.k = k at he
  unfold sliceK at he
  split at he
  · have k1 := R.str hk
    simp only [onStr_some] at he
    obtain ⟨s, rfl, he⟩ := he
    cases hx with
    | str s =>
      unfold sliceStr at he
      cases mx with
      | some m => cases he
      | none =>
        cases mxv with
        | some m => cases hm
        | none =>
          simp only at he
          obtain ⟨l, he, el⟩ := optN_some he
          obtain ⟨q, he, eq⟩ := optN_some he
          simp only [guardB_some, Bool.and_eq_true, Nat.ble_eq, ob_some, takeN_some, dropN_eq, Option.some.injEq] at he
          obtain ⟨⟨g1, hq⟩, r, ⟨g2, rfl⟩, rfl⟩ := he
          have hsz : (s.data.toList.map UInt8.toNat).length = s.size := by simp
          rw [len_eq, hsz] at eq hq
          have hb := run_bounds (P := P) (w := w) hl hh false (ln := s.size) (cap := s.size) el eq g1 hq
          refine ⟨.string (s.extract l q), ?_, ?_⟩
          · simp [Instr.sliceAt, run_un k1, Instr.slice, hb]
          · have : ((s.extract l q).data.toList.map UInt8.toNat) = ((s.data.toList.map UInt8.toNat).drop l).take (q - l) := by
              rw [← List.map_drop, ← List.map_take]
              congr 1
              simp
            show VRel ρ φ (.str (((s.data.toList.map UInt8.toNat).drop l).take (Nat.sub q l))) _
            show VRel ρ φ (.str (((s.data.toList.map UInt8.toNat).drop l).take (q - l))) _
            rw [← this]; exact .str _
  · rename_i e
    have k1 := R.slice hk
    simp only [ob_some, onSlice_some, guardB_some, Nat.beq_eq] at he
    obtain ⟨te, h2, he⟩ := he
    rcases he with ⟨rfl, he⟩ | ⟨b, o, n, cap, ex, es, rfl, hes, he⟩
    · cases hx
      unfold sliceNil at he
      obtain ⟨l, he, el⟩ := optN_some he
      obtain ⟨q, he, eq⟩ := optN_some he
      obtain ⟨m, he, em⟩ := optN_some he
      simp only [guardB_some, Bool.and_eq_true, Bool.or_eq_true, Nat.beq_eq, Option.some.injEq] at he
      obtain ⟨⟨hsm, rfl, rfl, rfl⟩, rfl⟩ := he
      refine ⟨.slice none 0 0, ?_, .nils⟩
      cases mx with
      | none => cases mxv with
        | some m => cases hm
        | none =>
          have hb := run_bounds (P := P) (w := w) hl hh true (ln := 0) (cap := 0) el eq (Nat.le_refl _) (Nat.le_refl _)
          simp [Instr.sliceAt, run_un k1, Instr.slice, hb, (T _ _ h2).run_size]
      | some mv => cases mxv with
        | none => cases hm
        | some m =>
          rcases em with ⟨e, _⟩ | ⟨km, e⟩
          · cases e
          · cases e; cases hm
            rcases eq with ⟨rfl, _⟩ | eq
            · simp at hsm
            · have hb := run_bounds3 (P := P) (w := w) hl hh (ln := 0) (cap := 0) (km := km) el eq (Nat.le_refl _) (Nat.le_refl _) (Nat.le_refl _)
              rw [show ((0 : Nat) : Int) = 0 from rfl] at hb
              simp [Instr.sliceAt, run_un k1, Instr.slice, hb, (T _ _ h2).run_size]
    · cases hx with
      | slice _ _ _ _ _ _ blk sz off c hb q1 q2 q3 q4 q5 =>
        unfold sliceSl at he
        obtain ⟨l, he, el⟩ := optN_some he
        obtain ⟨q, he, eq⟩ := optN_some he
        cases mx with
        | none =>
          cases mxv with
          | some m => cases hm
          | none =>
            simp only [guardB_some, Bool.and_eq_true, Nat.ble_eq, Option.some.injEq] at he
            obtain ⟨⟨g1, g2⟩, rfl⟩ := he
            have hbn := run_bounds (P := P) (w := w) hl hh true (ln := n) (cap := c) el eq g1 (by omega)
            refine ⟨.slice (if c = l then some ⟨blk, off, none⟩ else (some (⟨blk, off, none⟩ : Addr)).map (·.add (l * es))) (q - l) (c - l), ?_, ?_⟩
            · simp [Instr.sliceAt, run_un k1, Instr.slice, hbn, (T _ _ h2).run_size, hes]
            · exact sliceSl_rel hb q1 q4 q5 g1 (by omega) (Nat.le_refl _) (by show cap - l ≤ c - l; omega) (fun e => by have := q2 e; show c - l = cap - l; omega) (by show q - l ≤ cap - l; omega)
        | some mv =>
          cases mxv with
          | none => cases hm
          | some m =>
            simp only [onNat_some, guardB_some, Bool.and_eq_true, Nat.ble_eq, Option.some.injEq] at he
            obtain ⟨hsm, km, mm, rfl, ⟨g1, g2, g3⟩, rfl⟩ := he
            cases hm
            rcases eq with ⟨rfl, _⟩ | eq
            · simp at hsm
            · have hbn := run_bounds3 (P := P) (w := w) hl hh (ln := n) (cap := c) (km := km) el eq g1 g2 (by omega)
              refine ⟨.slice (if mm = l then some ⟨blk, off, none⟩ else (some (⟨blk, off, none⟩ : Addr)).map (·.add (l * es))) (q - l) (mm - l), ?_, ?_⟩
              · simp [Instr.sliceAt, run_un k1, Instr.slice, hbn, (T _ _ h2).run_size, hes]
              · exact sliceSl_rel hb q1 q4 q5 g1 g2 (by omega) (Nat.le_refl _) (fun _ => rfl) (by show q - l ≤ mm - l; omega)
  · rename_i n e
    have k1 := R.array hk
    obtain ⟨blk, off, rfl, l, q, z, b1, b2, b3⟩ := sliceArr_ok (w := w) T H hx hl hh hm he
    exact ⟨_, by simp [Instr.sliceAt, run_un k1, Instr.sureAddr, b1, b2], b3⟩
  · rename_i a
    have k1 := R.ptr hk
    simp only [ob_some, kArr_some] at he
    obtain ⟨ta, h2, n, e, hka, he⟩ := he
    have k2 := (T _ _ h2).array hka
    obtain ⟨blk, off, rfl, l, q, z, b1, b2, b3⟩ := sliceArr_ok (w := w) T H hx hl hh hm he
    exact ⟨_, by simp [Instr.sliceAt, run_un k1, Instr.slice, asAddr, run_un k2, b1, b2], b3⟩
  · cases he

-- aggregates
theorem foldl_splice (vs : List Value) : ∀ (off : Nat) (cs : Array Value) (j : Nat), off + j + vs.length ≤ cs.size →
    (vs.zipIdx j).foldl (fun (cs : Array Value) (p : Value × Nat) => cs.setIfInBounds (off + p.2) p.1) cs = (cs.toList.take (off + j) ++ vs ++ cs.toList.drop (off + j + vs.length)).toArray := by
  induction vs with
  | nil => intro off cs j h; simp
  | cons v vs ih =>
    intro off cs j h
    simp at h
    rw [List.zipIdx_cons, List.foldl_cons, ih off _ (j + 1) (by simp; omega)]
    refine congrArg List.toArray ?_
    have := set_splice cs.toList vs v (off + j) (by simp; omega)
    rw [Array.toList_setIfInBounds, show off + (j + 1) = off + j + 1 from by omega, List.length_cons]; exact this

theorem fill_step (v : Value) (off : Nat) (cs : Array Value) (h : off + v.cells.size ≤ cs.size) :
    v.cells.zipIdx.foldl (fun cs (c, j) => cs.setIfInBounds (off + j) c) cs = (cs.toList.take off ++ v.cells.toList ++ cs.toList.drop (off + v.cells.size)).toArray := by
  have := foldl_splice v.cells.toList off cs 0 (by simpa using h)
  rw [← Array.foldl_toList, Array.toList_zipIdx]
  simpa using this

def PRel (ρ : Env) (φ : Phi) : List (Nat × AV) → List (Nat × Value) → Prop
  | [], [] => True
  | p :: l, q :: m => p.1 = q.1 ∧ VRel ρ φ p.2 q.2 ∧ PRel ρ φ l m
  | _, _ => False

theorem partsA_rel {l : List (Nat × Operand)} {t : Tm} {ps : List (Nat × AV)} {a : Act} (e : partsA t l = some ps) (ht : TRel ρ φ t a.tmps) : PRel ρ φ ps (l.map fun (i, x) => (i, a.eval x)) := by
  induction l generalizing ps with
  | nil => cases e; trivial
  | cons p l ih =>
    have e' : (ob (evx p.2 t) fun v => ob (partsA t l) fun r => some ((p.1, v) :: r)) = some ps := e
    simp only [ob_some, Option.some.injEq] at e'
    obtain ⟨v, h1, r, h2, rfl⟩ := e'
    exact ⟨rfl, evx_rel h1 ht, ih h2⟩

theorem fillA_ok {pl : Nat → Option (Nat × Nat)} {place : Nat → Option (Nat × Nat)} (hp : ∀ i p, pl i = some p → place i = some p) : ∀ {ps : List (Nat × AV)} {qs : List (Nat × Value)} (hr : PRel ρ φ ps qs) {l r : List AV} {c : Array Value}
    (hc : VsRel ρ φ l c.toList) (hf : ∀ v ∈ l, v.flat = true) (e : fillA pl ps l = some r), ∃ d, Instr.fill place c qs = some d ∧ VsRel ρ φ r d.toList ∧ (∀ v ∈ r, v.flat = true) ∧ r.length = l.length
  | [], [], _, l, r, c, hc, hf, e => by cases e; exact ⟨c, rfl, hc, hf, rfl⟩
  | p :: ps, (i, u) :: qs, hr, l, r, c, hc, hf, e => by
    obtain ⟨rfl, h2, h3⟩ := hr
    have e' : (ob2 (pl p.1) fun off size => guardB (and p.2.storable (Nat.beq (len p.2.cells) size)) (ob (splice off p.2.cells l) (fillA pl ps))) = some r := e
    simp only [ob2_some, guardB_some, Bool.and_eq_true, Nat.beq_eq, len_eq, ob_some, splice_some] at e'
    obtain ⟨off, size, e1, ⟨e2, e3⟩, l', ⟨e4, rfl⟩, e5⟩ := e'
    have hcl := hc.length
    have hu := h2.cells
    have hul := hu.length
    have hsz : u.cells.size = size := by simp at hul; omega
    simp at hcl
    have hle : off + u.cells.size ≤ c.size := by simp at hul; omega
    have hnew := hc.splice hu off
    have hfl : ∀ v ∈ l.take off ++ p.2.cells ++ l.drop (off + p.2.cells.length), v.flat = true := by
      intro v hv
      rcases List.mem_append.1 hv with hv | hv
      · rcases List.mem_append.1 hv with hv | hv
        · exact flat_take hf off v hv
        · exact storable_cells e2 h2 v hv
      · exact flat_drop hf _ v hv
    obtain ⟨d, d1, d2, d3, d4⟩ := fillA_ok hp h3 (c := (c.toList.take off ++ u.cells.toList ++ c.toList.drop (off + u.cells.size)).toArray) (by simpa using hnew) hfl e5
    refine ⟨d, ?_, d2, d3, by rw [d4]; simp; simp at hul; omega⟩
    simp only [Instr.fill, hp _ _ e1]
    rw [if_neg (by simp [hsz]; omega), fill_step u off c hle]
    exact d1
  | [], _ :: _, hr, _, _, _, _, _, _ => hr.elim
  | _ :: _, [], hr, _, _, _, _, _, _ => hr.elim

theorem oSlice_ok (T : TiOk P ti) {ty : Nat} {x : Operand} {lo hi mx : Option Operand} {t : Tm} {a : Act} {v : AV} (H : HRel ρ w0 φ h w) (ht : TRel ρ φ t a.tmps) (he : oSlice ti ty x lo hi mx t h = some (v, h')) :
    ValOk P ρ w0 (Instr.sliceAt ty (a.eval x) (lo.map a.eval) (hi.map a.eval) (mx.map a.eval)) φ w h v h' := by
  simp only [oSlice, ob_some] at he
  obtain ⟨u, h1, he⟩ := he
  obtain ⟨lo', e1, he⟩ := optA_some ht he
  obtain ⟨hi', e2, he⟩ := optA_some ht he
  obtain ⟨mx', e3, he⟩ := optA_some ht he
  simp only [ob_some, rOk_some, Prod.mk.injEq] at he
  obtain ⟨r, h2, rfl, rfl⟩ := he
  obtain ⟨q, k1, k2⟩ := sliceA_ok (P := P) (w := w) T H (evx_rel h1 ht) e1 e2 e3 h2
  exact .pure H k1 k2

theorem zero_arr {t : TypeId} {aa : ATy} (R : TyRel P t aa) (hk : aa.k.agg = true) (w : World) : ∃ c : Array Value, (zeroValue t).run P w = .ok (.agg c) w ∧ VsRel ρ φ aa.zero c.toList := by
  obtain ⟨z, zv, h1, h2, h3, h4⟩ := R.run_zero w
  rw [if_pos hk] at h4
  obtain ⟨l, rfl⟩ := h4
  have := ofValue_rel (ρ := ρ) (φ := φ) _ _ h2
  cases this with
  | agg _ c hc hf => exact ⟨c, h1, by rw [← h3]; exact hc⟩

theorem run_places' (fields : List Field) (w : World) (h : ∀ f ∈ fields, (P.info? f.type).isSome = true) :
    (fields.mapM fun f => do pure (f.offset, ← sizeOf f.type) : Sem (List (Nat × Nat))).run P w = .ok (fields.map fun f => (f.offset, P.cellsOf f.type)) w := by
  induction fields with
  | nil => rfl
  | cons f fs ih =>
    have h1 := ih (fun g hg => h g (by simp [hg]))
    obtain ⟨i, h3⟩ := Option.isSome_iff_exists.1 (h f (by simp))
    have e1 : (sizeOf f.type).run P w = .ok (P.cellsOf f.type) w := by simp [sizeOf, run_ti h3, Program.cellsOf, h3]
    rw [List.mapM_cons]
    simp only [Sem.run_bind, e1, Result.andThen_ok, Sem.run_pure]
    rw [h1]; rfl
theorem TyRel.cells {t : TypeId} {a : ATy} (T : TyRel P t a) : P.cellsOf t = a.size := by
  obtain ⟨i, z, i1, i2, _⟩ := T.info
  simp [Program.cellsOf, i1, i2]

theorem oBuild_ok (T : TiOk P ti) {ty : Nat} {parts : Array (Nat × Operand)} {t : Tm} {a : Act} {v : AV} (H : HRel ρ w0 φ h w) (ht : TRel ρ φ t a.tmps) (he : oBuild ti ty parts t h = some (v, h')) :
    ValOk P ρ w0 (Instr.build ty (parts.map fun (i, x) => (i, a.eval x))) φ w h v h' := by
  simp only [oBuild, ob_some] at he
  obtain ⟨aa, h1, ps, h2, he⟩ := he
  have R := T _ _ h1
  have hp := partsA_rel h2 ht
  have hpl : (parts.map fun (i, x) => (i, a.eval x)).toList = parts.toList.map fun (i, x) => (i, a.eval x) := by simp
  generalize hk : aa.k = k at he
  split at he
  · rename_i fs
    simp only [ob_some, rOk_some, Prod.mk.injEq] at he
    obtain ⟨cs, h3, rfl, rfl⟩ := he
    obtain ⟨fields, k1, rfl, k3, k4⟩ := R.struct hk
    obtain ⟨c, z1, z2⟩ := zero_arr (ρ := ρ) (φ := φ) R (by rw [hk]; rfl) w
    have r1 := run_places' (P := P) fields.toList w (R.structInfo hk k1)
    obtain ⟨d, d1, d2, d3, d4⟩ := fillA_ok (place := ((fields.toList.map fun f => (f.offset, P.cellsOf f.type)).toArray[·]?)) (fun i p hip => by
      simp only [placeF, ob_some, nth_eq, List.getElem?_map, Option.map_eq_some_iff, Option.some.injEq] at hip
      obtain ⟨_, ⟨f, hf, rfl⟩, tf, htf, rfl⟩ := hip
      have := (T _ _ htf).cells
      simp at hf; simp [hf, this]) hp z2 R.zflat h3
    refine .pure H ?_ (.agg cs d d2 d3)
    simp only [Instr.build, Sem.run_bind, z1, Result.andThen_ok, run_un k1, Array.mapM_eq_mapM_toList, Sem.run_map, r1]
    rw [hpl]
    simp only [Value.cells, d1]; rfl
  · rename_i n e
    simp only [ob_some, rOk_some, Prod.mk.injEq] at he
    obtain ⟨te, h4, cs, h3, rfl, rfl⟩ := he
    have k1 := R.array hk
    obtain ⟨c, z1, z2⟩ := zero_arr (ρ := ρ) (φ := φ) R (by rw [hk]; rfl) w
    obtain ⟨d, d1, d2, d3, d4⟩ := fillA_ok (place := fun i => some (i * te.size, te.size)) (fun i p hip => hip) hp z2 R.zflat h3
    refine .pure H ?_ (.agg cs d d2 d3)
    simp only [Instr.build, Sem.run_bind, z1, Result.andThen_ok, run_un k1, (T _ _ h4).run_size]
    rw [hpl]
    simp only [Value.cells, d1]; rfl
  · cases he

theorem rep_rel {z : List AV} {c : Array Value} (hz : VsRel ρ φ z c.toList) (n : Nat) : VsRel ρ φ (replA n z) ((Array.range (n * c.size)).map (c[· % c.size]!)).toList := by
  have hl := hz.length
  simp at hl
  induction n with
  | zero => simp [replA]; exact .nil
  | succ n ih =>
    rw [replA_succ]
    have : ((Array.range ((n + 1) * c.size)).map (c[· % c.size]!)).toList = c.toList ++ ((Array.range (n * c.size)).map (c[· % c.size]!)).toList := by
      apply List.ext_getElem?
      intro k
      simp only [Array.toList_map, Array.toList_range, List.getElem?_map, List.getElem?_append, Array.length_toList]
      by_cases h1 : k < c.size
      · have : k < (n + 1) * c.size := by rw [Nat.add_mul]; omega
        rw [if_pos h1, List.getElem?_range this]
        simp [Nat.mod_eq_of_lt h1, h1]
      · rw [if_neg h1]
        by_cases h2 : k < (n + 1) * c.size
        · have h3 : k - c.size < n * c.size := by rw [Nat.add_mul] at h2; omega
          rw [List.getElem?_range h2, List.getElem?_range h3]
          simp only [Option.map_some]
          congr 2
          exact Nat.mod_eq_sub_mod (by omega)
        · have h3 : ¬ k - c.size < n * c.size := by rw [Nat.add_mul] at h2; omega
          rw [List.getElem?_eq_none (by simp; omega), List.getElem?_eq_none (by simp; omega)]
    rw [this]
    exact hz.append ih
theorem rep_flat {z : List AV} (hz : ∀ v ∈ z, v.flat = true) (n : Nat) : ∀ v ∈ replA n z, v.flat = true := by
  induction n with
  | zero => intro v hv; cases hv
  | succ n ih =>
    intro v hv
    rw [replA_succ] at hv
    rcases List.mem_append.1 hv with hv | hv
    · exact hz v hv
    · exact ih v hv

theorem zero_cells {t : TypeId} {aa : ATy} (R : TyRel P t aa) (w : World) : ∃ z, (zeroValue t).run P w = .ok z w ∧ VsRel ρ φ aa.zero z.cells.toList ∧ z.cells.size = aa.size := by
  obtain ⟨z, zv, h1, h2, h3, h4⟩ := R.run_zero w
  have := (ofValue_rel (ρ := ρ) (φ := φ) _ _ h2).cells
  rw [h3] at this
  refine ⟨z, h1, this, ?_⟩
  have := this.length
  have := R.zlen
  simp at *; omega

theorem oBuildSlice_ok (T : TiOk P ti) {ty n : Nat} {parts : Array (Nat × Operand)} {t : Tm} {a : Act} {v : AV} (H : HRel ρ w0 φ h w) (ht : TRel ρ φ t a.tmps) (he : oBuildSlice ti ty n parts t h = some (v, h')) :
    ValOk P ρ w0 (Instr.buildSlice ty n (parts.map fun (i, x) => (i, a.eval x))) φ w h v h' := by
  simp only [oBuildSlice, ob_some, kSlice_some, guardB_some, Nat.ble_eq, new_some, rOk_some, Prod.mk.injEq] at he
  obtain ⟨aa, h1, e, hk, te, h2, ps, h3, h4, cs, h5, hn, rfl, rfl⟩ := he
  have k1 := (T _ _ h1).slice hk
  have R := T _ _ h2
  have hp := partsA_rel h3 ht
  have hpl : (parts.map fun (i, x) => (i, a.eval x)).toList = parts.toList.map fun (i, x) => (i, a.eval x) := by simp
  obtain ⟨z, z1, z2, z3⟩ := zero_cells (ρ := ρ) (φ := φ) R w
  have h4' : n * te.size ≤ 65536 := h4
  have hbig : ¬ (n * te.size > 2 ^ 24) := by omega
  -- the noughts
  have hz : ∃ z0 : Array Value, (if n * te.size = 0 then (pure #[] : Sem (Array Value)) else do pure (← zeroValue e).cells).run P w = .ok z0 w ∧ VsRel ρ φ (replA n te.zero) ((Array.range (n * te.size)).map (z0[· % z0.size]!)).toList := by
    have hrep := rep_rel z2 n
    rw [z3] at hrep
    by_cases h0 : n * te.size = 0
    · refine ⟨#[], by rw [if_pos h0]; rfl, ?_⟩
      rw [h0] at hrep ⊢; simpa using hrep
    · exact ⟨z.cells, by rw [if_neg h0]; simp [z1], by rw [z3]; exact hrep⟩
  obtain ⟨z0, y1, y2⟩ := hz
  obtain ⟨d, d1, d2, d3, d4⟩ := fillA_ok (place := fun i => some (i * te.size, te.size)) (fun i p hip => hip) hp y2 (rep_flat R.zflat n) h5
  have hdl : d.size = n * te.size := by
    have := d2.length
    rw [d4, replA_length, R.zlen] at this; simpa using this.symm
  refine ⟨_, wnew w (.cells d e), .slice (some ⟨w.heap.size, 0, none⟩) n n, ?_, ?_, H.grow rfl rfl, H.newAll hn e d2 d3⟩
  · simp only [Instr.buildSlice, Sem.run_bind, run_un k1, Result.andThen_ok, R.run_size]
    rw [if_neg hbig]
    rw [hpl]
    dsimp only
    by_cases h0 : n * te.size = 0
    · rw [if_pos h0] at y1 ⊢
      simp only [Sem.run_pure, Result.ok.injEq, and_true] at y1
      subst y1
      simp only [Sem.run_bind, Sem.run_pure, Result.andThen_ok]
      split
      · rename_i cells hc
        have e : cells = d := Option.some.inj (hc.symm.trans d1)
        subst e; simp [run_newRow]
      · rename_i hc; exact absurd d1 (hc d)
    · rw [if_neg h0] at y1 ⊢
      simp only [Sem.run_bind, z1, Result.andThen_ok, Sem.run_pure, Result.ok.injEq, and_true] at y1 ⊢
      subst y1
      split
      · rename_i cells hc
        have e : cells = d := Option.some.inj (hc.symm.trans d1)
        subst e; simp [run_newRow]
      · rename_i hc; exact absurd d1 (hc d)
  · exact .slice _ _ _ _ _ _ _ d.size 0 n (Phi.ext_self _ _ _ _) (Nat.le_refl _) (fun _ => rfl) (Nat.le_refl _) (.inr rfl) (by omega)

theorem oMakeSlice_ok (T : TiOk P ti) {ty : Nat} {x y : Operand} {t : Tm} {a : Act} {v : AV} (H : HRel ρ w0 φ h w) (ht : TRel ρ φ t a.tmps) (he : oMakeSlice ti ty x y t h = some (v, h')) :
    ValOk P ρ w0 (Instr.makeSlice ty (a.eval x) (a.eval y)) φ w h v h' := by
  simp only [oMakeSlice, ob_some, kSlice_some, onNat_some, guardB_some, Bool.and_eq_true, Nat.ble_eq, new_some, rOk_some, Prod.mk.injEq] at he
  obtain ⟨aa, h1, e, hk, te, h2, lv, h3, k, l, rfl, cv, h4, k', c, rfl, ⟨g1, g2, g3⟩, hn, rfl, rfl⟩ := he
  have k1 := (T _ _ h1).slice hk
  have R := T _ _ h2
  have r1 := evx_rel h3 ht
  have r2 := evx_rel h4 ht
  generalize a.eval x = u1 at r1 ⊢
  generalize a.eval y = u2 at r2 ⊢
  cases r1; cases r2
  obtain ⟨i, b1, b2⟩ := R.run_bytes
  obtain ⟨z, z1, z2, z3⟩ := zero_cells (ρ := ρ) (φ := φ) R w
  have hrep := rep_rel z2 c
  rw [z3] at hrep
  have g2' : c ≤ 1073741824 := g2
  have hb : i.bytes * c ≤ 65536 * 1073741824 := Nat.mul_le_mul (by omega) g2'
  have wl : IntKind.i64.wrap (l : Int) = (l : Int) := wrap_of_kin (by rw [kin_iff]; simp [klo, khi]; omega)
  have wc : IntKind.i64.wrap (c : Int) = (c : Int) := wrap_of_kin (by rw [kin_iff]; simp [klo, khi]; omega)
  have t1 : ¬ ((c : Int) < 0) := by omega
  have t2 : ¬ ((i.bytes : Int) * (c : Int) > 2 ^ 48) := by
    have : ((i.bytes : Int) * (c : Int)) = ((i.bytes * c : Nat) : Int) := by simp
    rw [this]; omega
  have t3 : ¬ ((l : Int) < 0) := by omega
  have t4 : ¬ ((l : Int) > (c : Int)) := by omega
  have hcond : ((decide ((c : Int) < 0) || decide ((i.bytes : Int) * (c : Int) > 2 ^ 48)) || decide ((l : Int) < 0) || decide ((l : Int) > (c : Int))) = false := by
    simp only [t1, t2, t3, t4, decide_false, Bool.or_false]
  generalize hd : (Array.range (c * te.size)).map (fun k => (if c * te.size = 0 then #[] else z.cells)[k % (if c * te.size = 0 then #[] else z.cells).size]!) = d
  have hdr : VsRel ρ φ (replA c te.zero) d.toList := by
    rw [← hd]
    by_cases h0 : c * te.size = 0
    · rw [h0] at hrep ⊢; simpa using hrep
    · simp only [h0, if_false]; rw [z3]; exact hrep
  have hds : d.size = c * te.size := by rw [← hd]; simp
  refine ⟨_, wnew w (.cells d e), .slice (some ⟨w.heap.size, 0, none⟩) l c, ?_, ?_, H.grow rfl rfl, H.newAll hn e hdr (rep_flat R.zflat c)⟩
  · simp only [Instr.makeSlice, Sem.run_bind, run_un k1, Result.andThen_ok, asInt, asIntOf, Sem.run_pure, run_ti b1, wl, wc]
    rw [if_neg (by rw [hcond]; simp)]
    simp only [Sem.run_bind, run_askRoom, Result.andThen_ok, R.run_size, Int.toNat_natCast]
    by_cases h0 : c * te.size = 0
    · simp only [h0, if_true] at hd ⊢
      simp only [Sem.run_pure, Result.andThen_ok, Sem.run_bind, run_newRow, ← hd]
    · simp only [h0, if_false] at hd ⊢
      simp only [Sem.run_bind, z1, Sem.run_pure, Result.andThen_ok, run_newRow, hd]
  · exact .slice _ _ _ _ _ _ _ d.size 0 c (Phi.ext_self _ _ _ _) (Nat.le_refl _) (fun _ => rfl) g1 (.inr rfl) (by omega)
end
end Go.AI
