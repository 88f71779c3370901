/-
  The abstract operations are the model's: append, copy, clear, max, min.
-/
import Derived.Test.YthgfmkhpogbonaaGreatDoorAiOp8
set_option linter.unusedVariables false
set_option linter.unusedSimpArgs false
namespace Go.AI
section
variable {P : Program} {ρ : Env} {φ : Phi} {w0 w : World} {h h' : AHeap} {ti : Nat → Option ATy} {bd : Bnd}

theorem run_loadCells_zero (a : Addr) (w : World) : (loadCells a 0).run P w = .ok #[] w := by
  have := run_loadCells_list (P := P) w a [] (fun j v hj => by simp at hj)
  simpa using this

theorem growBy_le (need : Nat) : ∀ r c, c ≤ 2 * need + 1000 → Builtin.growBy need r c ≤ 2 * need + 1000
  | 0, c, h => h
  | r + 1, c, h => by
    unfold Builtin.growBy
    split
    · exact h
    · exact growBy_le need r _ (by omega)

theorem nextslicecap_le {need old : Nat} (h : old < need) : Builtin.nextslicecap need old ≤ 2 * need + 1000 := by
  unfold Builtin.nextslicecap
  split
  · omega
  · split
    · omega
    · exact growBy_le need 4 old (by omega)


/-- what an append adds, in the model -/
def NewOk (P : Program) (w : World) (at1 : Array TypeId) (x : Value) (e : TypeId) (size n : Nat) (z : Value) (arr : Array Value) : Prop :=
  ∃ t1 d1, at1[1]? = some t1 ∧ P.underlying t1 = some d1 ∧
    ((((∃ e', d1 = .slice e') ∨ d1 = .string) ∧ (∀ w', (Builtin.lenOf x).run P w' = .ok n w') ∧ (∀ w', w'.heap = w.heap → (Builtin.firstCells size n x).run P w' = .ok arr w'))
     ∨ ((∃ k, d1 = .int k) ∧ (∃ k, x = .int k (n : Int)) ∧ arr = Builtin.zeroCells z.cells n))

theorem zeroCells_nil {z : Array Value} {n size : Nat} (h : z.size = size) (h0 : n * size = 0) : Builtin.zeroCells z n = #[] := by
  subst h; simp [Builtin.zeroCells, h0]

theorem append_in {at1 : Array TypeId} {ty t0 e : TypeId} {ii : TypeInfo} {x : Value} {size n : Nat} {base : Option Addr} {sLen sCap : Nat} {z : Value} {arr : Array Value} {w' : World}
   (h0 : at1[0]? = some t0) (u0 : P.underlying t0 = some (.slice e)) (hs : ∀ w, (sizeOf e).run P w = .ok size w) (hi : P.info? e = some ii) (hi2 : ii.bytes ≤ 65536)
   (hz : ∀ w, (zeroValue e).run P w = .ok z w) (hzs : z.cells.size = size)
   (hneed : n ≤ 1073741824) (hx : NewOk P w at1 x e size n z arr) (c : sLen + n ≤ sCap)
   (hb : (base = none ∧ w' = w) ∨ ∃ a, base = some a ∧ (storeCells (a.add (sLen * size)) arr.toList 0).run P w = .ok () w') :
   (Builtin.append_ at1 ty #[.slice base sLen sCap, x]).run P w = .ok (.slice base (sLen + n) sCap) w' := by
  obtain ⟨t1, d1, h1, u1, ⟨hd, hl, hf⟩ | ⟨⟨k, rfl⟩, ⟨k', rfl⟩, rfl⟩⟩ := hx
  · rcases hd with ⟨e', rfl⟩ | rfl
    all_goals
      simp only [Builtin.append_, h0, h1, List.getElem?_toArray, List.getElem?_cons_zero, List.getElem?_cons_succ, Sem.run_bind, run_un u0, run_un u1, Result.andThen_ok, hs, Sem.run_pure, hl, Bool.false_eq_true, if_false, Bool.not_false, if_true]
      rw [if_pos c]
      simp only [Sem.run_bind, hf w rfl, Result.andThen_ok]
      rcases hb with ⟨rfl, rfl⟩ | ⟨a, rfl, hb⟩
      · rfl
      · simp only [Sem.run_bind, hb, Result.andThen_ok, Sem.run_pure]
  · have w1 : IntKind.i64.wrap (n : Int) = (n : Int) := wrap_of_kin (by rw [kin_iff]; simp [klo, khi]; omega)
    have w2 : ¬ ((n : Int) < 0) := by omega
    have w3 : ¬ ((n : Int) * (ii.bytes : Int) > 2 ^ 48) := by
      have : n * ii.bytes ≤ 1073741824 * 65536 := Nat.mul_le_mul (by omega) hi2
      have : ((n : Int) * (ii.bytes : Int)) = ((n * ii.bytes : Nat) : Int) := by simp
      rw [this]; omega
    simp only [Builtin.append_, h0, h1, List.getElem?_toArray, List.getElem?_cons_zero, List.getElem?_cons_succ, Sem.run_bind, run_un u0, run_un u1, Result.andThen_ok, hs, Sem.run_pure, if_true, asInt, asIntOf, w1, w2, if_false, run_ti hi, w3, Int.toNat_natCast, Bool.not_true, Bool.false_eq_true]
    rw [if_pos c]
    by_cases hn0 : n * size = 0
    · rw [zeroCells_nil hzs hn0] at hb
      simp only [Sem.run_bind, hn0, if_true, Sem.run_pure, Result.andThen_ok]
      rcases hb with ⟨rfl, rfl⟩ | ⟨a, rfl, hb⟩
      · rfl
      · simp only [Sem.run_bind, hb, Result.andThen_ok, Sem.run_pure]
    · simp only [Sem.run_bind, hn0, if_false, hz, Sem.run_pure, Result.andThen_ok]
      rcases hb with ⟨rfl, rfl⟩ | ⟨a, rfl, hb⟩
      · rfl
      · simp only [Sem.run_bind, hb, Result.andThen_ok, Sem.run_pure]

theorem append_new {at1 : Array TypeId} {ty t0 e : TypeId} {ii : TypeInfo} {x : Value} {size n : Nat} {base : Option Addr} {sLen sCap : Nat} {z : Value} {arr old : Array Value} {cap : Nat} {w1 : World}
   (h0 : at1[0]? = some t0) (u0 : P.underlying t0 = some (.slice e)) (hs : ∀ w, (sizeOf e).run P w = .ok size w) (hi : P.info? e = some ii) (hi1 : 1 ≤ ii.bytes) (hi2 : ii.bytes ≤ 65536)
   (hz : ∀ w, (zeroValue e).run P w = .ok z w) (hzs : z.cells.size = size)
   (hneed : sLen + n ≤ 1073741824) (hx : NewOk P w at1 x e size n z arr) (c : ¬ sLen + n ≤ sCap)
   (hcap : (choose (.appendCap (sLen + n) sCap e)).run P w = .ok cap w1) (hw1 : w1.heap = w.heap)
   (hold : (Builtin.firstCells size sLen (.slice base sLen sCap)).run P w1 = .ok old w1) :
   (Builtin.append_ at1 ty #[.slice base sLen sCap, x]).run P w = .ok (.slice (some ⟨w.heap.size, 0, none⟩) (sLen + n) cap) (wnew w1 (.cells (old ++ arr ++ Builtin.zeroCells z.cells (cap - (sLen + n))) e)) := by
  have b1 := nextslicecap_le (need := sLen + n) (old := sCap) (by omega)
  have b2 : Builtin.nextslicecap (sLen + n) sCap * ii.bytes ≤ (2 * 1073741824 + 1000) * 65536 := Nat.mul_le_mul (by omega) hi2
  have b3 : ¬ (Builtin.nextslicecap (sLen + n) sCap * ii.bytes > 2 ^ 48) := by omega
  have bm : ¬ (((sLen + n : Nat) : Int) > IntKind.i64.max) := by
    have : IntKind.i64.max = 9223372036854775807 := by decide
    rw [this]; omega
  obtain ⟨t1, d1, h1, u1, ⟨hd, hl, hf⟩ | ⟨⟨k, rfl⟩, ⟨k', rfl⟩, rfl⟩⟩ := hx
  · rcases hd with ⟨e', rfl⟩ | rfl
    all_goals
      simp only [Builtin.append_, h0, h1, List.getElem?_toArray, List.getElem?_cons_zero, List.getElem?_cons_succ, Sem.run_bind, run_un u0, run_un u1, Result.andThen_ok, hs, Sem.run_pure, hl, Bool.false_eq_true, if_false, Bool.not_false, if_true]
      rw [if_neg c]
      simp only [Sem.run_bind, run_ti hi, Result.andThen_ok, b3, bm, false_and, if_false, hcap, run_askRoom, hold, hf w1 hw1, hz, Sem.run_pure, run_newRow, hw1]
  · have w1' : IntKind.i64.wrap (n : Int) = (n : Int) := wrap_of_kin (by rw [kin_iff]; simp [klo, khi]; omega)
    have w2 : ¬ ((n : Int) < 0) := by omega
    have w3 : ¬ ((n : Int) * (ii.bytes : Int) > 2 ^ 48) := by
      have : n * ii.bytes ≤ 1073741824 * 65536 := Nat.mul_le_mul (by omega) hi2
      have : ((n : Int) * (ii.bytes : Int)) = ((n * ii.bytes : Nat) : Int) := by simp
      rw [this]; omega
    simp only [Builtin.append_, h0, h1, List.getElem?_toArray, List.getElem?_cons_zero, List.getElem?_cons_succ, Sem.run_bind, run_un u0, run_un u1, Result.andThen_ok, hs, Sem.run_pure, if_true, asInt, asIntOf, w1', w2, if_false, run_ti hi, w3, Int.toNat_natCast, Bool.not_true, Bool.false_eq_true]
    rw [if_neg c]
    by_cases hn0 : n * size = 0
    · rw [zeroCells_nil hzs hn0]
      simp only [Sem.run_bind, run_ti hi, Result.andThen_ok, b3, bm, false_and, if_false, hcap, run_askRoom, hold, hn0, if_true, hz, Sem.run_pure, run_newRow, hw1]
    · simp only [Sem.run_bind, run_ti hi, Result.andThen_ok, b3, bm, false_and, if_false, hcap, run_askRoom, hold, hn0, if_true, hz, Sem.run_pure, run_newRow, hw1]

theorem zeroCells_rel {z : Value} {te : ATy} (hz : VsRel ρ φ te.zero z.cells.toList) (n : Nat) : VsRel ρ φ (replA n te.zero) (Builtin.zeroCells z.cells n).toList := rep_rel hz n

theorem run_firstCells_str (s : ByteArray) (w : World) : (Builtin.firstCells 1 s.size (.string s)).run P w = .ok (s.data.map fun b => .int .u8 b.toNat) w := by
  simp only [Builtin.firstCells, Sem.run_pure]
  have : s.extract 0 s.size = s := ByteArray.extract_zero_size
  rw [this]

theorem newOf_ok (T : TiOk P ti) {at1 : Array TypeId} {t1 e : TypeId} {te : ATy} {β : Type} {x : AV} {u : Value} {K : Nat → List AV → Option β} {r : β} (H : HRel ρ w0 φ h w) (hx : VRel ρ φ x u)
    (h1 : at1[1]? = some t1) (R : TyRel P e te) {z : Value} (hz : VsRel ρ φ te.zero z.cells.toList) (hzs : z.cells.size = te.size) (he : newOf ti te t1 x h K = some r) :
    ∃ n new arr, K n new = some r ∧ NewOk P w at1 u e te.size n z arr ∧ VsRel ρ φ new arr.toList ∧ (∀ v ∈ new, v.flat = true) ∧ arr.size = n * te.size ∧ (n = 0 → arr = #[]) := by
  simp only [newOf, ob_some] at he
  obtain ⟨a1, h2, he⟩ := he
  have R1 := T _ _ h2
  split at he
  · -- nothing
    simp only [guardB_some] at he
    obtain ⟨hk, he⟩ := he
    obtain ⟨e', hk'⟩ : ∃ e, a1.k = .slice e := by cases hty : a1.k <;> rw [hty] at hk <;> first | exact ⟨_, rfl⟩ | cases hk
    cases hx
    refine ⟨0, [], #[], he, ⟨t1, _, h1, R1.slice hk', .inl ⟨.inl ⟨e', rfl⟩, fun _ => rfl, fun _ _ => rfl⟩⟩, .nil, fun v hv => by (cases hv), by simp, fun _ => rfl⟩
  · rename_i b o n c1 c2 es
    simp only [guardB_some, Bool.and_eq_true, Nat.beq_eq, loadN_some] at he
    obtain ⟨⟨hk, rfl⟩, l, hg, hn, he⟩ := he
    obtain ⟨e', hk'⟩ : ∃ e, a1.k = .slice e := by cases hty : a1.k <;> rw [hty] at hk <;> first | exact ⟨_, rfl⟩ | cases hk
    cases hx with
    | slice _ _ _ _ _ _ blk sz off c hb q1 q2 q3 q4 q5 =>
      by_cases h0 : n * te.size = 0
      · have h0' : n.mul te.size = 0 := h0
        rw [h0'] at he
        refine ⟨n, _, #[], he, ⟨t1, _, h1, R1.slice hk', .inl ⟨.inl ⟨e', rfl⟩, fun _ => rfl, fun w' _ => ?_⟩⟩, ?_, fun v hv => ?_, by simp [h0], fun _ => rfl⟩
        · simp only [Builtin.firstCells, h0]; exact run_loadCells_zero _ _
        · simp; exact .nil
        · simp at hv
      · have hn0 : n ≠ 0 := by rintro rfl; simp at h0
        have hoff : off = o := by rcases q4 with h | h; omega; exact h
        subst hoff
        obtain ⟨a, k1, k2, k3, k4⟩ := H.loadN (P := P) hb hg hn (fun e => absurd e h0)
        refine ⟨n, _, a, he, ⟨t1, _, h1, R1.slice hk', .inl ⟨.inl ⟨e', rfl⟩, fun _ => rfl, fun w' hw' => ?_⟩⟩, k2, k3, k4, fun e => absurd e hn0⟩
        obtain ⟨a', k1', _⟩ := (H.heap_eq' hw').loadN (P := P) hb hg hn (fun e => absurd e h0)
        obtain ⟨c, e, lo, hi, g1, g2, g3, g4, g5, g6⟩ := H.cells hb hg
        have hle : off + n * te.size ≤ c.size := by simp at hn; have : n.mul te.size = n * te.size := rfl; omega
        have e1 := run_loadCells_row P w blk c e (lo, hi) g1 off (n * te.size) hle
        have e2 := run_loadCells_row P w' blk c e (lo, hi) (by rw [hw']; exact g1) off (n * te.size) hle
        have k1 : (loadCells ⟨blk, off, none⟩ (n * te.size)).run P w = .ok a w := k1
        rw [e1] at k1
        simp only [Result.ok.injEq, and_true] at k1
        subst k1
        exact e2
  · rename_i l
    simp only [guardB_some, Bool.and_eq_true, Nat.beq_eq] at he
    obtain ⟨⟨hk, hs⟩, he⟩ := he
    have hk' : a1.k = .str := by cases hty : a1.k <;> rw [hty] at hk <;> first | rfl | cases hk
    cases hx with
    | str s =>
      have hsz : (s.data.toList.map UInt8.toNat).length = s.size := by simp
      rw [len_eq, hsz] at he
      refine ⟨s.size, _, s.data.map fun b => .int .u8 b.toNat, he, ⟨t1, _, h1, R1.str hk', .inl ⟨.inr rfl, fun _ => rfl, fun w' _ => ?_⟩⟩, ?_, ofBytes_flat _, by simp [hs], fun h => ?_⟩
      · rw [hs]; exact run_firstCells_str s w'
      · rw [Array.toList_map]; exact ofBytes_rel _
      · apply Array.eq_empty_of_size_eq_zero; rw [Array.size_map]; exact h
  · simp only [guardB_some, intNat_some, Nat.ble_eq] at he
    obtain ⟨hk, n, rfl, hn, he⟩ := he
    obtain ⟨k, hk'⟩ : ∃ k, a1.k = .int k := by cases hty : a1.k <;> rw [hty] at hk <;> first | exact ⟨_, rfl⟩ | cases hk
    cases hx
    refine ⟨n, _, Builtin.zeroCells z.cells n, he, ⟨t1, _, h1, R1.int hk', .inr ⟨⟨k, rfl⟩, ⟨_, rfl⟩, rfl⟩⟩, zeroCells_rel hz n, rep_flat R.zflat n, by simp [Builtin.zeroCells, hzs], fun h => ?_⟩
    subst h; exact zeroCells_nil rfl (by simp)
  · cases he

theorem wput_heap_size (w : World) (b : Nat) (o : Obj) : (wput w b o).heap.size = w.heap.size := by simp [wput]

theorem appNil_ok {at1 : Array TypeId} {ty t0 e : TypeId} {te : ATy} {x : Value} {n : Nat} {z : Value} {new : List AV} {arr : Array Value} {v : AV} (H : HRel ρ w0 φ h w)
    (h0 : at1[0]? = some t0) (u0 : P.underlying t0 = some (.slice e)) (R : TyRel P e te) (hb1 : 1 ≤ te.bytes) (hb2 : te.bytes ≤ 65536)
    (hz : ∀ w, (zeroValue e).run P w = .ok z w) (hzs : z.cells.size = te.size) (hx : NewOk P w at1 x e te.size n z arr) (hv : VsRel ρ φ new arr.toList) (hf : ∀ v ∈ new, v.flat = true)
    (ha : arr.size = n * te.size) (he : appNil te n new h = some (v, h')) : ValOk P ρ w0 (Builtin.append_ at1 ty #[.slice none 0 0, x]) φ w h v h' := by
  obtain ⟨ii, i1, i2⟩ := R.run_bytes
  simp only [appNil] at he
  cases hc : Nat.beq n 0 with
  | true =>
    rw [hc] at he; simp only [sel_true, rOk_some, Prod.mk.injEq] at he
    obtain ⟨rfl, rfl⟩ := he
    have : n = 0 := by simpa using hc
    subst this
    exact .pure H (append_in h0 u0 (fun _ => R.run_size _) i1 (by omega) hz hzs (by omega) hx (by omega) (.inl ⟨rfl, rfl⟩)) .nils
  | false =>
    rw [hc] at he; simp only [sel_false, guardB_some, Nat.ble_eq, new_some, rOk_some, Prod.mk.injEq] at he
    obtain ⟨hn, hN, rfl, rfl⟩ := he
    have hn' : n ≤ 1073741824 := hn
    have : n ≠ 0 := by intro e; subst e; simp at hc
    obtain ⟨cap, w1, hcap, hw1, hw2, hle⟩ : ∃ cap w1, (choose (.appendCap (0 + n) 0 e)).run P w = .ok cap w1 ∧ w1.heap = w.heap ∧ (w1.os = w.os ∧ w1.output = w.output ∧ w1.tape = w.tape) ∧ n ≤ cap := by
      rw [run_choose]
      exact ⟨_, _, rfl, rfl, ⟨rfl, rfl, rfl⟩, by simp [Question.cut]⟩
    have hrun := append_new (ty := ty) (base := none) (old := #[]) h0 u0 (fun _ => R.run_size _) i1 (by omega) (by omega) hz hzs (by omega) hx (by omega) hcap hw1 rfl
    generalize hd : (#[] ++ arr ++ Builtin.zeroCells z.cells (cap - (0 + n))) = d at hrun
    have hds : d.size = cap * te.size := by
      rw [← hd]; simp [ha, Builtin.zeroCells, hzs]
      rw [← Nat.add_mul]; congr 1; omega
    have H1 := H.heap_eq hw1 hw2
    have hrel : new.length ≤ d.size ∧ VsRel ρ φ new (d.toList.take new.length) := by
      have hl := hv.length
      rw [← hd]; simp
      refine ⟨by simp at hl; omega, ?_⟩
      rw [hl, Array.length_toList]
      simp; exact hv
    have hnew := H1.newCells hN e hrel.1 hrel.2 hf
    refine ⟨_, _, .slice (some ⟨w.heap.size, 0, none⟩) (0 + n) cap, hrun, ?_, H1.grow rfl rfl, hnew⟩
    rw [Nat.zero_add, hw1]
    exact .slice _ 0 n n false te.size _ d.size 0 cap (Phi.ext_self _ _ _ _) hle (by simp) (Nat.le_refl _) (.inr rfl) (by omega)

theorem appSl_ok {at1 : Array TypeId} {ty t0 e : TypeId} {te : ATy} {x : Value} {n : Nat} {z : Value} {new : List AV} {arr : Array Value} {v : AV} {b o ln cap es blk sz off c : Nat} {ex : Bool} (H : HRel ρ w0 φ h w)
    (h0 : at1[0]? = some t0) (u0 : P.underlying t0 = some (.slice e)) (R : TyRel P e te) (hs1 : 1 ≤ te.size) (hb1 : 1 ≤ te.bytes) (hb2 : te.bytes ≤ 65536)
    (hz : ∀ w, (zeroValue e).run P w = .ok z w) (hzs : z.cells.size = te.size) (hx : NewOk P w at1 x e te.size n z arr) (hv : VsRel ρ φ new arr.toList) (hf : ∀ v ∈ new, v.flat = true)
    (ha : arr.size = n * te.size) (ha0 : n = 0 → arr = #[]) 
    (hb : φ b = some (blk, sz)) (q1 : cap ≤ c) (q2 : ex = true → c = cap) (q3 : ln ≤ cap) (q4 : c = 0 ∨ off = o) (q5 : o + c * es ≤ sz)
    (he : appSl te n new h b o ln cap ex es = some (v, h')) : ValOk P ρ w0 (Builtin.append_ at1 ty #[.slice (some ⟨blk, off, none⟩) ln c, x]) φ w h v h' := by
  obtain ⟨ii, i1, i2⟩ := R.run_bytes
  have hlen : new.length = n * te.size := by have := hv.length; simp at this; omega
  simp only [appSl, guardB_some, Nat.beq_eq] at he
  obtain ⟨rfl, he⟩ := he
  cases hc : Nat.beq n 0 with
  | true =>
    rw [hc] at he; simp only [sel_true, rOk_some, Prod.mk.injEq] at he
    obtain ⟨rfl, rfl⟩ := he
    have : n = 0 := by simpa using hc
    subst this
    have := ha0 rfl
    subst this
    exact .pure H (append_in (base := some ⟨blk, off, none⟩) h0 u0 (fun _ => R.run_size _) i1 (by omega) hz hzs (by omega) hx (by omega) (.inr ⟨_, rfl, rfl⟩)) (.slice _ _ _ _ _ _ _ _ _ _ hb q1 q2 q3 q4 q5)
  | false =>
    rw [hc] at he; simp only [sel_false, guardB_some, Nat.ble_eq] at he
    obtain ⟨hn, he⟩ := he
    have hn' : ln + n ≤ 1073741824 := hn
    have hn0 : n ≠ 0 := by intro e; subst e; simp at hc
    cases hcap : Nat.ble (Nat.add ln n) cap with
    | true =>
      rw [hcap] at he; simp only [sel_true, storeN_some, rOk_some, Prod.mk.injEq] at he
      obtain ⟨l, hg, hle, rfl, rfl⟩ := he
      have hcap' : ln + n ≤ cap := by simpa using hcap
      have hoff : off = o := by rcases q4 with h | h; omega; exact h
      subst hoff
      obtain ⟨w', s1, s2⟩ := H.storeN (P := P) hb hg hle hv hf
      have hrun := append_in (ty := ty) (base := some ⟨blk, off, none⟩) (sLen := ln) (sCap := c) (w' := w') h0 u0 (fun _ => R.run_size _) i1 (by omega) hz hzs (by omega) hx (by omega) (.inr ⟨_, rfl, by rw [add_none]; exact s1⟩)
      exact ⟨_, _, _, hrun, .slice _ _ _ _ _ _ _ _ _ _ hb q1 q2 hcap' (.inr rfl) q5, .same rfl, s2⟩
    | false =>
      rw [hcap] at he; simp only [sel_false, loadN_some] at he
      obtain ⟨l, hg, hle, he⟩ := he
      have hcap' : ¬ ln + n ≤ cap := by
        intro h
        have : Nat.ble (Nat.add ln n) cap = true := by rw [Nat.ble_eq]; exact h
        rw [this] at hcap; cases hcap
      have hle' : ln * te.size ≤ (l.drop o).length := hle
      -- the old cells
      obtain ⟨cc, e', lo, hi, g1, g2, g3, g4, g5, g6⟩ := H.cells hb hg
      have holdr : ∀ w1 : World, w1.heap = w.heap → ∃ old, (Builtin.firstCells te.size ln (.slice (some ⟨blk, off, none⟩) ln c)).run P w1 = .ok old w1 ∧ VsRel ρ φ ((l.drop o).take (ln * te.size)) old.toList ∧ old.size = ln * te.size := by
        intro w1 hw1
        by_cases hz0 : ln * te.size = 0
        · refine ⟨#[], ?_, by rw [hz0]; simp; exact .nil, by simp [hz0]⟩
          simp only [Builtin.firstCells, hz0]; exact run_loadCells_zero _ _
        · have hln : ln ≠ 0 := by rintro rfl; simp at hz0
          have hoff : off = o := by rcases q4 with h | h; omega; exact h
          subst hoff
          obtain ⟨a, k1, k2, k3, k4⟩ := (H.heap_eq' hw1).loadN (P := P) hb hg hle' (fun e => absurd e hz0)
          exact ⟨a, k1, k2, k4⟩
      have hnewb : c < ln + n → ∀ hh : AHeap, HRel ρ w0 φ hh w → True → hh.next = h.next → ∀ vv, vv = AV.slice hh.next 0 (ln + n) (ln + n) false te.size →
          ValOk P ρ w0 (Builtin.append_ at1 ty #[.slice (some ⟨blk, off, none⟩) ln c, x]) φ w h vv (hh.newH (.cells (appL ((l.drop o).take (ln * te.size)) new))) := by
        intro hlt hh HH hN hNe vv hvv
        obtain ⟨ncap, w1, hcap, hw1, hw2, hle⟩ : ∃ cap w1, (choose (.appendCap (ln + n) c e)).run P w = .ok cap w1 ∧ w1.heap = w.heap ∧ (w1.os = w.os ∧ w1.output = w.output ∧ w1.tape = w.tape) ∧ ln + n ≤ cap := by
          rw [run_choose]
          exact ⟨_, _, rfl, rfl, ⟨rfl, rfl, rfl⟩, by simp [Question.cut]⟩
        obtain ⟨old, hold, hor, hos⟩ := holdr w1 hw1
        have hrun := append_new (ty := ty) (base := some ⟨blk, off, none⟩) h0 u0 (fun _ => R.run_size _) i1 (by omega) (by omega) hz hzs hn' hx (by omega) hcap hw1 hold
        generalize hd : (old ++ arr ++ Builtin.zeroCells z.cells (ncap - (ln + n))) = d at hrun
        have hds : d.size = ncap * te.size := by
          rw [← hd]; simp [ha, hos, Builtin.zeroCells, hzs]
          rw [← Nat.add_mul, ← Nat.add_mul]; congr 1; omega
        have H1 := HH.heap_eq hw1 hw2
        have hrel2 := hor.append hv
        have hll : ((l.drop o).take (ln * te.size) ++ new).length = ln * te.size + n * te.size := by have := hrel2.length; simp only [List.length_append, Array.length_toList] at this ⊢; omega
        have hrel : VsRel ρ φ ((l.drop o).take (ln * te.size) ++ new) (d.toList.take ((l.drop o).take (ln * te.size) ++ new).length) := by
          rw [hll, ← hd]
          have e1 : (old ++ arr ++ Builtin.zeroCells z.cells (ncap - (ln + n))).toList = (old.toList ++ arr.toList) ++ (Builtin.zeroCells z.cells (ncap - (ln + n))).toList := by simp
          have e2 : ln * te.size + n * te.size = (old.toList ++ arr.toList).length := by simp; omega
          rw [e1, e2, List.take_left]; exact hrel2
        have hlen2 : ((l.drop o).take (ln * te.size) ++ new).length ≤ d.size := by rw [hll, hds, ← Nat.add_mul]; exact Nat.mul_le_mul_right _ hle
        rw [appL_eq]
        have hnew := H1.newCells hN e hlen2 hrel (fun v hv => by
          rcases List.mem_append.1 hv with hv | hv
          · exact flat_take (flat_drop g5 o) _ v hv
          · exact hf v hv)
        refine ⟨_, _, .slice (some ⟨w.heap.size, 0, none⟩) (ln + n) ncap, hrun, ?_, H1.grow hNe (congrArg (· + 1) hNe), hnew⟩
        rw [hvv, ← hw1]
        exact .slice _ 0 _ _ false te.size _ d.size 0 ncap (Phi.ext_self _ _ _ _) hle (by simp) (Nat.le_refl _) (.inr rfl) (by omega)
      cases hex : ex with
      | true =>
        rw [hex] at he; simp only [sel_true, new_some, rOk_some, Prod.mk.injEq] at he
        obtain ⟨hN, rfl, rfl⟩ := he
        have := q2 hex
        exact hnewb (by omega) h H hN rfl _ rfl
      | false =>
        rw [hex] at he; simp only [sel_false, guardB_some, Nat.beq_eq, new_some, rOk_some, Prod.mk.injEq] at he
        obtain ⟨rfl, hN, rfl, rfl⟩ := he
        by_cases hlt : c < ln + n
        · exact hnewb hlt _ (H.kill hb) hN rfl _ rfl
        · -- it goes in place, under a new name
          have hoff : off = 0 := by rcases q4 with h | h; omega; exact h
          subst hoff
          simp only [List.drop_zero] at hle' holdr ⊢
          have g3' : ln * te.size ≤ l.length := hle'
          have hmul : ln * te.size + n * te.size = (ln + n) * te.size := by rw [Nat.add_mul]
          have hcs : (ln + n) * te.size ≤ c * te.size := Nat.mul_le_mul_right _ (by omega)
          have hus := (hv.one hf)
          have hrs := run_storeCells_row P blk (ln * te.size) e' lo hi arr.toList 0 cc w g1 (by simp; omega) (fun k hk => g6 k (by omega)) hus
          have hrun := append_in (ty := ty) (base := some ⟨blk, 0, none⟩) (sLen := ln) (sCap := c) h0 u0 (fun _ => R.run_size _) i1 (by omega) hz hzs (by omega) hx (by omega) (.inr ⟨_, rfl, by rw [add_none, Nat.zero_add]; exact hrs⟩)
          have hor : VsRel ρ φ (l.take (ln * te.size)) (cc.toList.take (ln * te.size)) := by
            have := g4.take (ln * te.size)
            rwa [List.take_take, show min (ln * te.size) l.length = ln * te.size from by omega] at this
          have hrel2 := hor.append hv
          refine ⟨φ.ext h.next blk sz, _, _, hrun, ?_, H.grow rfl rfl, H.rename hg hb hN ?_⟩
          · exact .slice _ 0 _ _ false te.size _ sz 0 c (Phi.ext_self _ _ _ _) (by show ln + n ≤ c; omega) (by simp) (Nat.le_refl _) (.inr rfl) (by omega)
          · have hll : (List.take (ln * te.size) l ++ new).length = ln * te.size + n * te.size := by simp; omega
            rw [appL_eq]
            refine .cells _ _ _ _ _ ?_ ?_ ?_ ?_ g6
            · simp; omega
            · show (List.take (ln * te.size) l ++ new).length ≤ sz; rw [hll]; omega
            · show VsRel _ _ (List.take (ln * te.size) l ++ new) _
              have hll' : (List.take (Nat.mul ln te.size) l ++ new).length = ln * te.size + n * te.size := hll
              rw [hll']
              have e2 : ln * te.size + n * te.size = (cc.toList.take (ln * te.size) ++ arr.toList).length := by simp; omega
              simp only [Nat.add_zero]
              rw [e2, List.take_left]
              exact hrel2.mono (H.le_ext _ _)
            · intro v hv
              rcases List.mem_append.1 hv with hv | hv
              · exact flat_take g5 _ v hv
              · exact hf v hv

theorem appendA_ok (T : TiOk P ti) {at1 : Array TypeId} {ty t0 t1 : TypeId} {s x v : AV} {us ux : Value} (H : HRel ρ w0 φ h w) (hs : VRel ρ φ s us) (hx : VRel ρ φ x ux) (h0 : at1[0]? = some t0) (h1 : at1[1]? = some t1)
    (he : appendA ti t0 t1 s x h = some (v, h')) : ValOk P ρ w0 (Builtin.append_ at1 ty #[us, ux]) φ w h v h' := by
  simp only [appendA, ob_some, kSlice_some, guardB_some, Bool.and_eq_true, Nat.ble_eq] at he
  obtain ⟨a0, k0, e, hk, te, ke, ⟨hs1, hb1, hb2⟩, he⟩ := he
  have R := T _ _ ke
  have u0 := (T _ _ k0).slice hk
  obtain ⟨z, zv, z1, z2, z3, z4⟩ := R.run_zero w
  have hzz : ∀ w', (zeroValue e).run P w' = .ok z w' := by
    intro w'
    obtain ⟨ii, i1, _⟩ := R.run_bytes
    revert z1
    simp only [zeroValue, Sem.run_bind, run_ti i1, Result.andThen_ok]
    cases ii.zero with
    | none => intro h; cases h
    | some zz => simp only [Sem.run_pure, Result.ok.injEq, and_true]; exact id
  have zr := (ofValue_rel (ρ := ρ) (φ := φ) _ _ z2).cells
  rw [z3] at zr
  have zs : z.cells.size = te.size := by have a := zr.length; have b := R.zlen; simp at *; omega
  obtain ⟨n, new, arr, he', n1, n2, n3, n4, n5⟩ := newOf_ok T H hx h1 R zr zs he
  replace he := he'
  simp only [onSlice_some] at he
  rcases he with ⟨rfl, he⟩ | ⟨b, o, ln, cap, ex, es, rfl, he⟩
  · cases hs
    exact appNil_ok H h0 u0 R hb1 hb2 hzz zs n1 n2 n3 n4 he
  · cases hs with
    | slice _ _ _ _ _ _ blk sz off c hb q1 q2 q3 q4 q5 =>
      exact appSl_ok H h0 u0 R hs1 hb1 hb2 hzz zs n1 n2 n3 n4 n5 hb q1 q2 q3 q4 q5 he

theorem copyA_ok (T : TiOk P ti) {at1 : Array TypeId} {ty t0 : TypeId} {d x v : AV} {ud ux : Value} (H : HRel ρ w0 φ h w) (hd : VRel ρ φ d ud) (hx : VRel ρ φ x ux) (h0 : at1[0]? = some t0)
    (he : copyA ti t0 d x h = some (v, h')) : ValOk P ρ w0 (Builtin.copy_ at1 ty #[ud, ux]) φ w h v h' := by
  simp only [copyA, ob_some, kSlice_some, onSlice_some, guardB_some, Nat.beq_eq, reduceCtorEq, and_false, false_or] at he
  obtain ⟨a0, k0, e, hk, te, ke, b, o, n, cap, ex, es, rfl, rfl, he⟩ := he
  have R := T _ _ ke
  have u0 := (T _ _ k0).slice hk
  cases hd with
  | slice _ _ _ _ _ _ blk sz off c hb q1 q2 q3 q4 q5 =>
    rcases he with ⟨rfl, he⟩ | ⟨b', o', n', cap', ex', es', rfl, rfl, he⟩
    · simp only [rOk_some, Prod.mk.injEq] at he
      obtain ⟨rfl, rfl⟩ := he
      cases hx
      refine .pure H (u := goInt 0) ?_ (.int _ _)
      simp [Builtin.copy_, h0, run_un u0, Builtin.lenOf, R.run_size, Builtin.firstCells, storeCells]
    · cases hx with
      | slice _ _ _ _ _ _ blk' sz' off' c' hb' p1 p2 p3 p4 p5 =>
        have hmin : (sel (Nat.ble n' n) n' n) = Nat.min n' n := by
          cases hc : Nat.ble n' n with
          | true => have h : n' ≤ n := by simpa using hc
                    exact (Nat.min_eq_left h).symm
          | false => have h : ¬ n' ≤ n := by intro h; rw [← Nat.ble_eq] at h; rw [h] at hc; cases hc
                     exact (Nat.min_eq_right (by omega : n ≤ n')).symm
        rw [hmin] at he
        simp only [loadN_some, storeN_some, rOk_some, Prod.mk.injEq] at he
        obtain ⟨l, hg', hn', l2, hg, hn, rfl, rfl⟩ := he
        have hm1 : Nat.min n' n ≤ n' := Nat.min_le_left _ _
        have hm2 : Nat.min n' n ≤ n := Nat.min_le_right _ _
        generalize hm : Nat.min n' n = m at hn' hn hm1 hm2 ⊢
        by_cases hm0 : m * te.size = 0
        · have hm0' : m.mul te.size = 0 := hm0
          rw [hm0'] at hn hn' ⊢
          simp only [List.take_zero] at hn ⊢
          obtain ⟨w', s1, s2⟩ := H.storeN (P := P) (vs := []) (us := []) hb hg hn .nil (fun v hv => by cases hv)
          simp only [storeCells, Sem.run_pure, Result.ok.injEq, true_and] at s1
          subst s1
          refine ⟨φ, w, goInt m, ?_, .int _ _, .same rfl, s2⟩
          simp [Builtin.copy_, h0, run_un u0, Builtin.lenOf, R.run_size, Builtin.firstCells, storeCells, hm, hm0, run_loadCells_zero]
        · have hm00 : m ≠ 0 := by rintro rfl; simp at hm0
          have hoff : off = o := by rcases q4 with h | h; omega; exact h
          have hoff' : off' = o' := by rcases p4 with h | h; omega; exact h
          subst hoff; subst hoff'
          obtain ⟨a, k1, k2, k3, k4⟩ := H.loadN (P := P) hb' hg' hn' (fun e => absurd e hm0)
          obtain ⟨w', s1, s2⟩ := H.storeN (P := P) hb hg hn k2 k3
          refine ⟨φ, w', goInt m, ?_, .int _ _, .same rfl, s2⟩
          have k1' : (loadCells ⟨blk', off', none⟩ (m * te.size)).run P w = .ok a w := k1
          simp [Builtin.copy_, h0, run_un u0, Builtin.lenOf, R.run_size, Builtin.firstCells, hm, k1', s1]

theorem clearA_ok (T : TiOk P ti) {at1 : Array TypeId} {ty t0 : TypeId} {x v : AV} {ux : Value} (H : HRel ρ w0 φ h w) (hx : VRel ρ φ x ux) (h0 : at1[0]? = some t0)
    (he : clearA ti t0 x h = some (v, h')) : ValOk P ρ w0 (Builtin.clear_ at1 ty #[ux]) φ w h v h' := by
  simp only [clearA, ob_some, kSlice_some, onSlice_some] at he
  obtain ⟨a0, k0, e, hk, te, ke, he⟩ := he
  have R := T _ _ ke
  have u0 := (T _ _ k0).slice hk
  rcases he with ⟨rfl, he⟩ | ⟨b, o, n, cap, ex, es, rfl, he⟩
  · simp only [rOk_some, Prod.mk.injEq] at he
    obtain ⟨rfl, rfl⟩ := he
    cases hx
    exact .pure H (u := undef) (by simp [Builtin.clear_, h0, run_un u0]; rfl) undef_rel
  · cases hx with
    | slice _ _ _ _ _ _ blk sz off c hb q1 q2 q3 q4 q5 =>
      cases hc : Nat.beq n 0 with
      | true =>
        rw [hc] at he; simp only [sel_true, rOk_some, Prod.mk.injEq] at he
        obtain ⟨rfl, rfl⟩ := he
        have : n = 0 := by simpa using hc
        subst this
        exact .pure H (u := undef) (by simp [Builtin.clear_, h0, run_un u0]; rfl) undef_rel
      | false =>
        rw [hc] at he; simp only [sel_false, guardB_some, Nat.beq_eq, storeN_some, rOk_some, Prod.mk.injEq] at he
        obtain ⟨rfl, l, hg, hn, rfl, rfl⟩ := he
        have hn0 : n ≠ 0 := by intro e; subst e; simp at hc
        have hoff : off = o := by rcases q4 with h | h; omega; exact h
        subst hoff
        obtain ⟨z, z1, z2, z3⟩ := zero_cells (ρ := ρ) (φ := φ) R w
        obtain ⟨w', s1, s2⟩ := H.storeN (P := P) hb hg hn (zeroCells_rel z2 n) (rep_flat R.zflat n)
        refine ⟨φ, w', undef, ?_, undef_rel, .same rfl, s2⟩
        obtain ⟨m, rfl⟩ : ∃ m, n = m + 1 := ⟨n - 1, by omega⟩
        simp [Builtin.clear_, h0, run_un u0, z1, s1]; rfl

theorem max2_ok {x y v : AV} {ux uy : Value} (hx : VRel ρ φ x ux) (hy : VRel ρ φ y uy) (he : max2A x y = some v) : ∃ u, (∀ w, (Builtin.max2 ux uy).run P w = .ok u w) ∧ VRel ρ φ v u := by
  simp only [max2A, onInt_some, guardB_some, Option.some.injEq] at he
  obtain ⟨k, a, rfl, k', b, rfl, hk, rfl⟩ := he
  cases hx; cases hy
  refine ⟨_, fun w => rfl, ?_⟩
  by_cases hb : b > a
  · rw [if_pos hb, ilt_iff.2 hb]; exact .int _ _
  · rw [if_neg hb]
    cases hi : ilt a b with
    | true => exact absurd (ilt_iff.1 hi) hb
    | false => exact .int _ _

theorem min2_ok {x y v : AV} {ux uy : Value} (hx : VRel ρ φ x ux) (hy : VRel ρ φ y uy) (he : min2A x y = some v) : ∃ u, (∀ w, (Builtin.min2 ux uy).run P w = .ok u w) ∧ VRel ρ φ v u := by
  simp only [min2A, onInt_some, guardB_some, Option.some.injEq] at he
  obtain ⟨k, a, rfl, k', b, rfl, hk, rfl⟩ := he
  cases hx; cases hy
  refine ⟨_, fun w => rfl, ?_⟩
  by_cases hb : b < a
  · rw [if_pos hb, ilt_iff.2 hb]; exact .int _ _
  · rw [if_neg hb]
    cases hi : ilt b a with
    | true => exact absurd (ilt_iff.1 hi) hb
    | false => exact .int _ _

theorem foldA_ok {f : AV → AV → Option AV} {g : Value → Value → Sem Value}
    (hfg : ∀ {x y v : AV} {ux uy : Value}, VRel ρ φ x ux → VRel ρ φ y uy → f x y = some v → ∃ u, (∀ w, (g ux uy).run P w = .ok u w) ∧ VRel ρ φ v u) :
    ∀ {l : List AV} {m : List Value} {x v : AV} {ux : Value}, VsRel ρ φ l m → VRel ρ φ x ux → foldA f l x = some v → ∃ u, (∀ w, (m.foldlM g ux).run P w = .ok u w) ∧ VRel ρ φ v u := by
  intro l
  induction l with
  | nil =>
    intro m x v ux hl hx he
    cases hl
    cases he
    exact ⟨ux, fun w => rfl, hx⟩
  | cons y l ih =>
    intro m x v ux hl hx he
    cases hl with
    | cons _ u _ m hy hl =>
      have he : ob (f x y) (foldA f l) = some v := he
      simp only [ob_some] at he
      obtain ⟨r, hr, he⟩ := he
      obtain ⟨u1, h1, h2⟩ := hfg hx hy hr
      obtain ⟨u2, h3, h4⟩ := ih hl h2 he
      exact ⟨u2, fun w => by simp [h1, h3], h4⟩
end
end Go.AI
