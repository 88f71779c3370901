/-
  The relation of heaps under what the model's primitives do: loads, stores, new blocks; what a type's row says.
-/
import Derived.Test.YthgfmkhpogbonaaGreatDoorAiRel
import Derived.Laws.Sem
import Derived.Laws.Cells
set_option linter.unusedVariables false
namespace Go.AI

theorem Phi.ext_le {φ : Phi} {n : Nat} {p : Nat × Nat} (h : φ n = none) : φ.le (fun i => if i = n then some p else φ i) := by
  intro i q hq
  by_cases e : i = n
  · subst e; rw [h] at hq; cases hq
  · simp [e, hq]

section
variable {P : Program} {ρ : Env} {φ : Phi} {w0 w : World} {h : AHeap}

def wput (w : World) (g : Nat) (o : Obj) : World := { w with heap := w.heap.setIfInBounds g o }
def wnew (w : World) (o : Obj) : World := { w with heap := w.heap.push o }

theorem HRel.heap_eq (H : HRel ρ w0 φ h w) {w' : World} (e : w'.heap = w.heap) (e2 : w'.os = w.os ∧ w'.output = w.output ∧ w'.tape = w.tape := by exact ⟨rfl, rfl, rfl⟩) : HRel ρ w0 φ h w' :=
  ⟨by rw [e]; exact H.size, by rw [e]; exact H.base, ⟨e2.1.trans H.next.1, e2.2.1.trans H.next.2.1, e2.2.2.trans H.next.2.2⟩, by rw [e]; exact H.dom, H.inj, by rw [e]; exact H.obj⟩

theorem HRel.heap_eq' (H : HRel ρ w0 φ h w) {w' : World} (e : w'.heap = w.heap) : HRel ρ { w0 with os := w'.os, output := w'.output, tape := w'.tape } φ h w' :=
  ⟨by rw [e]; exact H.size, by rw [e]; exact H.base, ⟨rfl, rfl, rfl⟩, by rw [e]; exact H.dom, H.inj, by rw [e]; exact H.obj⟩

theorem HRel.put (H : HRel ρ w0 φ h w) {i blk sz : Nat} {o o' : AObj} {ob' : Obj} (hg : h.get i = some o) (hi : φ i = some (blk, sz)) (ho : ORel ρ φ sz o' ob') :
    HRel ρ w0 φ (h.put i o') (wput w blk ob') := by
  have hle := H.id_le hi
  obtain ⟨h1, h2, h3⟩ := H.dom _ _ _ hi
  refine ⟨by simp [wput]; exact H.size, fun b hb => ?_, H.next, fun j bj sj hj => ?_, fun j k bj sj sk hj hk pj pk => ?_, fun j oj bj sj hj pj => ?_⟩
  · simp only [wput]
    rw [Array.getElem?_setIfInBounds_ne (by omega)]; exact H.base b hb
  · have := H.dom _ _ _ hj; simp only [wput, Array.size_setIfInBounds]; exact this
  · refine H.inj j k bj sj sk ?_ ?_ pj pk
    · intro e; apply hj; rw [get_put _ _ _ _ hle]; by_cases ej : j = i
      · subst ej; rw [hg] at e; cases e
      · rw [if_neg ej]; exact e
    · intro e; apply hk; rw [get_put _ _ _ _ hle]; by_cases ej : k = i
      · subst ej; rw [hg] at e; cases e
      · rw [if_neg ej]; exact e
  · rw [get_put _ _ _ _ hle] at hj
    by_cases ej : j = i
    · subst ej; rw [if_pos rfl] at hj; cases hj; rw [hi] at pj; cases pj
      refine ⟨ob', by simp [wput, h3], ho⟩
    · rw [if_neg ej] at hj
      obtain ⟨b, hb1, hb2⟩ := H.obj _ _ _ _ hj pj
      have hne : blk ≠ bj := by
        intro e; subst e
        exact ej (H.inj j i _ _ _ (by rw [hj]; simp) (by rw [hg]; simp) pj hi)
      refine ⟨b, ?_, hb2⟩
      simp only [wput]; rw [Array.getElem?_setIfInBounds_ne hne]; exact hb1

theorem HRel.phi_next (H : HRel ρ w0 φ h w) : φ h.next = none := by
  cases e : φ h.next with
  | none => rfl
  | some p => have := (H.dom _ p.1 p.2 e).1; omega

def Phi.ext (φ : Phi) (n blk sz : Nat) : Phi := fun i => if i = n then some (blk, sz) else φ i
theorem Phi.ext_self (φ : Phi) (n blk sz : Nat) : φ.ext n blk sz n = some (blk, sz) := by simp [Phi.ext]

theorem HRel.le_ext (H : HRel ρ w0 φ h w) (blk sz : Nat) : φ.le (φ.ext h.next blk sz) := Phi.ext_le H.phi_next

/-- a new block -/
theorem HRel.new (H : HRel ρ w0 φ h w) {o : AObj} {ob' : Obj} {sz : Nat} (hn : True) (ho : ORel ρ (φ.ext h.next w.heap.size sz) sz o ob') :
    HRel ρ w0 (φ.ext h.next w.heap.size sz) (h.newH o) (wnew w ob') := by
  have hle := H.le_ext w.heap.size sz
  have hN : (h.newH o).next = h.next + 1 := rfl
  refine ⟨by simp [wnew]; have := H.size; omega, fun b hb => ?_, H.next, fun j bj sj hj => ?_, fun j k bj sj sk hj hk pj pk => ?_, fun j oj bj sj hj pj => ?_⟩
  · have := H.size
    simp only [wnew]; rw [Array.getElem?_push, if_neg (by omega)]; exact H.base b hb
  · unfold Phi.ext at hj
    simp only [wnew, Array.size_push]
    by_cases e : j = h.next
    · rw [if_pos e] at hj; cases hj; have := H.size; exact ⟨by rw [hN]; omega, this, by omega⟩
    · rw [if_neg e] at hj; have := H.dom _ _ _ hj; rw [hN]; omega
  · unfold Phi.ext at pj pk
    by_cases e : j = h.next <;> by_cases e' : k = h.next
    · omega
    · rw [if_pos e] at pj; rw [if_neg e'] at pk; cases pj; have := H.dom _ _ _ pk; omega
    · rw [if_neg e] at pj; rw [if_pos e'] at pk; cases pk; have := H.dom _ _ _ pj; omega
    · rw [if_neg e] at pj; rw [if_neg e'] at pk
      rw [get_newH _ _ _ hn, if_neg e] at hj; rw [get_newH _ _ _ hn, if_neg e'] at hk
      exact H.inj j k _ _ _ hj hk pj pk
  · rw [get_newH _ _ _ hn] at hj
    by_cases e : j = h.next
    · rw [if_pos e] at hj; cases hj
      have : φ.ext h.next w.heap.size sz j = some (w.heap.size, sz) := by subst e; exact Phi.ext_self ..
      rw [this] at pj; cases pj
      exact ⟨ob', Array.getElem?_push_size, ho⟩
    · rw [if_neg e] at hj
      have pj' : φ j = some (bj, sj) := by simpa [Phi.ext, e] using pj
      obtain ⟨b, hb1, hb2⟩ := H.obj _ _ _ _ hj pj'
      have := H.dom _ _ _ pj'
      refine ⟨b, ?_, hb2.mono hle⟩
      simp only [wnew]; rw [Array.getElem?_push, if_neg (by omega)]; exact hb1

/-- a block whose old name is struck, and that has a new one, or another block -/
theorem HRel.kill (H : HRel ρ w0 φ h w) {i blk sz : Nat} (hi : φ i = some (blk, sz)) : HRel ρ w0 φ (h.kill i) w := by
  have hle := H.id_le hi
  have hN : (h.kill i).next = h.next := rfl
  refine ⟨H.size, H.base, H.next, fun j bj sj hj => H.dom _ _ _ hj, fun j k bj sj sk hj hk pj pk => ?_, fun j oj bj sj hj pj => ?_⟩
  · rw [get_kill _ _ _ hle] at hj hk
    by_cases e : j = i
    · rw [if_pos e] at hj; exact absurd rfl hj
    · by_cases e' : k = i
      · rw [if_pos e'] at hk; exact absurd rfl hk
      · rw [if_neg e] at hj; rw [if_neg e'] at hk; exact H.inj j k _ _ _ hj hk pj pk
  · rw [get_kill _ _ _ hle] at hj
    by_cases e : j = i
    · rw [if_pos e] at hj; cases hj
    · rw [if_neg e] at hj; exact H.obj _ _ _ _ hj pj

theorem HRel.rename (H : HRel ρ w0 φ h w) {i blk sz : Nat} {o o' : AObj} {ob' : Obj} (hg : h.get i = some o) (hi : φ i = some (blk, sz)) (hn : True)
    (ho : ORel ρ (φ.ext h.next blk sz) sz o' ob') : HRel ρ w0 (φ.ext h.next blk sz) ((h.kill i).newH o') (wput w blk ob') := by
  have hle := H.id_le hi
  obtain ⟨h1, h2, h3⟩ := H.dom _ _ _ hi
  have hphi := H.le_ext blk sz
  have hk : (h.kill i).next = h.next := rfl
  have hN : ((h.kill i).newH o').next = h.next + 1 := rfl
  have gk : ∀ j, ((h.kill i).newH o').get j = if j = h.next then some o' else if j = i then none else h.get j := by
    intro j; rw [get_newH _ _ _ trivial, hk]
    by_cases e : j = h.next
    · rw [if_pos e, if_pos e]
    · rw [if_neg e, if_neg e, get_kill _ _ _ hle]
  refine ⟨by simp [wput]; exact H.size, fun b hb => ?_, H.next, fun j bj sj hj => ?_, fun j k bj sj sk hj hk pj pk => ?_, fun j oj bj sj hj pj => ?_⟩
  · simp only [wput]; rw [Array.getElem?_setIfInBounds_ne (by omega)]; exact H.base b hb
  · unfold Phi.ext at hj
    simp only [wput, Array.size_setIfInBounds]
    by_cases e : j = h.next
    · rw [if_pos e] at hj; cases hj; exact ⟨by rw [hN]; omega, h2, h3⟩
    · rw [if_neg e] at hj; have := H.dom _ _ _ hj; rw [hN]; omega
  · unfold Phi.ext at pj pk
    rw [gk] at hj hk
    by_cases e : j = h.next <;> by_cases e' : k = h.next
    · omega
    · rw [if_pos e] at pj; rw [if_neg e'] at pk hk; cases pj
      by_cases e2 : k = i
      · rw [if_pos e2] at hk; exact absurd rfl hk
      · rw [if_neg e2] at hk; exact absurd (H.inj k i _ _ _ hk (by rw [hg]; simp) pk hi) e2
    · rw [if_neg e] at pj hj; rw [if_pos e'] at pk; cases pk
      by_cases e2 : j = i
      · rw [if_pos e2] at hj; exact absurd rfl hj
      · rw [if_neg e2] at hj; exact absurd (H.inj j i _ _ _ hj (by rw [hg]; simp) pj hi) e2
    · rw [if_neg e] at pj hj; rw [if_neg e'] at pk hk
      by_cases e2 : j = i
      · rw [if_pos e2] at hj; exact absurd rfl hj
      · by_cases e3 : k = i
        · rw [if_pos e3] at hk; exact absurd rfl hk
        · rw [if_neg e2] at hj; rw [if_neg e3] at hk; exact H.inj j k _ _ _ hj hk pj pk
  · rw [gk] at hj
    by_cases e : j = h.next
    · rw [if_pos e] at hj; cases hj
      have : φ.ext h.next blk sz j = some (blk, sz) := by subst e; exact Phi.ext_self ..
      rw [this] at pj; cases pj
      exact ⟨ob', by simp [wput, h3], ho⟩
    · rw [if_neg e] at hj
      by_cases e2 : j = i
      · rw [if_pos e2] at hj; cases hj
      · rw [if_neg e2] at hj
        have pj' : φ j = some (bj, sj) := by simpa [Phi.ext, e] using pj
        obtain ⟨b, hb1, hb2⟩ := H.obj _ _ _ _ hj pj'
        have hne : blk ≠ bj := by
          intro e3; subst e3
          exact e2 (H.inj j i _ _ _ (by rw [hj]; simp) (by rw [hg]; simp) pj' hi)
        refine ⟨b, ?_, hb2.mono hphi⟩
        simp only [wput]; rw [Array.getElem?_setIfInBounds_ne hne]; exact hb1

-- reading a row of cells
theorem run_loadCells_row (P : Program) (w : World) (g : Nat) (c : Array Value) (e : TypeId) (f : Nat × Nat) (hg : w.heap[g]? = some (.cells c e f)) (o n : Nat) (hn : o + n ≤ c.size) :
    (loadCells ⟨g, o, none⟩ n).run P w = .ok ((c.toList.drop o).take n).toArray w := by
  have hl : ((c.toList.drop o).take n).length = n := by simp; omega
  have := run_loadCells_list (P := P) w ⟨g, o, none⟩ ((c.toList.drop o).take n) (fun j v hj => by
    have hjn : j < n := by
      rcases Nat.lt_or_ge j n with h | h
      · exact h
      · rw [List.getElem?_eq_none (by rw [hl]; exact h)] at hj; cases hj
    have hv : c[o + j]? = some v := by
      rw [List.getElem?_take, if_pos hjn, List.getElem?_drop] at hj; simpa using hj
    by_cases h0 : j = 0
    · subst h0; simp [Addr.add, World.cell?, hg]; simpa using hv
    · simp [Addr.add, h0, World.cell?, hg]; exact hv)
  rw [hl] at this; exact this

/-- the cells of a block, as the heap has them -/
theorem HRel.cells (H : HRel ρ w0 φ h w) {b blk sz : Nat} {l : List AV} (hb : φ b = some (blk, sz)) (hg : h.get b = some (.cells l)) :
    ∃ c e lo hi, w.heap[blk]? = some (.cells c e (lo, hi)) ∧ c.size = sz ∧ l.length ≤ sz ∧ VsRel ρ φ l (c.toList.take l.length) ∧ (∀ v ∈ l, v.flat = true) ∧ (∀ k, k < sz → ¬ (lo ≤ k ∧ k < hi)) := by
  obtain ⟨o, ho, hr⟩ := H.obj _ _ _ _ hg hb
  cases hr with
  | cells _ c e lo hi hs hl hv hfl hf => exact ⟨c, e, lo, hi, ho, hs, hl, hv, hfl, hf⟩

theorem flat_take {l : List AV} (h : ∀ v ∈ l, v.flat = true) (n : Nat) : ∀ v ∈ l.take n, v.flat = true := fun v hv => h v (List.mem_of_mem_take hv)
theorem flat_drop {l : List AV} (h : ∀ v ∈ l, v.flat = true) (n : Nat) : ∀ v ∈ l.drop n, v.flat = true := fun v hv => h v (List.mem_of_mem_drop hv)

theorem cellsOf_some {β : Type} {b : Nat} {K : List AV → Option β} {r : β} : cellsOf h b K = some r ↔ ∃ l, h.get b = some (.cells l) ∧ K l = some r := by
  unfold cellsOf
  simp only [ob_some, onCells_some]
  constructor
  · rintro ⟨o, h1, l, rfl, h2⟩; exact ⟨l, h1, h2⟩
  · rintro ⟨l, h1, h2⟩; exact ⟨_, h1, l, rfl, h2⟩

theorem loadN_some {β : Type} {b o n : Nat} {K : List AV → Option β} {r : β} : loadN h b o n K = some r ↔ ∃ l, h.get b = some (.cells l) ∧ n ≤ (l.drop o).length ∧ K ((l.drop o).take n) = some r := by
  unfold loadN
  simp only [cellsOf_some, ob_some, takeN_some, dropN_eq]
  constructor
  · rintro ⟨l, h1, a, ⟨h2, rfl⟩, h3⟩; exact ⟨l, h1, h2, h3⟩
  · rintro ⟨l, h1, h2, h3⟩; exact ⟨l, h1, _, ⟨h2, rfl⟩, h3⟩

/-- what loadN reads, the model reads -/
theorem HRel.loadN (H : HRel ρ w0 φ h w) {b blk sz o n : Nat} {l : List AV} (hb : φ b = some (blk, sz)) (hg : h.get b = some (.cells l)) (hn : n ≤ (l.drop o).length) (hz : n = 0 → o ≤ sz) :
    ∃ a : Array Value, (loadCells ⟨blk, o, none⟩ n).run P w = .ok a w ∧ VsRel ρ φ ((l.drop o).take n) a.toList ∧ (∀ v ∈ (l.drop o).take n, v.flat = true) ∧ a.size = n := by
  obtain ⟨c, e, lo, hi, h1, h2, h3, h4, h5, h6⟩ := H.cells hb hg
  have hlen : o + n ≤ c.size := by
    simp at hn; by_cases h0 : n = 0
    · have := hz h0; omega
    · omega
  refine ⟨_, run_loadCells_row P w blk c e (lo, hi) h1 o n hlen, ?_, flat_take (flat_drop h5 o) n, by simp; omega⟩
  have := (h4.drop o).take n
  rw [List.drop_take, List.take_take] at this
  simp at hn
  by_cases h0 : n = 0
  · subst h0; simp; exact .nil
  · rw [show min n (l.length - o) = n from by omega] at this; simpa using this

-- writing a row of cells
theorem flat_one {v : AV} {u : Value} (hv : v.flat = true) (hr : VRel ρ φ v u) : u.oneCell' = true := by
  cases hr <;> first | rfl | cases hv
theorem VsRel.one {l : List AV} {m : List Value} (h : VsRel ρ φ l m) (hf : ∀ v ∈ l, v.flat = true) : ∀ u ∈ m, u.oneCell' = true := by
  induction m generalizing l with
  | nil => intro u hu; cases hu
  | cons x m ih =>
    cases h with
    | cons v _ l _ h h' =>
      intro u hu
      rcases List.mem_cons.1 hu with rfl | hu
      · exact flat_one (hf v (by simp)) h
      · exact ih h' (fun v hv => hf v (by simp [hv])) u hu

theorem set_splice {α : Type} (C vs : List α) (v : α) (n : Nat) (h : n < C.length) :
    (C.set n v).take (n + 1) ++ vs ++ (C.set n v).drop (n + 1 + vs.length) = C.take n ++ (v :: vs) ++ C.drop (n + (vs.length + 1)) := by
  induction C generalizing n with
  | nil => simp at h
  | cons x C ih => cases n with
    | zero => simp [Nat.add_comm]
    | succ n =>
      have := ih n (by simpa using h)
      simp only [List.set_cons_succ, List.take_succ_cons, List.cons_append, show n + 1 + 1 + vs.length = (n + 1 + vs.length) + 1 from by omega, show n + 1 + (vs.length + 1) = (n + (vs.length + 1)) + 1 from by omega, List.drop_succ_cons]
      rw [this]

theorem run_storeCells_row (P : Program) (g o : Nat) (e : TypeId) (lo hi : Nat) : ∀ (vs : List Value) (i : Nat) (c : Array Value) (w : World), w.heap[g]? = some (.cells c e (lo, hi)) → o + i + vs.length ≤ c.size →
    (∀ k, k < c.size → ¬ (lo ≤ k ∧ k < hi)) → (∀ v ∈ vs, v.oneCell' = true) →
    (storeCells ⟨g, o, none⟩ vs i).run P w = .ok () (wput w g (.cells (c.toList.take (o + i) ++ vs ++ c.toList.drop (o + i + vs.length)).toArray e (lo, hi)))
  | [], i, c, w, hg, hn, hf, h1 => by
    have hgl : g < w.heap.size := (Array.getElem?_eq_some_iff.1 hg).1
    have hgv : w.heap[g] = .cells c e (lo, hi) := (Array.getElem?_eq_some_iff.1 hg).2
    simp only [storeCells, Sem.run_pure, wput]
    have : (c.toList.take (o + i) ++ [] ++ c.toList.drop (o + i + ([] : List Value).length)).toArray = c := by simp
    rw [this, ← hgv]
    have : w.heap.setIfInBounds g w.heap[g] = w.heap := by
      apply Array.ext_getElem?
      intro k
      rw [Array.getElem?_setIfInBounds]
      by_cases hgk : g = k
      · subst hgk; rw [if_pos rfl, if_pos hgl]; simp [hgl]
      · rw [if_neg hgk]
    rw [this]
  | v :: vs, i, c, w, hg, hn, hf, h1 => by
    have hgl : g < w.heap.size := (Array.getElem?_eq_some_iff.1 hg).1
    simp at hn
    have hk : o + i < c.size := by omega
    have hadd : (⟨g, o, none⟩ : Addr).add i = ⟨g, o + i, none⟩ := by unfold Addr.add; split <;> simp_all
    have hcell : w.cell? ⟨g, o + i, none⟩ = some c[o + i] := by simp [World.cell?, hg, hk]
    have hfro : w.frozen? ⟨g, o + i, none⟩ = false := by
      have := hf (o + i) hk
      simp only [World.frozen?, hg]
      by_cases a1 : lo ≤ o + i
      · simp [a1]; omega
      · simp [a1]
    have hset : w.setCell ⟨g, o + i, none⟩ v = wput w g (.cells (c.setIfInBounds (o + i) v) e (lo, hi)) := by
      simp only [World.setCell, wput]
      congr 1
      apply Array.ext_getElem?
      intro k
      rw [Array.getElem?_modify, Array.getElem?_setIfInBounds]
      by_cases hgk : g = k
      · subst hgk; rw [if_pos rfl, if_pos rfl, if_pos hgl, hg]; rfl
      · rw [if_neg hgk, if_neg hgk]
    have hst : (store ((⟨g, o, none⟩ : Addr).add i) v).run P w = .ok () (wput w g (.cells (c.setIfInBounds (o + i) v) e (lo, hi))) := by
      rw [hadd, run_store P w _ v _ (h1 v (by simp)), hcell]
      simp only [hfro, Bool.false_eq_true, if_false]; rw [hset]
    have hg' : (wput w g (.cells (c.setIfInBounds (o + i) v) e (lo, hi))).heap[g]? = some (.cells (c.setIfInBounds (o + i) v) e (lo, hi)) := by simp [wput, hgl]
    have ih := run_storeCells_row P g o e lo hi vs (i + 1) (c.setIfInBounds (o + i) v) (wput w g (.cells (c.setIfInBounds (o + i) v) e (lo, hi))) hg' (by simp; omega)
      (fun k hk => hf k (by simpa using hk)) (fun x hx => h1 x (by simp [hx]))
    simp only [storeCells, Sem.run_bind, hst, Result.andThen_ok, ih]
    congr 1
    simp only [wput, Array.setIfInBounds_setIfInBounds]
    congr 3
    refine congrArg List.toArray ?_
    have := set_splice c.toList vs v (o + i) (by simpa using hk)
    rw [Array.toList_setIfInBounds, show o + (i + 1) = o + i + 1 from by omega, List.length_cons]; exact this

theorem VsRel.splice {l vs : List AV} {m us : List Value} (h : VsRel ρ φ l m) (h' : VsRel ρ φ vs us) (o : Nat) : VsRel ρ φ (l.take o ++ vs ++ l.drop (o + vs.length)) (m.take o ++ us ++ m.drop (o + us.length)) := by
  rw [h'.length]; exact ((h.take o).append h').append (h.drop _)

theorem storeN_some {β : Type} {b o : Nat} {vs : List AV} {K : AHeap → Option β} {r : β} :
    storeN h b o vs K = some r ↔ ∃ l, h.get b = some (.cells l) ∧ o + vs.length ≤ l.length ∧ K (h.put b (.cells (l.take o ++ vs ++ l.drop (o + vs.length)))) = some r := by
  unfold storeN
  simp only [cellsOf_some, ob_some, splice_some]
  constructor
  · rintro ⟨l, h1, a, ⟨h2, rfl⟩, h3⟩; exact ⟨l, h1, h2, h3⟩
  · rintro ⟨l, h1, h2, h3⟩; exact ⟨l, h1, _, ⟨h2, rfl⟩, h3⟩

theorem splice_take {α : Type} (C us : List α) (o L : Nat) (h : o + us.length ≤ L) (hL : L ≤ C.length) :
    (C.take o ++ us ++ C.drop (o + us.length)).take L = (C.take L).take o ++ us ++ (C.take L).drop (o + us.length) := by
  have h1 : (C.take o ++ us).length = o + us.length := by simp; omega
  rw [List.take_append, List.take_of_length_le (by omega), h1, List.take_take, show min o L = o from by omega, List.drop_take]

/-- what storeN writes, the model writes -/
theorem HRel.storeN (H : HRel ρ w0 φ h w) {b blk sz o : Nat} {l vs : List AV} {us : List Value} (hb : φ b = some (blk, sz)) (hg : h.get b = some (.cells l)) (hn : o + vs.length ≤ l.length)
    (hv : VsRel ρ φ vs us) (hf : ∀ v ∈ vs, v.flat = true) :
    ∃ w', (storeCells ⟨blk, o, none⟩ us 0).run P w = .ok () w' ∧ HRel ρ w0 φ (h.put b (.cells (l.take o ++ vs ++ l.drop (o + vs.length)))) w' := by
  obtain ⟨c, e, lo, hi, h1, h2, h3, h4, h5, h6⟩ := H.cells hb hg
  have hlen := hv.length
  have hrun := run_storeCells_row P blk o e lo hi us 0 c w h1 (by omega) (fun k hk => h6 k (by omega)) (hv.one hf)
  refine ⟨_, hrun, H.put hg hb ?_⟩
  have hL : (l.take o ++ vs ++ l.drop (o + vs.length)).length = l.length := by simp; omega
  refine .cells _ _ _ _ _ (by simp; omega) (by rw [hL]; exact h3) ?_ (fun v hv => ?_) h6
  · rw [hL]
    have := h4.splice hv o
    simp only [Nat.add_zero]
    have e1 := splice_take c.toList us o l.length (by omega) (by simp; omega)
    rw [e1]; exact this
  · rcases List.mem_append.1 hv with hv | hv
    · rcases List.mem_append.1 hv with hv | hv
      · exact flat_take h5 o v hv
      · exact hf v hv
    · exact flat_drop h5 _ v hv
end
end Go.AI
