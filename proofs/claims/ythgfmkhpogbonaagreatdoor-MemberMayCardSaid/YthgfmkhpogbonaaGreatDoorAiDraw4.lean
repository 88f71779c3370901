/-
  Regions that ask the tape: whatever order is drawn, the end is the abstract run's.
-/
import Derived.Test.YthgfmkhpogbonaaGreatDoorAiDraw3
set_option linter.unusedVariables false
set_option linter.unusedSimpArgs false
namespace Go.AI
section
variable {P : Program} {ρ : Env} {φ : Phi} {w0 w : World} {ti : Nat → Option ATy} {bd : Bnd} {N : Nat} {ds : List Deferred}

-- counting
theorem hc_mono {rs : List Row} {i j : Nat} (h : i ≤ j) : hc rs i ≤ hc rs j := by
  unfold hc
  have : rs.take i = (rs.take j).take i := by rw [List.take_take, Nat.min_eq_left h]
  rw [this]
  exact (List.take_sublist _ _).countP_le
theorem hc_succ {rs : List Row} {j : Nat} {r : Row} (hr : rs[j]? = some r) (hh : r.isH = true) : hc rs (j + 1) = hc rs j + 1 := by
  unfold hc
  rw [List.take_add_one, hr, List.countP_append]
  simp [hh]
theorem hc_lt {rs : List Row} {i j : Nat} {r : Row} (hr : rs[i]? = some r) (hh : r.isH = true) (h : i < j) : hc rs i < hc rs j := by
  have := hc_mono (rs := rs) (show i + 1 ≤ j from h)
  rw [hc_succ hr hh] at this; omega
theorem hc_inj {rs : List Row} {i j : Nat} {r q : Row} (hr : rs[i]? = some r) (hh : r.isH = true) (hq : rs[j]? = some q) (hh' : q.isH = true) (h : hc rs i = hc rs j) : i = j := by
  rcases Nat.lt_trichotomy i j with h' | h' | h'
  · have := hc_lt hr hh h'; omega
  · exact h'
  · have := hc_lt hq hh' h'; omega
theorem hc_le_all {rs : List Row} {j : Nat} {r : Row} (hr : rs[j]? = some r) : hc rs j ≤ hc rs rs.length :=
  hc_mono (Nat.le_of_lt (List.getElem?_eq_some_iff.1 hr).1)
theorem hc_lt_all {rs : List Row} {j : Nat} {r : Row} (hr : rs[j]? = some r) (hh : r.isH = true) : hc rs j < hc rs rs.length :=
  hc_lt hr hh (List.getElem?_eq_some_iff.1 hr).1

/-- a fresh block that comes late -/
theorem HRel.late {h : AHeap} (H : HRel ρ w0 φ h w) {b : Nat} {o : AObj} {ob' : Obj} {sz : Nat} (hb : φ b = none) (hlt : b < h.next) (hg : h.get b = some o) (ho : ORel ρ φ sz o ob') :
    HRel ρ w0 (φ.ext b w.heap.size sz) h (wnew w ob') := by
  have hle : φ.le (φ.ext b w.heap.size sz) := Phi.ext_le hb
  refine ⟨by simp [wnew]; have := H.size; omega, fun b' hb' => ?_, H.next, fun j bj sj hj => ?_, fun j k bj sj sk hj hk pj pk => ?_, fun j oj bj sj hj pj => ?_⟩
  · have := H.size
    simp only [wnew]; rw [Array.getElem?_push, if_neg (by omega)]; exact H.base b' hb'
  · unfold Phi.ext at hj
    simp only [wnew, Array.size_push]
    by_cases e : j = b
    · rw [if_pos e] at hj; cases hj; have := H.size; exact ⟨by omega, this, by omega⟩
    · rw [if_neg e] at hj; have := H.dom _ _ _ hj; omega
  · unfold Phi.ext at pj pk
    by_cases e : j = b <;> by_cases e' : k = b
    · omega
    · rw [if_pos e] at pj; rw [if_neg e'] at pk; cases pj; have := H.dom _ _ _ pk; omega
    · rw [if_neg e] at pj; rw [if_pos e'] at pk; cases pk; have := H.dom _ _ _ pj; omega
    · rw [if_neg e] at pj; rw [if_neg e'] at pk; exact H.inj j k _ _ _ hj hk pj pk
  · by_cases e : j = b
    · subst e
      rw [Phi.ext_self] at pj; cases pj
      rw [hg] at hj; cases hj
      exact ⟨ob', Array.getElem?_push_size, ho.mono hle⟩
    · have pj' : φ j = some (bj, sj) := by simpa [Phi.ext, e] using pj
      obtain ⟨b2, hb1, hb2⟩ := H.obj _ _ _ _ hj pj'
      have := H.dom _ _ _ pj'
      refine ⟨b2, ?_, hb2.mono hle⟩
      simp only [wnew]; rw [Array.getElem?_push, if_neg (by omega)]; exact hb1

-- a fresh block that comes late, of whatever sort
theorem VRel.back {φ2 : Phi} (hle : φ.le φ2) {v : AV} {u1 : Value} (h : VRel ρ φ v u1) : ∀ u2 : Value, VRel ρ φ2 v u2 → VRel ρ φ v u2 := by
  have key : ∀ {b p q}, φ b = some p → φ2 b = some q → φ b = some q := by
    intro b p q h1 h2
    have := hle _ _ h1
    rw [this] at h2; cases h2; exact h1
  refine VRel.rec (motive_1 := fun v _ _ => ∀ u2 : Value, VRel ρ φ2 v u2 → VRel ρ φ v u2) (motive_2 := fun l _ _ => ∀ m2 : List Value, VsRel ρ φ2 l m2 → VsRel ρ φ l m2)
    ?_ ?_ ?_ ?_ ?_ ?_ ?_ ?_ ?_ ?_ ?_ ?_ ?_ ?_ ?_ ?_ ?_ ?_ ?_ h
  · intro b u2 h2; cases h2; exact .bool _
  · intro k n u2 h2; cases h2; exact .int _ _
  · intro k i c u2 h2; cases h2; exact .sym _ _ _
  · intro s u2 h2
    generalize hl : s.data.toList.map UInt8.toNat = l at h2
    cases h2; exact .str _
  · intro u2 h2; cases h2; exact .nilp
  · intro b o blk sz hb u2 h2; cases h2 with | ptr _ _ blk2 sz2 hb2 => exact .ptr _ _ _ _ (key hb hb2)
  · intro u2 h2; cases h2; exact .nils
  · intro b o n cap ex es blk sz off c hb _ _ _ _ _ u2 h2
    cases h2 with | slice _ _ _ _ _ _ blk2 sz2 off2 c2 hb2 q1 q2 q3 q4 q5 => exact .slice _ _ _ _ _ _ _ _ _ _ (key hb hb2) q1 q2 q3 q4 q5
  · intro u2 h2; cases h2; exact .nilm
  · intro r blk sz hb u2 h2; cases h2 with | map _ blk2 sz2 hb2 => exact .map _ _ _ (key hb hb2)
  · intro fn a c a' c' _ _ ih ih' u2 h2; cases h2 with | func _ _ _ a2 c2 r1 r2 => exact .func _ _ _ _ _ (ih _ r1) (ih' _ r2)
  · intro r blk sz hb u2 h2; cases h2 with | yield _ blk2 sz2 hb2 => exact .yield _ _ _ (key hb hb2)
  · intro u2 h2; cases h2; exact .nilf
  · intro t v u _ ih u2 h2; cases h2 with | iface _ _ u2 r1 => exact .iface _ _ _ (ih _ r1)
  · intro u2 h2; cases h2; exact .nili
  · intro l a _ hf ih u2 h2; cases h2 with | agg _ a2 r1 hf2 => exact .agg _ _ (ih _ r1) hf
  · intro l a _ ih u2 h2; cases h2 with | tup _ a2 r1 => exact .tup _ _ (ih _ r1)
  · intro m2 h2; cases h2; exact .nil
  · intro v u l m _ _ ih ih' m2 h2; cases h2 with | cons _ u2 _ m2 r1 r2 => exact .cons _ _ _ _ (ih _ r1) (ih' _ r2)
theorem VsRel.back {φ2 : Phi} (hle : φ.le φ2) : ∀ {l : List AV} {m1 m2 : List Value}, VsRel ρ φ l m1 → VsRel ρ φ2 l m2 → VsRel ρ φ l m2
  | [], _, _, h, h2 => by cases h2; exact .nil
  | v :: l, _, _, h, h2 => by
    cases h with | cons _ u1 _ m1 r1 r2 => cases h2 with | cons _ u2 _ m2 q1 q2 => exact .cons _ _ _ _ (VRel.back hle r1 _ q1) (VsRel.back hle r2 q2)
theorem ORel.back {φ2 : Phi} (hle : φ.le φ2) {sz1 sz2 : Nat} {o : AObj} {o1 o2 : Obj} (h : ORel ρ φ sz1 o o1) (h2 : ORel ρ φ2 sz2 o o2) : ORel ρ φ sz2 o o2 := by
  cases h2 with
  | cells l c e lo hi q1 q2 q3 q4 q5 => cases h with | cells _ c1 e1 lo1 hi1 p1 p2 p3 p4 p5 => exact .cells _ _ _ _ _ q1 q2 (VsRel.back hle p3 q3) q4 q5
  | map es es' clock q1 q2 q3 => cases h with | map _ es1 _ p1 p2 p3 => exact .map _ _ _ (VsRel.back hle p1 q1) (VsRel.back hle p2 q2) q3
  | nilIter since stepped seen seen' => exact .nilIter ..
  | mapIter m blk bsz since stepped seen seen' hm hs =>
    cases h with | mapIter _ blk1 bsz1 _ _ _ seen1 hm1 hs1 =>
      have := hle _ _ hm1
      rw [this] at hm; cases hm
      exact .mapIter _ _ _ _ _ _ _ hm1 hs
  | strIter s p => exact .strIter ..
  | loop D t ps asg body st p N fn b tmps ht hn hp hg hg' =>
    generalize hq : ps.toList = pl at h
    cases h with | loop _ _ ps1 _ _ _ _ N1 fn1 b1 tmps1 ht1 _ _ _ _ =>
      have : ps1 = ps := by cases ps; cases ps1; simpa using hq.symm
      subst this
      exact .loop _ _ _ _ _ _ _ _ _ _ _ (fun i => VRel.back hle (ht1 i) _ (ht i)) hn hp hg hg'
  | dfr => exact .dfr

theorem VRel.avoid {φ2 : Phi} {n : Nat} (hsame : ∀ i, i ≠ n → φ2 i = φ i) : ∀ (v : AV) {u : Value}, VRel ρ φ2 v u → avB n v = true → VRel ρ φ v u
  | .iface t v, _, h, ha => by cases h with | iface _ _ u r => exact .iface _ _ _ (VRel.avoid hsame v r ha)
  | .bool b, _, h, _ => by cases h; exact .bool _
  | .int k c, _, h, _ => by cases h; exact .int _ _
  | .sym k i c, _, h, _ => by cases h; exact .sym _ _ _
  | .str l, _, h, _ => by cases h; exact .str _
  | .nilp, _, h, _ => by cases h; exact .nilp
  | .nils, _, h, _ => by cases h; exact .nils
  | .nilm, _, h, _ => by cases h; exact .nilm
  | .nilf, _, h, _ => by cases h; exact .nilf
  | .nili, _, h, _ => by cases h; exact .nili
  | .ptr b o, _, h, ha => by
    have hne : b ≠ n := by intro e; subst e; simp [avB] at ha
    cases h with | ptr _ _ blk sz hb => exact .ptr _ _ _ _ (by rw [← hsame b hne]; exact hb)
  | .slice b o l c ex es, _, h, ha => by
    have hne : b ≠ n := by intro e; subst e; simp [avB] at ha
    cases h with | slice _ _ _ _ _ _ blk sz off cc hb q1 q2 q3 q4 q5 => exact .slice _ _ _ _ _ _ _ _ _ _ (by rw [← hsame b hne]; exact hb) q1 q2 q3 q4 q5
  | .map b, _, h, ha => by
    have hne : b ≠ n := by intro e; subst e; simp [avB] at ha
    cases h with | map _ blk sz hb => exact .map _ _ _ (by rw [← hsame b hne]; exact hb)
  | .yield b, _, h, ha => by
    have hne : b ≠ n := by intro e; subst e; simp [avB] at ha
    cases h with | yield _ blk sz hb => exact .yield _ _ _ (by rw [← hsame b hne]; exact hb)
  | .func .., _, _, ha => by simp [avB] at ha
  | .agg _, _, _, ha => by simp [avB] at ha
  | .tup _, _, _, ha => by simp [avB] at ha

theorem HRel.renew {hh : AHeap} {w' : World} {φ2 : Phi} {ob1 ob2 : AObj} {v' v : AV} {u : Value} {b : Nat} (H : HRel ρ w0 φ hh w) (hb : φ b = none) (hlt : b < hh.next) (hg : hh.get b = some ob2) (hn : True)
    (g : Grow hh (hh.newH ob1) φ φ2) (H2 : HRel ρ w0 φ2 (hh.newH ob1) w') (hv : VRel ρ φ2 v' u) (hs : sameAs v' hh.next v b = true) (ho : sameOb hh.next ob1 ob2 = true) :
    ∃ φ3, φ.le φ3 ∧ (∀ i, i ≠ b → φ3 i = φ i) ∧ HRel ρ w0 φ3 hh w' ∧ VRel ρ φ3 v u := by
  obtain ⟨blk, sz, hp⟩ : ∃ blk sz, φ2 hh.next = some (blk, sz) := by
    cases hv <;> cases v <;> simp only [sameAs, Bool.and_eq_true, Nat.beq_eq, Bool.false_eq_true] at hs
    · rename_i b1 o1 blk sz hb1 b2 o2; rw [hs.1.1] at hb1; exact ⟨_, _, hb1⟩
    · rename_i b1 o1 n1 c1 x1 e1 blk sz off cc hb1 _ _ _ _ _ b2 o2 n2 c2 x2 e2; rw [hs.1.1.1] at hb1; exact ⟨_, _, hb1⟩
    · rename_i b1 blk sz hb1 b2; rw [hs.1] at hb1; exact ⟨_, _, hb1⟩
  have hN : (hh.newH ob1).next = hh.next + 1 := rfl
  have hsame : ∀ i, i ≠ hh.next → φ2 i = φ i := by
    intro i hi
    by_cases c : i < hh.next
    · exact g.old i c
    · have e1 : φ i = none := by cases e : φ i with | none => rfl | some p => have := (H.dom i p.1 p.2 e).1; omega
      have e2 : φ2 i = none := by cases e : φ2 i with | none => rfl | some p => have := (H2.dom i p.1 p.2 e).1; omega
      rw [e1, e2]
  have hle3 : φ.le (φ.ext b blk sz) := Phi.ext_le hb
  have d2 := H2.dom _ _ _ hp
  refine ⟨φ.ext b blk sz, hle3, fun i hi => by simp only [Phi.ext, if_neg hi], ⟨H2.size, H2.base, H2.next, fun j bj sj hj => ?_, fun j k bj sj sk hj hk pj pk => ?_, fun j oj bj sj hj pj => ?_⟩, ?_⟩
  · unfold Phi.ext at hj
    by_cases e : j = b
    · rw [if_pos e] at hj; cases hj; exact ⟨by omega, d2.2⟩
    · rw [if_neg e] at hj
      have d1 := H.dom _ _ _ hj
      have := H2.dom _ _ _ (g.le _ _ hj)
      exact ⟨d1.1, this.2⟩
  · have get2 : ∀ i, i < hh.next → hh.get i ≠ none → (hh.newH ob1).get i ≠ none := fun i hi e => by rw [get_newH _ _ _ hn, if_neg (by omega)]; exact e
    have getn : (hh.newH ob1).get hh.next ≠ none := by rw [get_newH _ _ _ hn, if_pos rfl]; simp
    unfold Phi.ext at pj pk
    by_cases e : j = b <;> by_cases e' : k = b
    · omega
    · rw [if_pos e] at pj; rw [if_neg e'] at pk; cases pj
      have d1 := (H.dom _ _ _ pk).1
      have := H2.inj hh.next k _ _ _ getn (get2 k d1 hk) hp (g.le _ _ pk)
      omega
    · rw [if_neg e] at pj; rw [if_pos e'] at pk; cases pk
      have d1 := (H.dom _ _ _ pj).1
      have := H2.inj j hh.next _ _ _ (get2 j d1 hj) getn (g.le _ _ pj) hp
      omega
    · rw [if_neg e] at pj; rw [if_neg e'] at pk
      exact H2.inj j k _ _ _ (get2 j (H.dom _ _ _ pj).1 hj) (get2 k (H.dom _ _ _ pk).1 hk) (g.le _ _ pj) (g.le _ _ pk)
  · by_cases e : j = b
    · subst e
      rw [Phi.ext_self] at pj; cases pj
      rw [hg] at hj; cases hj
      have hgn : (hh.newH ob1).get hh.next = some ob1 := by rw [get_newH _ _ _ hn, if_pos rfl]
      obtain ⟨o2, x1, x2⟩ := H2.obj _ _ _ _ hgn hp
      refine ⟨o2, x1, ?_⟩
      cases ob1 with
      | cells l =>
        cases ob2 with
        | cells m =>
          simp only [sameOb, Bool.and_eq_true] at ho
          have hlm := avsEq2_eq ho.1
          subst hlm
          have hav := allL_iff.1 ho.2
          cases x2 with
          | cells _ c e lo hi q1 q2 q3 q4 q5 =>
            refine .cells _ _ _ _ _ q1 q2 ?_ q4 q5
            have back : ∀ {l : List AV} {m : List Value}, (∀ x ∈ l, avB hh.next x = true) → VsRel ρ φ2 l m → VsRel ρ φ l m := by
              intro l
              induction l with
              | nil => intro m _ h; cases h; exact .nil
              | cons v l ih =>
                intro m ha h
                cases h with | cons _ u _ m r1 r2 => exact .cons _ _ _ _ (VRel.avoid hsame v r1 (ha v (by simp))) (ih (fun x hx => ha x (by simp [hx])) r2)
            exact (back hav q3).mono hle3
        | _ => simp [sameOb] at ho
      | map es c =>
        have hes : es = [] ∧ c = 0 ∧ ob2 = .map [] 0 := by
          cases es <;> cases c <;> cases ob2 <;> simp only [sameOb, Bool.false_eq_true] at ho
          rename_i es2 c2
          cases es2 <;> cases c2 <;> simp only [Bool.false_eq_true] at ho
          exact ⟨rfl, rfl, rfl⟩
        obtain ⟨rfl, rfl, rfl⟩ := hes
        cases x2 with
        | map _ es' _ q1 q2 q3 =>
          refine .map _ _ _ ?_ ?_ q3
          · have := q1.length; cases hx : es'.toList with
            | nil => simp; exact .nil
            | cons a l => rw [hx] at this; simp at this
          · have := q1.length; cases hx : es'.toList with
            | nil => simp; exact .nil
            | cons a l => rw [hx] at this; simp at this
      | _ => cases ob2 <;> simp [sameOb] at ho
    · have pj' : φ j = some (bj, sj) := by simpa [Phi.ext, e] using pj
      have d1 := (H.dom _ _ _ pj').1
      obtain ⟨o1, x1, x2⟩ := H.obj _ _ _ _ hj pj'
      have hgj : (hh.newH ob1).get j = some oj := by rw [get_newH _ _ _ hn, if_neg (by omega)]; exact hj
      obtain ⟨o2, y1, y2⟩ := H2.obj _ _ _ _ hgj (g.le _ _ pj')
      exact ⟨o2, y1, (ORel.back g.le x2 y2).mono hle3⟩
  · have hself := Phi.ext_self φ b blk sz
    cases hv <;> cases v <;> simp only [sameAs, Bool.and_eq_true, Nat.beq_eq, Bool.false_eq_true] at hs
    · rename_i b1 o1 blk1 sz1 hb1 b2 o2
      obtain ⟨⟨rfl, rfl⟩, rfl⟩ := hs
      rw [hp] at hb1; cases hb1
      exact .ptr _ _ _ _ hself
    · rename_i b1 o1 n1 c1 x1 e1 blk1 sz1 off cc hb1 q1 q2 q3 q4 q5 b2 o2 n2 c2 x2 e2
      obtain ⟨⟨⟨rfl, rfl⟩, rfl, rfl⟩, ⟨rfl, rfl⟩, hx, _⟩ := hs
      rw [hp] at hb1; cases hb1
      have : x1 = x2 := by cases x1 <;> cases x2 <;> simp at hx ⊢
      subst this
      exact .slice _ _ _ _ _ _ _ _ _ _ hself q1 q2 q3 q4 q5
    · rename_i b1 blk1 sz1 hb1 b2
      obtain ⟨rfl, rfl⟩ := hs
      rw [hp] at hb1; cases hb1
      exact .map _ _ _ hself

theorem wantA_congr {ops : Array Oper} {o : Oper} {t t' : Tm} (h : ∀ (g : Nat × Bool) (p : Oper) (d : Tmp), o.guard = some g → ops.toList[g.1]? = some p → p.dst = some d → t d = t' d) : wantA ops o t = wantA ops o t' := by
  unfold wantA
  cases hg : o.guard with
  | none => rfl
  | some g =>
    show wantG ops t g = wantG ops t' g
    simp only [wantG, nth_eq]
    cases hp : ops.toList[g.1]? with
    | none => rfl
    | some p =>
      show (ob p.dst fun d => _) = (ob p.dst fun d => _)
      cases hd : p.dst with
      | none => rfl
      | some d =>
        have := h g p d hg hp hd
        show (match t d with | .bool b => some (sel b g.2 (not g.2)) | .tup _ => some false | _ => none) = _
        rw [this]; rfl

section
variable {ops : Array Oper} {rs : List Row} {h h1 : AHeap} {t tf : Tm} {hs : List AHeap}

structure Inv (ρ : Env) (w0 : World) (N : Nat) (ds : List Deferred) (ops : Array Oper) (rs : List Row) (φ : Phi) (t : Tm) (h h1 : AHeap) (tf : Tm) (hs : List AHeap) (listed : Array Bool) (a : Act) (w : World) (s : Nat) (hh : AHeap) (φ' : Phi) : Prop where
  size : listed.size = ops.size
  heap : hs[s]? = some hh
  le : s ≤ hc rs rs.length
  heavy : ∀ (j : Nat) (r : Row), rs[j]? = some r → r.isH = true → (listed.getD j true = true ↔ hc rs j < s)
  closed : ∀ (j : Nat) (o : Oper), ops.toList[j]? = some o → listed.getD j true = true → ∀ i ∈ edgesOf o, listed.getD i true = true
  grow : Grow h hh φ φ'
  next : h1.next ≤ hh.next
  H : HRel ρ w0 φ' hh w
  pend : ∀ (j : Nat) (o : Oper) (r : Row) (d : Tmp) (b : Nat), ops.toList[j]? = some o → rs[j]? = some r → r.isF = true → listed.getD j true = false → o.dst = some d → Named (tf d) b → φ' b = none
  vals : ∀ (j : Nat) (o : Oper) (d : Tmp), ops.toList[j]? = some o → listed.getD j true = true → o.dst = some d → VRel ρ φ' (tf d) (a.tmps.getD d undef)
  rest : ∀ d : Tmp, (∀ (j : Nat) (o : Oper), ops.toList[j]? = some o → o.dst = some d → listed.getD j true = false) → VRel ρ φ' (t d) (a.tmps.getD d undef)
  n : N ≤ a.tmps.size
  d : a.defers = ds

theorem put_get {a : Act} {dst : Option Tmp} {u : Value} {d : Tmp} (h : dst ≠ some d) : (a.put dst u).tmps.getD d undef = a.tmps.getD d undef := by
  cases dst with
  | none => rfl
  | some e =>
    have : e ≠ d := fun x => h (by rw [x])
    simp [Act.put, Array.getElem?_setIfInBounds_ne this]
theorem put_self {a : Act} {dst : Option Tmp} {u : Value} {d : Tmp} (h : dst = some d) (hd : d < a.tmps.size) : (a.put dst u).tmps.getD d undef = u := by
  subst h; simp [Act.put, hd]

theorem getD_set {listed : Array Bool} {i j : Nat} (hj : j < listed.size) : (listed.setIfInBounds j true).getD i true = true ↔ i = j ∨ listed.getD i true = true := by
  by_cases e : i = j
  · subst e; simp [hj]
  · rw [getD_set_ne true (Ne.symm e)]; simp [e]
theorem getD_set_false {listed : Array Bool} {i j : Nat} (hj : j < listed.size) : (listed.setIfInBounds j true).getD i true = false ↔ i ≠ j ∧ listed.getD i true = false := by
  have := getD_set (i := i) hj
  rw [Bool.eq_false_iff, Bool.eq_false_iff, ne_eq, this]
  constructor
  · intro h; exact ⟨fun e => h (.inl e), fun e => h (.inr e)⟩
  · rintro ⟨h1, h2⟩ (h | h); exact h1 h; exact h2 h

/-- the state after an operation -/
theorem Inv.step (D : DrawF ti N ops.toList rs) {listed : Array Bool} {a : Act} {w w' : World} {s s' : Nat} {hh hh' : AHeap} {φ' φ'' : Phi} (I : Inv ρ w0 N ds ops rs φ t h h1 tf hs listed a w s hh φ')
    {j : Nat} {o : Oper} {r : Row} (hj : ops.toList[j]? = some o) (hr : rs[j]? = some r) (hun : listed.getD j true = false) (hes : ∀ i ∈ edgesOf o, listed.getD i true = true) {u : Value}
    (heap : hs[s']? = some hh') (hs' : s' = if r.isH = true then s + 1 else s) (hst : r.isH = true → hc rs j = s)
    (g : Grow h hh' φ φ'') (hle : φ'.le φ'') (next : h1.next ≤ hh'.next) (H : HRel ρ w0 φ'' hh' w')
    (pend : ∀ (j' : Nat) (o : Oper) (r : Row) (d : Tmp) (b : Nat), j' ≠ j → ops.toList[j']? = some o → rs[j']? = some r → r.isF = true → listed.getD j' true = false → o.dst = some d → Named (tf d) b → φ'' b = none)
    (hu : ∀ d, o.dst = some d → VRel ρ φ'' (tf d) u) : Inv ρ w0 N ds ops rs φ t h h1 tf hs (listed.setIfInBounds j true) (a.put o.dst u) w' s' hh' φ'' := by
  have hjl : j < listed.size := by rw [I.size]; simpa using (List.getElem?_eq_some_iff.1 hj).1
  refine ⟨by simp [I.size], heap, ?_, ?_, ?_, g, next, H, ?_, ?_, ?_, by rw [put_size]; exact I.n, by rw [put_defers]; exact I.d⟩
  · subst hs'
    by_cases c : r.isH = true
    · rw [if_pos c]; have := hc_lt_all hr c; have := hst c; omega
    · rw [if_neg c]; exact I.le
  · intro i q hq hh2
    rw [getD_set hjl]
    by_cases e : i = j
    · subst e
      rw [hr] at hq; cases hq
      rw [hs', if_pos hh2, hst hh2]; simp
    · have := I.heavy i q hq hh2
      simp only [e, false_or]
      rw [this, hs']
      by_cases c : r.isH = true
      · rw [if_pos c]
        have hne : hc rs i ≠ s := fun x => e (hc_inj hq hh2 hr c (by rw [hst c]; exact x))
        omega
      · rw [if_neg c]
  · intro i p hp hl k hk
    rw [getD_set hjl] at hl ⊢
    rcases hl with rfl | hl
    · rw [hj] at hp; cases hp; exact .inr (hes k hk)
    · exact .inr (I.closed i p hp hl k hk)
  · intro i p q d b hp hq hf hl hd ht
    rw [getD_set_false hjl] at hl
    exact pend i p q d b hl.1 hp hq hf hl.2 hd ht
  · intro i p d hp hl hd
    rw [getD_set hjl] at hl
    by_cases e : i = j
    · subst e
      rw [hj] at hp; cases hp
      have hlt := D.lt i _ d hj hd
      rw [put_self hd (Nat.lt_of_lt_of_le hlt I.n)]; exact hu d hd
    · rw [put_get fun x => e (D.dst i j _ _ d hp hj hd x)]
      exact (I.vals i p d hp (hl.resolve_left e) hd).mono hle
  · intro d hd
    have hne : o.dst ≠ some d := fun e => by
      have := hd j o hj e
      rw [getD_set_false hjl] at this
      exact this.1 rfl
    rw [put_get hne]
    exact (I.rest d fun i p hp e => ((getD_set_false hjl).1 (hd i p hp e)).2).mono hle

theorem Inv.anc {listed : Array Bool} {a : Act} {w : World} {s : Nat} {hh : AHeap} {φ' : Phi} (I : Inv ρ w0 N ds ops rs φ t h h1 tf hs listed a w s hh φ') {i k : Nat} (hA : Anc ops.toList i k) (hi : listed.getD i true = true) : listed.getD k true = true := by
  induction hA with
  | edge ho he => exact I.closed _ _ ho hi _ he
  | step ho he _ ih => exact ih (I.closed _ _ ho hi _ he)

open Classical in
/-- the temporaries as they are now -/
noncomputable def nowT (ops : Array Oper) (listed : Array Bool) (t tf : Tm) : Tm := fun d =>
  if ∃ (i : Nat) (oi : Oper), ops.toList[i]? = some oi ∧ oi.dst = some d ∧ listed.getD i true = true then tf d else t d

theorem Inv.now {listed : Array Bool} {a : Act} {w : World} {s : Nat} {hh : AHeap} {φ' : Phi} (I : Inv ρ w0 N ds ops rs φ t h h1 tf hs listed a w s hh φ') : TRel ρ φ' (nowT ops listed t tf) a.tmps := by
  intro d
  unfold nowT
  split
  · rename_i hx
    obtain ⟨i, oi, hi, hd, hl⟩ := hx
    exact I.vals i oi d hi hl hd
  · rename_i hx
    refine I.rest d fun i oi hi hd => ?_
    cases hl : listed.getD i true with
    | false => rfl
    | true => exact absurd ⟨i, oi, hi, hd, hl⟩ hx

/-- the run's facts, all of them -/
structure RunF (ti : Nat → Option ATy) (bd : Bnd) (C : CallF) (N : Nat) (ops : Array Oper) (rs : List Row) (t : Tm) (h : AHeap) (t1 : Tm) (h1 : AHeap) (tf : Tm) (hf : AHeap) (hs : List AHeap) : Prop where
  D : DrawF ti N ops.toList rs
  F : FreshF ti ops.toList rs t h t1 h1
  Pa : PassF ti bd C ops ops.toList rs t1 h1 tf hf hs
  Po : ∀ (k : Nat) (o : Oper) (r : Row), ops.toList[k]? = some o → rs[k]? = some r → postR ti bd C ops tf hs o r = true

theorem wantA_rel {o : Oper} {t : Tm} {a : Act} {b : Bool} {φ : Phi} (ht : ∀ (g : Nat × Bool) (p : Oper) (d : Tmp), o.guard = some g → ops.toList[g.1]? = some p → p.dst = some d → VRel ρ φ (t d) (a.tmps.getD d undef)) (he : wantA ops o t = some b) :
    Region.wanted o (yielded ops a.tmps) = b := by
  unfold wantA at he
  unfold Region.wanted
  cases hg : o.guard with
  | none => rw [hg] at he; simpa using he
  | some g =>
    rw [hg] at he
    obtain ⟨g, want⟩ := g
    have he : wantG ops t (g, want) = some b := he
    simp only [wantG, ob_some, nth_eq] at he
    obtain ⟨p, h1, d, h2, he⟩ := he
    have h1' : ops[g]? = some p := by simpa using h1
    have hr := ht (g, want) p d hg h1 h2
    unfold yielded
    simp only [h1', Option.bind_some, h2]
    split at he
    · rename_i r hr'
      rw [hr'] at hr
      generalize hu : a.tmps.getD d undef = u at hr
      cases hr
      have : a.tmps[d]? = some (.bool r) := by
        cases hx : a.tmps[d]? with
        | none => simp [hx, undef] at hu
        | some x => simp [hx] at hu; rw [hu]
      rw [this]
      simp only [Option.some.injEq] at he
      subst he
      cases r <;> cases want <;> rfl
    · rename_i l hr'
      rw [hr'] at hr
      generalize hu : a.tmps.getD d undef = u at hr
      cases hr with
      | tup _ x _ =>
        simp only [Option.some.injEq] at he
        subst he
        cases hx : a.tmps[d]? with
        | none => simp
        | some y =>
          simp [hx] at hu; subst hu
          simp
    · cases he

theorem Inv.op {rd : Option Nat} {n : Nat} (T : TiOk P ti) (hb : BdOk ρ bd) {C : CallF} (hC : CallOk P ρ w0 C) {t t1 : Tm} {hf : AHeap} (R : RunF ti bd C N ops rs t h t1 h1 tf hf hs) {Q : Exit → Act → World → Prop}
    {listed : Array Bool} {a : Act} {w : World} {s : Nat} {hh : AHeap} {φ' : Phi} (I : Inv ρ w0 N ds ops rs φ t h h1 tf hs listed a w s hh φ') {j : Nat} (hready : j ∈ Region.ready .any ops listed) :
    wpOpIn (fe rd) n P ops Q j (fun a' w' => ∃ s' hh' φ'', Inv ρ w0 N ds ops rs φ t h h1 tf hs (listed.setIfInBounds j true) a' w' s' hh' φ'') a w := by
  have D := R.D
  rw [mem_ready] at hready
  obtain ⟨hun, o, hoj, hafter⟩ := hready
  have hj : ops.toList[j]? = some o := by simpa using hoj
  have hjl : j < ops.toList.length := (List.getElem?_eq_some_iff.1 hj).1
  obtain ⟨r, hr⟩ : ∃ r, rs[j]? = some r := ⟨_, List.getElem?_eq_getElem (by rw [← D.len]; exact hjl)⟩
  have hes : ∀ i ∈ edgesOf o, listed.getD i true = true := by
    intro i hi
    obtain ⟨e, he, hbi, rfl⟩ := mem_edges.1 hi
    have := hafter e he hbi
    cases hx : listed[e.on]? with
    | none => simp [hx] at this
    | some y => simp [hx] at this ⊢; exact this
  -- the stage
  have hlo : r.lo ≤ s := by
    rcases D.lo j o r hj hr with h | ⟨e, he, q, hq, hh2, h⟩
    · omega
    · have := (I.heavy e q hq hh2).1 (hes e he); omega
  have hhi : s ≤ r.hi := by
    rcases D.hi j o r hj hr with h | ⟨k, p, q, hp, hq, hh2, h, hm⟩
    · have := I.le; omega
    · rcases Nat.lt_or_ge r.hi s with h' | h'
      · have hk := (I.heavy k q hq hh2).2 (by omega)
        have := I.closed k p hp hk j hm
        rw [this] at hun; cases hun
      · exact h'
  have hlo' : r.lo ≤ hc rs j := by
    rcases D.lo j o r hj hr with h | ⟨e, he, q, hq, hh2, h⟩
    · omega
    · have := hc_lt hq hh2 (D.edge j o e hj he); omega
  have hhi' : hc rs j ≤ r.hi := by
    rcases D.hi j o r hj hr with h | ⟨k, p, q, hp, hq, hh2, h, hm⟩
    · have := hc_le_all hr; omega
    · have := hc_mono (rs := rs) (Nat.le_of_lt (D.edge k p j hp hm)); omega
  have hst : r.isH = true → hc rs j = s := by
    intro hH
    have h1 : ¬ hc rs j < s := fun h => by have := (I.heavy j r hr hH).2 h; rw [this] at hun; cases hun
    rcases D.chain j o r hj hr hH with h | ⟨e, q, hq, hh2, h, he⟩
    · omega
    · have hle : listed.getD e true = true := by
        rcases he with he | ⟨i, hi, hA⟩
        · exact hes e he
        · exact I.anc hA (hes i hi)
      have := (I.heavy e q hq hh2).1 hle; omega
  have gvals : ∀ (g : Nat × Bool) (p : Oper) (d : Tmp), o.guard = some g → ops.toList[g.1]? = some p → p.dst = some d → VRel ρ φ' (tf d) (a.tmps.getD d undef) :=
    fun g p d hg hp hd => I.vals g.1 p d hp (hes _ (D.guard j o g hj hg)) hd
  have ht' := I.now
  have hcls := D.cls j o r hj hr
  unfold wpOpIn
  simp only [hoj]
  cases hF : r.isF with
  | true =>
    -- a fresh block
    have hc0 : r.c = .fresh := by cases hx : r.c <;> simp [Row.isF, hx] at hF; rfl
    have hH : r.isH = false := by simp [Row.isH, hc0]
    simp only [clsOk, hc0, Bool.and_eq_true] at hcls
    obtain ⟨⟨hal, hgu⟩, hds⟩ := hcls
    obtain ⟨d, hd⟩ := Option.isSome_iff_exists.1 hds
    have hgn : o.guard = none := by simpa using hgu
    have hw : Region.wanted o (yielded ops a.tmps) = true := by simp [Region.wanted, hgn]
    rw [if_pos hw]
    obtain ⟨b, hb1, hb2, hb3⟩ := R.F.named j o r d hj hr hF hd
    have fin : ∀ (j' : Nat) (o' : Oper) (r' : Row) (d' : Tmp), ops.toList[j']? = some o' → rs[j']? = some r' → r'.isF = true → o'.dst = some d' → tf d' = t1 d' := by
      intro j' o' r' d' hj' hr' hf' hd'
      refine R.Pa.keep d' fun k o2 r2 hk hr2 hf2 e => ?_
      have := D.dst k j' o2 o' d' hk hj' e hd'
      subst this
      rw [hr'] at hr2; cases hr2
      rw [hf'] at hf2; cases hf2
    have htf : Named (tf d) b := by rw [fin j o r d hj hr hF hd]; exact hb1
    have hpn := I.pend j o r d b hj hr hF hun hd htf
    have hblt : b < hh.next := by have := I.next; omega
    -- the end, from a naming that is changed at b alone
    have close : ∀ (φ3 : Phi) (u : Value) (w' : World), φ'.le φ3 → (∀ i, i ≠ b → φ3 i = φ' i) → HRel ρ w0 φ3 hh w' → VRel ρ φ3 (tf d) u →
        ∃ s' hh' φ'', Inv ρ w0 N ds ops rs φ t h h1 tf hs (listed.setIfInBounds j true) (a.put o.dst u) w' s' hh' φ'' := by
      intro φ3 u w' hle hoth HL hvu
      refine ⟨s, hh, φ3, I.step D hj hr hun hes I.heap (by rw [hH]; simp) (fun e => by rw [hH] at e; cases e) ⟨fun i p e => hle _ _ (I.grow.le _ _ e), fun i hi => ?_, I.grow.next⟩ hle I.next HL ?_ ?_⟩
      · rw [hoth i (by omega)]; exact I.grow.old i hi
      · intro j' o' r' d' b' hne hj' hr' hf' hl' hd' ht'
        have h1 := I.pend j' o' r' d' b' hj' hr' hf' hl' hd' ht'
        have ht1 : Named (t1 d') b' := by rw [← fin j' o' r' d' hj' hr' hf' hd']; exact ht'
        have hbb : b' ≠ b := by
          rcases Nat.lt_or_gt_of_ne hne with hlt | hgt
          · have := R.F.apart j' j o' o r' r d' d b' b hj' hr' hf' hd' hj hr hF hd ht1 hb1 hlt; omega
          · have := R.F.apart j j' o o' r r' d d' b b' hj hr hF hd hj' hr' hf' hd' hb1 ht1 hgt; omega
        rw [hoth b' hbb]; exact h1
      · intro d2 hd2
        rw [hd] at hd2; cases hd2
        exact hvu
    have hpost := R.Po j o r hj hr
    simp only [postR, hc0, hd] at hpost
    unfold freshZ at hpost
    split at hpost
    · rename_i e b' hop hbb
      rw [hbb] at htf
      have hbe : b' = b := htf.name
      subst hbe
      cases hti : ti e with
      | none => rw [hti] at hpost; cases hpost
      | some ty =>
        rw [hti] at hpost
        have hz := allL_iff.1 hpost hh (cut_mem (Nat.zero_le _) hhi I.heap)
        have hget : hh.get b' = some (.cells ty.zero) := by
          unfold isZ at hz
          cases hg : hh.get b' with
          | none => rw [hg] at hz; cases hz
          | some ob' =>
            rw [hg] at hz
            cases ob' with
            | cells l =>
              have hz' : avsEq l ty.zero = true := hz
              rw [avsEq_eq hz']
            | _ => cases hz
        have TR := T _ _ hti
        obtain ⟨z, zv, hz1, ho, hzc, _⟩ := TR.run_zero w
        have hrz : VRel ρ φ' zv z := ofValue_rel z zv ho
        have hor : ORel ρ φ' z.cells.size (.cells ty.zero) (.cells z.cells e) := by
          have hcc := hrz.cells
          rw [hzc] at hcc
          have hl := hcc.length
          refine .cells _ _ _ 0 0 rfl (by simp at hl; omega) ?_ TR.zflat (fun k _ => by omega)
          rw [hl, List.take_length]; exact hcc
        have HL := I.H.late hpn hblt hget hor
        have hrun : (execOp a.eval o).run P w = .ok (.value (.pointer (some ⟨w.heap.size, 0, none⟩))) (wnew w (.cells z.cells e)) := by
          simp only [execOp, hop]
          simp [Instr.alloc, hz1, newVar, run_newRow]
        unfold Oper.wpIn
        refine ⟨fun f _ => fe_fn rd f, ?_⟩
        rw [Oper.semAt_eq _ _ _ (fun c e => by rw [hop] at e; cases e), hrun]
        refine close (φ'.ext b' w.heap.size z.cells.size) _ _ (Phi.ext_le hpn) (fun i hi => by simp only [Phi.ext, if_neg hi]) HL ?_
        rw [hbb]
        exact .ptr _ _ _ _ (Phi.ext_self _ _ _ _)
    · cases hpost
    · have hz := allL_iff.1 hpost hh (cut_mem (Nat.zero_le _) hhi I.heap)
      unfold freshG at hz
      have hfl : floats r = true := by simp [floats, hc0]
      have hoptf : opA ti bd C o.op tf hh = opA ti bd C o.op (nowT ops listed t tf) hh := by
        refine opA_congr fun x hm => ?_
        cases x with
        | tmp tt =>
          show some (tf tt) = some (nowT ops listed t tf tt)
          congr 1
          unfold nowT
          by_cases hxx : ∃ (i : Nat) (oi : Oper), ops.toList[i]? = some oi ∧ oi.dst = some tt
          · obtain ⟨i, oi, hi, hd⟩ := hxx
            rw [if_pos ⟨i, oi, hi, hd, hes i (D.opndF j o r tt i oi hj hr hfl hm hi hd)⟩]
          · rw [if_neg (by rintro ⟨k, ok, hk, hkd, _⟩; exact hxx ⟨k, ok, hk, hkd⟩)]
            rw [R.Pa.keep tt fun k o' r' hlk _ _ e => hxx ⟨k, o', hlk, e⟩]
            exact R.F.keep tt fun k o' r' hlk _ _ e => hxx ⟨k, o', hlk, e⟩
        | _ => rfl
      cases hx : opA ti bd C o.op tf hh with
      | none => rw [hx] at hz; cases hz
      | some x =>
        rw [hx] at hz
        obtain ⟨v', h2⟩ := x
        simp only [Bool.and_eq_true] at hz
        obtain ⟨hz1, hz2⟩ := hz
        obtain ⟨hn, ob1, rfl, hnm⟩ := freshOp_new hal hx
        have hgn : (hh.newH ob1).get hh.next = some ob1 := by rw [get_newH _ _ _ hn, if_pos rfl]
        simp only [hgn] at hz2
        rw [htf.name] at hz1 hz2
        cases hg : hh.get b with
        | none => simp only [hg] at hz2; cases hz2
        | some ob2 =>
          simp only [hg] at hz2
          rw [hoptf] at hx
          have hok := opA_ok T hb hC (o := o) I.H I.now hx
          refine hok.upon (opA_notDefer (by assumption)) fun φ'' u w' g r1 r2 => ?_
          obtain ⟨φ3, y1, y2, y3, y4⟩ := I.H.renew hpn hblt hg hn g r2 r1 hz1 hz2
          exact close φ3 u w' y1 y2 y3 y4
  | false =>
    obtain ⟨tk, hh0, hs0, ⟨b, hb1, hb2, hb3⟩, hag, hag0⟩ := R.Pa.op j o r hj hr hF
    have htk : ∀ (d : Tmp) (i : Nat) (p : Oper), ops.toList[i]? = some p → p.dst = some d → i ∈ edgesOf o → tk d = tf d := by
      intro d i p hi hd he
      refine hag d fun k o' hk hlk e => ?_
      have := D.dst i k p o' d hi hlk hd e
      have := D.edge j o i hj he
      omega
    have hwtf : wantA ops o tf = some b := by
      rw [← hb1]
      exact (wantA_congr fun g p d hg hp hd => htk d g.1 p hp hd (D.guard j o g hj hg)).symm
    have hw : Region.wanted o (yielded ops a.tmps) = b := wantA_rel gvals hwtf
    have keep0 : ∀ d : Tmp, (∀ (k : Nat) (o' : Oper) (r' : Row), ops.toList[k]? = some o' → rs[k]? = some r' → r'.isF = true → o'.dst ≠ some d) → t1 d = t d := fun d hd => R.F.keep d hd
    have hopc : ∀ hx, opA ti bd C o.op tk hx = opA ti bd C o.op (nowT ops listed t tf) hx := by
      intro hx
      refine opA_congr fun x hm => ?_
      cases x with
      | tmp tt =>
        show some (tk tt) = some (nowT ops listed t tf tt)
        congr 1
        unfold nowT
        by_cases hxx : ∃ (i : Nat) (oi : Oper), ops.toList[i]? = some oi ∧ oi.dst = some tt
        · obtain ⟨i, oi, hi, hd⟩ := hxx
          rcases D.opnd j o tt i oi hj hm hi hd with he | ⟨he, q, hq, hqF⟩
          · rw [if_pos ⟨i, oi, hi, hd, hes i he⟩]
            exact htk tt i oi hi hd he
          · have hul : listed.getD i true = false := by
              rcases he with rfl | he
              · exact hun
              · cases hl : listed.getD i true with
                | false => rfl
                | true => have := I.closed i oi hi hl j he; rw [this] at hun; cases hun
            rw [if_neg (by
              rintro ⟨k, ok, hk, hkd, hkl⟩
              have := D.dst i k oi ok tt hi hk hd hkd
              subst this
              rw [hul] at hkl; cases hkl)]
            have hij : j ≤ i := by
              rcases he with rfl | he
              · exact Nat.le_refl _
              · exact Nat.le_of_lt (D.edge i oi j hi he)
            rw [hag0 tt fun k o' r' hk hlk _ _ e => by have := D.dst i k oi o' tt hi hlk hd e; omega]
            refine keep0 tt fun k o' r' hlk hrk hfk e => ?_
            have := D.dst i k oi o' tt hi hlk hd e
            subst this
            rw [hq] at hrk; cases hrk
            rw [hqF] at hfk; cases hfk
        · rw [if_neg (by rintro ⟨k, ok, hk, hkd, _⟩; exact hxx ⟨k, ok, hk, hkd⟩)]
          rw [hag0 tt fun k o' r' _ hlk _ _ e => hxx ⟨k, o', hlk, e⟩]
          exact keep0 tt fun k o' r' hlk _ _ e => hxx ⟨k, o', hlk, e⟩
      | _ => rfl
    have hoptf : floats r = true → ∀ hx, opA ti bd C o.op tf hx = opA ti bd C o.op (nowT ops listed t tf) hx := by
      intro hfl hx
      refine opA_congr fun x hm => ?_
      cases x with
      | tmp tt =>
        show some (tf tt) = some (nowT ops listed t tf tt)
        congr 1
        unfold nowT
        by_cases hxx : ∃ (i : Nat) (oi : Oper), ops.toList[i]? = some oi ∧ oi.dst = some tt
        · obtain ⟨i, oi, hi, hd⟩ := hxx
          rw [if_pos ⟨i, oi, hi, hd, hes i (D.opndF j o r tt i oi hj hr hfl hm hi hd)⟩]
        · rw [if_neg (by rintro ⟨k, ok, hk, hkd, _⟩; exact hxx ⟨k, ok, hk, hkd⟩)]
          rw [R.Pa.keep tt fun k o' r' hlk _ _ e => hxx ⟨k, o', hlk, e⟩]
          exact keep0 tt fun k o' r' hlk _ _ e => hxx ⟨k, o', hlk, e⟩
      | _ => rfl
    have pend' : ∀ (φ'' : Phi) (hh' : AHeap), Grow hh hh' φ' φ'' → ∀ (j' : Nat) (o : Oper) (r : Row) (d : Tmp) (b : Nat), j' ≠ j → ops.toList[j']? = some o → rs[j']? = some r → r.isF = true → listed.getD j' true = false → o.dst = some d → Named (tf d) b → φ'' b = none := by
      intro φ'' hh' g j' o' r' d' b' hne hj' hr' hf' hl' hd' ht'
      have h1 := I.pend j' o' r' d' b' hj' hr' hf' hl' hd' ht'
      obtain ⟨b2, x1, x2, x3⟩ := R.F.named j' o' r' d' hj' hr' hf' hd'
      have htf' : tf d' = t1 d' := by
        refine R.Pa.keep d' fun k o2 r2 hk hr2 hf2 e => ?_
        have := D.dst k j' o2 o' d' hk hj' e hd'
        subst this
        rw [hr'] at hr2; cases hr2
        rw [hf'] at hf2; cases hf2
      rw [htf'] at ht'
      have := x1.inj ht'
      subst this
      rw [g.old b2 (by have := I.next; omega)]; exact h1
    cases b with
    | false =>
      rw [if_neg (by rw [hw]; simp)]
      refine ⟨fun f _ => fe_fn rd f, ?_⟩
      obtain ⟨e1, e2⟩ := hb3 rfl
      by_cases hH : r.isH = true
      · have e2 := e2 hH
        rw [hst hH] at hs0 e2
        rw [I.heap] at hs0; cases hs0
        exact ⟨s + 1, hh, φ', I.step D hj hr hun hes e2 (by rw [if_pos hH]) hst I.grow φ'.le_refl I.next I.H (pend' φ' hh (.same rfl)) fun d hd => by rw [e1 d hd]; exact undef_rel⟩
      · exact ⟨s, hh, φ', I.step D hj hr hun hes I.heap (by rw [if_neg hH]) (fun e => absurd e hH) I.grow φ'.le_refl I.next I.H (pend' φ' hh (.same rfl)) fun d hd => by rw [e1 d hd]; exact undef_rel⟩
    | true =>
      rw [if_pos hw]
      obtain ⟨v, h2, k1, k2, k3⟩ := hb2 rfl
      by_cases hH : r.isH = true
      · have k3 := k3 hH
        rw [hst hH] at hs0 k3
        rw [I.heap] at hs0; cases hs0
        rw [hopc] at k1
        have hok := opA_ok T hb hC (o := o) I.H ht' k1
        refine hok.upon (opA_notDefer (by assumption)) fun φ'' u w' g r1 r2 => ?_
        exact ⟨s + 1, h2, φ'', I.step D hj hr hun hes k3 (by rw [if_pos hH]) hst (I.grow.trans g) g.le (Nat.le_trans I.next g.next) r2 (pend' φ'' h2 g) fun d hd => by rw [k2 d hd]; exact r1⟩
      · have light : opA ti bd C o.op (nowT ops listed t tf) hh = some (v, hh) := by
          cases hcc : r.c with
          | heavy => simp [Row.isH, hcc] at hH
          | fresh => simp [Row.isF, hcc] at hF
          | pure =>
            simp only [clsOk, hcc] at hcls
            rw [hopc] at k1
            exact (pureOp_any hcls k1).2 hh
          | read =>
            simp only [clsOk, hcc] at hcls
            by_cases hlh : r.lo = r.hi
            · have : hc rs j = s := by omega
              rw [this, I.heap] at hs0; cases hs0
              rw [hopc] at k1
              have := readOp_heap hcls k1
              subst this
              exact k1
            · have hpost := R.Po j o r hj hr
              simp only [postR, hcc, hwtf, Bool.or_eq_true, Nat.beq_eq] at hpost
              rcases hpost with hpost | hpost
              · exact absurd hpost hlh
              · cases hd : o.dst with
                | none => rw [hd] at hpost; cases hpost
                | some d =>
                  rw [hd] at hpost
                  have hv := allL_iff.1 hpost hh (cut_mem hlo hhi I.heap)
                  unfold isV at hv
                  cases hx : opA ti bd C o.op tf hh with
                  | none => rw [hx] at hv; cases hv
                  | some x =>
                    rw [hx] at hv
                    have hv' : sameV x.1 (tf d) = true := hv
                    have hxe := sameV_eq hv'
                    rw [k2 d hd] at hxe
                    have hx' : opA ti bd C o.op tf hh = some (v, x.2) := by rw [hx, ← hxe]
                    have := readOp_heap hcls hx'
                    rw [this] at hx'
                    rw [← hoptf (by simp [floats, hcc, hlh])]; exact hx'
        have hok := opA_ok T hb hC (o := o) I.H ht' light
        refine hok.upon (opA_notDefer (by assumption)) fun φ'' u w' g r1 r2 => ?_
        exact ⟨s, hh, φ'', I.step D hj hr hun hes I.heap (by rw [if_neg hH]) (fun e => absurd e hH) (I.grow.trans g) g.le I.next r2 (pend' φ'' hh g) fun d hd => by rw [k2 d hd]; exact r1⟩
end
end
end Go.AI
