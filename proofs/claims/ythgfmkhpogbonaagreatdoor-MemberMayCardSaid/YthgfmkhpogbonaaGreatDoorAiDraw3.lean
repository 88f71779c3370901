/-
  Regions that ask the tape: the abstract run's facts.
-/
import Derived.Test.YthgfmkhpogbonaaGreatDoorAiDraw2
set_option linter.unusedVariables false
set_option linter.unusedSimpArgs false
namespace Go.AI
section
variable {P : Program} {ρ : Env} {φ : Phi} {w0 w : World} {ti : Nat → Option ATy} {bd : Bnd}

theorem HRel.reserve {h : AHeap} (H : HRel ρ w0 φ h w) (hn : True) (o : AObj) : HRel ρ w0 φ (h.newH o) w := by
  have hN : (h.newH o).next = h.next + 1 := rfl
  refine ⟨H.size, H.base, H.next, fun j bj sj hj => ?_, fun j k bj sj sk hj hk pj pk => ?_, fun j oj bj sj hj pj => ?_⟩
  · have := H.dom _ _ _ hj; rw [hN]; omega
  · have d1 := (H.dom _ _ _ pj).1
    have d2 := (H.dom _ _ _ pk).1
    rw [get_newH _ _ _ hn, if_neg (by omega)] at hj hk
    exact H.inj j k _ _ _ hj hk pj pk
  · have d1 := (H.dom _ _ _ pj).1
    rw [get_newH _ _ _ hn, if_neg (by omega)] at hj
    exact H.obj _ _ _ _ hj pj

/-- the facts of the fresh blocks -/
structure FreshF (ti : Nat → Option ATy) (l : List Oper) (rs : List Row) (t : Tm) (h : AHeap) (t1 : Tm) (h1 : AHeap) : Prop where
  next : h.next ≤ h1.next
  rel : ∀ ρ w0 φ w, HRel ρ w0 φ h w → HRel ρ w0 φ h1 w
  keep : ∀ d : Tmp, (∀ (k : Nat) (o : Oper) (r : Row), l[k]? = some o → rs[k]? = some r → r.isF = true → o.dst ≠ some d) → t1 d = t d
  named : ∀ (k : Nat) (o : Oper) (r : Row) (d : Tmp), l[k]? = some o → rs[k]? = some r → r.isF = true → o.dst = some d → ∃ b, Named (t1 d) b ∧ h.next ≤ b ∧ b < h1.next
  apart : ∀ (k k' : Nat) (o o' : Oper) (r r' : Row) (d d' : Tmp) (b b' : Nat), l[k]? = some o → rs[k]? = some r → r.isF = true → o.dst = some d → l[k']? = some o' → rs[k']? = some r' → r'.isF = true → o'.dst = some d' →
    Named (t1 d) b → Named (t1 d') b' → k < k' → b < b'

/-- no two have one place -/
def Apart (l : List Oper) : Prop := ∀ (i j : Nat) (oi oj : Oper) (d : Tmp), l[i]? = some oi → l[j]? = some oj → oi.dst = some d → oj.dst = some d → i = j
theorem Apart.tail {o : Oper} {l : List Oper} (h : Apart (o :: l)) : Apart l := by
  intro i j oi oj d hi hj e1 e2
  have := h (i + 1) (j + 1) oi oj d (by simpa using hi) (by simpa using hj) e1 e2
  omega
theorem Apart.head {o : Oper} {l : List Oper} (h : Apart (o :: l)) {d : Tmp} (e : o.dst = some d) {k : Nat} {o' : Oper} (hk : l[k]? = some o') : o'.dst ≠ some d := by
  intro e'
  have := h 0 (k + 1) o o' d (by simp) (by simpa using hk) e e'
  omega

theorem putD_ne {t : Tm} {v : AV} {d i : Nat} (h : i ≠ d) : putD t v d i = t i := by
  unfold putD
  cases hc : Nat.beq i d with
  | true => exact absurd (by simpa using hc) h
  | false => rfl
theorem putD_eq {t : Tm} {v : AV} {d : Nat} : putD t v d d = v := by
  unfold putD
  have : Nat.beq d d = true := by simp
  rw [this]
theorem putA_ne {t : Tm} {v : AV} {dst : Option Tmp} {i : Nat} (h : dst ≠ some i) : putA t dst v i = t i := by
  cases dst with
  | none => rfl
  | some d => exact putD_ne fun e => h (by rw [e])
theorem putA_eq {t : Tm} {v : AV} {dst : Option Tmp} {d : Nat} (h : dst = some d) : putA t dst v d = v := by subst h; exact putD_eq

theorem freshA_facts {C : CallF} : ∀ {l : List Oper} {rs : List Row} {te t t1 : Tm} {h h1 : AHeap}, Apart l → (∀ (k : Nat) (o : Oper) (r : Row), l[k]? = some o → rs[k]? = some r → r.isF = true → freshOp o.op = true) →
    freshA ti bd C l rs te t h = some (t1, h1) → FreshF ti l rs t h t1 h1 := by
  intro l
  induction l with
  | nil =>
    intro rs te t t1 h h1 ha hcl he
    cases he
    exact ⟨Nat.le_refl _, fun _ _ _ _ H => H, fun _ _ => rfl, fun k o r d hk => by simp at hk, fun k k' o o' r r' d d' b b' hk => by simp at hk⟩
  | cons o l ih =>
    intro rs te t t1 h h1 ha hcl he
    replace he : (arg0 rs fun r rs => match r.c with
      | .fresh => ob o.dst fun d => ob2 (opA ti bd C o.op te h) fun v h => freshA ti bd C l rs (putD te v d) (putD t v d) h
      | .heavy => freshA ti bd C l rs te t h
      | _ => sel r.e (ob2 (opA ti bd C o.op te h) fun v _ => freshA ti bd C l rs (putA te o.dst v) t h) (freshA ti bd C l rs te t h)) = some (t1, h1) := he
    simp only [arg0_some] at he
    obtain ⟨r, rs, rfl, he⟩ := he
    have hcl' : ∀ (k : Nat) (o : Oper) (r : Row), l[k]? = some o → rs[k]? = some r → r.isF = true → freshOp o.op = true := fun k o' r' hk hr hf => hcl (k + 1) o' r' (by simpa using hk) (by simpa using hr) hf
    have skip : ∀ te', r.isF = false → freshA ti bd C l rs te' t h = some (t1, h1) → FreshF ti (o :: l) (r :: rs) t h t1 h1 := by
      intro te' hr he
      have F := ih ha.tail hcl' he
      refine ⟨F.next, F.rel, fun d hd => F.keep d fun k o' r' hk hr' hf => hd (k + 1) o' r' (by simpa using hk) (by simpa using hr') hf, ?_, ?_⟩
      · intro k o' r' d hk hr' hf e
        cases k with
        | zero => simp at hr'; subst hr'; rw [hr] at hf; cases hf
        | succ k => exact F.named k o' r' d (by simpa using hk) (by simpa using hr') hf e
      · intro k k' o1 o2 r1 r2 d d' b b' hk hr1 hf1 e1 hk' hr2 hf2 e2 t1' t2' hlt
        cases k with
        | zero => simp at hr1; subst hr1; rw [hr] at hf1; cases hf1
        | succ k => cases k' with
          | zero => omega
          | succ k' => exact F.apart k k' o1 o2 r1 r2 d d' b b' (by simpa using hk) (by simpa using hr1) hf1 e1 (by simpa using hk') (by simpa using hr2) hf2 e2 t1' t2' (by omega)
    split at he
    · rename_i hr
      have hrF : r.isF = true := by simp [Row.isF, hr]
      simp only [ob_some, ob2_some] at he
      obtain ⟨d, hd, v, h2, hop, he⟩ := he
      obtain ⟨hn, ob', rfl, hnm⟩ := freshOp_new (hcl 0 o r (by simp) (by simp) hrF) hop
      have F := ih ha.tail hcl' he
      have hN : (h.newH ob').next = h.next + 1 := rfl
      have hnext := F.next
      have hself : t1 d = v := by
        rw [F.keep d fun k o' r' hk _ _ => ha.head hd hk]; exact putD_eq
      refine ⟨by omega, fun ρ w0 φ w H => F.rel _ _ _ _ (H.reserve hn _), fun d' hd' => ?_, ?_, ?_⟩
      · rw [F.keep d' fun k o' r' hk hr' hf => hd' (k + 1) o' r' (by simpa using hk) (by simpa using hr') hf]
        refine putD_ne fun e => ?_
        subst e
        exact hd' 0 o r (by simp) (by simp) hrF hd
      · intro k o' r' d' hk hr' hf e'
        cases k with
        | zero => simp at hk; subst hk; rw [hd] at e'; cases e'; exact ⟨_, by rw [hself]; exact hnm, Nat.le_refl _, by omega⟩
        | succ k => obtain ⟨b, b1, b2, b3⟩ := F.named k o' r' d' (by simpa using hk) (by simpa using hr') hf e'; exact ⟨b, b1, by omega, b3⟩
      · intro k k' o1 o2 r1 r2 d1 d2 b b' hk hr1 hf1 e1 hk' hr2 hf2 e2 t1' t2' hlt
        cases k' with
        | zero => omega
        | succ k' => cases k with
          | zero =>
            simp at hk; subst hk; rw [hd] at e1; cases e1
            rw [hself] at t1'
            have := t1'.inj hnm
            obtain ⟨b2, x1, x2, x3⟩ := F.named k' o2 r2 d2 (by simpa using hk') (by simpa using hr2) hf2 e2
            have := x1.inj t2'; omega
          | succ k => exact F.apart k k' o1 o2 r1 r2 d1 d2 b b' (by simpa using hk) (by simpa using hr1) hf1 e1 (by simpa using hk') (by simpa using hr2) hf2 e2 t1' t2' (by omega)
    · rename_i hr
      exact skip te (by simp [Row.isF, hr]) he
    · rename_i hr1 hr2
      have hrF : r.isF = false := by cases hx : r.c <;> simp [Row.isF, hx]; exact hr1 hx
      cases hre : r.e with
      | true =>
        rw [hre] at he; simp only [sel_true, ob2_some] at he
        obtain ⟨v, _, _, he⟩ := he
        exact skip _ hrF he
      | false =>
        rw [hre] at he; simp only [sel_false] at he
        exact skip te hrF he

/-- what the abstract run says of one operation -/
def PF (ti : Nat → Option ATy) (bd : Bnd) (C : CallF) (ops : Array Oper) (tk tf : Tm) (o : Oper) (r : Row) (hh : AHeap) (nx : Option AHeap) : Prop :=
  ∃ b, wantA ops o tk = some b ∧
    (b = true → ∃ v h', opA ti bd C o.op tk hh = some (v, h') ∧ (∀ d, o.dst = some d → tf d = v) ∧ (r.isH = true → nx = some h')) ∧
    (b = false → (∀ d, o.dst = some d → tf d = undefA) ∧ (r.isH = true → nx = some hh))

theorem hc_zero (rs : List Row) : hc rs 0 = 0 := by simp [hc]
theorem hc_cons (r : Row) (rs : List Row) (k : Nat) : hc (r :: rs) (k + 1) = (if r.isH = true then 1 else 0) + hc rs k := by
  simp only [hc, List.take_succ_cons, List.countP_cons]; omega

structure PassF (ti : Nat → Option ATy) (bd : Bnd) (C : CallF) (ops : Array Oper) (l : List Oper) (rs : List Row) (t : Tm) (h : AHeap) (tf : Tm) (hf : AHeap) (hs : List AHeap) : Prop where
  head : hs[0]? = some h
  last : hs[hc rs rs.length]? = some hf
  keep : ∀ d : Tmp, (∀ (k : Nat) (o : Oper) (r : Row), l[k]? = some o → rs[k]? = some r → r.isF = false → o.dst ≠ some d) → tf d = t d
  op : ∀ (k : Nat) (o : Oper) (r : Row), l[k]? = some o → rs[k]? = some r → r.isF = false →
    ∃ tk hh, hs[hc rs k]? = some hh ∧ PF ti bd C ops tk tf o r hh hs[hc rs k + 1]? ∧ (∀ d : Tmp, (∀ (j : Nat) (o : Oper), k ≤ j → l[j]? = some o → o.dst ≠ some d) → tk d = tf d) ∧
      ∀ d : Tmp, (∀ (j : Nat) (o : Oper) (r : Row), j < k → l[j]? = some o → rs[j]? = some r → r.isF = false → o.dst ≠ some d) → tk d = t d

theorem passA_facts {C : CallF} {ops : Array Oper} : ∀ {l : List Oper} {rs : List Row} {t tf : Tm} {h hf : AHeap} {hs : List AHeap}, Apart l → l.length = rs.length → passA ti bd C ops l rs t h = some (tf, hf, hs) →
    PassF ti bd C ops l rs t h tf hf hs := by
  intro l
  induction l with
  | nil =>
    intro rs t tf h hf hs ha hlen he
    cases he
    cases rs with
    | nil => exact ⟨rfl, rfl, fun _ _ => rfl, fun k o r hk => by simp at hk⟩
    | cons _ _ => simp at hlen
  | cons o l ih =>
    intro rs t tf h hf hs ha hlen he
    replace he : passS ti bd C ops o (passA ti bd C ops l) rs t h = some (tf, hf, hs) := he
    simp only [passS, arg0_some, putK_eq] at he
    obtain ⟨r, rs, rfl, he⟩ := he
    have hlen' : l.length = rs.length := by simpa using hlen
    -- one light operation, carried out or not
    have light : r.isH = false → r.isF = false → ∀ v, (∃ b, wantA ops o t = some b ∧ (b = true → ∃ h', opA ti bd C o.op t h = some (v, h')) ∧ (b = false → v = undefA)) →
        passA ti bd C ops l rs (putA t o.dst v) h = some (tf, hf, hs) → PassF ti bd C ops (o :: l) (r :: rs) t h tf hf hs := by
      intro hrH hrF v hb he
      have F := ih ha.tail hlen' he
      have hc1 : ∀ k, hc (r :: rs) (k + 1) = hc rs k := fun k => by rw [hc_cons, hrH]; simp
      have hself : ∀ d, o.dst = some d → tf d = v := fun d hd => by
        rw [F.keep d fun k o' r' hk _ _ => ha.head hd hk]; exact putA_eq hd
      refine ⟨F.head, by rw [List.length_cons, hc1]; exact F.last, fun d hd => ?_, fun k o' r' hk hr' hf' => ?_⟩
      · rw [F.keep d fun k o' r' hk hr' hf => hd (k + 1) o' r' (by simpa using hk) (by simpa using hr') hf]
        exact putA_ne (hd 0 o r (by simp) (by simp) hrF)
      · cases k with
        | zero =>
          simp at hk hr'; subst hk; subst hr'
          refine ⟨t, h, by rw [hc_zero]; exact F.head, ?_, fun d hd => ?_, fun _ _ => rfl⟩
          · obtain ⟨b, b1, b2, b3⟩ := hb
            refine ⟨b, b1, fun e => ?_, fun e => ?_⟩
            · obtain ⟨h', b2⟩ := b2 e; exact ⟨v, h', b2, hself, fun e => by rw [hrH] at e; cases e⟩
            · have := b3 e; subst this; exact ⟨hself, fun e => by rw [hrH] at e; cases e⟩
          · rw [F.keep d fun k o' r' hk _ _ => hd (k + 1) o' (by omega) (by simpa using hk)]
            exact (putA_ne (hd 0 _ (by omega) (by simp))).symm
        | succ k =>
          obtain ⟨tk, hh, x1, x2, x3, x4⟩ := F.op k o' r' (by simpa using hk) (by simpa using hr') hf'
          rw [hc1]
          exact ⟨tk, hh, x1, x2, fun d hd => x3 d fun j oj hj hlj => hd (j + 1) oj (by omega) (by simpa using hlj), fun d hd => (x4 d fun j oj rj hj hlj hrj hfj => hd (j + 1) oj rj (by omega) (by simpa using hlj) (by simpa using hrj) hfj).trans (putA_ne (hd 0 _ _ (by omega) (by simp) (by simp) hrF))⟩
    -- one heavy operation
    have heavy : r.isH = true → r.isF = false → ∀ v h2 hs', (∃ b, wantA ops o t = some b ∧ (b = true → opA ti bd C o.op t h = some (v, h2)) ∧ (b = false → v = undefA ∧ h2 = h)) →
        passA ti bd C ops l rs (putA t o.dst v) h2 = some (tf, hf, hs') → hs = h :: hs' → PassF ti bd C ops (o :: l) (r :: rs) t h tf hf hs := by
      intro hrH hrF v h2 hs' hb hp hhs
      subst hhs
      have F := ih ha.tail hlen' hp
      have hc1 : ∀ k, hc (r :: rs) (k + 1) = hc rs k + 1 := fun k => by rw [hc_cons, hrH]; simp; omega
      have hself : ∀ d, o.dst = some d → tf d = v := fun d hd => by
        rw [F.keep d fun k o' r' hk _ _ => ha.head hd hk]; exact putA_eq hd
      refine ⟨rfl, by rw [List.length_cons, hc1]; simpa using F.last, fun d hd => ?_, fun k o' r' hk hr' hf' => ?_⟩
      · rw [F.keep d fun k o' r' hk hr' hf => hd (k + 1) o' r' (by simpa using hk) (by simpa using hr') hf]
        exact putA_ne (hd 0 o r (by simp) (by simp) hrF)
      · cases k with
        | zero =>
          simp at hk hr'; subst hk; subst hr'
          refine ⟨t, h, by rw [hc_zero]; rfl, ?_, fun d hd => ?_, fun _ _ => rfl⟩
          · have hnx : (h :: hs')[hc (r :: rs) 0 + 1]? = some h2 := by rw [hc_zero]; simpa using F.head
            rw [hnx]
            obtain ⟨b, b1, b2, b3⟩ := hb
            refine ⟨b, b1, fun e => ⟨v, h2, b2 e, hself, fun _ => rfl⟩, fun e => ?_⟩
            obtain ⟨e1, e2⟩ := b3 e
            subst e1; subst e2
            exact ⟨hself, fun _ => rfl⟩
          · rw [F.keep d fun k o' r' hk _ _ => hd (k + 1) o' (by omega) (by simpa using hk)]
            exact (putA_ne (hd 0 _ (by omega) (by simp))).symm
        | succ k =>
          obtain ⟨tk, hh, x1, x2, x3, x4⟩ := F.op k o' r' (by simpa using hk) (by simpa using hr') hf'
          rw [hc1]
          exact ⟨tk, hh, by simpa using x1, by simpa using x2, fun d hd => x3 d fun j oj hj hlj => hd (j + 1) oj (by omega) (by simpa using hlj), fun d hd => (x4 d fun j oj rj hj hlj hrj hfj => hd (j + 1) oj rj (by omega) (by simpa using hlj) (by simpa using hrj) hfj).trans (putA_ne (hd 0 _ _ (by omega) (by simp) (by simp) hrF))⟩
    split at he
    · rename_i hr
      -- a fresh one: it is there already
      have hrH : r.isH = false := by simp [Row.isH, hr]
      have hrF : r.isF = true := by simp [Row.isF, hr]
      have F := ih ha.tail hlen' he
      have hc1 : ∀ k, hc (r :: rs) (k + 1) = hc rs k := fun k => by rw [hc_cons, hrH]; simp
      refine ⟨F.head, by rw [List.length_cons, hc1]; exact F.last, fun d hd => F.keep d fun k o' r' hk hr' hf => hd (k + 1) o' r' (by simpa using hk) (by simpa using hr') hf, fun k o' r' hk hr' hf' => ?_⟩
      cases k with
      | zero => simp at hr'; subst hr'; rw [hrF] at hf'; cases hf'
      | succ k =>
        obtain ⟨tk, hh, x1, x2, x3, x4⟩ := F.op k o' r' (by simpa using hk) (by simpa using hr') hf'
        rw [hc1]
        exact ⟨tk, hh, x1, x2, fun d hd => x3 d fun j oj hj hlj => hd (j + 1) oj (by omega) (by simpa using hlj), fun d hd => x4 d fun j oj rj hj hlj hrj hfj => hd (j + 1) oj rj (by omega) (by simpa using hlj) (by simpa using hrj) hfj⟩
    · rename_i hr
      simp only [ob_some] at he
      obtain ⟨b, h1, he⟩ := he
      cases b with
      | true =>
        simp only [sel_true, ob2_some, stage, ob_some, Option.some.injEq, Prod.mk.injEq] at he
        obtain ⟨v, h2, h3, x, h4, rfl, rfl, rfl⟩ := he
        exact heavy (by simp [Row.isH, hr]) (by simp [Row.isF, hr]) v h2 x.2.2 ⟨true, h1, fun _ => h3, fun e => (by cases e)⟩ h4 rfl
      | false =>
        simp only [sel_false, ob2_some, stage, ob_some, Option.some.injEq, Prod.mk.injEq] at he
        obtain ⟨_, _, ⟨rfl, rfl⟩, x, h4, rfl, rfl, rfl⟩ := he
        exact heavy (by simp [Row.isH, hr]) (by simp [Row.isF, hr]) undefA h x.2.2 ⟨false, h1, fun e => (by cases e), fun _ => ⟨rfl, rfl⟩⟩ h4 rfl
    · rename_i hr1 hr2
      have hrH : r.isH = false := by cases hx : r.c <;> simp [Row.isH, hx]; exact hr2 hx
      have hrF : r.isF = false := by cases hx : r.c <;> simp [Row.isF, hx]; exact hr1 hx
      simp only [ob_some] at he
      obtain ⟨b, h1, he⟩ := he
      cases b with
      | true =>
        simp only [sel_true, ob2_some] at he
        obtain ⟨v, h2, h3, he⟩ := he
        exact light hrH hrF v ⟨true, h1, fun _ => ⟨h2, h3⟩, fun e => (by cases e)⟩ he
      | false =>
        simp only [sel_false, ob2_some, Option.some.injEq, Prod.mk.injEq] at he
        obtain ⟨_, _, ⟨rfl, rfl⟩, he⟩ := he
        exact light hrH hrF undefA ⟨false, h1, fun e => (by cases e), fun _ => rfl⟩ he

theorem allL_iff {α : Type} {p : α → Bool} : ∀ {l : List α}, allL p l = true ↔ ∀ x ∈ l, p x = true
  | [] => by simp [allL]
  | x :: l => by
    have ih := allL_iff (p := p) (l := l)
    show sel (p x) (allL p l) false = true ↔ _
    cases hx : p x <;> simp [hx, ih]

theorem cut_mem {lo hi s : Nat} {hs : List AHeap} {h : AHeap} (h1 : lo ≤ s) (h2 : s ≤ hi) (hh : hs[s]? = some h) : h ∈ cut lo hi hs := by
  unfold cut
  cases hc : takeN (Nat.succ (Nat.sub hi lo)) (dropN lo hs) with
  | none => exact List.mem_of_getElem? hh
  | some l =>
    rw [takeN_some] at hc
    obtain ⟨k1, rfl⟩ := hc
    show h ∈ List.take (hi - lo + 1) (dropN lo hs)
    rw [dropN_eq]
    refine List.mem_of_getElem? (i := s - lo) ?_
    rw [List.getElem?_take, if_pos (by omega), List.getElem?_drop]
    rw [show lo + (s - lo) = s from by omega]; exact hh

theorem postA_facts {C : CallF} {ops : Array Oper} {t : Tm} {hs : List AHeap} : ∀ {l : List Oper} {rs : List Row}, postA ti bd C ops t hs l rs = true → ∀ (k : Nat) (o : Oper) (r : Row), l[k]? = some o → rs[k]? = some r → postR ti bd C ops t hs o r = true := by
  intro l
  induction l with
  | nil => intro rs he k o r hk; simp at hk
  | cons o l ih =>
    intro rs he k o' r' hk hr
    cases rs with
    | nil => simp at hr
    | cons r rs =>
      replace he : sel (postR ti bd C ops t hs o r) (postA ti bd C ops t hs l rs) false = true := he
      cases hp : postR ti bd C ops t hs o r with
      | false => rw [hp] at he; cases he
      | true =>
        rw [hp] at he
        cases k with
        | zero => simp at hk hr; subst hk; subst hr; exact hp
        | succ k => exact ih he k o' r' (by simpa using hk) (by simpa using hr)
end
end Go.AI
