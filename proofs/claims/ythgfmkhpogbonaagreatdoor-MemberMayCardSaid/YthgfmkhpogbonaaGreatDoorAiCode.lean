/-
  The abstract code is the model's, but for regions that ask the tape.
-/
import Derived.Test.YthgfmkhpogbonaaGreatDoorAiCall
import Derived.TacticsIn
import Derived.LoopNIn
import Derived.RangeFuncRecord
set_option linter.unusedVariables false
set_option linter.unusedSimpArgs false
namespace Go.AI
section
variable {P : Program} {ρ : Env} {φ : Phi} {w0 w : World} {h h' : AHeap} {ti : Nat → Option ATy} {bd : Bnd} {N : Nat} {ds : List Deferred}

/-- a frame's state -/
structure St (ρ : Env) (w0 : World) (N : Nat) (ds : List Deferred) (φ : Phi) (t : Tm) (h : AHeap) (a : Act) (w : World) : Prop where
  H : HRel ρ w0 φ h w
  t : TRel ρ φ t a.tmps
  n : N ≤ a.tmps.size
  d : a.defers = ds

theorem putA_rel {t : Tm} {a : Act} {dst : Option Tmp} {v : AV} {u : Value} (ht : TRel ρ φ t a.tmps) (hv : VRel ρ φ v u) (hn : N ≤ a.tmps.size) (hd : ∀ d, dst = some d → d < N) : TRel ρ φ (putA t dst v) (a.put dst u).tmps := by
  cases dst with
  | none => exact ht
  | some d =>
    intro i
    have hd := hd d rfl
    show VRel ρ φ (putD t v d i) ((a.tmps.setIfInBounds d u).getD i undef)
    unfold putD
    cases hc : Nat.beq i d with
    | true =>
      have : i = d := by simpa using hc
      subst this
      have : i < a.tmps.size := Nat.lt_of_lt_of_le hd hn
      simp [this]; exact hv
    | false =>
      have : i ≠ d := by intro e; subst e; simp at hc
      have e : (a.tmps.setIfInBounds d u).getD i undef = a.tmps.getD i undef := by
        simp [Array.getElem?_setIfInBounds_ne (Ne.symm this)]
      rw [e]; exact ht i

theorem put_size (a : Act) (dst : Option Tmp) (u : Value) : (a.put dst u).tmps.size = a.tmps.size := by cases dst <;> simp [Act.put]
theorem put_defers (a : Act) (dst : Option Tmp) (u : Value) : (a.put dst u).defers = a.defers := by cases dst <;> rfl

theorem wantA_ok {ops : Array Oper} {o : Oper} {t : Tm} {a : Act} {b : Bool} (ht : TRel ρ φ t a.tmps) (he : wantA ops o t = some b) : Region.wanted o (yielded ops a.tmps) = b := by
  unfold wantA at he
  unfold Region.wanted
  cases hg : o.guard with
  | none => rw [hg] at he; simpa using he
  | some g =>
    rw [hg] at he
    obtain ⟨g, want⟩ := g
    have he : wantG ops t (g, want) = some b := he
    simp only [wantG, ob_some, nth_eq] at he
    obtain ⟨p, h1, d, h2, he⟩ := he
    have h1' : ops[g]? = some p := by simpa using h1
    have hr := ht d
    unfold yielded
    simp only [h1', Option.bind_some, h2]
    split at he
    · rename_i r hr'
      rw [hr'] at hr
      generalize hu : a.tmps.getD d undef = u at hr
      cases hr
      have : a.tmps[d]? = some (.bool r) := by
        cases hx : a.tmps[d]? with
        | none => simp [hx, undef] at hu
        | some x => simp [hx] at hu; rw [hu]
      rw [this]
      simp only [Option.some.injEq] at he
      subst he
      cases r <;> cases want <;> rfl
    · rename_i l hr'
      rw [hr'] at hr
      generalize hu : a.tmps.getD d undef = u at hr
      cases hr with
      | tup _ x _ =>
        simp only [Option.some.injEq] at he
        subst he
        cases hx : a.tmps[d]? with
        | none => simp
        | some y =>
          simp [hx] at hu; subst hu
          simp
    · cases he

/-- the fences: of a function's frame, of a round's -/
def fe : Option Nat → Fence
  | none => Fence.wide
  | some l => Fence.wide.inRound l
theorem fe_round (rd : Option Nat) : (fe rd).round = rd := by cases rd <;> rfl
theorem fe_fn (rd : Option Nat) (f : FuncId) : (fe rd).fn f := by cases rd <;> exact trivial
theorem fe_depth (rd : Option Nat) : (fe rd).depth.isSome = true → False := by cases rd <;> (intro h; cases h)
theorem fe_calls {rd : Option Nat} {n : Nat} {f : FuncId} {args : Array Value} {w : World} {R : Ending → World → Prop} (h : Calls P f args w R) : CallsIn (fe rd) n P f args w R := by
  cases rd with
  | none => exact callsIn_wide.2 h
  | some l => exact CallsIn.inRound l (callsIn_wide.2 h)
theorem fe_rounds {rd : Option Nat} {n l : Nat} {f : FuncId} {tmps : Array Value} {assign body : Code} {w : World} {R : Ending → World → Prop} (h : RoundIn Fence.wide 0 P l f tmps assign body w R) : RoundIn (fe rd) n P l f tmps assign body w R := by
  have h2 : RoundIn Fence.wide n P l f tmps assign body w R := ⟨h.1, fun c cs _ => h.2 c cs (room_wide _)⟩
  cases rd with
  | none => exact h2
  | some l => exact h2

/-- an operation, and what comes after -/
theorem NextOk.upon {rd : Option Nat} {n : Nat} {o : Oper} {a : Act} {K : Act → World → Prop} {Q : Exit → Act → World → Prop} {v : AV} (H : NextOk P ρ w0 (execOp a.eval o) φ w h v h') (hd : ∀ c, o.op ≠ .defer c)
    (hK : ∀ φ' u w', Grow h h' φ φ' → VRel ρ φ' v u → HRel ρ w0 φ' h' w' → K (a.put o.dst u) w') : o.wpIn (fe rd) n P a w K Q := by
  unfold Oper.wpIn
  refine ⟨fun f _ => fe_fn rd f, ?_⟩
  rw [Oper.semAt_eq _ _ _ hd]
  rcases H with ⟨φ', w', r, h1, h2, h3, h4⟩ | ⟨f, args, w', h1, h2⟩ | ⟨l, fn, tmps, assign, body, w', h1, h2⟩
  · rw [h1]
    rcases h2 with ⟨u, rfl, h2⟩ | ⟨rfl, rfl⟩
    · exact hK φ' u w' h3 h2 h4
    · exact hK φ' undef w' h3 undef_rel h4
  · rw [h1]
    refine ⟨fun h => (fe_depth rd h).elim, CallsIn.mono (fe_calls h2) fun e w'' he => ?_⟩
    cases e with
    | returned u => obtain ⟨φ', g, r1, r2⟩ := he; exact hK φ' u w'' g r1 r2
    | panicked c => exact he.elim
    | outgrown => exact he.elim
  · rw [h1]
    refine ⟨fun h => (fe_depth rd h).elim, RoundIn.mono (fe_rounds h2) fun e w'' he => ?_⟩
    cases e with
    | returned u => obtain ⟨φ', g, r1, r2⟩ := he; exact hK φ' u w'' g r1 r2
    | panicked c => exact he.elim
    | outgrown => exact he.elim

theorem putK_eq {β : Type} {t : Tm} {dst : Option Tmp} {v : AV} {K : Tm → β} : putK t dst v K = K (putA t dst v) := by cases dst <;> rfl

theorem rowsT_get (t : Tm) : ∀ (n j k : Nat), k < n → (rowsT t n j)[k]? = some (row8 t (j + 8 * k)) := by
  intro n
  induction n with
  | zero => intro j k h; omega
  | succ n ih =>
    intro j k h
    show (row8 t j :: rowsT t n (j + 8))[k]? = _
    cases k with
    | zero => rfl
    | succ k => rw [List.getElem?_cons_succ, ih (j + 8) k (by omega), show j + 8 + 8 * k = j + 8 * (k + 1) from by omega]
theorem row8_get (t : Tm) (j k : Nat) (h : k < 8) : (row8 t j)[k]? = some (t (j + k)) := by
  match k, h with
  | 0, _ => rfl
  | 1, _ => rfl
  | 2, _ => rfl
  | 3, _ => rfl
  | 4, _ => rfl
  | 5, _ => rfl
  | 6, _ => rfl
  | 7, _ => rfl
theorem normT_eq (t : Tm) : normT t = t := by
  funext i
  unfold normT normR
  rw [nth_eq]
  by_cases h : i / 8 < 200
  · rw [show Nat.div i 8 = i / 8 from rfl, rowsT_get t 200 0 (i / 8) h]
    show Option.rec (motive := fun _ => AV) (t i) (fun v => v) (nth (row8 t (0 + 8 * (i / 8))) (i % 8)) = _
    rw [nth_eq, row8_get t _ _ (by omega), show 0 + 8 * (i / 8) + i % 8 = i from by omega]
  · have : (rowsT t 200 0)[Nat.div i 8]? = none := by
      have hl : ∀ n j, (rowsT t n j).length = n := by
        intro n
        induction n with
        | zero => intro j; rfl
        | succ n ih => intro j; show (row8 t j :: rowsT t n (j + 8)).length = _; rw [List.length_cons, ih]
      rw [List.getElem?_eq_none_iff, hl]
      have : Nat.div i 8 = i / 8 := rfl
      omega
    rw [this]

def dstLt (N : Nat) (o : Oper) : Bool := match o.dst with | some d => Nat.blt d N | none => true
theorem dstLt_iff {o : Oper} (h : dstLt N o = true) : ∀ d, o.dst = some d → d < N := by
  intro d hd
  simp only [dstLt, hd] at h
  simpa using h

theorem opsA_ok (T : TiOk P ti) (hb : BdOk ρ bd) {C : CallF} (hC : CallOk P ρ w0 C) {rd : Option Nat} {n : Nat} {ops : Array Oper} {Q : Exit → Act → World → Prop} : ∀ {l : List Oper} {t t' : Tm} {h h' : AHeap} {φ : Phi} {a : Act} {w : World},
    (∀ o ∈ l, dstLt N o = true) → St ρ w0 N ds φ t h a w → opsA ti bd C ops l t h = some (t', h') → (∀ φ' a' w', Grow h h' φ φ' → St ρ w0 N ds φ' t' h' a' w' → Q .normal a' w') → wpListIn (fe rd) n P ops Q l a w := by
  intro l
  induction l with
  | nil =>
    intro t t' h h' φ a w hl S he hQ
    cases he
    exact hQ φ a w (.same rfl) S
  | cons o l ih =>
    intro t t' h h' φ a w hl S he hQ
    have he : opsS ti bd C ops o (opsA ti bd C ops l) t h = some (t', h') := he
    simp only [opsS, ob_some, putK_eq] at he
    obtain ⟨b, h1, he⟩ := he
    have hw := wantA_ok S.t h1
    have hlt := dstLt_iff (hl o (by simp))
    unfold wpListIn
    rw [hw]
    cases b with
    | true =>
      simp only [sel_true, ob2_some] at he
      obtain ⟨v, h2, h3, he⟩ := he
      refine (opA_ok T hb hC S.H S.t h3).upon (opA_notDefer h3) fun φ' u w' g r1 r2 => ?_
      refine ih (fun o ho => hl o (by simp [ho])) ⟨r2, putA_rel (S.t.mono g.le) r1 S.n hlt, by rw [put_size]; exact S.n, by rw [put_defers]; exact S.d⟩ he fun φ'' a' w'' g' S' => hQ φ'' a' w'' (g.trans g') S'
    | false =>
      simp only [sel_false] at he
      refine ⟨fun f _ => fe_fn rd f, ?_⟩
      exact ih (fun o ho => hl o (by simp [ho])) ⟨S.H, putA_rel S.t undef_rel S.n hlt, by rw [put_size]; exact S.n, by rw [put_defers]; exact S.d⟩ he hQ

/-- marks: the blocks of the deferred calls of ranges over functions -/
def MarkRel (φ : Phi) (i : Nat) (d : Deferred) : Prop := ∃ blk sz, φ i = some (blk, sz) ∧ d = { target := .collected blk, args := #[] }
inductive MarksRel (φ : Phi) : List Nat → List Deferred → Prop where
  | nil : MarksRel φ [] []
  | cons (i : Nat) (d : Deferred) (m : List Nat) (l : List Deferred) (h : MarkRel φ i d) (h' : MarksRel φ m l) : MarksRel φ (i :: m) (d :: l)
theorem MarksRel.mono {φ φ' : Phi} (hl : φ.le φ') {m : List Nat} {l : List Deferred} (h : MarksRel φ m l) : MarksRel φ' m l := by
  induction h with
  | nil => exact .nil
  | cons i d m l h _ ih => obtain ⟨blk, sz, h1, h2⟩ := h; exact .cons _ _ _ _ ⟨blk, sz, hl _ _ h1, h2⟩ ih
theorem MarksRel.append {m m' : List Nat} {l l' : List Deferred} (h : MarksRel φ m l) (h' : MarksRel φ m' l') : MarksRel φ (m ++ m') (l ++ l') := by
  induction h with
  | nil => exact h'
  | cons i d m l h _ ih => exact .cons _ _ _ _ h ih

/-- what a run's end says of the model's -/
def OutQ (ρ : Env) (w0 : World) (N : Nat) (ds : List Deferred) (h : AHeap) (φ : Phi) (out : Out) (e : Exit) (a : Act) (w : World) : Prop :=
  (match out.e, e with
    | .normal, .normal => True
    | .exit i, .exit j => i = j
    | .ret, .ret => True
    | _, _ => False) ∧ ∃ φ' new, Grow h out.h φ φ' ∧ MarksRel φ' out.m new ∧ St ρ w0 N (new ++ ds) φ' out.t out.h a w

/-- which functions may be ranged over: none within a round -/
def RngOk (P : Program) (rng : Nat → Bool) (rd : Option Nat) : Prop :=
  ∀ f, rng f = true → rd = none ∧ ∃ F c, P.funcs[f]? = some F ∧ (F.name == "runtime.NumGoroutine") = false ∧ F.body = some c
theorem RngOk.none {P : Program} {rd : Option Nat} : RngOk P (fun _ => false) rd := fun _ h => by cases h

def RunOk (P : Program) (ρ : Env) (w0 : World) (N : Nat) (rng : Nat → Bool) (F : Run) (c : Code) : Prop :=
  ∀ rd n ds t h out φ a w, RngOk P rng rd → F t h = some out → St ρ w0 N ds φ t h a w → c.wpIn (fe rd) n P (OutQ ρ w0 N ds h φ out) a w

/-- a region that asks the tape -/
def DrawOk (P : Program) (ρ : Env) (w0 : World) (N : Nat) (ti : Nat → Option ATy) (bd : Bnd) (C : CallF) (id : Nat) (ops : Array Oper) (rs : List Row) : Prop :=
  ∀ rd n ds t h t' h' φ a w, drawA ti bd C ops rs t h = some (t', h') → St ρ w0 N ds φ t h a w → (Code.region id ops true).wpIn (fe rd) n P (OutQ ρ w0 N ds h φ ⟨.normal, t', h', []⟩) a w

/-- what is asked of a text -/
def codeOk (N : Nat) (D : Nat → Option (List Row)) (dr : Nat → Array Oper → List Row → Bool) : Code → Bool
  | .region id ops draw => (if draw then (match D id with | some rs => dr N ops rs | none => true) else ops.toList.all (dstLt N))
  | .seq a b => codeOk N D dr a && codeOk N D dr b
  | .cond _ a b => codeOk N D dr a && codeOk N D dr b
  | .block _ a => codeOk N D dr a
  | .loop a => codeOk N D dr a
  | .rangeFunc _ ps a b => ps.toList.all (fun i => Nat.blt i N) && (codeOk N D dr a && codeOk N D dr b)
  | _ => true

theorem OutQ.pre {φ φ' : Phi} {h h1 : AHeap} {out : Out} {e : Exit} {a : Act} {w : World} {m : List Nat} {new : List Deferred} (g : Grow h h1 φ φ') (hm : MarksRel φ' m new)
    (H : OutQ ρ w0 N (new ++ ds) h1 φ' out e a w) : OutQ ρ w0 N ds h φ ⟨out.e, out.t, out.h, out.m ++ m⟩ e a w := by
  obtain ⟨h1, φ'', n2, h2, h3, h4⟩ := H
  exact ⟨h1, φ'', n2 ++ new, g.trans h2, h3.append (hm.mono h2.le), by rw [List.append_assoc]; exact h4⟩

theorem marked_some {m : List Nat} {r : Option Out} {out : Out} (h : marked m r = some out) : ∃ o2, r = some o2 ∧ out = ⟨o2.e, o2.t, o2.h, o2.m ++ m⟩ := by
  cases m with
  | nil =>
    have h : r = some out := h
    exact ⟨out, h, by simp⟩
  | cons x m =>
    have h : (ob r fun y => some (⟨y.e, y.t, y.h, appL y.m (x :: m)⟩ : Out)) = some out := h
    simp only [ob_some, Option.some.injEq, appL_eq] at h
    obtain ⟨o2, h1, h2⟩ := h
    exact ⟨o2, h1, h2.symm⟩

theorem thenA_ok {rd : Option Nat} {n : Nat} {rng : Nat → Bool} {F : Run} {x : Code} {K : Run} {Kw : Act → World → Prop} (hr : RngOk P rng rd) (hF : RunOk P ρ w0 N rng F x) {t : Tm} {h : AHeap} {out : Out} {a : Act} {w : World} (he : thenA (F t h) K = some out) (S : St ρ w0 N ds φ t h a w)
    (hK : ∀ φ' t' h' a' w' m new o2, Grow h h' φ φ' → MarksRel φ' m new → St ρ w0 N (new ++ ds) φ' t' h' a' w' → K t' h' = some o2 → out = ⟨o2.e, o2.t, o2.h, o2.m ++ m⟩ → Kw a' w') : x.wpIn (fe rd) n P (Exit.then Kw (OutQ ρ w0 N ds h φ out)) a w := by
  simp only [thenA, ob_some] at he
  obtain ⟨o1, h1, he⟩ := he
  refine Code.wpIn_mono (fun e a' w' q => ?_) (hF rd n ds t h o1 φ a w hr h1 S)
  obtain ⟨q1, φ', new, q2, qm, q3⟩ := q
  obtain ⟨oe, ot, oh, om⟩ := o1
  cases oe with
  | normal =>
    cases e <;> try simp only at q1
    obtain ⟨o2, k1, k2⟩ := marked_some he
    exact hK φ' ot oh a' w' om new o2 q2 qm q3 k1 k2
  | exit i =>
    cases he
    cases e <;> try simp only at q1
    exact ⟨q1, φ', new, q2, qm, q3⟩
  | ret =>
    cases he
    cases e <;> try simp only at q1
    exact ⟨trivial, φ', new, q2, qm, q3⟩

theorem iter_ok {rd : Option Nat} {rng : Nat → Bool} (hr : RngOk P rng rd) {m : Nat} {F : Run} {x : Code} (hF : RunOk P ρ w0 N rng F x) : ∀ (n : Nat) {ds : List Deferred} {t : Tm} {h : AHeap} {out : Out} {φ : Phi} {a : Act} {w : World}, iter F n t h = some out → St ρ w0 N ds φ t h a w →
    Code.roundsIn (fe rd) m P x (OutQ ρ w0 N ds h φ out) n a w := by
  intro n
  induction n with
  | zero => intro ds t h out φ a w he S; cases he
  | succ n ih =>
    intro ds t h out φ a w he S
    have he : thenA (F (normT t) h) (iter F n) = some out := he
    rw [normT_eq] at he
    refine thenA_ok hr hF he S fun φ' t' h' a' w' mm new o2 g hm S' he' ho => ?_
    have := ih he' S'
    have mono : ∀ n a w, Code.roundsIn (fe rd) m P x (OutQ ρ w0 N (new ++ ds) h' φ' o2) n a w → Code.roundsIn (fe rd) m P x (OutQ ρ w0 N ds h φ out) n a w := by
      intro n
      induction n with
      | zero => intro a w h; exact h
      | succ n ih =>
        intro a w hh
        refine Code.wpIn_mono (fun e a w q => ?_) hh
        subst ho
        cases e with
        | normal => exact ih a w q
        | _ => exact OutQ.pre g hm q
    exact mono n a' w' this

theorem run_callFunc {f : FuncId} {args : Array Value} {F : Func} (hf : P.funcs[f]? = some F) (hn : (F.name == "runtime.NumGoroutine") = false) {c : Code} (hc : F.body = some c) (w : World) :
    (callFunc f args).run P w = .ok (.enter f args) w := by
  have hn' : F.name ≠ "runtime.NumGoroutine" := by simpa using hn
  simp [callFunc, hf, hn', hc]

/-- a call of a function with a body -/
theorem NextOk.calls {f : FuncId} {args : Array Value} {F : Func} (hf : P.funcs[f]? = some F) (hn : (F.name == "runtime.NumGoroutine") = false) {c : Code} (hc : F.body = some c) {v : AV} (H : NextOk P ρ w0 (callFunc f args) φ w h v h') :
    Calls P f args w (RetOk ρ w0 φ h v h') := by
  have hr := run_callFunc (P := P) (args := args) hf hn hc w
  rcases H with ⟨φ', w', r, h1, h2⟩ | ⟨f', args', w', h1, h2⟩ | ⟨l, fn, tmps, assign, body, w', h1, h2⟩
  · rw [hr] at h1; cases h1
    rcases h2 with ⟨⟨u, e, _⟩ | ⟨e, _⟩, _⟩ <;> cases e
  · rw [hr] at h1; cases h1; exact h2
  · rw [hr] at h1; cases h1

theorem jumpA_some {p : Option Code} {t : Tm} {h : AHeap} {m : List Nat} {out : Out} (he : jumpA p t h m = some out) :
    (p = none ∧ out = ⟨.normal, t, h, m⟩) ∨ (p = some .ret ∧ out = ⟨.ret, t, h, m⟩) ∨ ∃ id, p = some (.exit id) ∧ out = ⟨.exit id, t, h, m⟩ := by
  unfold jumpA at he
  split at he
  · exact .inl ⟨rfl, (Option.some.inj he).symm⟩
  · exact .inr (.inl ⟨rfl, (Option.some.inj he).symm⟩)
  · exact .inr (.inr ⟨_, rfl, (Option.some.inj he).symm⟩)
  · cases he

theorem range_ok {C : CallF} (hC : CallOk P ρ w0 C) {rng : Nat → Bool} {D : Nat → Option (List Row)} {f : Operand} {ps : Array Tmp} {asg body : Code} (hps : ∀ i ∈ ps.toList, i < N) (hga : ρ.good N D asg) (hgb : ρ.good N D body) :
    RunOk P ρ w0 N rng (cRange C rng D f ps asg body) (.rangeFunc f ps asg body) := by
  intro rd n ds t h out φ a w hr he S
  simp only [cRange, ob_some] at he
  obtain ⟨g, h1, he⟩ := he
  split at he <;> try (simp only [reduceCtorEq] at he)
  rename_i fi first cap
  simp only [guardB_some, new_some, ob2_some] at he
  obtain ⟨h2, hn1, hn2, v, h3, hcall, hend⟩ := he
  obtain ⟨rfl, F, c, k1, k2, k3⟩ := hr fi h2
  have hg := evx_rel h1 S.t
  refine wpIn_rangeFunc fun fn _ => ?_
  have H1 := S.H.new (o := .dfr) (ob' := .deferred (some [])) (sz := 0) hn1 .dfr
  have le1 := S.H.le_ext w.heap.size 0
  have H2 := H1.new (o := .loop D t ps.toList asg body .ready none) (sz := 0)
    (ob' := .loop { state := .ready, pending := none, fn := fn, tmps := a.tmps, params := ps, assign := asg, body := body, defers := w.heap.size }) hn2
    (.loop _ _ _ _ _ _ _ N _ _ _ (fun i => ((S.t i).mono le1).mono (H1.le_ext _ _)) S.n hps hga hgb)
  have le2 := H1.le_ext (wnew w (.deferred (some []))).heap.size 0
  have hgv := (hg.mono le1).mono le2
  generalize hev : a.eval f = uf at hgv
  cases hgv with
  | func _ _ _ fa fc ra rc =>
    rcases hC _ _ _ _ _ hcall with ⟨f', e, hok⟩ | ⟨r, e, _⟩
    · cases e
      have hsz : (wnew w (.deferred (some []))).heap.size = w.heap.size + 1 := by simp [wnew]
      have hyl : VRel ρ ((φ.ext h.next w.heap.size 0).ext (h.newH .dfr).next (wnew w (.deferred (some []))).heap.size 0) (.yield (h.newH .dfr).next) (.func (.yield (w.heap.size + 1)) #[] #[]) :=
        .yield _ _ 0 (by rw [← hsz]; exact Phi.ext_self ..)
      have hargs : VsRel ρ ((φ.ext h.next w.heap.size 0).ext (h.newH .dfr).next (wnew w (.deferred (some []))).heap.size 0) (appL first (appL [.yield (h.newH .dfr).next] cap)) (fa ++ #[Value.func (.yield (w.heap.size + 1)) #[] #[]] ++ fc).toList := by
        have := appL_rel ra (appL_rel (VsRel.single hyl) rc)
        simpa using this
      have hcalls := (hok _ _ _ H2 hargs).calls k1 k2 k3
      refine ⟨w.heap.size + 1, [{ target := .collected w.heap.size, args := #[] }], _, { target := .fn (.func fi) fc, args := fa ++ #[Value.func (.yield (w.heap.size + 1)) #[] #[]] }, _, fi, fa ++ #[Value.func (.yield (w.heap.size + 1)) #[] #[]] ++ fc, _, run_enterLoop_outer .., ?_, fun f' _ => trivial, run_callFunc k1 k2 k3 _, (fun e => by cases e), callsIn_wide.2 (hcalls.mono fun e w3 q => ?_)⟩
      · have hcst : a.eval (.const (.func (.yield (w.heap.size + 1)) #[] #[])) = .func (.yield (w.heap.size + 1)) #[] #[] := rfl
        simp [resolve, rangeCall, hev, Deferred.ofValue, hcst]
        rfl
      · cases e with
        | panicked c => exact q.elim
        | outgrown => exact q.elim
        | returned u =>
          obtain ⟨φ3, g3, r1, r2⟩ := q
          have gg : Grow h h3 φ φ3 := ((S.H.grow (h' := h.newH .dfr) rfl rfl).trans (H1.grow (h := h.newH .dfr) (h' := (h.newH .dfr).newH _) rfl rfl)).trans g3
          have hl3 : φ3 (h.newH .dfr).next = some (w.heap.size + 1, 0) := g3.le _ _ (by rw [← hsz]; exact Phi.ext_self ..)
          have hd3 : φ3 h.next = some (w.heap.size, 0) := g3.le _ _ (le2 _ _ (Phi.ext_self ..))
          simp only [endLoopA, ob_some] at hend
          obtain ⟨o, e1, hend⟩ := hend
          obtain ⟨b, e2, e3⟩ := r2.obj _ _ _ _ e1 hl3
          cases e3 <;> try (simp only [reduceCtorEq] at hend)
          case loop D' t' ps' asg' body' st p N' fn' b' tmps' q1 q2 q3 q4 q5 =>
            simp only [guardB_some] at hend
            obtain ⟨nb, hend⟩ := hend
            have hnb : st ≠ .busy := by intro e; subst e; cases nb
            refine ⟨p, _, run_endLoop e2 hnb, ?_⟩
            have H4 := r2.put (o' := .loop D' t' ps'.toList asg' body' .exhausted p) e1 hl3 (.loop D' t' ps' asg' body' .exhausted p N' fn' b' tmps' q1 q2 q3 q4 q5)
            have S4 : St ρ w0 N ([{ target := .collected w.heap.size, args := #[] }] ++ ds) φ3 t (h3.put (h.newH .dfr).next (.loop D' t' ps'.toList asg' body' .exhausted p)) { a with defers := [{ target := .collected w.heap.size, args := #[] }] ++ a.defers } _ :=
              ⟨H4, S.t.mono gg.le, S.n, by rw [S.d]⟩
            have g4 : Grow h (h3.put (h.newH .dfr).next (.loop D' t' ps'.toList asg' body' .exhausted p)) φ φ3 := gg.trans (.same rfl)
            have mk : MarksRel φ3 [h.next] [{ target := .collected w.heap.size, args := #[] }] := .cons _ _ _ _ ⟨_, _, hd3, rfl⟩ .nil
            rcases jumpA_some hend with ⟨rfl, rfl⟩ | ⟨rfl, rfl⟩ | ⟨id, rfl, rfl⟩
            · exact ⟨trivial, φ3, _, g4, mk, S4⟩
            · exact wpIn_ret ⟨trivial, φ3, _, g4, mk, S4⟩
            · exact wpIn_exit ⟨rfl, φ3, _, g4, mk, S4⟩
    · cases e

theorem codeA_ok (T : TiOk P ti) (hb : BdOk ρ bd) {C : CallF} (hC : CallOk P ρ w0 C) {D : Nat → Option (List Row)} {dr : Nat → Array Oper → List Row → Bool} {rng : Nat → Bool}
    (hD : ∀ id ops rs, dr N ops rs = true → DrawOk P ρ w0 N ti bd C id ops rs) (hG : ∀ N D c, codeOk N D dr c = true → ρ.good N D c) : ∀ c : Code, codeOk N D dr c = true → RunOk P ρ w0 N rng (codeA ti bd C rng D c) c := by
  intro c
  induction c with
  | skip =>
    intro _ rd n ds t h out φ a w hr he S
    cases he
    exact wpIn_skip ⟨trivial, φ, [], .same rfl, .nil, S⟩
  | region id ops draw =>
    intro hc rd n ds t h out φ a w hr he S
    replace he : cRegion ti bd C D id ops draw t h = some out := he
    simp only [cRegion, ob2_some, Option.some.injEq] at he
    obtain ⟨t', h', he, rfl⟩ := he
    cases draw with
    | true =>
      simp only [sel_true, ob_some] at he
      obtain ⟨rs, h1, he⟩ := he
      simp only [codeOk, if_true, h1] at hc
      exact hD id ops rs hc rd n ds t h t' h' φ a w he S
    | false =>
      simp only [sel_false] at he
      simp only [codeOk, Bool.false_eq_true, if_false, List.all_eq_true] at hc
      exact wpIn_region_list (opsA_ok T hb hC hc S he fun φ' a' w' g S' => ⟨trivial, φ', [], g, .nil, S'⟩)
  | seq x y ihx ihy =>
    intro hc rd n ds t h out φ a w hr he S
    simp only [codeOk, Bool.and_eq_true] at hc
    have he : thenA (codeA ti bd C rng D x t h) (codeA ti bd C rng D y) = some out := he
    refine wpIn_seq (thenA_ok hr (ihx hc.1) he S fun φ' t' h' a' w' m new o2 g hm S' he' ho => ?_)
    subst ho
    exact Code.wpIn_mono (fun e a w q => OutQ.pre g hm q) (ihy hc.2 rd n _ t' h' o2 φ' a' w' hr he' S')
  | cond x a1 b1 iha ihb =>
    intro hc rd n ds t h out φ a w hr he S
    simp only [codeOk, Bool.and_eq_true] at hc
    have he : cCond x (codeA ti bd C rng D a1) (codeA ti bd C rng D b1) t h = some out := he
    simp only [cCond, ob_some, onBool_some] at he
    obtain ⟨v, h1, r, rfl, he⟩ := he
    have hr := evx_rel h1 S.t
    generalize hu : a.eval x = u at hr
    cases hr
    cases r with
    | true => exact wpIn_cond_true hu (iha hc.1 rd n ds t h out φ a w hr he S)
    | false => exact wpIn_cond_false hu (ihb hc.2 rd n ds t h out φ a w hr he S)
  | block id x ih =>
    intro hc rd n ds t h out φ a w hr he S
    simp only [codeOk] at hc
    have he : cBlock id (codeA ti bd C rng D x) t h = some out := he
    simp only [cBlock, ob_some] at he
    obtain ⟨o1, h1, he⟩ := he
    refine wpIn_block (Code.wpIn_mono (fun e a' w' q => ?_) (ih hc rd n ds t h o1 φ a w hr h1 S))
    obtain ⟨q1, φ', new, q2, qm, q3⟩ := q
    obtain ⟨oe, ot, oh, om⟩ := o1
    cases oe with
    | normal =>
      cases he
      cases e <;> try simp only at q1
      exact ⟨trivial, φ', new, q2, qm, q3⟩
    | exit i =>
      cases e <;> try simp only at q1
      subst q1
      cases hc' : Nat.beq i id with
      | true =>
        simp only [hc', sel_true, Option.some.injEq] at he
        subst he
        have : i = id := by simpa using hc'
        simp only [Exit.inBlock, this, if_true]
        exact ⟨trivial, φ', new, q2, qm, q3⟩
      | false =>
        simp only [hc', sel_false, Option.some.injEq] at he
        subst he
        have : i ≠ id := by intro e; subst e; simp at hc'
        simp only [Exit.inBlock, this, if_false]
        exact ⟨rfl, φ', new, q2, qm, q3⟩
    | ret =>
      cases he
      cases e <;> try simp only at q1
      exact ⟨trivial, φ', new, q2, qm, q3⟩
  | loop x ih =>
    intro hc rd n ds t h out φ a w hr he S
    simp only [codeOk] at hc
    have he : iter (codeA ti bd C rng D x) mostIter t h = some out := he
    exact wpIn_loop_rounds mostIter (iter_ok hr (ih hc) mostIter he S)
  | rangeFunc f ps asg body _ _ =>
    intro hc rd n ds t h out φ a w hr he S
    simp only [codeOk, Bool.and_eq_true, List.all_eq_true] at hc
    exact range_ok hC (fun i hi => by simpa using hc.1 i hi) (hG _ _ _ hc.2.1) (hG _ _ _ hc.2.2) rd n ds t h out φ a w hr he S
  | exit id =>
    intro _ rd n ds t h out φ a w hr he S
    cases he
    exact wpIn_exit ⟨rfl, φ, [], .same rfl, .nil, S⟩
  | ret =>
    intro _ rd n ds t h out φ a w hr he S
    cases he
    exact wpIn_ret ⟨trivial, φ, [], .same rfl, .nil, S⟩
  | _ => intro _ rd n ds t h out φ a w hr he S; cases he
end
end Go.AI
