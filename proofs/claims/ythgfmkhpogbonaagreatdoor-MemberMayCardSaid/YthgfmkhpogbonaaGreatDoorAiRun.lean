/-
  Calls of the abstract machine are the model's.
-/
import Derived.Test.YthgfmkhpogbonaaGreatDoorAiCode
import Derived.RangeFuncLeaves
set_option linter.unusedVariables false
set_option linter.unusedSimpArgs false
namespace Go.AI
section
variable {P : Program} {ρ : Env} {φ : Phi} {w0 w : World} {h h' : AHeap} {ti : Nat → Option ATy} {bd : Bnd} {N : Nat} {ds : List Deferred}

theorem resV_ok (T : TiOk P ti) {t : Tm} {a : Act} {r : ResultVar} {v : AV} (S : St ρ w0 N ds φ t h a w) (he : resV ti t h r = some v) :
    ∃ u, (match r with | .tmp i => pure (a.tmps.getD i undef) | .cell i ty => do loadVar ty (← asAddr (a.tmps.getD i undef)) : Sem Value).run P w = .ok u w ∧ VRel ρ φ v u := by
  cases r with
  | tmp i => cases he; exact ⟨_, rfl, S.t i⟩
  | cell i ty =>
    simp only [resV, ob_some, onPtr_some] at he
    obtain ⟨aty, h1, b, o, h2, h3⟩ := he
    have hr := S.t i
    rw [h2] at hr
    obtain ⟨ad, u, hz, h4, h5⟩ := loadA_run T S.H h1 hr h3
    exact ⟨u, by simp only [hz, asAddr, Sem.run_bind, Sem.run_pure, Result.andThen_ok, h4], h5⟩

theorem resA_ok (T : TiOk P ti) {t : Tm} {a : Act} : ∀ {l : List ResultVar} {vs : List AV}, St ρ w0 N ds φ t h a w → resA ti t h l = some vs →
    ∃ us, (l.mapM fun r => (match r with | .tmp i => pure (a.tmps.getD i undef) | .cell i ty => do loadVar ty (← asAddr (a.tmps.getD i undef)) : Sem Value)).run P w = .ok us w ∧ VsRel ρ φ vs us := by
  intro l
  induction l with
  | nil => intro vs S he; cases he; exact ⟨[], rfl, .nil⟩
  | cons r l ih =>
    intro vs S he
    have he : (ob (resV ti t h r) fun v => ob (resA ti t h l) fun l => some (v :: l)) = some vs := he
    simp only [ob_some, Option.some.injEq] at he
    obtain ⟨v, h1, l', h2, rfl⟩ := he
    obtain ⟨u, k1, k2⟩ := resV_ok T S h1
    obtain ⟨us, k3, k4⟩ := ih S h2
    refine ⟨u :: us, ?_, .cons _ _ _ _ k2 k4⟩
    rw [List.mapM_cons]
    simp only [Sem.run_bind, k1, Result.andThen_ok, k3, Sem.run_pure]

theorem results_ok (T : TiOk P ti) {F : Func} {t : Tm} {a : Act} {l : List AV} (S : St ρ w0 N ds φ t h a w) (he : resA ti t h F.results.toList = some l) :
    ∃ u, (results F a.tmps).run P w = .ok u w ∧ VRel ρ φ (one l) u := by
  obtain ⟨us, h1, h2⟩ := resA_ok T S he
  have hm : (F.results.mapM fun | .tmp i => pure (a.tmps.getD i undef) | .cell i ty => do loadVar ty (← asAddr (a.tmps.getD i undef)) : Sem (Array Value)).run P w = .ok us.toArray w := by
    rw [Array.mapM_eq_mapM_toList, Sem.run_map]
    rw [h1]; rfl
  have hr : (results F a.tmps).run P w = .ok (if h : us.toArray.size = 1 then us.toArray[0] else .tuple us.toArray) w := by
    rw [results, Sem.run_bind]
    exact (congrArg (fun r => Result.andThen r _) hm).trans rfl
  refine ⟨_, hr, ?_⟩
  cases h2 with
  | nil => exact .tup [] _ .nil
  | cons v u l m hv hl =>
    cases hl with
    | nil => exact hv
    | cons v2 u2 l m hv2 hl => exact .tup _ _ (.cons _ _ _ _ hv (.cons _ _ _ _ hv2 hl))

theorem tmOf_rel {args : List AV} {us : Array Value} (h : VsRel ρ φ args us.toList) (n : Nat) : TRel ρ φ (tmOf args) (us ++ Array.replicate n undef) := by
  intro i
  unfold tmOf
  rw [nth_eq]
  have hl := h.length
  cases hc : args[i]? with
  | none =>
    have : ¬ i < us.size := by
      intro hlt; rw [List.getElem?_eq_none_iff] at hc; simp at hl; omega
    have e : (us ++ Array.replicate n undef).getD i undef = undef := by
      simp only [Array.getD_eq_getD_getElem?]
      rw [Array.getElem?_append_right (by omega)]
      cases hx : (Array.replicate n undef)[i - us.size]? with
      | none => rfl
      | some x => rw [Array.getElem?_replicate] at hx; split at hx <;> cases hx; rfl
    rw [e]; exact undef_rel
  | some v =>
    obtain ⟨u, h1, h2⟩ := h.get hc
    have hu : us[i]? = some u := by simpa using h1
    have hlt : i < us.size := (Array.getElem?_eq_some_iff.1 hu).1
    have e : (us ++ Array.replicate n undef).getD i undef = u := by
      simp only [Array.getD_eq_getD_getElem?]
      rw [Array.getElem?_append_left hlt, hu]; rfl
    rw [e]; exact h2

/-- what is asked of a table of functions -/
def fnOk (P : Program) (dr : Nat → Array Oper → List Row → Bool) (f : Nat) (F : FnA) : Prop :=
  P.funcs[f]? = some F.F ∧ (F.F.name == "runtime.NumGoroutine") = false ∧ ∀ c, F.F.body = some c → codeOk F.F.ntmps F.D.get dr c = true

/-- what is asked of an oracle: what it answers, the model answers -/
def OrcOk (P : Program) (ρ : Env) (w0 : World) (fns : Nat → Option FnA) (orc : Nat → List AV → AHeap → Option (AV × AHeap)) : Prop :=
  ∀ f args h v h', fns f = none → orc f args h = some (v, h') → ∀ φ w uargs, HRel ρ w0 φ h w → VsRel ρ φ args uargs.toList → NextOk P ρ w0 (callFunc f uargs) φ w h v h'

/-- a block whose name is struck may become anything -/
theorem HRel.shut (H : HRel ρ w0 φ h w) {i blk sz : Nat} {o : AObj} (hg : h.get i = some o) (hi : φ i = some (blk, sz)) (ob' : Obj) : HRel ρ w0 φ (h.kill i) (wput w blk ob') := by
  have hle := H.id_le hi
  obtain ⟨h1, h2, h3⟩ := H.dom _ _ _ hi
  have K := H.kill hi
  refine ⟨by simp [wput]; exact K.size, fun b hb => ?_, K.next, fun j bj sj hj => ?_, K.inj, fun j oj bj sj hj pj => ?_⟩
  · simp only [wput]
    rw [Array.getElem?_setIfInBounds_ne (by omega)]; exact H.base b hb
  · have := K.dom _ _ _ hj; simp only [wput, Array.size_setIfInBounds]; exact this
  · obtain ⟨b, k1, k2⟩ := K.obj _ _ _ _ hj pj
    refine ⟨b, ?_, k2⟩
    have hne : blk ≠ bj := by
      intro e; subst e
      rw [get_kill _ _ _ hle] at hj
      by_cases ej : j = i
      · rw [if_pos ej] at hj; cases hj
      · rw [if_neg ej] at hj
        exact ej (H.inj j i _ _ _ (by rw [hj]; simp) (by rw [hg]; simp) pj hi)
    simp only [wput]; rw [Array.getElem?_setIfInBounds_ne hne]; exact k1

theorem leave_ok {F : Func} {tmps : Array Value} {R : Ending → World → Prop} : ∀ {m : List Nat} {ds : List Deferred} {h h' : AHeap} {w : World}, MarksRel φ m ds → HRel ρ w0 φ h w → shutA m h = some h' →
    (∀ w', HRel ρ w0 φ h' w' → h'.next = h.next → ∃ v, (results F tmps).run P w' = .ok v w' ∧ R (.returned v) w') → LeavesInM Fence.wide 0 P F tmps R ds .returning w := by
  intro m
  induction m with
  | nil =>
    intro ds h h' w hm H he hK
    cases hm
    cases he
    exact hK w H rfl
  | cons d m ih =>
    intro ds h h' w hm H he hK
    cases hm with
    | cons _ d' _ l hd hm =>
      obtain ⟨blk, sz, k1, rfl⟩ := hd
      have he : (ob (h.get d) fun o => match o with | .dfr => shutA m (h.kill d) | _ => none) = some h' := he
      simp only [ob_some] at he
      obtain ⟨o, k2, he⟩ := he
      split at he
      · obtain ⟨b, k3, k4⟩ := H.obj _ _ _ _ k2 k1
        cases k4
        refine ⟨by simp, .inl ⟨blk, w.putObj blk (.deferred none), rfl, run_takeDeferred k3, ?_⟩⟩
        exact ih hm (H.shut k2 k1 (.deferred none)) he fun w' H' e => hK w' H' (by rw [e]; rfl)
      · cases he

theorem onLoop_some {β : Type} {l : Nat} {K : (Nat → Option (List Row)) → Tm → List Nat → Code → Code → LoopState → Option Code → Option β} {r : β} :
    onLoop h l K = some r ↔ ∃ D t ps asg body st p, h.get l = some (.loop D t ps asg body st p) ∧ K D t ps asg body st p = some r := by
  unfold onLoop
  rw [ob_some]
  constructor
  · rintro ⟨o, h1, h2⟩
    split at h2
    · exact ⟨_, _, _, _, _, _, _, h1, h2⟩
    · cases h2
  · rintro ⟨D, t, ps, asg, body, st, p, h1, h2⟩; exact ⟨_, h1, h2⟩

/-- the record of a loop, as the heap has it -/
theorem HRel.loop (H : HRel ρ w0 φ h w) {l blk sz : Nat} {D : Nat → Option (List Row)} {t : Tm} {ps : List Nat} {asg body : Code} {st : LoopState} {p : Option Code} (hl : φ l = some (blk, sz)) (hg : h.get l = some (.loop D t ps asg body st p)) :
    ∃ (N : Nat) (r : Loop), w.heap[blk]? = some (.loop r) ∧ r.state = st ∧ r.params.toList = ps ∧ r.assign = asg ∧ r.body = body ∧ TRel ρ φ t r.tmps ∧ N ≤ r.tmps.size ∧ (∀ i ∈ ps, i < N) ∧ ρ.good N D asg ∧ ρ.good N D body ∧
      ∀ st' p', ORel ρ φ sz (.loop D t ps asg body st' p') (.loop { r with state := st', pending := p' }) := by
  obtain ⟨b, h1, h2⟩ := H.obj _ _ _ _ hg hl
  cases h2 with
  | loop _ _ ps' _ _ _ _ N fn b tmps ht hn hp hg hg' =>
    exact ⟨N, _, h1, rfl, rfl, rfl, rfl, ht, hn, hp, hg, hg', fun st' p' => .loop _ _ _ _ _ _ _ _ _ _ _ ht hn hp hg hg'⟩

theorem putsA_ok : ∀ {ps : List Nat} {vs : List AV} {us : List Value} {t t' : Tm} {tmps : Array Value}, putsA ps vs t = some t' → VsRel ρ φ vs us → TRel ρ φ t tmps → (∀ i ∈ ps, i < N) → N ≤ tmps.size →
    ps.length = us.length ∧ TRel ρ φ t' ((ps.zip us).foldl (fun tmps (t, a) => tmps.setIfInBounds t a) tmps) ∧ N ≤ ((ps.zip us).foldl (fun tmps (t, a) => tmps.setIfInBounds t a) tmps).size := by
  intro ps
  induction ps with
  | nil =>
    intro vs us t t' tmps he hv ht hp hn
    have he : nil0 vs (some t) = some t' := he
    rw [nil0_some] at he
    obtain ⟨rfl, he⟩ := he
    cases he
    cases hv
    exact ⟨rfl, ht, hn⟩
  | cons p ps ih =>
    intro vs us t t' tmps he hv ht hp hn
    have he : arg0 vs (fun v vs => putsA ps vs (putD t v p)) = some t' := he
    rw [arg0_some] at he
    obtain ⟨v, vs', rfl, he⟩ := he
    cases hv with
    | cons _ u _ us hu hv =>
      have := ih (tmps := tmps.setIfInBounds p u) he hv (putA_rel (a := { tmps := tmps, defers := [] }) (dst := some p) (N := N) ht hu hn fun d e => by cases e; exact hp p (by simp)) (fun i hi => hp i (by simp [hi])) (by simp; exact hn)
      exact ⟨by simp [this.1], this.2⟩

theorem endRound_ok (H : HRel ρ w0 φ h w) {l blk sz : Nat} (hl : φ l = some (blk, sz)) {p : Option Code} {v : AV} {h2 : AHeap} (he : endRoundA l h p = some (v, h2)) {h0 : AHeap} {φ0 : Phi} (g : Grow h0 h φ0 φ) :
    ∃ u w', (Instr.endRound blk p).run P w = .ok u w' ∧ RetOk ρ w0 φ0 h0 v h2 (.returned u) w' := by
  simp only [endRoundA, onLoop_some, rOk_some, Prod.mk.injEq] at he
  obtain ⟨D, t, ps, asg, body, st, p0, h1, rfl, rfl⟩ := he
  obtain ⟨N, r, k1, k2, k3, k4, k5, k6, k7, k8, k9, k10, k11⟩ := H.loop hl h1
  refine ⟨_, _, run_endRound p k1, φ, g.trans (.same rfl), .bool _, ?_⟩
  cases p with
  | none => exact H.put h1 hl (k11 .ready none)
  | some c => exact H.put h1 hl (k11 .done (some c))

theorem roundA_ok (T : TiOk P ti) (hb : BdOk ρ bd) {C : CallF} (hC : CallOk P ρ w0 C) {dr : Nat → Array Oper → List Row → Bool}
    (hD : ∀ N id ops rs, dr N ops rs = true → DrawOk P ρ w0 N ti bd C id ops rs) (hG : ∀ N D c, codeOk N D dr c = true ↔ ρ.good N D c) {l : Nat} {args : List AV} {v : AV} (he : roundA ti bd C l args h = some (v, h'))
    {uargs : Array Value} {blk sz : Nat} (hl : φ l = some (blk, sz)) (H : HRel ρ w0 φ h w) (hx : VsRel ρ φ args uargs.toList) : NextOk P ρ w0 (Instr.yield blk uargs) φ w h v h' := by
  simp only [roundA, onLoop_some, ob_some] at he
  obtain ⟨D, t, ps, asg, body, st, p, h1, t1, h2, x, h3, he⟩ := he
  obtain ⟨N, r, k1, k2, k3, k4, k5, k6, k7, k8, k9, k10, k11⟩ := H.loop hl h1
  obtain ⟨p1, p2, p3⟩ := putsA_ok h2 hx k6 k8 k7
  have hsz : uargs.size = r.params.size := by rw [← k3] at p1; simpa using p1.symm
  have hz : (r.params.zip uargs).foldl (fun tmps (t, a) => tmps.setIfInBounds t a) r.tmps = (ps.zip uargs.toList).foldl (fun tmps (t, a) => tmps.setIfInBounds t a) r.tmps := by
    rw [← Array.foldl_toList, Array.toList_zip, k3]
  refine .inr (.inr ⟨blk, r.fn, _, r.assign, r.body, w, run_yield k1 hsz, ?_⟩)
  rw [hz, k4, k5]
  refine roundIn_of_wpIn trivial ?_
  have S : St ρ w0 N [] φ t1 h { tmps := (ps.zip uargs.toList).foldl (fun tmps (t, a) => tmps.setIfInBounds t a) r.tmps, defers := [] } w := ⟨H, p2, p3, rfl⟩
  refine Code.wpIn_mono (fun e a1 w1 q => ?_) (codeA_ok (rng := fun _ => false) T hb hC (hD N) (fun N D c => (hG N D c).1) asg ((hG _ _ _).2 k9) (some blk) 0 [] t1 h x φ _ w .none h3 S)
  obtain ⟨q1, φ1, new, g1, qm, S1⟩ := q
  obtain ⟨xe, xt, xh, xm⟩ := x
  cases xe with
  | exit i => cases he
  | ret => cases he
  | normal =>
    cases e <;> try simp only at q1
    simp only [roundBody, onLoop_some, guardB_some, ob_some] at he
    obtain ⟨D', t', ps', asg', bd', st', p', j1, j2, y, j3, he⟩ := he
    have hl1 : φ1 l = some (blk, sz) := g1.le _ _ hl
    obtain ⟨N', r', i1, i2, i3, i4, i5, i6, i7, i8, i9, i10, i11⟩ := S1.H.loop hl1 j1
    have hst : r'.state = .ready := by rw [i2]; cases st' <;> first | rfl | cases j2
    refine ⟨_, run_beginRound i1 hst, ?_⟩
    have H2 := S1.H.put (o' := .loop D' t' ps' asg' bd' .busy p') j1 hl1 (i11 .busy p')
    have hp' : r'.pending = p' := by
      obtain ⟨b, e1, e2⟩ := S1.H.obj _ _ _ _ j1 hl1
      rw [i1] at e1; cases e1
      cases e2; rfl
    have hr' : ({ r' with state := .busy, pending := p' } : Loop) = { r' with state := .busy } := by rw [← hp']
    rw [hr'] at H2
    have S2 : St ρ w0 N (new ++ []) φ1 xt (xh.put l (.loop D' t' ps' asg' bd' .busy p')) a1 (w1.putObj blk (.loop { r' with state := .busy })) := ⟨H2, S1.t, S1.n, S1.d⟩
    refine Code.wpIn_mono (fun e2 a2 w2 q2 => ?_) (codeA_ok (rng := fun _ => false) T hb hC (hD N) (fun N D c => (hG N D c).1) body ((hG _ _ _).2 k10) (some blk) 0 _ xt _ y φ1 _ _ .none j3 S2)
    obtain ⟨z1, φ2, new2, g2, zm, S3⟩ := q2
    have gg : Grow h y.h φ φ2 := (g1.trans (h'' := xh.put l (.loop D' t' ps' asg' bd' .busy p')) (.same rfl)).trans g2
    have hl2 : φ2 l = some (blk, sz) := g2.le _ _ hl1
    obtain ⟨ye, yt, yh, ym⟩ := y
    cases ye with
    | normal =>
      cases e2 <;> try simp only at z1
      exact endRound_ok S3.H hl2 he gg
    | ret =>
      cases e2 <;> try simp only at z1
      exact endRound_ok S3.H hl2 he gg
    | exit i =>
      cases e2 <;> try simp only at z1
      subst z1
      exact endRound_ok S3.H hl2 he gg

theorem callA_ok (T : TiOk P ti) (hb : BdOk ρ bd) {fns : Nat → Option FnA} {orc : Nat → List AV → AHeap → Option (AV × AHeap)} {dr : Nat → Array Oper → List Row → Bool}
    (hfns : ∀ f F, fns f = some F → fnOk P dr f F) (ho : OrcOk P ρ w0 fns orc)
    (hD : ∀ C, CallOk P ρ w0 C → ∀ N id ops rs, dr N ops rs = true → DrawOk P ρ w0 N ti bd C id ops rs) (hG : ∀ N D c, codeOk N D dr c = true ↔ ρ.good N D c) : ∀ n, CallOk P ρ w0 (callA ti bd fns orc n) := by
  intro n
  induction n with
  | zero => intro fn args h v h' he; cases he
  | succ n ih =>
    intro fn args h v h' he
    have he : callS ti bd fns orc (callA ti bd fns orc n) fn args h = some (v, h') := he
    cases fn with
    | yield l => exact .inr ⟨l, rfl, fun φ w uargs blk sz hl H hx => roundA_ok T hb ih (hD _ ih) hG he hl H hx⟩
    | func f =>
      refine .inl ⟨f, rfl, fun φ w uargs H hx => ?_⟩
      cases hf : fns f with
      | none =>
        simp only [callS, hf] at he
        exact ho f args h v h' hf he φ w uargs H hx
      | some F =>
        simp only [callS, hf] at he
        obtain ⟨k1, k2, k3⟩ := hfns f F hf
        simp only [enterA, ob_some] at he
        obtain ⟨c, h1, out, h2, he⟩ := he
        have hco := k3 c h1
        have hr : RngOk P (rngA fns) none := by
          intro g hg
          unfold rngA at hg
          cases hfg : fns g with
          | none => rw [hfg] at hg; cases hg
          | some G =>
            rw [hfg] at hg
            obtain ⟨g1, g2, _⟩ := hfns g G hfg
            have hg : G.F.body.isSome = true := hg
            obtain ⟨b, hb⟩ := Option.isSome_iff_exists.1 hg
            exact ⟨rfl, G.F, b, g1, g2, hb⟩
        refine .inr (.inl ⟨f, uargs, w, run_callFunc k1 k2 h1 w, ?_⟩)
        refine callsIn_wide.1 (callsIn_of_wp_marks k1 h1 trivial (n := 0) ?_)
        have S : St ρ w0 F.F.ntmps [] φ (tmOf args) h { tmps := uargs ++ Array.replicate (F.F.ntmps - uargs.size) undef, defers := [] } w :=
          ⟨H, tmOf_rel hx _, by simp; omega, rfl⟩
        refine Code.wpIn_mono (fun e a w' q => ?_) (codeA_ok T hb ih (hD _ ih _) (fun N D c => (hG N D c).1) c hco none 0 [] _ _ out φ _ w hr h2 S)
        obtain ⟨q1, φ', new, g, qm, S'⟩ := q
        obtain ⟨oe, ot, oh, om⟩ := out
        have fin : (ob (shutA om oh) fun h => ob (resA ti ot h F.F.results.toList) fun l => rOk (one l) h) = some (v, h') → LeavesInM Fence.wide 0 P F.F a.tmps (RetOk ρ w0 φ h v h') a.defers .returning w' := by
          intro he
          simp only [ob_some, rOk_some, Prod.mk.injEq] at he
          obtain ⟨h2, e1, l, e2, rfl, rfl⟩ := he
          have hd := S'.d
          rw [List.append_nil] at hd
          rw [hd]
          refine leave_ok qm S'.H e1 fun w2 H2 en => ?_
          have S2 : St ρ w0 F.F.ntmps (new ++ []) φ' ot h2 a w2 := ⟨H2, S'.t, S'.n, S'.d⟩
          obtain ⟨u, h4, h5⟩ := results_ok T S2 e2
          exact ⟨u, h4, φ', g.trans (.same en), h5, H2⟩
        cases oe with
        | exit i => cases he
        | normal =>
          cases e <;> try simp only at q1
          exact fin he
        | ret =>
          cases e <;> try simp only at q1
          exact fin he
    | _ => cases he
end
end Go.AI
