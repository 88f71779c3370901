/-
  Every abstract operation is the model's; calls.
-/
import Derived.Test.YthgfmkhpogbonaaGreatDoorAiOp9
import Derived.RangeFuncIn
import Derived.RangeFuncCalls
set_option linter.unusedVariables false
set_option linter.unusedSimpArgs false
namespace Go.AI
section
variable {P : Program} {ρ : Env} {φ : Phi} {w0 w : World} {h h' : AHeap} {ti : Nat → Option ATy} {bd : Bnd}

/-- the ending of a call that returns what is said -/
def RetOk (ρ : Env) (w0 : World) (φ : Phi) (h : AHeap) (v : AV) (h' : AHeap) : Ending → World → Prop
  | .returned u, w' => ∃ φ', Grow h h' φ φ' ∧ VRel ρ φ' v u ∧ HRel ρ w0 φ' h' w'
  | _, _ => False

/-- an operation's step: a value, or a call -/
def NextOk (P : Program) (ρ : Env) (w0 : World) (s : Sem Next) (φ : Phi) (w : World) (h : AHeap) (v : AV) (h' : AHeap) : Prop :=
  OpOk P ρ w0 s φ w h v h' ∨ (∃ f args w', s.run P w = .ok (.enter f args) w' ∧ Calls P f args w' (RetOk ρ w0 φ h v h')) ∨
    ∃ l fn tmps assign body w', s.run P w = .ok (.round l fn tmps assign body) w' ∧ RoundIn Fence.wide 0 P l fn tmps assign body w' (RetOk ρ w0 φ h v h')

/-- calls are the model's -/
def CallOk (P : Program) (ρ : Env) (w0 : World) (C : CallF) : Prop :=
  ∀ fn args h v h', C fn args h = some (v, h') → (∃ f, fn = .func f ∧ ∀ φ w uargs, HRel ρ w0 φ h w → VsRel ρ φ args uargs.toList → NextOk P ρ w0 (callFunc f uargs) φ w h v h') ∨
    ∃ r, fn = .yield r ∧ ∀ φ w uargs blk sz, φ r = some (blk, sz) → HRel ρ w0 φ h w → VsRel ρ φ args uargs.toList → NextOk P ρ w0 (Instr.yield blk uargs) φ w h v h'

theorem NextOk.bind {α : Type} {s : Sem α} {K : α → Sem Next} {x : α} (hs : s.run P w = .ok x w) {v : AV} (H : NextOk P ρ w0 (K x) φ w h v h') : NextOk P ρ w0 (s >>= K) φ w h v h' := by
  rcases H with ⟨φ', w', r, h1, h2⟩ | ⟨f, args, w', h1, h2⟩ | ⟨l, fn, tmps, assign, body, w', h1, h2⟩
  · exact .inl ⟨φ', w', r, by rw [Sem.run_bind, hs]; exact h1, h2⟩
  · exact .inr (.inl ⟨f, args, w', by rw [Sem.run_bind, hs]; exact h1, h2⟩)
  · exact .inr (.inr ⟨l, fn, tmps, assign, body, w', by rw [Sem.run_bind, hs]; exact h1, h2⟩)

theorem arg0_some {α β : Type} {l : List α} {K : α → List α → Option β} {r : β} : arg0 l K = some r ↔ ∃ x m, l = x :: m ∧ K x m = some r := by
  cases l with
  | nil => simp [arg0]
  | cons x m =>
    constructor
    · intro h; exact ⟨x, m, rfl, h⟩
    · rintro ⟨y, n, h, h'⟩; cases h; exact h'
theorem nil0_some {α β : Type} {l : List α} {o : Option β} {r : β} : nil0 l o = some r ↔ l = [] ∧ o = some r := by
  cases l with
  | nil => simp [nil0]
  | cons x m => simp [nil0]

theorem builtinA_ok (T : TiOk P ti) {b : Builtin} {at1 : Array TypeId} {ty : TypeId} {consts : Array Bool} {args : List AV} {us : Array Value} {v : AV} (H : HRel ρ w0 φ h w) (hx : VsRel ρ φ args us.toList)
    (he : builtinA ti b at1.toList args h = some (v, h')) : OpOk P ρ w0 (builtin b at1 ty consts us) φ w h v h' := by
  simp only [builtinA, arg0_some] at he
  obtain ⟨t, ts, ht, x, xs, rfl, he⟩ := he
  obtain ⟨l⟩ := us
  cases hx with
  | cons _ u _ us hu hus =>
    have h0 : at1[0]? = some t := by rw [← Array.getElem?_toList, ht]; rfl
    cases b <;> simp only [reduceCtorEq, arg0_some, nil0_some] at he
    case len => obtain ⟨rfl, he⟩ := he; cases hus; exact .of_val (lenA_ok T H hu h0 he)
    case cap => obtain ⟨rfl, he⟩ := he; cases hus; exact .of_val (capA_ok T H hu h0 he)
    case clear => obtain ⟨rfl, he⟩ := he; cases hus; exact .of_val (clearA_ok T H hu h0 he)
    case copy =>
      obtain ⟨y, ys, rfl, rfl, he⟩ := he
      cases hus with | cons _ u2 _ us hu2 hus => cases hus; exact .of_val (copyA_ok T H hu hu2 h0 he)
    case delete =>
      obtain ⟨y, ys, rfl, rfl, he⟩ := he
      cases hus with | cons _ u2 _ us hu2 hus => cases hus; exact .of_val (deleteA_ok T _ _ H hu hu2 h0 he)
    case append =>
      obtain ⟨t1, ts', rfl, y, ys, rfl, rfl, he⟩ := he
      have h1 : at1[1]? = some t1 := by rw [← Array.getElem?_toList, ht]; rfl
      cases hus with | cons _ u2 _ us hu2 hus => cases hus; exact .of_val (appendA_ok T H hu hu2 h0 h1 he)
    case max =>
      simp only [ob_some, rOk_some, Prod.mk.injEq] at he
      obtain ⟨r, h1, rfl, rfl⟩ := he
      obtain ⟨u2, h2, h3⟩ := foldA_ok (P := P) (fun hx hy he => max2_ok hx hy he) hus hu h1
      refine .of_val (.pure H (u := u2) ?_ h3)
      simp only [Builtin.max_]; exact h2 w
    case min =>
      simp only [ob_some, rOk_some, Prod.mk.injEq] at he
      obtain ⟨r, h1, rfl, rfl⟩ := he
      obtain ⟨u2, h2, h3⟩ := foldA_ok (P := P) (fun hx hy he => min2_ok hx hy he) hus hu h1
      refine .of_val (.pure H (u := u2) ?_ h3)
      simp only [Builtin.min_]; exact h2 w

theorem appL_rel {a b : List AV} {l m : List Value} (h : VsRel ρ φ a l) (h' : VsRel ρ φ b m) : VsRel ρ φ (appL a b) (l ++ m) := by rw [appL_eq]; exact h.append h'

theorem calleeA_ok {C : CallF} (hC : CallOk P ρ w0 C) {f : AV} {uf : Value} {args : List AV} {uargs : Array Value} {v : AV} (H : HRel ρ w0 φ h w) (hf : VRel ρ φ f uf) (hx : VsRel ρ φ args uargs.toList)
    (he : calleeA C f args h = some (v, h')) : NextOk P ρ w0 (do let d ← Deferred.ofValue uf uargs; invoke d.target d.args) φ w h v h' := by
  unfold calleeA at he
  split at he
  · rename_i fi first cap
    rcases hC _ _ _ _ _ he with ⟨f', e, hok⟩ | ⟨r, e, hok⟩
    · cases e
      cases hf with
      | func _ _ _ fa fc ra rc =>
        refine .bind (x := { target := .fn (.func fi) fc, args := fa ++ uargs }) (by simp [Deferred.ofValue]) ?_
        refine hok φ w _ H ?_
        have := appL_rel ra (appL_rel hx rc)
        simpa using this
    · cases e
  · rename_i r
    rcases hC _ _ _ _ _ he with ⟨fi, e, hok⟩ | ⟨r', e, hok⟩
    · cases e
    · cases e
      cases hf with
      | yield _ blk sz hr =>
        refine .bind (x := { target := .fn (.yield blk) #[], args := #[] ++ uargs }) (by simp [Deferred.ofValue]) ?_
        refine hok φ w _ blk sz hr H ?_
        simpa using hx
  · cases he

theorem oCall_ok (T : TiOk P ti) {C : CallF} (hC : CallOk P ρ w0 C) {c : Call} {ty : TypeId} {t : Tm} {a : Act} {v : AV} (H : HRel ρ w0 φ h w) (ht : TRel ρ φ t a.tmps) (he : oCall ti C c t h = some (v, h')) :
    NextOk P ρ w0 (do let d ← resolve a.eval c ty; invoke d.target d.args) φ w h v h' := by
  simp only [oCall, ob_some, oCallee] at he
  obtain ⟨args, h1, he⟩ := he
  have hargs := evxs_rel h1 ht
  have hargs' : VsRel ρ φ args (c.args.map a.eval).toList := by rw [Array.toList_map]; exact hargs
  split at he
  · rename_i b hc
    simp only [resolve, hc]
    refine NextOk.bind (Sem.run_pure ..) ?_
    exact .inl (builtinA_ok T H hargs' he)
  · rename_i f hc
    simp only [ob_some] at he
    obtain ⟨u, h2, he⟩ := he
    have := calleeA_ok hC H (evx_rel h2 ht) hargs' he
    simpa only [resolve, hc] using this
  · cases he

theorem opA_ok (T : TiOk P ti) (hb : BdOk ρ bd) {C : CallF} (hC : CallOk P ρ w0 C) {o : Oper} {t : Tm} {a : Act} {v : AV} (H : HRel ρ w0 φ h w) (ht : TRel ρ φ t a.tmps) (he : opA ti bd C o.op t h = some (v, h')) :
    NextOk P ρ w0 (execOp a.eval o) φ w h v h' := by
  cases hop : o.op <;> rw [hop] at he <;> simp only [execOp, hop]
  case move x => exact .inl (oMove_ok H ht he)
  case assign x => exact .inl (oMove_ok H ht he)
  case pick => exact .inl (oPick_ok H ht he)
  case alloc => exact .inl (.of_val (oAlloc_ok (t := t) T H he))
  case box => exact .inl (.of_val (oBox_ok H ht he))
  case build => exact .inl (.of_val (oBuild_ok T H ht he))
  case buildSlice => exact .inl (.of_val (oBuildSlice_ok T H ht he))
  case load => exact .inl (.of_val (oLoad_ok T H ht he))
  case store => obtain ⟨rfl, he2⟩ := oStore_ok (P := P) T H ht he; exact .inl (.of_unit he2)
  case nilCheck x =>
    obtain ⟨h1, rfl, h2⟩ := oNil_ok H ht he
    rcases h2 with ⟨a', h2⟩ | ⟨f, p, q, h2⟩ | ⟨l, h2⟩
    · rw [h2] at h1 ⊢; exact .inl (.pure H h1)
    · rw [h2] at h1 ⊢; exact .inl (.pure H h1)
    · rw [h2] at h1 ⊢; exact .inl (.pure H h1)
  case binOp => exact .inl (.of_val (oBin_ok T hb H ht he))
  case unOp => exact .inl (.of_val (oUn_ok H ht he))
  case convert => exact .inl (.of_val (oConv_ok T H ht he))
  case makeInterface => exact .inl (.of_val (oIface_ok T H ht he))
  case makeFunc => exact .inl (.of_val (oFunc_ok H ht he))
  case makeMap ty r =>
    cases r with
    | none => exact .inl (.of_val (oMap_ok (t := t) H he))
    | some r => cases he
  case makeSlice => exact .inl (.of_val (oMakeSlice_ok T H ht he))
  case slice => exact .inl (.of_val (oSlice_ok T H ht he))
  case fieldAddr => exact .inl (.of_val (oFieldAddr_ok T H ht he))
  case field => exact .inl (.of_val (oField_ok T H ht he))
  case indexAddr => exact .inl (.of_val (oIndexAddr_ok T H ht he))
  case index => exact .inl (.of_val (oIndex_ok T H ht he))
  case lookup ty m k ok =>
    have he : oLookup ti ty m k ok t h = some (v, h') := he
    simp only [oLookup, ob_some] at he
    obtain ⟨m', h1, k', h2, he⟩ := he
    exact .inl (.of_val (lookupA_ok T H (evx_rel h1 ht) (evx_rel h2 ht) he))
  case mapUpdate ty m k x =>
    have he : oUpdate ti ty m k x t h = some (v, h') := he
    simp only [oUpdate, ob_some] at he
    obtain ⟨m', h1, k', h2, x', h3, he⟩ := he
    obtain ⟨rfl, he2⟩ := updateA_ok (P := P) T H (evx_rel h1 ht) (evx_rel h2 ht) (evx_rel h3 ht) he
    exact .inl (.of_unit he2)
  case insert ty m k x =>
    have he : oUpdate ti ty m k x t h = some (v, h') := he
    simp only [oUpdate, ob_some] at he
    obtain ⟨m', h1, k', h2, x', h3, he⟩ := he
    obtain ⟨rfl, he2⟩ := updateA_ok (P := P) T H (evx_rel h1 ht) (evx_rel h2 ht) (evx_rel h3 ht) he
    exact .inl (.of_unit he2)
  case range ty x =>
    have he : oRange ti ty x t h = some (v, h') := he
    simp only [oRange, ob_some] at he
    obtain ⟨x', h1, he⟩ := he
    exact .inl (.of_val (rangeA_ok T H (evx_rel h1 ht) he))
  case next it s =>
    have he : oNext it s t h = some (v, h') := he
    simp only [oNext, ob_some] at he
    obtain ⟨x', h1, he⟩ := he
    exact .inl (.of_val (nextA_ok H (evx_rel h1 ht) he))
  case entry it =>
    have he : oEntry it t h = some (v, h') := he
    simp only [oEntry, ob_some] at he
    obtain ⟨x', h1, he⟩ := he
    exact .inl (.of_val (entryA_ok H (evx_rel h1 ht) he))
  case extract => exact .inl (.of_val (oExtract_ok H ht he))
  case call => exact oCall_ok T hC H ht he
  all_goals cases he

theorem opA_notDefer {C : CallF} {o : Op} {t : Tm} {v : AV} (he : opA ti bd C o t h = some (v, h')) : ∀ c, o ≠ .defer c := by
  intro c e
  rw [e] at he; cases he
end
end Go.AI
