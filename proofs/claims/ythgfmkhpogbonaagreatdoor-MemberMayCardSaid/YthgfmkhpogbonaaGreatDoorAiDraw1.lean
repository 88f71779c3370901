/-
  Abstract operations: they look at their operands alone; which ones leave the heap as it is; which ones do not look at it.
-/
import Derived.Test.YthgfmkhpogbonaaGreatDoorAiRun
set_option linter.unusedVariables false
set_option linter.unusedSimpArgs false
namespace Go.AI
section
variable {ti : Nat → Option ATy} {bd : Bnd} {h h' : AHeap}

theorem evxs_congr {t t' : Tm} : ∀ {l : List Operand}, (∀ x ∈ l, evx x t = evx x t') → evxs l t = evxs l t'
  | [], _ => rfl
  | x :: l, hx => by
    have e1 := hx x (by simp)
    have e2 := evxs_congr (l := l) fun y hy => hx y (by simp [hy])
    show (ob (evx x t) fun a => ob (evxs l t) fun r => some (a :: r)) = (ob (evx x t') fun a => ob (evxs l t') fun r => some (a :: r))
    rw [e1, e2]
theorem partsA_congr {t t' : Tm} : ∀ {l : List (Nat × Operand)}, (∀ x ∈ l, evx x.2 t = evx x.2 t') → partsA t l = partsA t' l
  | [], _ => rfl
  | p :: l, hx => by
    have e1 := hx p (by simp)
    have e2 := partsA_congr (l := l) fun y hy => hx y (by simp [hy])
    show (ob (evx p.2 t) fun v => ob (partsA t l) fun r => some ((p.1, v) :: r)) = (ob (evx p.2 t') fun v => ob (partsA t' l) fun r => some ((p.1, v) :: r))
    rw [e1, e2]
theorem optA_congr {β : Type} {t t' : Tm} {x : Option Operand} {K : Option AV → Option β} (hx : ∀ y, x = some y → evx y t = evx y t') : optA t x K = optA t' x K := by
  cases x with
  | none => rfl
  | some y => simp only [optA, hx y rfl]

theorem opA_congr {C : CallF} {t t' : Tm} {o : Op} (hx : ∀ x ∈ o.operands, evx x t = evx x t') : opA ti bd C o t h = opA ti bd C o t' h := by
  cases o
  case build ty ps =>
    show oBuild ti ty ps t h = oBuild ti ty ps t' h
    simp only [oBuild]
    rw [partsA_congr fun x hm => hx x.2 (by simp only [Op.operands, List.mem_toArray, List.mem_map]; exact ⟨x, hm, rfl⟩)]
  case buildSlice ty n ps =>
    show oBuildSlice ti ty n ps t h = oBuildSlice ti ty n ps t' h
    simp only [oBuildSlice]
    rw [partsA_congr fun x hm => hx x.2 (by simp only [Op.operands, List.mem_toArray, List.mem_map]; exact ⟨x, hm, rfl⟩)]
  case makeFunc fn p q =>
    show oFunc fn p q t h = oFunc fn p q t' h
    simp only [oFunc]
    rw [evxs_congr fun x hm => hx x (by simp only [Op.operands]; simp at hm; simp [hm]), evxs_congr fun x hm => hx x (by simp only [Op.operands]; simp at hm; simp [hm])]
  case call c =>
    show oCall ti C c t h = oCall ti C c t' h
    simp only [oCall]
    rw [evxs_congr fun x hm => hx x (by simp only [Op.operands, Call.operands]; simp at hm; simp [hm])]
    congr 1
    funext args
    simp only [oCallee]
    cases hc : c.callee with
    | value f => simp only [hx f (by simp [Op.operands, Call.operands, hc])]
    | _ => rfl
  case slice ty x lo hi mx =>
    show oSlice ti ty x lo hi mx t h = oSlice ti ty x lo hi mx t' h
    simp only [oSlice]
    rw [hx x (by simp [Op.operands])]
    congr 1
    funext v
    rw [optA_congr fun y e => hx y (by simp [Op.operands, e])]
    congr 1
    funext lo'
    rw [optA_congr fun y e => hx y (by simp [Op.operands, e])]
    congr 1
    funext hi'
    rw [optA_congr fun y e => hx y (by simp [Op.operands, e])]
  case makeMap ty r => cases r <;> rfl
  case pick c a b =>
    show oPick c a b t h = oPick c a b t' h
    simp only [oPick, oMove, hx c (by simp [Op.operands]), hx a (by simp [Op.operands]), hx b (by simp [Op.operands])]
  case alloc => rfl
  case ready => rfl
  case waits => rfl
  case move x => show oMove x t h = oMove x t' h; simp only [oMove, hx x (by simp [Op.operands])]
  case assign x => show oMove x t h = oMove x t' h; simp only [oMove, hx x (by simp [Op.operands])]
  case box ty x => show oBox x t h = oBox x t' h; simp only [oBox, hx x (by simp [Op.operands])]
  case load ty x => show oLoad ti ty x t h = oLoad ti ty x t' h; simp only [oLoad, hx x (by simp [Op.operands])]
  case nilCheck x => show oNil x t h = oNil x t' h; simp only [oNil, hx x (by simp [Op.operands])]
  case unOp op ty x => show oUn op x t h = oUn op x t' h; simp only [oUn, hx x (by simp [Op.operands])]
  case convert s d x => show oConv ti s d x t h = oConv ti s d x t' h; simp only [oConv, hx x (by simp [Op.operands])]
  case makeInterface ty x => show oIface ti ty x t h = oIface ti ty x t' h; simp only [oIface, hx x (by simp [Op.operands])]
  case fieldAddr s x f => show oFieldAddr ti s x f t h = oFieldAddr ti s x f t' h; simp only [oFieldAddr, hx x (by simp [Op.operands])]
  case field s x f => show oField ti s x f t h = oField ti s x f t' h; simp only [oField, hx x (by simp [Op.operands])]
  case range ty x => show oRange ti ty x t h = oRange ti ty x t' h; simp only [oRange, hx x (by simp [Op.operands])]
  case next x b => show oNext x b t h = oNext x b t' h; simp only [oNext, hx x (by simp [Op.operands])]
  case entry x => show oEntry x t h = oEntry x t' h; simp only [oEntry, hx x (by simp [Op.operands])]
  case extract x i => show oExtract x i t h = oExtract x i t' h; simp only [oExtract, hx x (by simp [Op.operands])]
  case store ty a v => show oStore ti ty a v t h = oStore ti ty a v t' h; simp only [oStore, hx a (by simp [Op.operands]), hx v (by simp [Op.operands])]
  case binOp op ty a v vt => show oBin ti bd op ty a v t h = oBin ti bd op ty a v t' h; simp only [oBin, hx a (by simp [Op.operands]), hx v (by simp [Op.operands])]
  case makeSlice ty a v => show oMakeSlice ti ty a v t h = oMakeSlice ti ty a v t' h; simp only [oMakeSlice, hx a (by simp [Op.operands]), hx v (by simp [Op.operands])]
  case indexAddr ty a v => show oIndexAddr ti ty a v t h = oIndexAddr ti ty a v t' h; simp only [oIndexAddr, hx a (by simp [Op.operands]), hx v (by simp [Op.operands])]
  case index ty a v => show oIndex ti ty a v t h = oIndex ti ty a v t' h; simp only [oIndex, hx a (by simp [Op.operands]), hx v (by simp [Op.operands])]
  case lookup ty a v ok => show oLookup ti ty a v ok t h = oLookup ti ty a v ok t' h; simp only [oLookup, hx a (by simp [Op.operands]), hx v (by simp [Op.operands])]
  case mapUpdate ty m k v => show oUpdate ti ty m k v t h = oUpdate ti ty m k v t' h; simp only [oUpdate, hx m (by simp [Op.operands]), hx k (by simp [Op.operands]), hx v (by simp [Op.operands])]
  case insert ty m k v => show oUpdate ti ty m k v t h = oUpdate ti ty m k v t' h; simp only [oUpdate, hx m (by simp [Op.operands]), hx k (by simp [Op.operands]), hx v (by simp [Op.operands])]
  all_goals rfl

def intDst (ti : Nat → Option ATy) (d : Nat) : Bool := match ti d with | some ty => ty.k.isInt | none => false
def strDst (ti : Nat → Option ATy) (d : Nat) : Bool := match ti d with | some ty => ty.k.isStr | none => false
/-- they do not look at the heap -/
def pureOp (ti : Nat → Option ATy) : Op → Bool
  | .convert _ d _ => intDst ti d
  | .move _ | .assign _ | .pick .. | .nilCheck _ | .unOp .. | .binOp .. | .makeInterface .. | .makeFunc .. | .fieldAddr .. | .field .. | .indexAddr .. | .index .. | .extract .. | .build .. => true
  | _ => false
/-- they leave the heap as it is -/
def readOp (ti : Nat → Option ATy) : Op → Bool
  | .convert _ d _ => intDst ti d || strDst ti d
  | .load .. | .lookup .. | .slice .. => true
  | .call c => match c.callee with
    | .builtin .len | .builtin .cap | .builtin .max | .builtin .min => true
    | _ => false
  | o => pureOp ti o

theorem move_any {x : Operand} {t : Tm} {v : AV} (he : oMove x t h = some (v, h')) : h' = h ∧ ∀ h2, oMove x t h2 = some (v, h2) := by
  simp only [oMove, ob_some, rOk_some, Prod.mk.injEq] at he ⊢
  obtain ⟨a, h1, rfl, rfl⟩ := he
  exact ⟨rfl, fun h2 => ⟨_, h1, rfl, trivial⟩⟩

theorem pureOp_any {C : CallF} {t : Tm} {o : Op} {v : AV} (hp : pureOp ti o = true) (he : opA ti bd C o t h = some (v, h')) : h' = h ∧ ∀ h2, opA ti bd C o t h2 = some (v, h2) := by
  cases o
  case convert sT d x =>
    replace he : oConv ti sT d x t h = some (v, h') := he
    show h' = h ∧ ∀ h2, oConv ti sT d x t h2 = some (v, h2)
    simp only [oConv, convA, ob_some] at he ⊢
    obtain ⟨u, h1, as, h2, ad, h3, he⟩ := he
    have hk : intDst ti d = true := hp
    simp only [intDst, h3] at hk
    obtain ⟨k, hk'⟩ : ∃ k, ad.k = .int k := by cases hty : ad.k <;> rw [hty] at hk <;> first | exact ⟨_, rfl⟩ | cases hk
    rw [hk'] at he
    have he : (u.onInt fun _ n => rOk (.int k (wrapA k n)) h) = some (v, h') := by
      cases hs : as.k <;> rw [hs] at he <;> exact he
    simp only [onInt_some, rOk_some, Prod.mk.injEq] at he
    obtain ⟨k', n, rfl, rfl, rfl⟩ := he
    refine ⟨rfl, fun h2' => ⟨_, h1, as, h2, ad, h3, ?_⟩⟩
    rw [hk']
    have : (AV.onInt (.int k' n) fun _ n => rOk (AV.int k (wrapA k n)) h2') = some (AV.int k (wrapA k n), h2') := rfl
    cases hs : as.k <;> exact this
  all_goals try cases hp
  case move x => exact move_any he
  case assign x => exact move_any he
  case pick c a b =>
    replace he : oPick c a b t h = some (v, h') := he
    show h' = h ∧ ∀ h2, oPick c a b t h2 = some (v, h2)
    simp only [oPick, ob_some, onBool_some] at he ⊢
    obtain ⟨u, h1, r, rfl, he⟩ := he
    cases r with
    | true => obtain ⟨e1, e2⟩ := move_any he; exact ⟨e1, fun h2 => ⟨_, h1, _, rfl, e2 h2⟩⟩
    | false => obtain ⟨e1, e2⟩ := move_any he; exact ⟨e1, fun h2 => ⟨_, h1, _, rfl, e2 h2⟩⟩
  case nilCheck x =>
    replace he : oNil x t h = some (v, h') := he
    show h' = h ∧ ∀ h2, oNil x t h2 = some (v, h2)
    simp only [oNil, ob_some] at he ⊢
    obtain ⟨u, h1, he⟩ := he
    split at he
    · simp only [rOk_some, Prod.mk.injEq] at he; obtain ⟨rfl, rfl⟩ := he; exact ⟨rfl, fun h2 => ⟨_, h1, rfl⟩⟩
    · simp only [rOk_some, Prod.mk.injEq] at he; obtain ⟨rfl, rfl⟩ := he; exact ⟨rfl, fun h2 => ⟨_, h1, rfl⟩⟩
    · simp only [rOk_some, Prod.mk.injEq] at he; obtain ⟨rfl, rfl⟩ := he; exact ⟨rfl, fun h2 => ⟨_, h1, rfl⟩⟩
    · cases he
  case unOp op ty x =>
    replace he : oUn op x t h = some (v, h') := he
    show h' = h ∧ ∀ h2, oUn op x t h2 = some (v, h2)
    simp only [oUn, ob_some, rOk_some, Prod.mk.injEq] at he ⊢
    obtain ⟨a, h1, b, h2, rfl, rfl⟩ := he
    exact ⟨rfl, fun _ => ⟨_, h1, _, h2, rfl, trivial⟩⟩
  case binOp op ty x y yt =>
    replace he : oBin ti bd op ty x y t h = some (v, h') := he
    show h' = h ∧ ∀ h2, oBin ti bd op ty x y t h2 = some (v, h2)
    simp only [oBin, ob_some, rOk_some, Prod.mk.injEq] at he ⊢
    obtain ⟨a, h1, b, h2, c, h3, rfl, rfl⟩ := he
    exact ⟨rfl, fun _ => ⟨_, h1, _, h2, _, h3, rfl, trivial⟩⟩
  case makeInterface ty x =>
    replace he : oIface ti ty x t h = some (v, h') := he
    show h' = h ∧ ∀ h2, oIface ti ty x t h2 = some (v, h2)
    simp only [oIface, ob_some, rOk_some, Prod.mk.injEq] at he ⊢
    obtain ⟨a, h1, b, h2, rfl, rfl⟩ := he
    exact ⟨rfl, fun _ => ⟨_, h1, _, h2, rfl, trivial⟩⟩
  case makeFunc fn p q =>
    replace he : oFunc fn p q t h = some (v, h') := he
    show h' = h ∧ ∀ h2, oFunc fn p q t h2 = some (v, h2)
    simp only [oFunc, ob_some, rOk_some, Prod.mk.injEq] at he ⊢
    obtain ⟨a, h1, b, h2, rfl, rfl⟩ := he
    exact ⟨rfl, fun _ => ⟨_, h1, _, h2, rfl, trivial⟩⟩
  case fieldAddr s x f =>
    replace he : oFieldAddr ti s x f t h = some (v, h') := he
    show h' = h ∧ ∀ h2, oFieldAddr ti s x f t h2 = some (v, h2)
    simp only [oFieldAddr, fieldOf_some, ob_some, onPtr_some, guardB_some, rOk_some, Prod.mk.injEq] at he ⊢
    obtain ⟨ty, fs, p, tf, a1, a2, a3, a4, u, a5, b, o, rfl, a6, rfl, rfl⟩ := he
    exact ⟨rfl, fun _ => ⟨ty, fs, p, tf, a1, a2, a3, a4, _, a5, b, o, rfl, a6, rfl, trivial⟩⟩
  case field s x f =>
    replace he : oField ti s x f t h = some (v, h') := he
    show h' = h ∧ ∀ h2, oField ti s x f t h2 = some (v, h2)
    simp only [oField, fieldOf_some, ob_some, onAgg_some, rOk_some, Prod.mk.injEq] at he ⊢
    obtain ⟨ty, fs, p, tf, a1, a2, a3, a4, u, a5, cs, rfl, r, a6, rfl, rfl⟩ := he
    exact ⟨rfl, fun _ => ⟨ty, fs, p, tf, a1, a2, a3, a4, _, a5, cs, rfl, _, a6, rfl, trivial⟩⟩
  case indexAddr ty x i =>
    replace he : oIndexAddr ti ty x i t h = some (v, h') := he
    show h' = h ∧ ∀ h2, oIndexAddr ti ty x i t h2 = some (v, h2)
    simp only [oIndexAddr, ob_some, rOk_some, Prod.mk.injEq] at he ⊢
    obtain ⟨a, h1, b, h2, c, h3, rfl, rfl⟩ := he
    exact ⟨rfl, fun _ => ⟨_, h1, _, h2, _, h3, rfl, trivial⟩⟩
  case index ty x i =>
    replace he : oIndex ti ty x i t h = some (v, h') := he
    show h' = h ∧ ∀ h2, oIndex ti ty x i t h2 = some (v, h2)
    simp only [oIndex, ob_some, rOk_some, Prod.mk.injEq] at he ⊢
    obtain ⟨a, h1, b, h2, c, h3, rfl, rfl⟩ := he
    exact ⟨rfl, fun _ => ⟨_, h1, _, h2, _, h3, rfl, trivial⟩⟩
  case extract x i =>
    replace he : oExtract x i t h = some (v, h') := he
    show h' = h ∧ ∀ h2, oExtract x i t h2 = some (v, h2)
    simp only [oExtract, ob_some, onTup_some, rOk_some, Prod.mk.injEq] at he ⊢
    obtain ⟨a, h1, l, rfl, c, h3, rfl, rfl⟩ := he
    exact ⟨rfl, fun _ => ⟨_, h1, l, rfl, _, h3, rfl, trivial⟩⟩
  case build ty ps =>
    replace he : oBuild ti ty ps t h = some (v, h') := he
    show h' = h ∧ ∀ h2, oBuild ti ty ps t h2 = some (v, h2)
    simp only [oBuild, ob_some] at he ⊢
    obtain ⟨a, h1, b, h2, he⟩ := he
    split at he
    · rename_i fs hk
      simp only [ob_some, rOk_some, Prod.mk.injEq] at he
      obtain ⟨c, h3, rfl, rfl⟩ := he
      refine ⟨rfl, fun _ => ⟨_, h1, _, h2, ?_⟩⟩
      simp only [hk, ob_some, rOk_some, Prod.mk.injEq]; exact ⟨_, h3, rfl, trivial⟩
    · rename_i n e hk
      simp only [ob_some, rOk_some, Prod.mk.injEq] at he
      obtain ⟨te, h4, c, h3, rfl, rfl⟩ := he
      refine ⟨rfl, fun _ => ⟨_, h1, _, h2, ?_⟩⟩
      simp only [hk, ob_some, rOk_some, Prod.mk.injEq]; exact ⟨_, h4, _, h3, rfl, trivial⟩
    · cases he

theorem lenA_heap {t : TypeId} {x v : AV} (he : lenA ti t x h = some (v, h')) : h' = h := by
  simp only [lenA, ob_some] at he
  obtain ⟨ty, h1, he⟩ := he
  split at he
  · simp only [onStr_some, rOk_some, Prod.mk.injEq] at he; obtain ⟨_, _, _, rfl⟩ := he; rfl
  · simp only [onSlice_some, rOk_some, Prod.mk.injEq] at he
    rcases he with ⟨_, _, rfl⟩ | ⟨_, _, _, _, _, _, _, _, rfl⟩ <;> rfl
  · simp only [onMapV_some, rOk_some, Prod.mk.injEq, entsOf_some] at he
    rcases he with ⟨_, _, rfl⟩ | ⟨_, _, _, _, _, _, rfl⟩ <;> rfl
  · simp only [rOk_some, Prod.mk.injEq] at he; obtain ⟨_, rfl⟩ := he; rfl
  · simp only [ob_some, kArr_some, rOk_some, Prod.mk.injEq] at he; obtain ⟨_, _, _, _, _, _, rfl⟩ := he; rfl
  · cases he

theorem capA_heap {t : TypeId} {x v : AV} (he : capA ti t x h = some (v, h')) : h' = h := by
  simp only [capA, ob_some, guardB_some, onSlice_some, rOk_some, Prod.mk.injEq] at he
  obtain ⟨ty, h1, hk, he⟩ := he
  rcases he with ⟨_, _, rfl⟩ | ⟨_, _, _, _, _, _, _, _, _, rfl⟩ <;> rfl

theorem lookupE_heap {kt : Nat} {te : ATy} {k v : AV} {ok : Bool} {es : Ents} (he : lookupE ti kt te k ok h es = some (v, h')) : h' = h := by
  simp only [lookupE, ob_some] at he
  obtain ⟨r, h1, he⟩ := he
  cases r with
  | some p => simp only [rOk_some, Prod.mk.injEq] at he; obtain ⟨_, rfl⟩ := he; rfl
  | none => simp only [ob_some, rOk_some, Prod.mk.injEq] at he; obtain ⟨_, _, _, rfl⟩ := he; rfl

theorem readOp_heap {C : CallF} {t : Tm} {o : Op} {v : AV} (hp : readOp ti o = true) (he : opA ti bd C o t h = some (v, h')) : h' = h := by
  by_cases hpure : pureOp ti o = true
  · exact (pureOp_any hpure he).1
  cases o
  case convert sT d x =>
    replace he : oConv ti sT d x t h = some (v, h') := he
    simp only [oConv, convA, ob_some] at he
    obtain ⟨u, h1, as, h2, ad, h3, he⟩ := he
    have hk : (intDst ti d || strDst ti d) = true := hp
    have hk : strDst ti d = true := by
      cases hi : intDst ti d with
      | true => exact absurd hi hpure
      | false => rw [hi] at hk; simpa using hk
    simp only [strDst, h3] at hk
    have hk' : ad.k = .str := by cases hty : ad.k <;> rw [hty] at hk <;> first | rfl | cases hk
    rw [hk'] at he
    unfold convK at he
    split at he
    · rename_i hx; cases hx
    · simp only [onStr_some, rOk_some, Prod.mk.injEq] at he; obtain ⟨_, _, _, rfl⟩ := he; rfl
    · simp only [toStrA, ob_some, guardB_some, onSlice_some, rOk_some, Prod.mk.injEq, loadN_some, Nat.beq_eq] at he
      obtain ⟨te, h3, hk, he⟩ := he
      rcases he with ⟨_, _, rfl⟩ | ⟨_, _, _, _, _, _, _, _, _, _, _, _, _, _, rfl⟩ <;> rfl
    · rename_i hx; cases hx
    · cases he
  all_goals try (first | exact absurd hp hpure | exact absurd rfl hpure)
  case load ty x =>
    replace he : oLoad ti ty x t h = some (v, h') := he
    simp only [oLoad, ob_some, onPtr_some, rOk_some, Prod.mk.injEq] at he
    obtain ⟨_, _, _, _, _, _, _, _, _, _, rfl⟩ := he; rfl
  case lookup ty m k ok =>
    replace he : oLookup ti ty m k ok t h = some (v, h') := he
    simp only [oLookup, lookupA, ob_some, kMap_some, guardB_some, onMapV_some, entsOf_some] at he
    obtain ⟨_, _, _, _, _, _, _, _, _, _, _, _, he⟩ := he
    rcases he with ⟨_, he⟩ | ⟨_, _, _, _, _, he⟩
    · exact lookupE_heap he
    · exact lookupE_heap he
  case slice ty x lo hi mx =>
    replace he : oSlice ti ty x lo hi mx t h = some (v, h') := he
    simp only [oSlice, ob_some] at he
    obtain ⟨u, h1, he⟩ := he
    have opt : ∀ {β : Type} {x : Option Operand} {K : Option AV → Option β} {r : β}, optA t x K = some r → ∃ o, K o = some r := by
      intro β x K r e
      cases x with
      | none => exact ⟨none, e⟩
      | some y => simp only [optA, ob_some] at e; obtain ⟨a, _, e⟩ := e; exact ⟨_, e⟩
    obtain ⟨_, he⟩ := opt he
    obtain ⟨_, he⟩ := opt he
    obtain ⟨_, he⟩ := opt he
    simp only [ob_some, rOk_some, Prod.mk.injEq] at he
    obtain ⟨_, _, _, rfl⟩ := he; rfl
  case call c =>
    replace he : oCall ti C c t h = some (v, h') := he
    simp only [oCall, ob_some, oCallee] at he
    obtain ⟨args, h1, he⟩ := he
    simp only [readOp] at hp
    split at hp
    · rename_i hc
      simp only [hc, builtinA, arg0_some, nil0_some] at he
      obtain ⟨_, _, _, _, _, _, _, he⟩ := he
      exact lenA_heap he
    · rename_i hc
      simp only [hc, builtinA, arg0_some, nil0_some] at he
      obtain ⟨_, _, _, _, _, _, _, he⟩ := he
      exact capA_heap he
    · rename_i hc
      simp only [hc, builtinA, arg0_some, ob_some, rOk_some, Prod.mk.injEq] at he
      obtain ⟨_, _, _, _, _, _, _, _, _, rfl⟩ := he; rfl
    · rename_i hc
      simp only [hc, builtinA, arg0_some, ob_some, rOk_some, Prod.mk.injEq] at he
      obtain ⟨_, _, _, _, _, _, _, _, _, rfl⟩ := he; rfl
    · cases hp

/-- they make one block -/
def freshOp : Op → Bool
  | .alloc _ | .makeSlice .. | .buildSlice .. | .makeMap _ none | .box .. => true
  | _ => false
def Named (v : AV) (b : Nat) : Prop := v = .ptr b 0 ∨ (∃ l c es, v = .slice b 0 l c true es) ∨ v = .map b
theorem Named.name {v : AV} {b : Nat} (h : Named v b) : nameOf v = b := by
  rcases h with rfl | ⟨l, c, es, rfl⟩ | rfl <;> rfl
theorem Named.inj {v : AV} {b b' : Nat} (h : Named v b) (h' : Named v b') : b = b' := by rw [← h.name, ← h'.name]

theorem freshOp_new {C : CallF} {t : Tm} {o : Op} {v : AV} (hp : freshOp o = true) (he : opA ti bd C o t h = some (v, h')) : True ∧ ∃ ob', h' = h.newH ob' ∧ Named v h.next := by
  cases o <;> try cases hp
  case alloc e =>
    replace he : oAlloc ti e t h = some (v, h') := he
    simp only [oAlloc, ob_some, new_some, rOk_some, Prod.mk.injEq] at he
    obtain ⟨_, _, hn, rfl, rfl⟩ := he
    exact ⟨hn, _, rfl, .inl rfl⟩
  case box e x =>
    replace he : oBox x t h = some (v, h') := he
    simp only [oBox, ob_some, guardB_some, new_some, rOk_some, Prod.mk.injEq] at he
    obtain ⟨_, _, _, hn, rfl, rfl⟩ := he
    exact ⟨hn, _, rfl, .inl rfl⟩
  case buildSlice ty n ps =>
    replace he : oBuildSlice ti ty n ps t h = some (v, h') := he
    simp only [oBuildSlice, ob_some, kSlice_some, guardB_some, new_some, rOk_some, Prod.mk.injEq] at he
    obtain ⟨_, _, _, _, _, _, _, _, _, _, _, hn, rfl, rfl⟩ := he
    exact ⟨hn, _, rfl, .inr (.inl ⟨_, _, _, rfl⟩)⟩
  case makeSlice ty x y =>
    replace he : oMakeSlice ti ty x y t h = some (v, h') := he
    simp only [oMakeSlice, ob_some, kSlice_some, onNat_some, guardB_some, new_some, rOk_some, Prod.mk.injEq] at he
    obtain ⟨_, _, _, _, _, _, _, _, _, _, _, _, _, _, _, _, _, hn, rfl, rfl⟩ := he
    exact ⟨hn, _, rfl, .inr (.inl ⟨_, _, _, rfl⟩)⟩
  case makeMap ty r =>
    cases r with
    | some r => cases hp
    | none =>
      replace he : oMap t h = some (v, h') := he
      simp only [oMap, new_some, rOk_some, Prod.mk.injEq] at he
      obtain ⟨hn, rfl, rfl⟩ := he
      exact ⟨hn, _, rfl, .inr (.inr rfl)⟩
end
end Go.AI
