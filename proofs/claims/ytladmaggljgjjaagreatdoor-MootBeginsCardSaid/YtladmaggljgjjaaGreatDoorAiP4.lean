/-
  Joined texts: AiDraw1 AiDraw2 AiDraw3 AiDraw4 AiDraw5 AiTab.
-/
import Derived.Test.YtladmaggljgjjaaGreatDoorAiP3
import Derived.OrdersIn
set_option linter.unusedVariables false
set_option linter.unusedSimpArgs false
namespace Go.AI
section
variable {ti : Nat → Option ATy} {bd : Bnd} {h h' : AHeap}

theorem evxs_congr {t t' : Tm} : ∀ {l : List Operand}, (∀ x ∈ l, evx x t = evx x t') → evxs l t = evxs l t'
  | [], _ => rfl
  | x :: l, hx => by
    have e1 := hx x (by simp)
    have e2 := evxs_congr (l := l) fun y hy => hx y (by simp [hy])
    show (ob (evx x t) fun a => ob (evxs l t) fun r => some (a :: r)) = (ob (evx x t') fun a => ob (evxs l t') fun r => some (a :: r))
    rw [e1, e2]
theorem partsA_congr {t t' : Tm} : ∀ {l : List (Nat × Operand)}, (∀ x ∈ l, evx x.2 t = evx x.2 t') → partsA t l = partsA t' l
  | [], _ => rfl
  | p :: l, hx => by
    have e1 := hx p (by simp)
    have e2 := partsA_congr (l := l) fun y hy => hx y (by simp [hy])
    show (ob (evx p.2 t) fun v => ob (partsA t l) fun r => some ((p.1, v) :: r)) = (ob (evx p.2 t') fun v => ob (partsA t' l) fun r => some ((p.1, v) :: r))
    rw [e1, e2]
theorem optA_congr {β : Type} {t t' : Tm} {x : Option Operand} {K : Option AV → Option β} (hx : ∀ y, x = some y → evx y t = evx y t') : optA t x K = optA t' x K := by
  cases x with
  | none => rfl
  | some y => simp only [optA, hx y rfl]

theorem opA_congr {C : CallF} {t t' : Tm} {o : Op} (hx : ∀ x ∈ o.operands, evx x t = evx x t') : opA ti bd C o t h = opA ti bd C o t' h := by
  cases o
  case build ty ps =>
    show oBuild ti ty ps t h = oBuild ti ty ps t' h
    simp only [oBuild]
    rw [partsA_congr fun x hm => hx x.2 (by simp only [Op.operands, List.mem_toArray, List.mem_map]; exact ⟨x, hm, rfl⟩)]
  case buildSlice ty n ps =>
    show oBuildSlice ti ty n ps t h = oBuildSlice ti ty n ps t' h
    simp only [oBuildSlice]
    rw [partsA_congr fun x hm => hx x.2 (by simp only [Op.operands, List.mem_toArray, List.mem_map]; exact ⟨x, hm, rfl⟩)]
  case makeFunc fn p q =>
    show oFunc fn p q t h = oFunc fn p q t' h
    simp only [oFunc]
    rw [evxs_congr fun x hm => hx x (by simp only [Op.operands]; simp at hm; simp [hm]), evxs_congr fun x hm => hx x (by simp only [Op.operands]; simp at hm; simp [hm])]
  case call c =>
    show oCall ti C c t h = oCall ti C c t' h
    simp only [oCall]
    rw [evxs_congr fun x hm => hx x (by simp only [Op.operands, Call.operands]; simp at hm; simp [hm])]
    congr 1
    funext args
    simp only [oCallee]
    cases hc : c.callee with
    | value f => simp only [hx f (by simp [Op.operands, Call.operands, hc])]
    | _ => rfl
  case slice ty x lo hi mx =>
    show oSlice ti ty x lo hi mx t h = oSlice ti ty x lo hi mx t' h
    simp only [oSlice]
    rw [hx x (by simp [Op.operands])]
    congr 1
    funext v
    rw [optA_congr fun y e => hx y (by simp [Op.operands, e])]
    congr 1
    funext lo'
    rw [optA_congr fun y e => hx y (by simp [Op.operands, e])]
    congr 1
    funext hi'
    rw [optA_congr fun y e => hx y (by simp [Op.operands, e])]
  case makeMap ty r => cases r <;> rfl
  case pick c a b =>
    show oPick c a b t h = oPick c a b t' h
    simp only [oPick, oMove, hx c (by simp [Op.operands]), hx a (by simp [Op.operands]), hx b (by simp [Op.operands])]
  case alloc => rfl
  case ready => rfl
  case waits => rfl
  case move x => show oMove x t h = oMove x t' h; simp only [oMove, hx x (by simp [Op.operands])]
  case assign x => show oMove x t h = oMove x t' h; simp only [oMove, hx x (by simp [Op.operands])]
  case box ty x => show oBox x t h = oBox x t' h; simp only [oBox, hx x (by simp [Op.operands])]
  case load ty x => show oLoad ti ty x t h = oLoad ti ty x t' h; simp only [oLoad, hx x (by simp [Op.operands])]
  case nilCheck x => show oNil x t h = oNil x t' h; simp only [oNil, hx x (by simp [Op.operands])]
  case unOp op ty x => show oUn op x t h = oUn op x t' h; simp only [oUn, hx x (by simp [Op.operands])]
  case convert s d x => show oConv ti s d x t h = oConv ti s d x t' h; simp only [oConv, hx x (by simp [Op.operands])]
  case makeInterface ty x => show oIface ti ty x t h = oIface ti ty x t' h; simp only [oIface, hx x (by simp [Op.operands])]
  case fieldAddr s x f => show oFieldAddr ti s x f t h = oFieldAddr ti s x f t' h; simp only [oFieldAddr, hx x (by simp [Op.operands])]
  case field s x f => show oField ti s x f t h = oField ti s x f t' h; simp only [oField, hx x (by simp [Op.operands])]
  case range ty x => show oRange ti ty x t h = oRange ti ty x t' h; simp only [oRange, hx x (by simp [Op.operands])]
  case next x b => show oNext x b t h = oNext x b t' h; simp only [oNext, hx x (by simp [Op.operands])]
  case entry x => show oEntry x t h = oEntry x t' h; simp only [oEntry, hx x (by simp [Op.operands])]
  case extract x i => show oExtract x i t h = oExtract x i t' h; simp only [oExtract, hx x (by simp [Op.operands])]
  case store ty a v => show oStore ti ty a v t h = oStore ti ty a v t' h; simp only [oStore, hx a (by simp [Op.operands]), hx v (by simp [Op.operands])]
  case binOp op ty a v vt => show oBin ti bd op ty a v t h = oBin ti bd op ty a v t' h; simp only [oBin, hx a (by simp [Op.operands]), hx v (by simp [Op.operands])]
  case makeSlice ty a v => show oMakeSlice ti ty a v t h = oMakeSlice ti ty a v t' h; simp only [oMakeSlice, hx a (by simp [Op.operands]), hx v (by simp [Op.operands])]
  case indexAddr ty a v => show oIndexAddr ti ty a v t h = oIndexAddr ti ty a v t' h; simp only [oIndexAddr, hx a (by simp [Op.operands]), hx v (by simp [Op.operands])]
  case index ty a v => show oIndex ti ty a v t h = oIndex ti ty a v t' h; simp only [oIndex, hx a (by simp [Op.operands]), hx v (by simp [Op.operands])]
  case lookup ty a v ok => show oLookup ti ty a v ok t h = oLookup ti ty a v ok t' h; simp only [oLookup, hx a (by simp [Op.operands]), hx v (by simp [Op.operands])]
  case mapUpdate ty m k v => show oUpdate ti ty m k v t h = oUpdate ti ty m k v t' h; simp only [oUpdate, hx m (by simp [Op.operands]), hx k (by simp [Op.operands]), hx v (by simp [Op.operands])]
  case insert ty m k v => show oUpdate ti ty m k v t h = oUpdate ti ty m k v t' h; simp only [oUpdate, hx m (by simp [Op.operands]), hx k (by simp [Op.operands]), hx v (by simp [Op.operands])]
  all_goals rfl

def intDst (ti : Nat → Option ATy) (d : Nat) : Bool := match ti d with | some ty => ty.k.isInt | none => false
def strDst (ti : Nat → Option ATy) (d : Nat) : Bool := match ti d with | some ty => ty.k.isStr | none => false
/-- they do not look at the heap -/
def pureOp (ti : Nat → Option ATy) : Op → Bool
  | .convert _ d _ => intDst ti d
  | .move _ | .assign _ | .pick .. | .nilCheck _ | .unOp .. | .binOp .. | .makeInterface .. | .makeFunc .. | .fieldAddr .. | .field .. | .indexAddr .. | .index .. | .extract .. | .build .. => true
  | _ => false
/-- they leave the heap as it is -/
def readOp (ti : Nat → Option ATy) : Op → Bool
  | .convert _ d _ => intDst ti d || strDst ti d
  | .load .. | .lookup .. | .slice .. => true
  | .call c => match c.callee with
    | .builtin .len | .builtin .cap | .builtin .max | .builtin .min => true
    | _ => false
  | o => pureOp ti o

theorem move_any {x : Operand} {t : Tm} {v : AV} (he : oMove x t h = some (v, h')) : h' = h ∧ ∀ h2, oMove x t h2 = some (v, h2) := by
  simp only [oMove, ob_some, rOk_some, Prod.mk.injEq] at he ⊢
  obtain ⟨a, h1, rfl, rfl⟩ := he
  exact ⟨rfl, fun h2 => ⟨_, h1, rfl, trivial⟩⟩

theorem pureOp_any {C : CallF} {t : Tm} {o : Op} {v : AV} (hp : pureOp ti o = true) (he : opA ti bd C o t h = some (v, h')) : h' = h ∧ ∀ h2, opA ti bd C o t h2 = some (v, h2) := by
  cases o
  case convert sT d x =>
    replace he : oConv ti sT d x t h = some (v, h') := he
    show h' = h ∧ ∀ h2, oConv ti sT d x t h2 = some (v, h2)
    simp only [oConv, convA, ob_some] at he ⊢
    obtain ⟨u, h1, as, h2, ad, h3, he⟩ := he
    have hk : intDst ti d = true := hp
    simp only [intDst, h3] at hk
    obtain ⟨k, hk'⟩ : ∃ k, ad.k = .int k := by cases hty : ad.k <;> rw [hty] at hk <;> first | exact ⟨_, rfl⟩ | cases hk
    rw [hk'] at he
    have he : (u.onInt fun _ n => rOk (.int k (wrapA k n)) h) = some (v, h') := by
      cases hs : as.k <;> rw [hs] at he <;> exact he
    simp only [onInt_some, rOk_some, Prod.mk.injEq] at he
    obtain ⟨k', n, rfl, rfl, rfl⟩ := he
    refine ⟨rfl, fun h2' => ⟨_, h1, as, h2, ad, h3, ?_⟩⟩
    rw [hk']
    have : (AV.onInt (.int k' n) fun _ n => rOk (AV.int k (wrapA k n)) h2') = some (AV.int k (wrapA k n), h2') := rfl
    cases hs : as.k <;> exact this
  all_goals try cases hp
  case move x => exact move_any he
  case assign x => exact move_any he
  case pick c a b =>
    replace he : oPick c a b t h = some (v, h') := he
    show h' = h ∧ ∀ h2, oPick c a b t h2 = some (v, h2)
    simp only [oPick, ob_some, onBool_some] at he ⊢
    obtain ⟨u, h1, r, rfl, he⟩ := he
    cases r with
    | true => obtain ⟨e1, e2⟩ := move_any he; exact ⟨e1, fun h2 => ⟨_, h1, _, rfl, e2 h2⟩⟩
    | false => obtain ⟨e1, e2⟩ := move_any he; exact ⟨e1, fun h2 => ⟨_, h1, _, rfl, e2 h2⟩⟩
  case nilCheck x =>
    replace he : oNil x t h = some (v, h') := he
    show h' = h ∧ ∀ h2, oNil x t h2 = some (v, h2)
    simp only [oNil, ob_some] at he ⊢
    obtain ⟨u, h1, he⟩ := he
    split at he
    · simp only [rOk_some, Prod.mk.injEq] at he; obtain ⟨rfl, rfl⟩ := he; exact ⟨rfl, fun h2 => ⟨_, h1, rfl⟩⟩
    · simp only [rOk_some, Prod.mk.injEq] at he; obtain ⟨rfl, rfl⟩ := he; exact ⟨rfl, fun h2 => ⟨_, h1, rfl⟩⟩
    · simp only [rOk_some, Prod.mk.injEq] at he; obtain ⟨rfl, rfl⟩ := he; exact ⟨rfl, fun h2 => ⟨_, h1, rfl⟩⟩
    · cases he
  case unOp op ty x =>
    replace he : oUn op x t h = some (v, h') := he
    show h' = h ∧ ∀ h2, oUn op x t h2 = some (v, h2)
    simp only [oUn, ob_some, rOk_some, Prod.mk.injEq] at he ⊢
    obtain ⟨a, h1, b, h2, rfl, rfl⟩ := he
    exact ⟨rfl, fun _ => ⟨_, h1, _, h2, rfl, trivial⟩⟩
  case binOp op ty x y yt =>
    replace he : oBin ti bd op ty x y t h = some (v, h') := he
    show h' = h ∧ ∀ h2, oBin ti bd op ty x y t h2 = some (v, h2)
    simp only [oBin, ob_some, rOk_some, Prod.mk.injEq] at he ⊢
    obtain ⟨a, h1, b, h2, c, h3, rfl, rfl⟩ := he
    exact ⟨rfl, fun _ => ⟨_, h1, _, h2, _, h3, rfl, trivial⟩⟩
  case makeInterface ty x =>
    replace he : oIface ti ty x t h = some (v, h') := he
    show h' = h ∧ ∀ h2, oIface ti ty x t h2 = some (v, h2)
    simp only [oIface, ob_some, rOk_some, Prod.mk.injEq] at he ⊢
    obtain ⟨a, h1, b, h2, rfl, rfl⟩ := he
    exact ⟨rfl, fun _ => ⟨_, h1, _, h2, rfl, trivial⟩⟩
  case makeFunc fn p q =>
    replace he : oFunc fn p q t h = some (v, h') := he
    show h' = h ∧ ∀ h2, oFunc fn p q t h2 = some (v, h2)
    simp only [oFunc, ob_some, rOk_some, Prod.mk.injEq] at he ⊢
    obtain ⟨a, h1, b, h2, rfl, rfl⟩ := he
    exact ⟨rfl, fun _ => ⟨_, h1, _, h2, rfl, trivial⟩⟩
  case fieldAddr s x f =>
    replace he : oFieldAddr ti s x f t h = some (v, h') := he
    show h' = h ∧ ∀ h2, oFieldAddr ti s x f t h2 = some (v, h2)
    simp only [oFieldAddr, fieldOf_some, ob_some, onPtr_some, guardB_some, rOk_some, Prod.mk.injEq] at he ⊢
    obtain ⟨ty, fs, p, tf, a1, a2, a3, a4, u, a5, b, o, rfl, a6, rfl, rfl⟩ := he
    exact ⟨rfl, fun _ => ⟨ty, fs, p, tf, a1, a2, a3, a4, _, a5, b, o, rfl, a6, rfl, trivial⟩⟩
  case field s x f =>
    replace he : oField ti s x f t h = some (v, h') := he
    show h' = h ∧ ∀ h2, oField ti s x f t h2 = some (v, h2)
    simp only [oField, fieldOf_some, ob_some, onAgg_some, rOk_some, Prod.mk.injEq] at he ⊢
    obtain ⟨ty, fs, p, tf, a1, a2, a3, a4, u, a5, cs, rfl, r, a6, rfl, rfl⟩ := he
    exact ⟨rfl, fun _ => ⟨ty, fs, p, tf, a1, a2, a3, a4, _, a5, cs, rfl, _, a6, rfl, trivial⟩⟩
  case indexAddr ty x i =>
    replace he : oIndexAddr ti ty x i t h = some (v, h') := he
    show h' = h ∧ ∀ h2, oIndexAddr ti ty x i t h2 = some (v, h2)
    simp only [oIndexAddr, ob_some, rOk_some, Prod.mk.injEq] at he ⊢
    obtain ⟨a, h1, b, h2, c, h3, rfl, rfl⟩ := he
    exact ⟨rfl, fun _ => ⟨_, h1, _, h2, _, h3, rfl, trivial⟩⟩
  case index ty x i =>
    replace he : oIndex ti ty x i t h = some (v, h') := he
    show h' = h ∧ ∀ h2, oIndex ti ty x i t h2 = some (v, h2)
    simp only [oIndex, ob_some, rOk_some, Prod.mk.injEq] at he ⊢
    obtain ⟨a, h1, b, h2, c, h3, rfl, rfl⟩ := he
    exact ⟨rfl, fun _ => ⟨_, h1, _, h2, _, h3, rfl, trivial⟩⟩
  case extract x i =>
    replace he : oExtract x i t h = some (v, h') := he
    show h' = h ∧ ∀ h2, oExtract x i t h2 = some (v, h2)
    simp only [oExtract, ob_some, onTup_some, rOk_some, Prod.mk.injEq] at he ⊢
    obtain ⟨a, h1, l, rfl, c, h3, rfl, rfl⟩ := he
    exact ⟨rfl, fun _ => ⟨_, h1, l, rfl, _, h3, rfl, trivial⟩⟩
  case build ty ps =>
    replace he : oBuild ti ty ps t h = some (v, h') := he
    show h' = h ∧ ∀ h2, oBuild ti ty ps t h2 = some (v, h2)
    simp only [oBuild, ob_some] at he ⊢
    obtain ⟨a, h1, b, h2, he⟩ := he
    split at he
    · rename_i fs hk
      simp only [ob_some, rOk_some, Prod.mk.injEq] at he
      obtain ⟨c, h3, rfl, rfl⟩ := he
      refine ⟨rfl, fun _ => ⟨_, h1, _, h2, ?_⟩⟩
      simp only [hk, ob_some, rOk_some, Prod.mk.injEq]; exact ⟨_, h3, rfl, trivial⟩
    · rename_i n e hk
      simp only [ob_some, rOk_some, Prod.mk.injEq] at he
      obtain ⟨te, h4, c, h3, rfl, rfl⟩ := he
      refine ⟨rfl, fun _ => ⟨_, h1, _, h2, ?_⟩⟩
      simp only [hk, ob_some, rOk_some, Prod.mk.injEq]; exact ⟨_, h4, _, h3, rfl, trivial⟩
    · cases he

theorem lenA_heap {t : TypeId} {x v : AV} (he : lenA ti t x h = some (v, h')) : h' = h := by
  simp only [lenA, ob_some] at he
  obtain ⟨ty, h1, he⟩ := he
  split at he
  · simp only [onStr_some, rOk_some, Prod.mk.injEq] at he; obtain ⟨_, _, _, rfl⟩ := he; rfl
  · simp only [onSlice_some, rOk_some, Prod.mk.injEq] at he
    rcases he with ⟨_, _, rfl⟩ | ⟨_, _, _, _, _, _, _, _, rfl⟩ <;> rfl
  · simp only [onMapV_some, rOk_some, Prod.mk.injEq, entsOf_some] at he
    rcases he with ⟨_, _, rfl⟩ | ⟨_, _, _, _, _, _, rfl⟩ <;> rfl
  · simp only [rOk_some, Prod.mk.injEq] at he; obtain ⟨_, rfl⟩ := he; rfl
  · simp only [ob_some, kArr_some, rOk_some, Prod.mk.injEq] at he; obtain ⟨_, _, _, _, _, _, rfl⟩ := he; rfl
  · cases he

theorem capA_heap {t : TypeId} {x v : AV} (he : capA ti t x h = some (v, h')) : h' = h := by
  simp only [capA, ob_some, guardB_some, onSlice_some, rOk_some, Prod.mk.injEq] at he
  obtain ⟨ty, h1, hk, he⟩ := he
  rcases he with ⟨_, _, rfl⟩ | ⟨_, _, _, _, _, _, _, _, _, rfl⟩ <;> rfl

theorem lookupE_heap {kt : Nat} {te : ATy} {k v : AV} {ok : Bool} {es : Ents} (he : lookupE ti kt te k ok h es = some (v, h')) : h' = h := by
  simp only [lookupE, ob_some] at he
  obtain ⟨r, h1, he⟩ := he
  cases r with
  | some p => simp only [rOk_some, Prod.mk.injEq] at he; obtain ⟨_, rfl⟩ := he; rfl
  | none => simp only [ob_some, rOk_some, Prod.mk.injEq] at he; obtain ⟨_, _, _, rfl⟩ := he; rfl

theorem readOp_heap {C : CallF} {t : Tm} {o : Op} {v : AV} (hp : readOp ti o = true) (he : opA ti bd C o t h = some (v, h')) : h' = h := by
  by_cases hpure : pureOp ti o = true
  · exact (pureOp_any hpure he).1
  cases o
  case convert sT d x =>
    replace he : oConv ti sT d x t h = some (v, h') := he
    simp only [oConv, convA, ob_some] at he
    obtain ⟨u, h1, as, h2, ad, h3, he⟩ := he
    have hk : (intDst ti d || strDst ti d) = true := hp
    have hk : strDst ti d = true := by
      cases hi : intDst ti d with
      | true => exact absurd hi hpure
      | false => rw [hi] at hk; simpa using hk
    simp only [strDst, h3] at hk
    have hk' : ad.k = .str := by cases hty : ad.k <;> rw [hty] at hk <;> first | rfl | cases hk
    rw [hk'] at he
    unfold convK at he
    split at he
    · rename_i hx; cases hx
    · simp only [onStr_some, rOk_some, Prod.mk.injEq] at he; obtain ⟨_, _, _, rfl⟩ := he; rfl
    · simp only [toStrA, ob_some, guardB_some, onSlice_some, rOk_some, Prod.mk.injEq, loadN_some, Nat.beq_eq] at he
      obtain ⟨te, h3, hk, he⟩ := he
      rcases he with ⟨_, _, rfl⟩ | ⟨_, _, _, _, _, _, _, _, _, _, _, _, _, _, rfl⟩ <;> rfl
    · rename_i hx; cases hx
    · cases he
  all_goals try (first | exact absurd hp hpure | exact absurd rfl hpure)
  case load ty x =>
    replace he : oLoad ti ty x t h = some (v, h') := he
    simp only [oLoad, ob_some, onPtr_some, rOk_some, Prod.mk.injEq] at he
    obtain ⟨_, _, _, _, _, _, _, _, _, _, rfl⟩ := he; rfl
  case lookup ty m k ok =>
    replace he : oLookup ti ty m k ok t h = some (v, h') := he
    simp only [oLookup, lookupA, ob_some, kMap_some, guardB_some, onMapV_some, entsOf_some] at he
    obtain ⟨_, _, _, _, _, _, _, _, _, _, _, _, he⟩ := he
    rcases he with ⟨_, he⟩ | ⟨_, _, _, _, _, he⟩
    · exact lookupE_heap he
    · exact lookupE_heap he
  case slice ty x lo hi mx =>
    replace he : oSlice ti ty x lo hi mx t h = some (v, h') := he
    simp only [oSlice, ob_some] at he
    obtain ⟨u, h1, he⟩ := he
    have opt : ∀ {β : Type} {x : Option Operand} {K : Option AV → Option β} {r : β}, optA t x K = some r → ∃ o, K o = some r := by
      intro β x K r e
      cases x with
      | none => exact ⟨none, e⟩
      | some y => simp only [optA, ob_some] at e; obtain ⟨a, _, e⟩ := e; exact ⟨_, e⟩
    obtain ⟨_, he⟩ := opt he
    obtain ⟨_, he⟩ := opt he
    obtain ⟨_, he⟩ := opt he
    simp only [ob_some, rOk_some, Prod.mk.injEq] at he
    obtain ⟨_, _, _, rfl⟩ := he; rfl
  case call c =>
    replace he : oCall ti C c t h = some (v, h') := he
    simp only [oCall, ob_some, oCallee] at he
    obtain ⟨args, h1, he⟩ := he
    simp only [readOp] at hp
    split at hp
    · rename_i hc
      simp only [hc, builtinA, arg0_some, nil0_some] at he
      obtain ⟨_, _, _, _, _, _, _, he⟩ := he
      exact lenA_heap he
    · rename_i hc
      simp only [hc, builtinA, arg0_some, nil0_some] at he
      obtain ⟨_, _, _, _, _, _, _, he⟩ := he
      exact capA_heap he
    · rename_i hc
      simp only [hc, builtinA, arg0_some, ob_some, rOk_some, Prod.mk.injEq] at he
      obtain ⟨_, _, _, _, _, _, _, _, _, rfl⟩ := he; rfl
    · rename_i hc
      simp only [hc, builtinA, arg0_some, ob_some, rOk_some, Prod.mk.injEq] at he
      obtain ⟨_, _, _, _, _, _, _, _, _, rfl⟩ := he; rfl
    · cases hp

/-- they make one block -/
def freshOp : Op → Bool
  | .alloc _ | .makeSlice .. | .buildSlice .. | .makeMap _ none | .box .. => true
  | _ => false
def Named (v : AV) (b : Nat) : Prop := v = .ptr b 0 ∨ (∃ l c es, v = .slice b 0 l c true es) ∨ v = .map b
theorem Named.name {v : AV} {b : Nat} (h : Named v b) : nameOf v = b := by
  rcases h with rfl | ⟨l, c, es, rfl⟩ | rfl <;> rfl
theorem Named.inj {v : AV} {b b' : Nat} (h : Named v b) (h' : Named v b') : b = b' := by rw [← h.name, ← h'.name]

theorem freshOp_new {C : CallF} {t : Tm} {o : Op} {v : AV} (hp : freshOp o = true) (he : opA ti bd C o t h = some (v, h')) : True ∧ ∃ ob', h' = h.newH ob' ∧ Named v h.next := by
  cases o <;> try cases hp
  case alloc e =>
    replace he : oAlloc ti e t h = some (v, h') := he
    simp only [oAlloc, ob_some, new_some, rOk_some, Prod.mk.injEq] at he
    obtain ⟨_, _, hn, rfl, rfl⟩ := he
    exact ⟨hn, _, rfl, .inl rfl⟩
  case box e x =>
    replace he : oBox x t h = some (v, h') := he
    simp only [oBox, ob_some, guardB_some, new_some, rOk_some, Prod.mk.injEq] at he
    obtain ⟨_, _, _, hn, rfl, rfl⟩ := he
    exact ⟨hn, _, rfl, .inl rfl⟩
  case buildSlice ty n ps =>
    replace he : oBuildSlice ti ty n ps t h = some (v, h') := he
    simp only [oBuildSlice, ob_some, kSlice_some, guardB_some, new_some, rOk_some, Prod.mk.injEq] at he
    obtain ⟨_, _, _, _, _, _, _, _, _, _, _, hn, rfl, rfl⟩ := he
    exact ⟨hn, _, rfl, .inr (.inl ⟨_, _, _, rfl⟩)⟩
  case makeSlice ty x y =>
    replace he : oMakeSlice ti ty x y t h = some (v, h') := he
    simp only [oMakeSlice, ob_some, kSlice_some, onNat_some, guardB_some, new_some, rOk_some, Prod.mk.injEq] at he
    obtain ⟨_, _, _, _, _, _, _, _, _, _, _, _, _, _, _, _, _, hn, rfl, rfl⟩ := he
    exact ⟨hn, _, rfl, .inr (.inl ⟨_, _, _, rfl⟩)⟩
  case makeMap ty r =>
    cases r with
    | some r => cases hp
    | none =>
      replace he : oMap t h = some (v, h') := he
      simp only [oMap, new_some, rOk_some, Prod.mk.injEq] at he
      obtain ⟨hn, rfl, rfl⟩ := he
      exact ⟨hn, _, rfl, .inr (.inr rfl)⟩
end
end Go.AI
set_option linter.unusedVariables false
set_option linter.unusedSimpArgs false
namespace Go.AI
def Row.isH (r : Row) : Bool := match r.c with | .heavy => true | _ => false
def Row.isF (r : Row) : Bool := match r.c with | .fresh => true | _ => false
def hc (rs : List Row) (j : Nat) : Nat := (rs.take j).countP Row.isH
def edgesOf (o : Oper) : List Nat := (o.after.toList.filter (Region.binds .any)).map (·.on)

def clsOk (ti : Nat → Option ATy) (o : Oper) (r : Row) : Bool :=
  match r.c with
  | .pure => pureOp ti o.op
  | .read => readOp ti o.op
  | .fresh => freshOp o.op && o.guard.isNone && o.dst.isSome
  | .heavy => true
def loOk (rs : List Row) (es : List Nat) (n : Nat) : Bool := n == 0 || es.any fun e => match rs[e]? with | some q => q.isH && hc rs e + 1 == n | none => false
def hiOk (L : List Oper) (rs : List Row) (j n : Nat) : Bool := decide (hc rs rs.length ≤ n) || L.zipIdx.any fun p => match rs[p.2]? with | some q => q.isH && hc rs p.2 == n && (edgesOf p.1).contains j | none => false
/-- ancestors, some steps up -/
def upB (L : List Oper) : Nat → List Nat → Nat → Bool
  | 0, es, i => es.contains i
  | k + 1, es, i => es.contains i || upB L k (es.flatMap fun e => match L[e]? with | some p => edgesOf p | none => []).eraseDups i
def chainOk (L : List Oper) (rs : List Row) (o : Oper) (j : Nat) : Bool :=
  hc rs j == 0 || rs.zipIdx.any fun q => q.1.isH && hc rs q.2 + 1 == hc rs j && upB L 8 (edgesOf o) q.2
def floats (r : Row) : Bool := match r.c with | .read => !(r.lo == r.hi) | .fresh => true | _ => false
def opndOk (L : List Oper) (rs : List Row) (j : Nat) (o : Oper) (r : Row) (t : Tmp) : Bool :=
  L.zipIdx.all fun p => !(p.1.dst == some t) || (edgesOf o).contains p.2 || (!floats r && (p.2 == j || (edgesOf p.1).contains j) && (match rs[p.2]? with | some q => !q.isF | none => false))
def rowOk (ti : Nat → Option ATy) (N : Nat) (L : List Oper) (rs : List Row) (j : Nat) (o : Oper) (r : Row) : Bool :=
  dstLt N o && (edgesOf o).all (Nat.blt · j) &&
  o.op.operands.toList.all (fun x => match x with | .tmp t => opndOk L rs j o r t | _ => true) &&
  (match o.guard with | none => true | some g => (edgesOf o).contains g.1) &&
  (match o.op with | .select .. => false | _ => true) &&
  clsOk ti o r && loOk rs (edgesOf o) r.lo && hiOk L rs j r.hi && (!r.isH || chainOk L rs o j)
def dstsOk (L : List Oper) : Bool := L.zipIdx.all fun p => L.zipIdx.all fun q => p.2 == q.2 || p.1.dst.isNone || !(p.1.dst == q.1.dst)
def rowsOk (ti : Nat → Option ATy) (N : Nat) (L : List Oper) (rs : List Row) : List Oper → List Row → Nat → Bool
  | [], [], _ => true
  | o :: l, r :: rs', j => rowOk ti N L rs j o r && rowsOk ti N L rs l rs' (j + 1)
  | _, _, _ => false
def drawOk (ti : Nat → Option ATy) (N : Nat) (ops : Array Oper) (rs : List Row) : Bool := dstsOk ops.toList && rowsOk ti N ops.toList rs ops.toList rs 0

theorem rowsOk_get {ti : Nat → Option ATy} {N : Nat} {L : List Oper} {rs : List Row} : ∀ {l : List Oper} {q : List Row} {j : Nat}, rowsOk ti N L rs l q j = true → l.length = q.length ∧ ∀ k o r, l[k]? = some o → q[k]? = some r → rowOk ti N L rs (j + k) o r = true
  | [], [], _, _ => ⟨rfl, fun k o r h => by simp at h⟩
  | [], _ :: _, _, h => by cases h
  | _ :: _, [], _, h => by cases h
  | o :: l, r :: q, j, h => by
    simp only [rowsOk, Bool.and_eq_true] at h
    obtain ⟨h1, h2⟩ := rowsOk_get h.2
    refine ⟨by simp [h1], fun k o' r' ho hr => ?_⟩
    cases k with
    | zero => simp at ho hr; subst ho; subst hr; exact h.1
    | succ k =>
      have := h2 k o' r' (by simpa using ho) (by simpa using hr)
      rwa [show j + (k + 1) = j + 1 + k from by omega]

theorem mem_edges {o : Oper} {i : Nat} : i ∈ edgesOf o ↔ ∃ e ∈ o.after, Region.binds .any e = true ∧ e.on = i := by
  simp only [edgesOf, List.mem_map, List.mem_filter, Array.mem_toList_iff]
  constructor
  · rintro ⟨e, ⟨h1, h2⟩, h3⟩; exact ⟨e, h1, h2, h3⟩
  · rintro ⟨e, h1, h2, h3⟩; exact ⟨e, ⟨h1, h2⟩, h3⟩

inductive Anc (L : List Oper) : Nat → Nat → Prop where
  | edge {j i : Nat} {o : Oper} : L[j]? = some o → i ∈ edgesOf o → Anc L j i
  | step {j e i : Nat} {o : Oper} : L[j]? = some o → e ∈ edgesOf o → Anc L e i → Anc L j i

theorem upB_spec {L : List Oper} : ∀ {k : Nat} {es : List Nat} {i : Nat}, upB L k es i = true → i ∈ es ∨ ∃ e ∈ es, Anc L e i
  | 0, es, i, h => .inl (by simpa [upB] using h)
  | k + 1, es, i, h => by
    simp only [upB, Bool.or_eq_true] at h
    rcases h with h | h
    · exact .inl (by simpa using h)
    · have up : ∀ x, x ∈ (es.flatMap fun e => match L[e]? with | some p => edgesOf p | none => []).eraseDups → ∃ e ∈ es, ∃ p, L[e]? = some p ∧ x ∈ edgesOf p := by
        intro x hx
        rw [List.mem_eraseDups, List.mem_flatMap] at hx
        obtain ⟨e, he, hx⟩ := hx
        cases hp : L[e]? with
        | none => rw [hp] at hx; cases hx
        | some p => rw [hp] at hx; exact ⟨e, he, p, hp ▸ rfl, hx⟩
      rcases upB_spec h with h | ⟨x, hx, h⟩
      · obtain ⟨e, he, p, hp, hx⟩ := up i h
        exact .inr ⟨e, he, .edge hp hx⟩
      · obtain ⟨e, he, p, hp, hx⟩ := up x hx
        exact .inr ⟨e, he, .step hp hx h⟩

/-- what is known of the rows -/
structure DrawF (ti : Nat → Option ATy) (N : Nat) (L : List Oper) (rs : List Row) : Prop where
  len : L.length = rs.length
  dst : ∀ (i j : Nat) (oi oj : Oper) (d : Tmp), L[i]? = some oi → L[j]? = some oj → oi.dst = some d → oj.dst = some d → i = j
  lt : ∀ (j : Nat) (o : Oper) (d : Tmp), L[j]? = some o → o.dst = some d → d < N
  edge : ∀ (j : Nat) (o : Oper) (i : Nat), L[j]? = some o → i ∈ edgesOf o → i < j
  opnd : ∀ (j : Nat) (o : Oper) (t : Tmp) (i : Nat) (oi : Oper), L[j]? = some o → Operand.tmp t ∈ o.op.operands → L[i]? = some oi → oi.dst = some t → i ∈ edgesOf o ∨ ((i = j ∨ j ∈ edgesOf oi) ∧ ∃ q, rs[i]? = some q ∧ q.isF = false)
  opndF : ∀ (j : Nat) (o : Oper) (r : Row) (t : Tmp) (i : Nat) (oi : Oper), L[j]? = some o → rs[j]? = some r → floats r = true → Operand.tmp t ∈ o.op.operands → L[i]? = some oi → oi.dst = some t → i ∈ edgesOf o
  guard : ∀ (j : Nat) (o : Oper) (g : Nat × Bool), L[j]? = some o → o.guard = some g → g.1 ∈ edgesOf o
  sel : ∀ (j : Nat) (o : Oper) cs b, L[j]? = some o → o.op ≠ .select cs b
  cls : ∀ (j : Nat) (o : Oper) (r : Row), L[j]? = some o → rs[j]? = some r → clsOk ti o r = true
  lo : ∀ (j : Nat) (o : Oper) (r : Row), L[j]? = some o → rs[j]? = some r → r.lo = 0 ∨ ∃ e ∈ edgesOf o, ∃ q : Row, rs[e]? = some q ∧ q.isH = true ∧ hc rs e + 1 = r.lo
  hi : ∀ (j : Nat) (o : Oper) (r : Row), L[j]? = some o → rs[j]? = some r → hc rs rs.length ≤ r.hi ∨ ∃ (k : Nat) (p : Oper) (q : Row), L[k]? = some p ∧ rs[k]? = some q ∧ q.isH = true ∧ hc rs k = r.hi ∧ j ∈ edgesOf p
  chain : ∀ (j : Nat) (o : Oper) (r : Row), L[j]? = some o → rs[j]? = some r → r.isH = true → hc rs j = 0 ∨ ∃ (e : Nat) (q : Row), rs[e]? = some q ∧ q.isH = true ∧ hc rs e + 1 = hc rs j ∧ (e ∈ edgesOf o ∨ ∃ i ∈ edgesOf o, Anc L i e)

theorem loOk_spec {rs : List Row} {es : List Nat} {n : Nat} (h : loOk rs es n = true) : n = 0 ∨ ∃ e ∈ es, ∃ q, rs[e]? = some q ∧ q.isH = true ∧ hc rs e + 1 = n := by
  simp only [loOk, Bool.or_eq_true, beq_iff_eq, List.any_eq_true] at h
  rcases h with h | ⟨e, he, h⟩
  · exact .inl h
  · refine .inr ⟨e, he, ?_⟩
    cases hq : rs[e]? with
    | none => simp only [hq] at h; cases h
    | some q => simp only [hq, Bool.and_eq_true, beq_iff_eq] at h; exact ⟨q, rfl, h.1, h.2⟩

theorem drawOk_facts {ti : Nat → Option ATy} {N : Nat} {ops : Array Oper} {rs : List Row} (h : drawOk ti N ops rs = true) : DrawF ti N ops.toList rs := by
  simp only [drawOk, Bool.and_eq_true] at h
  obtain ⟨hd, hr⟩ := h
  obtain ⟨h1, h2⟩ := rowsOk_get hr
  have get : ∀ j o, ops.toList[j]? = some o → ∃ r, rs[j]? = some r ∧ rowOk ti N ops.toList rs j o r = true := by
    intro j o hj
    have : j < rs.length := by rw [← h1]; exact (List.getElem?_eq_some_iff.1 hj).1
    refine ⟨_, List.getElem?_eq_getElem this, ?_⟩
    have := h2 j o _ hj (List.getElem?_eq_getElem this)
    rwa [Nat.zero_add] at this
  have zi : ∀ j o, ops.toList[j]? = some o → (o, j) ∈ ops.toList.zipIdx := fun j o hj => List.mem_zipIdx_iff_getElem?.2 hj
  refine ⟨h1, ?_, ?_, ?_, ?_, ?_, ?_, ?_, ?_, ?_, ?_, ?_⟩
  · intro i j oi oj d hi hj e1 e2
    simp only [dstsOk, List.all_eq_true] at hd
    have := hd _ (zi i oi hi) _ (zi j oj hj)
    simpa [e1, e2] using this
  · intro j o d hj e
    obtain ⟨r, _, h⟩ := get j o hj
    simp only [rowOk, Bool.and_eq_true] at h
    exact dstLt_iff h.1.1.1.1.1.1.1.1 d e
  · intro j o i hj hi
    obtain ⟨r, _, h⟩ := get j o hj
    simp only [rowOk, Bool.and_eq_true, List.all_eq_true] at h
    simpa using h.1.1.1.1.1.1.1.2 i hi
  · intro j o t i oi hj hm hi e
    obtain ⟨r, _, h⟩ := get j o hj
    simp only [rowOk, Bool.and_eq_true, List.all_eq_true] at h
    have := h.1.1.1.1.1.1.2 _ (Array.mem_toList_iff.2 hm)
    simp only [opndOk] at this
    have := List.all_eq_true.1 this _ (zi i oi hi)
    simp only [e, beq_self_eq_true, Bool.not_true, Bool.false_or, Bool.or_eq_true, Bool.and_eq_true] at this
    rcases this with h | ⟨⟨_, h⟩, h2⟩
    · exact .inl (by simpa using h)
    · refine .inr ⟨by simpa using h, ?_⟩
      cases hq : rs[i]? with
      | none => simp only [hq] at h2; cases h2
      | some q => simp only [hq] at h2; exact ⟨q, rfl, by simpa using h2⟩
  · intro j o r t i oi hj hr hf hm hi e
    obtain ⟨r', hr', h⟩ := get j o hj
    rw [hr] at hr'; cases hr'
    simp only [rowOk, Bool.and_eq_true, List.all_eq_true] at h
    have := h.1.1.1.1.1.1.2 _ (Array.mem_toList_iff.2 hm)
    simp only [opndOk] at this
    have := List.all_eq_true.1 this _ (zi i oi hi)
    simp only [e, beq_self_eq_true, Bool.not_true, Bool.false_or, Bool.or_eq_true, Bool.and_eq_true, hf, Bool.false_eq_true, false_and, or_false] at this
    simpa using this
  · intro j o g hj hg
    obtain ⟨r, _, h⟩ := get j o hj
    simp only [rowOk, Bool.and_eq_true, hg] at h
    simpa using h.1.1.1.1.1.2
  · intro j o cs b hj e
    obtain ⟨r, _, h⟩ := get j o hj
    simp only [rowOk, Bool.and_eq_true, e] at h
    exact absurd h.1.1.1.1.2 (by simp)
  · intro j o r hj hr
    obtain ⟨r', hr', h⟩ := get j o hj
    rw [hr] at hr'; cases hr'
    simp only [rowOk, Bool.and_eq_true] at h
    exact h.1.1.1.2
  · intro j o r hj hr
    obtain ⟨r', hr', h⟩ := get j o hj
    rw [hr] at hr'; cases hr'
    simp only [rowOk, Bool.and_eq_true] at h
    exact loOk_spec h.1.1.2
  · intro j o r hj hr
    obtain ⟨r', hr', h⟩ := get j o hj
    rw [hr] at hr'; cases hr'
    simp only [rowOk, Bool.and_eq_true] at h
    have := h.1.2
    simp only [hiOk, Bool.or_eq_true, decide_eq_true_eq, List.any_eq_true] at this
    rcases this with h | ⟨p, hp, h⟩
    · exact .inl h
    · refine .inr ⟨p.2, p.1, ?_⟩
      cases hq : rs[p.2]? with
      | none => simp only [hq] at h; cases h
      | some q =>
        simp only [hq, Bool.and_eq_true, beq_iff_eq] at h
        exact ⟨q, List.mem_zipIdx_iff_getElem?.1 hp, rfl, h.1.1, h.1.2, by simpa using h.2⟩
  · intro j o r hj hr hh
    obtain ⟨r', hr', h⟩ := get j o hj
    rw [hr] at hr'; cases hr'
    simp only [rowOk, Bool.and_eq_true, hh, Bool.not_true, Bool.false_or] at h
    have := h.2
    simp only [chainOk, Bool.or_eq_true, beq_iff_eq, List.any_eq_true, Bool.and_eq_true] at this
    rcases this with h | ⟨p, hp, ⟨h1, h2⟩, h3⟩
    · exact .inl h
    · exact .inr ⟨p.2, p.1, List.mem_zipIdx_iff_getElem?.1 hp, h1, h2, upB_spec h3⟩
end Go.AI
set_option linter.unusedVariables false
set_option linter.unusedSimpArgs false
namespace Go.AI
section
variable {P : Program} {ρ : Env} {φ : Phi} {w0 w : World} {ti : Nat → Option ATy} {bd : Bnd}

theorem HRel.reserve {h : AHeap} (H : HRel ρ w0 φ h w) (hn : True) (o : AObj) : HRel ρ w0 φ (h.newH o) w := by
  have hN : (h.newH o).next = h.next + 1 := rfl
  refine ⟨H.size, H.base, H.next, fun j bj sj hj => ?_, fun j k bj sj sk hj hk pj pk => ?_, fun j oj bj sj hj pj => ?_⟩
  · have := H.dom _ _ _ hj; rw [hN]; omega
  · have d1 := (H.dom _ _ _ pj).1
    have d2 := (H.dom _ _ _ pk).1
    rw [get_newH _ _ _ hn, if_neg (by omega)] at hj hk
    exact H.inj j k _ _ _ hj hk pj pk
  · have d1 := (H.dom _ _ _ pj).1
    rw [get_newH _ _ _ hn, if_neg (by omega)] at hj
    exact H.obj _ _ _ _ hj pj

/-- the facts of the fresh blocks -/
structure FreshF (ti : Nat → Option ATy) (l : List Oper) (rs : List Row) (t : Tm) (h : AHeap) (t1 : Tm) (h1 : AHeap) : Prop where
  next : h.next ≤ h1.next
  rel : ∀ ρ w0 φ w, HRel ρ w0 φ h w → HRel ρ w0 φ h1 w
  keep : ∀ d : Tmp, (∀ (k : Nat) (o : Oper) (r : Row), l[k]? = some o → rs[k]? = some r → r.isF = true → o.dst ≠ some d) → t1 d = t d
  named : ∀ (k : Nat) (o : Oper) (r : Row) (d : Tmp), l[k]? = some o → rs[k]? = some r → r.isF = true → o.dst = some d → ∃ b, Named (t1 d) b ∧ h.next ≤ b ∧ b < h1.next
  apart : ∀ (k k' : Nat) (o o' : Oper) (r r' : Row) (d d' : Tmp) (b b' : Nat), l[k]? = some o → rs[k]? = some r → r.isF = true → o.dst = some d → l[k']? = some o' → rs[k']? = some r' → r'.isF = true → o'.dst = some d' →
    Named (t1 d) b → Named (t1 d') b' → k < k' → b < b'

/-- no two have one place -/
def Apart (l : List Oper) : Prop := ∀ (i j : Nat) (oi oj : Oper) (d : Tmp), l[i]? = some oi → l[j]? = some oj → oi.dst = some d → oj.dst = some d → i = j
theorem Apart.tail {o : Oper} {l : List Oper} (h : Apart (o :: l)) : Apart l := by
  intro i j oi oj d hi hj e1 e2
  have := h (i + 1) (j + 1) oi oj d (by simpa using hi) (by simpa using hj) e1 e2
  omega
theorem Apart.head {o : Oper} {l : List Oper} (h : Apart (o :: l)) {d : Tmp} (e : o.dst = some d) {k : Nat} {o' : Oper} (hk : l[k]? = some o') : o'.dst ≠ some d := by
  intro e'
  have := h 0 (k + 1) o o' d (by simp) (by simpa using hk) e e'
  omega

theorem putD_ne {t : Tm} {v : AV} {d i : Nat} (h : i ≠ d) : putD t v d i = t i := by
  unfold putD
  cases hc : Nat.beq i d with
  | true => exact absurd (by simpa using hc) h
  | false => rfl
theorem putD_eq {t : Tm} {v : AV} {d : Nat} : putD t v d d = v := by
  unfold putD
  have : Nat.beq d d = true := by simp
  rw [this]
theorem putA_ne {t : Tm} {v : AV} {dst : Option Tmp} {i : Nat} (h : dst ≠ some i) : putA t dst v i = t i := by
  cases dst with
  | none => rfl
  | some d => exact putD_ne fun e => h (by rw [e])
theorem putA_eq {t : Tm} {v : AV} {dst : Option Tmp} {d : Nat} (h : dst = some d) : putA t dst v d = v := by subst h; exact putD_eq

theorem freshA_facts {C : CallF} : ∀ {l : List Oper} {rs : List Row} {te t t1 : Tm} {h h1 : AHeap}, Apart l → (∀ (k : Nat) (o : Oper) (r : Row), l[k]? = some o → rs[k]? = some r → r.isF = true → freshOp o.op = true) →
    freshA ti bd C l rs te t h = some (t1, h1) → FreshF ti l rs t h t1 h1 := by
  intro l
  induction l with
  | nil =>
    intro rs te t t1 h h1 ha hcl he
    cases he
    exact ⟨Nat.le_refl _, fun _ _ _ _ H => H, fun _ _ => rfl, fun k o r d hk => by simp at hk, fun k k' o o' r r' d d' b b' hk => by simp at hk⟩
  | cons o l ih =>
    intro rs te t t1 h h1 ha hcl he
    replace he : (arg0 rs fun r rs => match r.c with
      | .fresh => ob o.dst fun d => ob2 (opA ti bd C o.op te h) fun v h => freshA ti bd C l rs (putD te v d) (putD t v d) h
      | .heavy => freshA ti bd C l rs te t h
      | _ => sel r.e (ob2 (opA ti bd C o.op te h) fun v _ => freshA ti bd C l rs (putA te o.dst v) t h) (freshA ti bd C l rs te t h)) = some (t1, h1) := he
    simp only [arg0_some] at he
    obtain ⟨r, rs, rfl, he⟩ := he
    have hcl' : ∀ (k : Nat) (o : Oper) (r : Row), l[k]? = some o → rs[k]? = some r → r.isF = true → freshOp o.op = true := fun k o' r' hk hr hf => hcl (k + 1) o' r' (by simpa using hk) (by simpa using hr) hf
    have skip : ∀ te', r.isF = false → freshA ti bd C l rs te' t h = some (t1, h1) → FreshF ti (o :: l) (r :: rs) t h t1 h1 := by
      intro te' hr he
      have F := ih ha.tail hcl' he
      refine ⟨F.next, F.rel, fun d hd => F.keep d fun k o' r' hk hr' hf => hd (k + 1) o' r' (by simpa using hk) (by simpa using hr') hf, ?_, ?_⟩
      · intro k o' r' d hk hr' hf e
        cases k with
        | zero => simp at hr'; subst hr'; rw [hr] at hf; cases hf
        | succ k => exact F.named k o' r' d (by simpa using hk) (by simpa using hr') hf e
      · intro k k' o1 o2 r1 r2 d d' b b' hk hr1 hf1 e1 hk' hr2 hf2 e2 t1' t2' hlt
        cases k with
        | zero => simp at hr1; subst hr1; rw [hr] at hf1; cases hf1
        | succ k => cases k' with
          | zero => omega
          | succ k' => exact F.apart k k' o1 o2 r1 r2 d d' b b' (by simpa using hk) (by simpa using hr1) hf1 e1 (by simpa using hk') (by simpa using hr2) hf2 e2 t1' t2' (by omega)
    split at he
    · rename_i hr
      have hrF : r.isF = true := by simp [Row.isF, hr]
      simp only [ob_some, ob2_some] at he
      obtain ⟨d, hd, v, h2, hop, he⟩ := he
      obtain ⟨hn, ob', rfl, hnm⟩ := freshOp_new (hcl 0 o r (by simp) (by simp) hrF) hop
      have F := ih ha.tail hcl' he
      have hN : (h.newH ob').next = h.next + 1 := rfl
      have hnext := F.next
      have hself : t1 d = v := by
        rw [F.keep d fun k o' r' hk _ _ => ha.head hd hk]; exact putD_eq
      refine ⟨by omega, fun ρ w0 φ w H => F.rel _ _ _ _ (H.reserve hn _), fun d' hd' => ?_, ?_, ?_⟩
      · rw [F.keep d' fun k o' r' hk hr' hf => hd' (k + 1) o' r' (by simpa using hk) (by simpa using hr') hf]
        refine putD_ne fun e => ?_
        subst e
        exact hd' 0 o r (by simp) (by simp) hrF hd
      · intro k o' r' d' hk hr' hf e'
        cases k with
        | zero => simp at hk; subst hk; rw [hd] at e'; cases e'; exact ⟨_, by rw [hself]; exact hnm, Nat.le_refl _, by omega⟩
        | succ k => obtain ⟨b, b1, b2, b3⟩ := F.named k o' r' d' (by simpa using hk) (by simpa using hr') hf e'; exact ⟨b, b1, by omega, b3⟩
      · intro k k' o1 o2 r1 r2 d1 d2 b b' hk hr1 hf1 e1 hk' hr2 hf2 e2 t1' t2' hlt
        cases k' with
        | zero => omega
        | succ k' => cases k with
          | zero =>
            simp at hk; subst hk; rw [hd] at e1; cases e1
            rw [hself] at t1'
            have := t1'.inj hnm
            obtain ⟨b2, x1, x2, x3⟩ := F.named k' o2 r2 d2 (by simpa using hk') (by simpa using hr2) hf2 e2
            have := x1.inj t2'; omega
          | succ k => exact F.apart k k' o1 o2 r1 r2 d1 d2 b b' (by simpa using hk) (by simpa using hr1) hf1 e1 (by simpa using hk') (by simpa using hr2) hf2 e2 t1' t2' (by omega)
    · rename_i hr
      exact skip te (by simp [Row.isF, hr]) he
    · rename_i hr1 hr2
      have hrF : r.isF = false := by cases hx : r.c <;> simp [Row.isF, hx]; exact hr1 hx
      cases hre : r.e with
      | true =>
        rw [hre] at he; simp only [sel_true, ob2_some] at he
        obtain ⟨v, _, _, he⟩ := he
        exact skip _ hrF he
      | false =>
        rw [hre] at he; simp only [sel_false] at he
        exact skip te hrF he

/-- what the abstract run says of one operation -/
def PF (ti : Nat → Option ATy) (bd : Bnd) (C : CallF) (ops : Array Oper) (tk tf : Tm) (o : Oper) (r : Row) (hh : AHeap) (nx : Option AHeap) : Prop :=
  ∃ b, wantA ops o tk = some b ∧
    (b = true → ∃ v h', opA ti bd C o.op tk hh = some (v, h') ∧ (∀ d, o.dst = some d → tf d = v) ∧ (r.isH = true → nx = some h')) ∧
    (b = false → (∀ d, o.dst = some d → tf d = undefA) ∧ (r.isH = true → nx = some hh))

theorem hc_zero (rs : List Row) : hc rs 0 = 0 := by simp [hc]
theorem hc_cons (r : Row) (rs : List Row) (k : Nat) : hc (r :: rs) (k + 1) = (if r.isH = true then 1 else 0) + hc rs k := by
  simp only [hc, List.take_succ_cons, List.countP_cons]; omega

structure PassF (ti : Nat → Option ATy) (bd : Bnd) (C : CallF) (ops : Array Oper) (l : List Oper) (rs : List Row) (t : Tm) (h : AHeap) (tf : Tm) (hf : AHeap) (hs : List AHeap) : Prop where
  head : hs[0]? = some h
  last : hs[hc rs rs.length]? = some hf
  keep : ∀ d : Tmp, (∀ (k : Nat) (o : Oper) (r : Row), l[k]? = some o → rs[k]? = some r → r.isF = false → o.dst ≠ some d) → tf d = t d
  op : ∀ (k : Nat) (o : Oper) (r : Row), l[k]? = some o → rs[k]? = some r → r.isF = false →
    ∃ tk hh, hs[hc rs k]? = some hh ∧ PF ti bd C ops tk tf o r hh hs[hc rs k + 1]? ∧ (∀ d : Tmp, (∀ (j : Nat) (o : Oper), k ≤ j → l[j]? = some o → o.dst ≠ some d) → tk d = tf d) ∧
      ∀ d : Tmp, (∀ (j : Nat) (o : Oper) (r : Row), j < k → l[j]? = some o → rs[j]? = some r → r.isF = false → o.dst ≠ some d) → tk d = t d

theorem passA_facts {C : CallF} {ops : Array Oper} : ∀ {l : List Oper} {rs : List Row} {t tf : Tm} {h hf : AHeap} {hs : List AHeap}, Apart l → l.length = rs.length → passA ti bd C ops l rs t h = some (tf, hf, hs) →
    PassF ti bd C ops l rs t h tf hf hs := by
  intro l
  induction l with
  | nil =>
    intro rs t tf h hf hs ha hlen he
    cases he
    cases rs with
    | nil => exact ⟨rfl, rfl, fun _ _ => rfl, fun k o r hk => by simp at hk⟩
    | cons _ _ => simp at hlen
  | cons o l ih =>
    intro rs t tf h hf hs ha hlen he
    replace he : passS ti bd C ops o (passA ti bd C ops l) rs t h = some (tf, hf, hs) := he
    simp only [passS, arg0_some, putK_eq] at he
    obtain ⟨r, rs, rfl, he⟩ := he
    have hlen' : l.length = rs.length := by simpa using hlen
    -- one light operation, carried out or not
    have light : r.isH = false → r.isF = false → ∀ v, (∃ b, wantA ops o t = some b ∧ (b = true → ∃ h', opA ti bd C o.op t h = some (v, h')) ∧ (b = false → v = undefA)) →
        passA ti bd C ops l rs (putA t o.dst v) h = some (tf, hf, hs) → PassF ti bd C ops (o :: l) (r :: rs) t h tf hf hs := by
      intro hrH hrF v hb he
      have F := ih ha.tail hlen' he
      have hc1 : ∀ k, hc (r :: rs) (k + 1) = hc rs k := fun k => by rw [hc_cons, hrH]; simp
      have hself : ∀ d, o.dst = some d → tf d = v := fun d hd => by
        rw [F.keep d fun k o' r' hk _ _ => ha.head hd hk]; exact putA_eq hd
      refine ⟨F.head, by rw [List.length_cons, hc1]; exact F.last, fun d hd => ?_, fun k o' r' hk hr' hf' => ?_⟩
      · rw [F.keep d fun k o' r' hk hr' hf => hd (k + 1) o' r' (by simpa using hk) (by simpa using hr') hf]
        exact putA_ne (hd 0 o r (by simp) (by simp) hrF)
      · cases k with
        | zero =>
          simp at hk hr'; subst hk; subst hr'
          refine ⟨t, h, by rw [hc_zero]; exact F.head, ?_, fun d hd => ?_, fun _ _ => rfl⟩
          · obtain ⟨b, b1, b2, b3⟩ := hb
            refine ⟨b, b1, fun e => ?_, fun e => ?_⟩
            · obtain ⟨h', b2⟩ := b2 e; exact ⟨v, h', b2, hself, fun e => by rw [hrH] at e; cases e⟩
            · have := b3 e; subst this; exact ⟨hself, fun e => by rw [hrH] at e; cases e⟩
          · rw [F.keep d fun k o' r' hk _ _ => hd (k + 1) o' (by omega) (by simpa using hk)]
            exact (putA_ne (hd 0 _ (by omega) (by simp))).symm
        | succ k =>
          obtain ⟨tk, hh, x1, x2, x3, x4⟩ := F.op k o' r' (by simpa using hk) (by simpa using hr') hf'
          rw [hc1]
          exact ⟨tk, hh, x1, x2, fun d hd => x3 d fun j oj hj hlj => hd (j + 1) oj (by omega) (by simpa using hlj), fun d hd => (x4 d fun j oj rj hj hlj hrj hfj => hd (j + 1) oj rj (by omega) (by simpa using hlj) (by simpa using hrj) hfj).trans (putA_ne (hd 0 _ _ (by omega) (by simp) (by simp) hrF))⟩
    -- one heavy operation
    have heavy : r.isH = true → r.isF = false → ∀ v h2 hs', (∃ b, wantA ops o t = some b ∧ (b = true → opA ti bd C o.op t h = some (v, h2)) ∧ (b = false → v = undefA ∧ h2 = h)) →
        passA ti bd C ops l rs (putA t o.dst v) h2 = some (tf, hf, hs') → hs = h :: hs' → PassF ti bd C ops (o :: l) (r :: rs) t h tf hf hs := by
      intro hrH hrF v h2 hs' hb hp hhs
      subst hhs
      have F := ih ha.tail hlen' hp
      have hc1 : ∀ k, hc (r :: rs) (k + 1) = hc rs k + 1 := fun k => by rw [hc_cons, hrH]; simp; omega
      have hself : ∀ d, o.dst = some d → tf d = v := fun d hd => by
        rw [F.keep d fun k o' r' hk _ _ => ha.head hd hk]; exact putA_eq hd
      refine ⟨rfl, by rw [List.length_cons, hc1]; simpa using F.last, fun d hd => ?_, fun k o' r' hk hr' hf' => ?_⟩
      · rw [F.keep d fun k o' r' hk hr' hf => hd (k + 1) o' r' (by simpa using hk) (by simpa using hr') hf]
        exact putA_ne (hd 0 o r (by simp) (by simp) hrF)
      · cases k with
        | zero =>
          simp at hk hr'; subst hk; subst hr'
          refine ⟨t, h, by rw [hc_zero]; rfl, ?_, fun d hd => ?_, fun _ _ => rfl⟩
          · have hnx : (h :: hs')[hc (r :: rs) 0 + 1]? = some h2 := by rw [hc_zero]; simpa using F.head
            rw [hnx]
            obtain ⟨b, b1, b2, b3⟩ := hb
            refine ⟨b, b1, fun e => ⟨v, h2, b2 e, hself, fun _ => rfl⟩, fun e => ?_⟩
            obtain ⟨e1, e2⟩ := b3 e
            subst e1; subst e2
            exact ⟨hself, fun _ => rfl⟩
          · rw [F.keep d fun k o' r' hk _ _ => hd (k + 1) o' (by omega) (by simpa using hk)]
            exact (putA_ne (hd 0 _ (by omega) (by simp))).symm
        | succ k =>
          obtain ⟨tk, hh, x1, x2, x3, x4⟩ := F.op k o' r' (by simpa using hk) (by simpa using hr') hf'
          rw [hc1]
          exact ⟨tk, hh, by simpa using x1, by simpa using x2, fun d hd => x3 d fun j oj hj hlj => hd (j + 1) oj (by omega) (by simpa using hlj), fun d hd => (x4 d fun j oj rj hj hlj hrj hfj => hd (j + 1) oj rj (by omega) (by simpa using hlj) (by simpa using hrj) hfj).trans (putA_ne (hd 0 _ _ (by omega) (by simp) (by simp) hrF))⟩
    split at he
    · rename_i hr
      -- a fresh one: it is there already
      have hrH : r.isH = false := by simp [Row.isH, hr]
      have hrF : r.isF = true := by simp [Row.isF, hr]
      have F := ih ha.tail hlen' he
      have hc1 : ∀ k, hc (r :: rs) (k + 1) = hc rs k := fun k => by rw [hc_cons, hrH]; simp
      refine ⟨F.head, by rw [List.length_cons, hc1]; exact F.last, fun d hd => F.keep d fun k o' r' hk hr' hf => hd (k + 1) o' r' (by simpa using hk) (by simpa using hr') hf, fun k o' r' hk hr' hf' => ?_⟩
      cases k with
      | zero => simp at hr'; subst hr'; rw [hrF] at hf'; cases hf'
      | succ k =>
        obtain ⟨tk, hh, x1, x2, x3, x4⟩ := F.op k o' r' (by simpa using hk) (by simpa using hr') hf'
        rw [hc1]
        exact ⟨tk, hh, x1, x2, fun d hd => x3 d fun j oj hj hlj => hd (j + 1) oj (by omega) (by simpa using hlj), fun d hd => x4 d fun j oj rj hj hlj hrj hfj => hd (j + 1) oj rj (by omega) (by simpa using hlj) (by simpa using hrj) hfj⟩
    · rename_i hr
      simp only [ob_some] at he
      obtain ⟨b, h1, he⟩ := he
      cases b with
      | true =>
        simp only [sel_true, ob2_some, stage, ob_some, Option.some.injEq, Prod.mk.injEq] at he
        obtain ⟨v, h2, h3, x, h4, rfl, rfl, rfl⟩ := he
        exact heavy (by simp [Row.isH, hr]) (by simp [Row.isF, hr]) v h2 x.2.2 ⟨true, h1, fun _ => h3, fun e => (by cases e)⟩ h4 rfl
      | false =>
        simp only [sel_false, ob2_some, stage, ob_some, Option.some.injEq, Prod.mk.injEq] at he
        obtain ⟨_, _, ⟨rfl, rfl⟩, x, h4, rfl, rfl, rfl⟩ := he
        exact heavy (by simp [Row.isH, hr]) (by simp [Row.isF, hr]) undefA h x.2.2 ⟨false, h1, fun e => (by cases e), fun _ => ⟨rfl, rfl⟩⟩ h4 rfl
    · rename_i hr1 hr2
      have hrH : r.isH = false := by cases hx : r.c <;> simp [Row.isH, hx]; exact hr2 hx
      have hrF : r.isF = false := by cases hx : r.c <;> simp [Row.isF, hx]; exact hr1 hx
      simp only [ob_some] at he
      obtain ⟨b, h1, he⟩ := he
      cases b with
      | true =>
        simp only [sel_true, ob2_some] at he
        obtain ⟨v, h2, h3, he⟩ := he
        exact light hrH hrF v ⟨true, h1, fun _ => ⟨h2, h3⟩, fun e => (by cases e)⟩ he
      | false =>
        simp only [sel_false, ob2_some, Option.some.injEq, Prod.mk.injEq] at he
        obtain ⟨_, _, ⟨rfl, rfl⟩, he⟩ := he
        exact light hrH hrF undefA ⟨false, h1, fun e => (by cases e), fun _ => rfl⟩ he

theorem allL_iff {α : Type} {p : α → Bool} : ∀ {l : List α}, allL p l = true ↔ ∀ x ∈ l, p x = true
  | [] => by simp [allL]
  | x :: l => by
    have ih := allL_iff (p := p) (l := l)
    show sel (p x) (allL p l) false = true ↔ _
    cases hx : p x <;> simp [hx, ih]

theorem cut_mem {lo hi s : Nat} {hs : List AHeap} {h : AHeap} (h1 : lo ≤ s) (h2 : s ≤ hi) (hh : hs[s]? = some h) : h ∈ cut lo hi hs := by
  unfold cut
  cases hc : takeN (Nat.succ (Nat.sub hi lo)) (dropN lo hs) with
  | none => exact List.mem_of_getElem? hh
  | some l =>
    rw [takeN_some] at hc
    obtain ⟨k1, rfl⟩ := hc
    show h ∈ List.take (hi - lo + 1) (dropN lo hs)
    rw [dropN_eq]
    refine List.mem_of_getElem? (i := s - lo) ?_
    rw [List.getElem?_take, if_pos (by omega), List.getElem?_drop]
    rw [show lo + (s - lo) = s from by omega]; exact hh

theorem postA_facts {C : CallF} {ops : Array Oper} {t : Tm} {hs : List AHeap} : ∀ {l : List Oper} {rs : List Row}, postA ti bd C ops t hs l rs = true → ∀ (k : Nat) (o : Oper) (r : Row), l[k]? = some o → rs[k]? = some r → postR ti bd C ops t hs o r = true := by
  intro l
  induction l with
  | nil => intro rs he k o r hk; simp at hk
  | cons o l ih =>
    intro rs he k o' r' hk hr
    cases rs with
    | nil => simp at hr
    | cons r rs =>
      replace he : sel (postR ti bd C ops t hs o r) (postA ti bd C ops t hs l rs) false = true := he
      cases hp : postR ti bd C ops t hs o r with
      | false => rw [hp] at he; cases he
      | true =>
        rw [hp] at he
        cases k with
        | zero => simp at hk hr; subst hk; subst hr; exact hp
        | succ k => exact ih he k o' r' (by simpa using hk) (by simpa using hr)
end
end Go.AI
set_option linter.unusedVariables false
set_option linter.unusedSimpArgs false
namespace Go.AI
section
variable {P : Program} {ρ : Env} {φ : Phi} {w0 w : World} {ti : Nat → Option ATy} {bd : Bnd} {N : Nat} {ds : List Deferred}

-- counting
theorem hc_mono {rs : List Row} {i j : Nat} (h : i ≤ j) : hc rs i ≤ hc rs j := by
  unfold hc
  have : rs.take i = (rs.take j).take i := by rw [List.take_take, Nat.min_eq_left h]
  rw [this]
  exact (List.take_sublist _ _).countP_le
theorem hc_succ {rs : List Row} {j : Nat} {r : Row} (hr : rs[j]? = some r) (hh : r.isH = true) : hc rs (j + 1) = hc rs j + 1 := by
  unfold hc
  rw [List.take_add_one, hr, List.countP_append]
  simp [hh]
theorem hc_lt {rs : List Row} {i j : Nat} {r : Row} (hr : rs[i]? = some r) (hh : r.isH = true) (h : i < j) : hc rs i < hc rs j := by
  have := hc_mono (rs := rs) (show i + 1 ≤ j from h)
  rw [hc_succ hr hh] at this; omega
theorem hc_inj {rs : List Row} {i j : Nat} {r q : Row} (hr : rs[i]? = some r) (hh : r.isH = true) (hq : rs[j]? = some q) (hh' : q.isH = true) (h : hc rs i = hc rs j) : i = j := by
  rcases Nat.lt_trichotomy i j with h' | h' | h'
  · have := hc_lt hr hh h'; omega
  · exact h'
  · have := hc_lt hq hh' h'; omega
theorem hc_le_all {rs : List Row} {j : Nat} {r : Row} (hr : rs[j]? = some r) : hc rs j ≤ hc rs rs.length :=
  hc_mono (Nat.le_of_lt (List.getElem?_eq_some_iff.1 hr).1)
theorem hc_lt_all {rs : List Row} {j : Nat} {r : Row} (hr : rs[j]? = some r) (hh : r.isH = true) : hc rs j < hc rs rs.length :=
  hc_lt hr hh (List.getElem?_eq_some_iff.1 hr).1

/-- a fresh block that comes late -/
theorem HRel.late {h : AHeap} (H : HRel ρ w0 φ h w) {b : Nat} {o : AObj} {ob' : Obj} {sz : Nat} (hb : φ b = none) (hlt : b < h.next) (hg : h.get b = some o) (ho : ORel ρ φ sz o ob') :
    HRel ρ w0 (φ.ext b w.heap.size sz) h (wnew w ob') := by
  have hle : φ.le (φ.ext b w.heap.size sz) := Phi.ext_le hb
  refine ⟨by simp [wnew]; have := H.size; omega, fun b' hb' => ?_, H.next, fun j bj sj hj => ?_, fun j k bj sj sk hj hk pj pk => ?_, fun j oj bj sj hj pj => ?_⟩
  · have := H.size
    simp only [wnew]; rw [Array.getElem?_push, if_neg (by omega)]; exact H.base b' hb'
  · unfold Phi.ext at hj
    simp only [wnew, Array.size_push]
    by_cases e : j = b
    · rw [if_pos e] at hj; cases hj; have := H.size; exact ⟨by omega, this, by omega⟩
    · rw [if_neg e] at hj; have := H.dom _ _ _ hj; omega
  · unfold Phi.ext at pj pk
    by_cases e : j = b <;> by_cases e' : k = b
    · omega
    · rw [if_pos e] at pj; rw [if_neg e'] at pk; cases pj; have := H.dom _ _ _ pk; omega
    · rw [if_neg e] at pj; rw [if_pos e'] at pk; cases pk; have := H.dom _ _ _ pj; omega
    · rw [if_neg e] at pj; rw [if_neg e'] at pk; exact H.inj j k _ _ _ hj hk pj pk
  · by_cases e : j = b
    · subst e
      rw [Phi.ext_self] at pj; cases pj
      rw [hg] at hj; cases hj
      exact ⟨ob', Array.getElem?_push_size, ho.mono hle⟩
    · have pj' : φ j = some (bj, sj) := by simpa [Phi.ext, e] using pj
      obtain ⟨b2, hb1, hb2⟩ := H.obj _ _ _ _ hj pj'
      have := H.dom _ _ _ pj'
      refine ⟨b2, ?_, hb2.mono hle⟩
      simp only [wnew]; rw [Array.getElem?_push, if_neg (by omega)]; exact hb1

-- a fresh block that comes late, of whatever sort
theorem VRel.back {φ2 : Phi} (hle : φ.le φ2) {v : AV} {u1 : Value} (h : VRel ρ φ v u1) : ∀ u2 : Value, VRel ρ φ2 v u2 → VRel ρ φ v u2 := by
  have key : ∀ {b p q}, φ b = some p → φ2 b = some q → φ b = some q := by
    intro b p q h1 h2
    have := hle _ _ h1
    rw [this] at h2; cases h2; exact h1
  refine VRel.rec (motive_1 := fun v _ _ => ∀ u2 : Value, VRel ρ φ2 v u2 → VRel ρ φ v u2) (motive_2 := fun l _ _ => ∀ m2 : List Value, VsRel ρ φ2 l m2 → VsRel ρ φ l m2)
    ?_ ?_ ?_ ?_ ?_ ?_ ?_ ?_ ?_ ?_ ?_ ?_ ?_ ?_ ?_ ?_ ?_ ?_ ?_ h
  · intro b u2 h2; cases h2; exact .bool _
  · intro k n u2 h2; cases h2; exact .int _ _
  · intro k i c u2 h2; cases h2; exact .sym _ _ _
  · intro s u2 h2
    generalize hl : s.data.toList.map UInt8.toNat = l at h2
    cases h2; exact .str _
  · intro u2 h2; cases h2; exact .nilp
  · intro b o blk sz hb u2 h2; cases h2 with | ptr _ _ blk2 sz2 hb2 => exact .ptr _ _ _ _ (key hb hb2)
  · intro u2 h2; cases h2; exact .nils
  · intro b o n cap ex es blk sz off c hb _ _ _ _ _ u2 h2
    cases h2 with | slice _ _ _ _ _ _ blk2 sz2 off2 c2 hb2 q1 q2 q3 q4 q5 => exact .slice _ _ _ _ _ _ _ _ _ _ (key hb hb2) q1 q2 q3 q4 q5
  · intro u2 h2; cases h2; exact .nilm
  · intro r blk sz hb u2 h2; cases h2 with | map _ blk2 sz2 hb2 => exact .map _ _ _ (key hb hb2)
  · intro fn a c a' c' _ _ ih ih' u2 h2; cases h2 with | func _ _ _ a2 c2 r1 r2 => exact .func _ _ _ _ _ (ih _ r1) (ih' _ r2)
  · intro r blk sz hb u2 h2; cases h2 with | yield _ blk2 sz2 hb2 => exact .yield _ _ _ (key hb hb2)
  · intro u2 h2; cases h2; exact .nilf
  · intro t v u _ ih u2 h2; cases h2 with | iface _ _ u2 r1 => exact .iface _ _ _ (ih _ r1)
  · intro u2 h2; cases h2; exact .nili
  · intro l a _ hf ih u2 h2; cases h2 with | agg _ a2 r1 hf2 => exact .agg _ _ (ih _ r1) hf
  · intro l a _ ih u2 h2; cases h2 with | tup _ a2 r1 => exact .tup _ _ (ih _ r1)
  · intro m2 h2; cases h2; exact .nil
  · intro v u l m _ _ ih ih' m2 h2; cases h2 with | cons _ u2 _ m2 r1 r2 => exact .cons _ _ _ _ (ih _ r1) (ih' _ r2)
theorem VsRel.back {φ2 : Phi} (hle : φ.le φ2) : ∀ {l : List AV} {m1 m2 : List Value}, VsRel ρ φ l m1 → VsRel ρ φ2 l m2 → VsRel ρ φ l m2
  | [], _, _, h, h2 => by cases h2; exact .nil
  | v :: l, _, _, h, h2 => by
    cases h with | cons _ u1 _ m1 r1 r2 => cases h2 with | cons _ u2 _ m2 q1 q2 => exact .cons _ _ _ _ (VRel.back hle r1 _ q1) (VsRel.back hle r2 q2)
theorem ORel.back {φ2 : Phi} (hle : φ.le φ2) {sz1 sz2 : Nat} {o : AObj} {o1 o2 : Obj} (h : ORel ρ φ sz1 o o1) (h2 : ORel ρ φ2 sz2 o o2) : ORel ρ φ sz2 o o2 := by
  cases h2 with
  | cells l c e lo hi q1 q2 q3 q4 q5 => cases h with | cells _ c1 e1 lo1 hi1 p1 p2 p3 p4 p5 => exact .cells _ _ _ _ _ q1 q2 (VsRel.back hle p3 q3) q4 q5
  | map es es' clock q1 q2 q3 => cases h with | map _ es1 _ p1 p2 p3 => exact .map _ _ _ (VsRel.back hle p1 q1) (VsRel.back hle p2 q2) q3
  | nilIter since stepped seen seen' => exact .nilIter ..
  | mapIter m blk bsz since stepped seen seen' hm hs =>
    cases h with | mapIter _ blk1 bsz1 _ _ _ seen1 hm1 hs1 =>
      have := hle _ _ hm1
      rw [this] at hm; cases hm
      exact .mapIter _ _ _ _ _ _ _ hm1 hs
  | strIter s p => exact .strIter ..
  | loop D t ps asg body st p N fn b tmps ht hn hp hg hg' =>
    generalize hq : ps.toList = pl at h
    cases h with | loop _ _ ps1 _ _ _ _ N1 fn1 b1 tmps1 ht1 _ _ _ _ =>
      have : ps1 = ps := by cases ps; cases ps1; simpa using hq.symm
      subst this
      exact .loop _ _ _ _ _ _ _ _ _ _ _ (fun i => VRel.back hle (ht1 i) _ (ht i)) hn hp hg hg'
  | dfr => exact .dfr

theorem VRel.avoid {φ2 : Phi} {n : Nat} (hsame : ∀ i, i ≠ n → φ2 i = φ i) : ∀ (v : AV) {u : Value}, VRel ρ φ2 v u → avB n v = true → VRel ρ φ v u
  | .iface t v, _, h, ha => by cases h with | iface _ _ u r => exact .iface _ _ _ (VRel.avoid hsame v r ha)
  | .bool b, _, h, _ => by cases h; exact .bool _
  | .int k c, _, h, _ => by cases h; exact .int _ _
  | .sym k i c, _, h, _ => by cases h; exact .sym _ _ _
  | .str l, _, h, _ => by cases h; exact .str _
  | .nilp, _, h, _ => by cases h; exact .nilp
  | .nils, _, h, _ => by cases h; exact .nils
  | .nilm, _, h, _ => by cases h; exact .nilm
  | .nilf, _, h, _ => by cases h; exact .nilf
  | .nili, _, h, _ => by cases h; exact .nili
  | .ptr b o, _, h, ha => by
    have hne : b ≠ n := by intro e; subst e; simp [avB] at ha
    cases h with | ptr _ _ blk sz hb => exact .ptr _ _ _ _ (by rw [← hsame b hne]; exact hb)
  | .slice b o l c ex es, _, h, ha => by
    have hne : b ≠ n := by intro e; subst e; simp [avB] at ha
    cases h with | slice _ _ _ _ _ _ blk sz off cc hb q1 q2 q3 q4 q5 => exact .slice _ _ _ _ _ _ _ _ _ _ (by rw [← hsame b hne]; exact hb) q1 q2 q3 q4 q5
  | .map b, _, h, ha => by
    have hne : b ≠ n := by intro e; subst e; simp [avB] at ha
    cases h with | map _ blk sz hb => exact .map _ _ _ (by rw [← hsame b hne]; exact hb)
  | .yield b, _, h, ha => by
    have hne : b ≠ n := by intro e; subst e; simp [avB] at ha
    cases h with | yield _ blk sz hb => exact .yield _ _ _ (by rw [← hsame b hne]; exact hb)
  | .func .., _, _, ha => by simp [avB] at ha
  | .agg _, _, _, ha => by simp [avB] at ha
  | .tup _, _, _, ha => by simp [avB] at ha

theorem HRel.renew {hh : AHeap} {w' : World} {φ2 : Phi} {ob1 ob2 : AObj} {v' v : AV} {u : Value} {b : Nat} (H : HRel ρ w0 φ hh w) (hb : φ b = none) (hlt : b < hh.next) (hg : hh.get b = some ob2) (hn : True)
    (g : Grow hh (hh.newH ob1) φ φ2) (H2 : HRel ρ w0 φ2 (hh.newH ob1) w') (hv : VRel ρ φ2 v' u) (hs : sameAs v' hh.next v b = true) (ho : sameOb hh.next ob1 ob2 = true) :
    ∃ φ3, φ.le φ3 ∧ (∀ i, i ≠ b → φ3 i = φ i) ∧ HRel ρ w0 φ3 hh w' ∧ VRel ρ φ3 v u := by
  obtain ⟨blk, sz, hp⟩ : ∃ blk sz, φ2 hh.next = some (blk, sz) := by
    cases hv <;> cases v <;> simp only [sameAs, Bool.and_eq_true, Nat.beq_eq, Bool.false_eq_true] at hs
    · rename_i b1 o1 blk sz hb1 b2 o2; rw [hs.1.1] at hb1; exact ⟨_, _, hb1⟩
    · rename_i b1 o1 n1 c1 x1 e1 blk sz off cc hb1 _ _ _ _ _ b2 o2 n2 c2 x2 e2; rw [hs.1.1.1] at hb1; exact ⟨_, _, hb1⟩
    · rename_i b1 blk sz hb1 b2; rw [hs.1] at hb1; exact ⟨_, _, hb1⟩
  have hN : (hh.newH ob1).next = hh.next + 1 := rfl
  have hsame : ∀ i, i ≠ hh.next → φ2 i = φ i := by
    intro i hi
    by_cases c : i < hh.next
    · exact g.old i c
    · have e1 : φ i = none := by cases e : φ i with | none => rfl | some p => have := (H.dom i p.1 p.2 e).1; omega
      have e2 : φ2 i = none := by cases e : φ2 i with | none => rfl | some p => have := (H2.dom i p.1 p.2 e).1; omega
      rw [e1, e2]
  have hle3 : φ.le (φ.ext b blk sz) := Phi.ext_le hb
  have d2 := H2.dom _ _ _ hp
  refine ⟨φ.ext b blk sz, hle3, fun i hi => by simp only [Phi.ext, if_neg hi], ⟨H2.size, H2.base, H2.next, fun j bj sj hj => ?_, fun j k bj sj sk hj hk pj pk => ?_, fun j oj bj sj hj pj => ?_⟩, ?_⟩
  · unfold Phi.ext at hj
    by_cases e : j = b
    · rw [if_pos e] at hj; cases hj; exact ⟨by omega, d2.2⟩
    · rw [if_neg e] at hj
      have d1 := H.dom _ _ _ hj
      have := H2.dom _ _ _ (g.le _ _ hj)
      exact ⟨d1.1, this.2⟩
  · have get2 : ∀ i, i < hh.next → hh.get i ≠ none → (hh.newH ob1).get i ≠ none := fun i hi e => by rw [get_newH _ _ _ hn, if_neg (by omega)]; exact e
    have getn : (hh.newH ob1).get hh.next ≠ none := by rw [get_newH _ _ _ hn, if_pos rfl]; simp
    unfold Phi.ext at pj pk
    by_cases e : j = b <;> by_cases e' : k = b
    · omega
    · rw [if_pos e] at pj; rw [if_neg e'] at pk; cases pj
      have d1 := (H.dom _ _ _ pk).1
      have := H2.inj hh.next k _ _ _ getn (get2 k d1 hk) hp (g.le _ _ pk)
      omega
    · rw [if_neg e] at pj; rw [if_pos e'] at pk; cases pk
      have d1 := (H.dom _ _ _ pj).1
      have := H2.inj j hh.next _ _ _ (get2 j d1 hj) getn (g.le _ _ pj) hp
      omega
    · rw [if_neg e] at pj; rw [if_neg e'] at pk
      exact H2.inj j k _ _ _ (get2 j (H.dom _ _ _ pj).1 hj) (get2 k (H.dom _ _ _ pk).1 hk) (g.le _ _ pj) (g.le _ _ pk)
  · by_cases e : j = b
    · subst e
      rw [Phi.ext_self] at pj; cases pj
      rw [hg] at hj; cases hj
      have hgn : (hh.newH ob1).get hh.next = some ob1 := by rw [get_newH _ _ _ hn, if_pos rfl]
      obtain ⟨o2, x1, x2⟩ := H2.obj _ _ _ _ hgn hp
      refine ⟨o2, x1, ?_⟩
      cases ob1 with
      | cells l =>
        cases ob2 with
        | cells m =>
          simp only [sameOb, Bool.and_eq_true] at ho
          have hlm := avsEq2_eq ho.1
          subst hlm
          have hav := allL_iff.1 ho.2
          cases x2 with
          | cells _ c e lo hi q1 q2 q3 q4 q5 =>
            refine .cells _ _ _ _ _ q1 q2 ?_ q4 q5
            have back : ∀ {l : List AV} {m : List Value}, (∀ x ∈ l, avB hh.next x = true) → VsRel ρ φ2 l m → VsRel ρ φ l m := by
              intro l
              induction l with
              | nil => intro m _ h; cases h; exact .nil
              | cons v l ih =>
                intro m ha h
                cases h with | cons _ u _ m r1 r2 => exact .cons _ _ _ _ (VRel.avoid hsame v r1 (ha v (by simp))) (ih (fun x hx => ha x (by simp [hx])) r2)
            exact (back hav q3).mono hle3
        | _ => simp [sameOb] at ho
      | map es c =>
        have hes : es = [] ∧ c = 0 ∧ ob2 = .map [] 0 := by
          cases es <;> cases c <;> cases ob2 <;> simp only [sameOb, Bool.false_eq_true] at ho
          rename_i es2 c2
          cases es2 <;> cases c2 <;> simp only [Bool.false_eq_true] at ho
          exact ⟨rfl, rfl, rfl⟩
        obtain ⟨rfl, rfl, rfl⟩ := hes
        cases x2 with
        | map _ es' _ q1 q2 q3 =>
          refine .map _ _ _ ?_ ?_ q3
          · have := q1.length; cases hx : es'.toList with
            | nil => simp; exact .nil
            | cons a l => rw [hx] at this; simp at this
          · have := q1.length; cases hx : es'.toList with
            | nil => simp; exact .nil
            | cons a l => rw [hx] at this; simp at this
      | _ => cases ob2 <;> simp [sameOb] at ho
    · have pj' : φ j = some (bj, sj) := by simpa [Phi.ext, e] using pj
      have d1 := (H.dom _ _ _ pj').1
      obtain ⟨o1, x1, x2⟩ := H.obj _ _ _ _ hj pj'
      have hgj : (hh.newH ob1).get j = some oj := by rw [get_newH _ _ _ hn, if_neg (by omega)]; exact hj
      obtain ⟨o2, y1, y2⟩ := H2.obj _ _ _ _ hgj (g.le _ _ pj')
      exact ⟨o2, y1, (ORel.back g.le x2 y2).mono hle3⟩
  · have hself := Phi.ext_self φ b blk sz
    cases hv <;> cases v <;> simp only [sameAs, Bool.and_eq_true, Nat.beq_eq, Bool.false_eq_true] at hs
    · rename_i b1 o1 blk1 sz1 hb1 b2 o2
      obtain ⟨⟨rfl, rfl⟩, rfl⟩ := hs
      rw [hp] at hb1; cases hb1
      exact .ptr _ _ _ _ hself
    · rename_i b1 o1 n1 c1 x1 e1 blk1 sz1 off cc hb1 q1 q2 q3 q4 q5 b2 o2 n2 c2 x2 e2
      obtain ⟨⟨⟨rfl, rfl⟩, rfl, rfl⟩, ⟨rfl, rfl⟩, hx, _⟩ := hs
      rw [hp] at hb1; cases hb1
      have : x1 = x2 := by cases x1 <;> cases x2 <;> simp at hx ⊢
      subst this
      exact .slice _ _ _ _ _ _ _ _ _ _ hself q1 q2 q3 q4 q5
    · rename_i b1 blk1 sz1 hb1 b2
      obtain ⟨rfl, rfl⟩ := hs
      rw [hp] at hb1; cases hb1
      exact .map _ _ _ hself

theorem wantA_congr {ops : Array Oper} {o : Oper} {t t' : Tm} (h : ∀ (g : Nat × Bool) (p : Oper) (d : Tmp), o.guard = some g → ops.toList[g.1]? = some p → p.dst = some d → t d = t' d) : wantA ops o t = wantA ops o t' := by
  unfold wantA
  cases hg : o.guard with
  | none => rfl
  | some g =>
    show wantG ops t g = wantG ops t' g
    simp only [wantG, nth_eq]
    cases hp : ops.toList[g.1]? with
    | none => rfl
    | some p =>
      show (ob p.dst fun d => _) = (ob p.dst fun d => _)
      cases hd : p.dst with
      | none => rfl
      | some d =>
        have := h g p d hg hp hd
        show (match t d with | .bool b => some (sel b g.2 (not g.2)) | .tup _ => some false | _ => none) = _
        rw [this]; rfl

section
variable {ops : Array Oper} {rs : List Row} {h h1 : AHeap} {t tf : Tm} {hs : List AHeap}

structure Inv (ρ : Env) (w0 : World) (N : Nat) (ds : List Deferred) (ops : Array Oper) (rs : List Row) (φ : Phi) (t : Tm) (h h1 : AHeap) (tf : Tm) (hs : List AHeap) (listed : Array Bool) (a : Act) (w : World) (s : Nat) (hh : AHeap) (φ' : Phi) : Prop where
  size : listed.size = ops.size
  heap : hs[s]? = some hh
  le : s ≤ hc rs rs.length
  heavy : ∀ (j : Nat) (r : Row), rs[j]? = some r → r.isH = true → (listed.getD j true = true ↔ hc rs j < s)
  closed : ∀ (j : Nat) (o : Oper), ops.toList[j]? = some o → listed.getD j true = true → ∀ i ∈ edgesOf o, listed.getD i true = true
  grow : Grow h hh φ φ'
  next : h1.next ≤ hh.next
  H : HRel ρ w0 φ' hh w
  pend : ∀ (j : Nat) (o : Oper) (r : Row) (d : Tmp) (b : Nat), ops.toList[j]? = some o → rs[j]? = some r → r.isF = true → listed.getD j true = false → o.dst = some d → Named (tf d) b → φ' b = none
  vals : ∀ (j : Nat) (o : Oper) (d : Tmp), ops.toList[j]? = some o → listed.getD j true = true → o.dst = some d → VRel ρ φ' (tf d) (a.tmps.getD d undef)
  rest : ∀ d : Tmp, (∀ (j : Nat) (o : Oper), ops.toList[j]? = some o → o.dst = some d → listed.getD j true = false) → VRel ρ φ' (t d) (a.tmps.getD d undef)
  n : N ≤ a.tmps.size
  d : a.defers = ds

theorem put_get {a : Act} {dst : Option Tmp} {u : Value} {d : Tmp} (h : dst ≠ some d) : (a.put dst u).tmps.getD d undef = a.tmps.getD d undef := by
  cases dst with
  | none => rfl
  | some e =>
    have : e ≠ d := fun x => h (by rw [x])
    simp [Act.put, Array.getElem?_setIfInBounds_ne this]
theorem put_self {a : Act} {dst : Option Tmp} {u : Value} {d : Tmp} (h : dst = some d) (hd : d < a.tmps.size) : (a.put dst u).tmps.getD d undef = u := by
  subst h; simp [Act.put, hd]

theorem getD_set {listed : Array Bool} {i j : Nat} (hj : j < listed.size) : (listed.setIfInBounds j true).getD i true = true ↔ i = j ∨ listed.getD i true = true := by
  by_cases e : i = j
  · subst e; simp [hj]
  · rw [getD_set_ne true (Ne.symm e)]; simp [e]
theorem getD_set_false {listed : Array Bool} {i j : Nat} (hj : j < listed.size) : (listed.setIfInBounds j true).getD i true = false ↔ i ≠ j ∧ listed.getD i true = false := by
  have := getD_set (i := i) hj
  rw [Bool.eq_false_iff, Bool.eq_false_iff, ne_eq, this]
  constructor
  · intro h; exact ⟨fun e => h (.inl e), fun e => h (.inr e)⟩
  · rintro ⟨h1, h2⟩ (h | h); exact h1 h; exact h2 h

/-- the state after an operation -/
theorem Inv.step (D : DrawF ti N ops.toList rs) {listed : Array Bool} {a : Act} {w w' : World} {s s' : Nat} {hh hh' : AHeap} {φ' φ'' : Phi} (I : Inv ρ w0 N ds ops rs φ t h h1 tf hs listed a w s hh φ')
    {j : Nat} {o : Oper} {r : Row} (hj : ops.toList[j]? = some o) (hr : rs[j]? = some r) (hun : listed.getD j true = false) (hes : ∀ i ∈ edgesOf o, listed.getD i true = true) {u : Value}
    (heap : hs[s']? = some hh') (hs' : s' = if r.isH = true then s + 1 else s) (hst : r.isH = true → hc rs j = s)
    (g : Grow h hh' φ φ'') (hle : φ'.le φ'') (next : h1.next ≤ hh'.next) (H : HRel ρ w0 φ'' hh' w')
    (pend : ∀ (j' : Nat) (o : Oper) (r : Row) (d : Tmp) (b : Nat), j' ≠ j → ops.toList[j']? = some o → rs[j']? = some r → r.isF = true → listed.getD j' true = false → o.dst = some d → Named (tf d) b → φ'' b = none)
    (hu : ∀ d, o.dst = some d → VRel ρ φ'' (tf d) u) : Inv ρ w0 N ds ops rs φ t h h1 tf hs (listed.setIfInBounds j true) (a.put o.dst u) w' s' hh' φ'' := by
  have hjl : j < listed.size := by rw [I.size]; simpa using (List.getElem?_eq_some_iff.1 hj).1
  refine ⟨by simp [I.size], heap, ?_, ?_, ?_, g, next, H, ?_, ?_, ?_, by rw [put_size]; exact I.n, by rw [put_defers]; exact I.d⟩
  · subst hs'
    by_cases c : r.isH = true
    · rw [if_pos c]; have := hc_lt_all hr c; have := hst c; omega
    · rw [if_neg c]; exact I.le
  · intro i q hq hh2
    rw [getD_set hjl]
    by_cases e : i = j
    · subst e
      rw [hr] at hq; cases hq
      rw [hs', if_pos hh2, hst hh2]; simp
    · have := I.heavy i q hq hh2
      simp only [e, false_or]
      rw [this, hs']
      by_cases c : r.isH = true
      · rw [if_pos c]
        have hne : hc rs i ≠ s := fun x => e (hc_inj hq hh2 hr c (by rw [hst c]; exact x))
        omega
      · rw [if_neg c]
  · intro i p hp hl k hk
    rw [getD_set hjl] at hl ⊢
    rcases hl with rfl | hl
    · rw [hj] at hp; cases hp; exact .inr (hes k hk)
    · exact .inr (I.closed i p hp hl k hk)
  · intro i p q d b hp hq hf hl hd ht
    rw [getD_set_false hjl] at hl
    exact pend i p q d b hl.1 hp hq hf hl.2 hd ht
  · intro i p d hp hl hd
    rw [getD_set hjl] at hl
    by_cases e : i = j
    · subst e
      rw [hj] at hp; cases hp
      have hlt := D.lt i _ d hj hd
      rw [put_self hd (Nat.lt_of_lt_of_le hlt I.n)]; exact hu d hd
    · rw [put_get fun x => e (D.dst i j _ _ d hp hj hd x)]
      exact (I.vals i p d hp (hl.resolve_left e) hd).mono hle
  · intro d hd
    have hne : o.dst ≠ some d := fun e => by
      have := hd j o hj e
      rw [getD_set_false hjl] at this
      exact this.1 rfl
    rw [put_get hne]
    exact (I.rest d fun i p hp e => ((getD_set_false hjl).1 (hd i p hp e)).2).mono hle

theorem Inv.anc {listed : Array Bool} {a : Act} {w : World} {s : Nat} {hh : AHeap} {φ' : Phi} (I : Inv ρ w0 N ds ops rs φ t h h1 tf hs listed a w s hh φ') {i k : Nat} (hA : Anc ops.toList i k) (hi : listed.getD i true = true) : listed.getD k true = true := by
  induction hA with
  | edge ho he => exact I.closed _ _ ho hi _ he
  | step ho he _ ih => exact ih (I.closed _ _ ho hi _ he)

open Classical in
/-- the temporaries as they are now -/
noncomputable def nowT (ops : Array Oper) (listed : Array Bool) (t tf : Tm) : Tm := fun d =>
  if ∃ (i : Nat) (oi : Oper), ops.toList[i]? = some oi ∧ oi.dst = some d ∧ listed.getD i true = true then tf d else t d

theorem Inv.now {listed : Array Bool} {a : Act} {w : World} {s : Nat} {hh : AHeap} {φ' : Phi} (I : Inv ρ w0 N ds ops rs φ t h h1 tf hs listed a w s hh φ') : TRel ρ φ' (nowT ops listed t tf) a.tmps := by
  intro d
  unfold nowT
  split
  · rename_i hx
    obtain ⟨i, oi, hi, hd, hl⟩ := hx
    exact I.vals i oi d hi hl hd
  · rename_i hx
    refine I.rest d fun i oi hi hd => ?_
    cases hl : listed.getD i true with
    | false => rfl
    | true => exact absurd ⟨i, oi, hi, hd, hl⟩ hx

/-- the run's facts, all of them -/
structure RunF (ti : Nat → Option ATy) (bd : Bnd) (C : CallF) (N : Nat) (ops : Array Oper) (rs : List Row) (t : Tm) (h : AHeap) (t1 : Tm) (h1 : AHeap) (tf : Tm) (hf : AHeap) (hs : List AHeap) : Prop where
  D : DrawF ti N ops.toList rs
  F : FreshF ti ops.toList rs t h t1 h1
  Pa : PassF ti bd C ops ops.toList rs t1 h1 tf hf hs
  Po : ∀ (k : Nat) (o : Oper) (r : Row), ops.toList[k]? = some o → rs[k]? = some r → postR ti bd C ops tf hs o r = true

theorem wantA_rel {o : Oper} {t : Tm} {a : Act} {b : Bool} {φ : Phi} (ht : ∀ (g : Nat × Bool) (p : Oper) (d : Tmp), o.guard = some g → ops.toList[g.1]? = some p → p.dst = some d → VRel ρ φ (t d) (a.tmps.getD d undef)) (he : wantA ops o t = some b) :
    Region.wanted o (yielded ops a.tmps) = b := by
  unfold wantA at he
  unfold Region.wanted
  cases hg : o.guard with
  | none => rw [hg] at he; simpa using he
  | some g =>
    rw [hg] at he
    obtain ⟨g, want⟩ := g
    have he : wantG ops t (g, want) = some b := he
    simp only [wantG, ob_some, nth_eq] at he
    obtain ⟨p, h1, d, h2, he⟩ := he
    have h1' : ops[g]? = some p := by simpa using h1
    have hr := ht (g, want) p d hg h1 h2
    unfold yielded
    simp only [h1', Option.bind_some, h2]
    split at he
    · rename_i r hr'
      rw [hr'] at hr
      generalize hu : a.tmps.getD d undef = u at hr
      cases hr
      have : a.tmps[d]? = some (.bool r) := by
        cases hx : a.tmps[d]? with
        | none => simp [hx, undef] at hu
        | some x => simp [hx] at hu; rw [hu]
      rw [this]
      simp only [Option.some.injEq] at he
      subst he
      cases r <;> cases want <;> rfl
    · rename_i l hr'
      rw [hr'] at hr
      generalize hu : a.tmps.getD d undef = u at hr
      cases hr with
      | tup _ x _ =>
        simp only [Option.some.injEq] at he
        subst he
        cases hx : a.tmps[d]? with
        | none => simp
        | some y =>
          simp [hx] at hu; subst hu
          simp
    · cases he

theorem Inv.op {rd : Option Nat} {n : Nat} (T : TiOk P ti) (hb : BdOk ρ bd) {C : CallF} (hC : CallOk P ρ w0 C) {t t1 : Tm} {hf : AHeap} (R : RunF ti bd C N ops rs t h t1 h1 tf hf hs) {Q : Exit → Act → World → Prop}
    {listed : Array Bool} {a : Act} {w : World} {s : Nat} {hh : AHeap} {φ' : Phi} (I : Inv ρ w0 N ds ops rs φ t h h1 tf hs listed a w s hh φ') {j : Nat} (hready : j ∈ Region.ready .any ops listed) :
    wpOpIn (fe rd) n P ops Q j (fun a' w' => ∃ s' hh' φ'', Inv ρ w0 N ds ops rs φ t h h1 tf hs (listed.setIfInBounds j true) a' w' s' hh' φ'') a w := by
  have D := R.D
  rw [mem_ready] at hready
  obtain ⟨hun, o, hoj, hafter⟩ := hready
  have hj : ops.toList[j]? = some o := by simpa using hoj
  have hjl : j < ops.toList.length := (List.getElem?_eq_some_iff.1 hj).1
  obtain ⟨r, hr⟩ : ∃ r, rs[j]? = some r := ⟨_, List.getElem?_eq_getElem (by rw [← D.len]; exact hjl)⟩
  have hes : ∀ i ∈ edgesOf o, listed.getD i true = true := by
    intro i hi
    obtain ⟨e, he, hbi, rfl⟩ := mem_edges.1 hi
    have := hafter e he hbi
    cases hx : listed[e.on]? with
    | none => simp [hx] at this
    | some y => simp [hx] at this ⊢; exact this
  -- the stage
  have hlo : r.lo ≤ s := by
    rcases D.lo j o r hj hr with h | ⟨e, he, q, hq, hh2, h⟩
    · omega
    · have := (I.heavy e q hq hh2).1 (hes e he); omega
  have hhi : s ≤ r.hi := by
    rcases D.hi j o r hj hr with h | ⟨k, p, q, hp, hq, hh2, h, hm⟩
    · have := I.le; omega
    · rcases Nat.lt_or_ge r.hi s with h' | h'
      · have hk := (I.heavy k q hq hh2).2 (by omega)
        have := I.closed k p hp hk j hm
        rw [this] at hun; cases hun
      · exact h'
  have hlo' : r.lo ≤ hc rs j := by
    rcases D.lo j o r hj hr with h | ⟨e, he, q, hq, hh2, h⟩
    · omega
    · have := hc_lt hq hh2 (D.edge j o e hj he); omega
  have hhi' : hc rs j ≤ r.hi := by
    rcases D.hi j o r hj hr with h | ⟨k, p, q, hp, hq, hh2, h, hm⟩
    · have := hc_le_all hr; omega
    · have := hc_mono (rs := rs) (Nat.le_of_lt (D.edge k p j hp hm)); omega
  have hst : r.isH = true → hc rs j = s := by
    intro hH
    have h1 : ¬ hc rs j < s := fun h => by have := (I.heavy j r hr hH).2 h; rw [this] at hun; cases hun
    rcases D.chain j o r hj hr hH with h | ⟨e, q, hq, hh2, h, he⟩
    · omega
    · have hle : listed.getD e true = true := by
        rcases he with he | ⟨i, hi, hA⟩
        · exact hes e he
        · exact I.anc hA (hes i hi)
      have := (I.heavy e q hq hh2).1 hle; omega
  have gvals : ∀ (g : Nat × Bool) (p : Oper) (d : Tmp), o.guard = some g → ops.toList[g.1]? = some p → p.dst = some d → VRel ρ φ' (tf d) (a.tmps.getD d undef) :=
    fun g p d hg hp hd => I.vals g.1 p d hp (hes _ (D.guard j o g hj hg)) hd
  have ht' := I.now
  have hcls := D.cls j o r hj hr
  unfold wpOpIn
  simp only [hoj]
  cases hF : r.isF with
  | true =>
    -- a fresh block
    have hc0 : r.c = .fresh := by cases hx : r.c <;> simp [Row.isF, hx] at hF; rfl
    have hH : r.isH = false := by simp [Row.isH, hc0]
    simp only [clsOk, hc0, Bool.and_eq_true] at hcls
    obtain ⟨⟨hal, hgu⟩, hds⟩ := hcls
    obtain ⟨d, hd⟩ := Option.isSome_iff_exists.1 hds
    have hgn : o.guard = none := by simpa using hgu
    have hw : Region.wanted o (yielded ops a.tmps) = true := by simp [Region.wanted, hgn]
    rw [if_pos hw]
    obtain ⟨b, hb1, hb2, hb3⟩ := R.F.named j o r d hj hr hF hd
    have fin : ∀ (j' : Nat) (o' : Oper) (r' : Row) (d' : Tmp), ops.toList[j']? = some o' → rs[j']? = some r' → r'.isF = true → o'.dst = some d' → tf d' = t1 d' := by
      intro j' o' r' d' hj' hr' hf' hd'
      refine R.Pa.keep d' fun k o2 r2 hk hr2 hf2 e => ?_
      have := D.dst k j' o2 o' d' hk hj' e hd'
      subst this
      rw [hr'] at hr2; cases hr2
      rw [hf'] at hf2; cases hf2
    have htf : Named (tf d) b := by rw [fin j o r d hj hr hF hd]; exact hb1
    have hpn := I.pend j o r d b hj hr hF hun hd htf
    have hblt : b < hh.next := by have := I.next; omega
    -- the end, from a naming that is changed at b alone
    have close : ∀ (φ3 : Phi) (u : Value) (w' : World), φ'.le φ3 → (∀ i, i ≠ b → φ3 i = φ' i) → HRel ρ w0 φ3 hh w' → VRel ρ φ3 (tf d) u →
        ∃ s' hh' φ'', Inv ρ w0 N ds ops rs φ t h h1 tf hs (listed.setIfInBounds j true) (a.put o.dst u) w' s' hh' φ'' := by
      intro φ3 u w' hle hoth HL hvu
      refine ⟨s, hh, φ3, I.step D hj hr hun hes I.heap (by rw [hH]; simp) (fun e => by rw [hH] at e; cases e) ⟨fun i p e => hle _ _ (I.grow.le _ _ e), fun i hi => ?_, I.grow.next⟩ hle I.next HL ?_ ?_⟩
      · rw [hoth i (by omega)]; exact I.grow.old i hi
      · intro j' o' r' d' b' hne hj' hr' hf' hl' hd' ht'
        have h1 := I.pend j' o' r' d' b' hj' hr' hf' hl' hd' ht'
        have ht1 : Named (t1 d') b' := by rw [← fin j' o' r' d' hj' hr' hf' hd']; exact ht'
        have hbb : b' ≠ b := by
          rcases Nat.lt_or_gt_of_ne hne with hlt | hgt
          · have := R.F.apart j' j o' o r' r d' d b' b hj' hr' hf' hd' hj hr hF hd ht1 hb1 hlt; omega
          · have := R.F.apart j j' o o' r r' d d' b b' hj hr hF hd hj' hr' hf' hd' hb1 ht1 hgt; omega
        rw [hoth b' hbb]; exact h1
      · intro d2 hd2
        rw [hd] at hd2; cases hd2
        exact hvu
    have hpost := R.Po j o r hj hr
    simp only [postR, hc0, hd] at hpost
    unfold freshZ at hpost
    split at hpost
    · rename_i e b' hop hbb
      rw [hbb] at htf
      have hbe : b' = b := htf.name
      subst hbe
      cases hti : ti e with
      | none => rw [hti] at hpost; cases hpost
      | some ty =>
        rw [hti] at hpost
        have hz := allL_iff.1 hpost hh (cut_mem (Nat.zero_le _) hhi I.heap)
        have hget : hh.get b' = some (.cells ty.zero) := by
          unfold isZ at hz
          cases hg : hh.get b' with
          | none => rw [hg] at hz; cases hz
          | some ob' =>
            rw [hg] at hz
            cases ob' with
            | cells l =>
              have hz' : avsEq l ty.zero = true := hz
              rw [avsEq_eq hz']
            | _ => cases hz
        have TR := T _ _ hti
        obtain ⟨z, zv, hz1, ho, hzc, _⟩ := TR.run_zero w
        have hrz : VRel ρ φ' zv z := ofValue_rel z zv ho
        have hor : ORel ρ φ' z.cells.size (.cells ty.zero) (.cells z.cells e) := by
          have hcc := hrz.cells
          rw [hzc] at hcc
          have hl := hcc.length
          refine .cells _ _ _ 0 0 rfl (by simp at hl; omega) ?_ TR.zflat (fun k _ => by omega)
          rw [hl, List.take_length]; exact hcc
        have HL := I.H.late hpn hblt hget hor
        have hrun : (execOp a.eval o).run P w = .ok (.value (.pointer (some ⟨w.heap.size, 0, none⟩))) (wnew w (.cells z.cells e)) := by
          simp only [execOp, hop]
          simp [Instr.alloc, hz1, newVar, run_newRow]
        unfold Oper.wpIn
        refine ⟨fun f _ => fe_fn rd f, ?_⟩
        rw [Oper.semAt_eq _ _ _ (fun c e => by rw [hop] at e; cases e), hrun]
        refine close (φ'.ext b' w.heap.size z.cells.size) _ _ (Phi.ext_le hpn) (fun i hi => by simp only [Phi.ext, if_neg hi]) HL ?_
        rw [hbb]
        exact .ptr _ _ _ _ (Phi.ext_self _ _ _ _)
    · cases hpost
    · have hz := allL_iff.1 hpost hh (cut_mem (Nat.zero_le _) hhi I.heap)
      unfold freshG at hz
      have hfl : floats r = true := by simp [floats, hc0]
      have hoptf : opA ti bd C o.op tf hh = opA ti bd C o.op (nowT ops listed t tf) hh := by
        refine opA_congr fun x hm => ?_
        cases x with
        | tmp tt =>
          show some (tf tt) = some (nowT ops listed t tf tt)
          congr 1
          unfold nowT
          by_cases hxx : ∃ (i : Nat) (oi : Oper), ops.toList[i]? = some oi ∧ oi.dst = some tt
          · obtain ⟨i, oi, hi, hd⟩ := hxx
            rw [if_pos ⟨i, oi, hi, hd, hes i (D.opndF j o r tt i oi hj hr hfl hm hi hd)⟩]
          · rw [if_neg (by rintro ⟨k, ok, hk, hkd, _⟩; exact hxx ⟨k, ok, hk, hkd⟩)]
            rw [R.Pa.keep tt fun k o' r' hlk _ _ e => hxx ⟨k, o', hlk, e⟩]
            exact R.F.keep tt fun k o' r' hlk _ _ e => hxx ⟨k, o', hlk, e⟩
        | _ => rfl
      cases hx : opA ti bd C o.op tf hh with
      | none => rw [hx] at hz; cases hz
      | some x =>
        rw [hx] at hz
        obtain ⟨v', h2⟩ := x
        simp only [Bool.and_eq_true] at hz
        obtain ⟨hz1, hz2⟩ := hz
        obtain ⟨hn, ob1, rfl, hnm⟩ := freshOp_new hal hx
        have hgn : (hh.newH ob1).get hh.next = some ob1 := by rw [get_newH _ _ _ hn, if_pos rfl]
        simp only [hgn] at hz2
        rw [htf.name] at hz1 hz2
        cases hg : hh.get b with
        | none => simp only [hg] at hz2; cases hz2
        | some ob2 =>
          simp only [hg] at hz2
          rw [hoptf] at hx
          have hok := opA_ok T hb hC (o := o) I.H I.now hx
          refine hok.upon (opA_notDefer (by assumption)) fun φ'' u w' g r1 r2 => ?_
          obtain ⟨φ3, y1, y2, y3, y4⟩ := I.H.renew hpn hblt hg hn g r2 r1 hz1 hz2
          exact close φ3 u w' y1 y2 y3 y4
  | false =>
    obtain ⟨tk, hh0, hs0, ⟨b, hb1, hb2, hb3⟩, hag, hag0⟩ := R.Pa.op j o r hj hr hF
    have htk : ∀ (d : Tmp) (i : Nat) (p : Oper), ops.toList[i]? = some p → p.dst = some d → i ∈ edgesOf o → tk d = tf d := by
      intro d i p hi hd he
      refine hag d fun k o' hk hlk e => ?_
      have := D.dst i k p o' d hi hlk hd e
      have := D.edge j o i hj he
      omega
    have hwtf : wantA ops o tf = some b := by
      rw [← hb1]
      exact (wantA_congr fun g p d hg hp hd => htk d g.1 p hp hd (D.guard j o g hj hg)).symm
    have hw : Region.wanted o (yielded ops a.tmps) = b := wantA_rel gvals hwtf
    have keep0 : ∀ d : Tmp, (∀ (k : Nat) (o' : Oper) (r' : Row), ops.toList[k]? = some o' → rs[k]? = some r' → r'.isF = true → o'.dst ≠ some d) → t1 d = t d := fun d hd => R.F.keep d hd
    have hopc : ∀ hx, opA ti bd C o.op tk hx = opA ti bd C o.op (nowT ops listed t tf) hx := by
      intro hx
      refine opA_congr fun x hm => ?_
      cases x with
      | tmp tt =>
        show some (tk tt) = some (nowT ops listed t tf tt)
        congr 1
        unfold nowT
        by_cases hxx : ∃ (i : Nat) (oi : Oper), ops.toList[i]? = some oi ∧ oi.dst = some tt
        · obtain ⟨i, oi, hi, hd⟩ := hxx
          rcases D.opnd j o tt i oi hj hm hi hd with he | ⟨he, q, hq, hqF⟩
          · rw [if_pos ⟨i, oi, hi, hd, hes i he⟩]
            exact htk tt i oi hi hd he
          · have hul : listed.getD i true = false := by
              rcases he with rfl | he
              · exact hun
              · cases hl : listed.getD i true with
                | false => rfl
                | true => have := I.closed i oi hi hl j he; rw [this] at hun; cases hun
            rw [if_neg (by
              rintro ⟨k, ok, hk, hkd, hkl⟩
              have := D.dst i k oi ok tt hi hk hd hkd
              subst this
              rw [hul] at hkl; cases hkl)]
            have hij : j ≤ i := by
              rcases he with rfl | he
              · exact Nat.le_refl _
              · exact Nat.le_of_lt (D.edge i oi j hi he)
            rw [hag0 tt fun k o' r' hk hlk _ _ e => by have := D.dst i k oi o' tt hi hlk hd e; omega]
            refine keep0 tt fun k o' r' hlk hrk hfk e => ?_
            have := D.dst i k oi o' tt hi hlk hd e
            subst this
            rw [hq] at hrk; cases hrk
            rw [hqF] at hfk; cases hfk
        · rw [if_neg (by rintro ⟨k, ok, hk, hkd, _⟩; exact hxx ⟨k, ok, hk, hkd⟩)]
          rw [hag0 tt fun k o' r' _ hlk _ _ e => hxx ⟨k, o', hlk, e⟩]
          exact keep0 tt fun k o' r' hlk _ _ e => hxx ⟨k, o', hlk, e⟩
      | _ => rfl
    have hoptf : floats r = true → ∀ hx, opA ti bd C o.op tf hx = opA ti bd C o.op (nowT ops listed t tf) hx := by
      intro hfl hx
      refine opA_congr fun x hm => ?_
      cases x with
      | tmp tt =>
        show some (tf tt) = some (nowT ops listed t tf tt)
        congr 1
        unfold nowT
        by_cases hxx : ∃ (i : Nat) (oi : Oper), ops.toList[i]? = some oi ∧ oi.dst = some tt
        · obtain ⟨i, oi, hi, hd⟩ := hxx
          rw [if_pos ⟨i, oi, hi, hd, hes i (D.opndF j o r tt i oi hj hr hfl hm hi hd)⟩]
        · rw [if_neg (by rintro ⟨k, ok, hk, hkd, _⟩; exact hxx ⟨k, ok, hk, hkd⟩)]
          rw [R.Pa.keep tt fun k o' r' hlk _ _ e => hxx ⟨k, o', hlk, e⟩]
          exact keep0 tt fun k o' r' hlk _ _ e => hxx ⟨k, o', hlk, e⟩
      | _ => rfl
    have pend' : ∀ (φ'' : Phi) (hh' : AHeap), Grow hh hh' φ' φ'' → ∀ (j' : Nat) (o : Oper) (r : Row) (d : Tmp) (b : Nat), j' ≠ j → ops.toList[j']? = some o → rs[j']? = some r → r.isF = true → listed.getD j' true = false → o.dst = some d → Named (tf d) b → φ'' b = none := by
      intro φ'' hh' g j' o' r' d' b' hne hj' hr' hf' hl' hd' ht'
      have h1 := I.pend j' o' r' d' b' hj' hr' hf' hl' hd' ht'
      obtain ⟨b2, x1, x2, x3⟩ := R.F.named j' o' r' d' hj' hr' hf' hd'
      have htf' : tf d' = t1 d' := by
        refine R.Pa.keep d' fun k o2 r2 hk hr2 hf2 e => ?_
        have := D.dst k j' o2 o' d' hk hj' e hd'
        subst this
        rw [hr'] at hr2; cases hr2
        rw [hf'] at hf2; cases hf2
      rw [htf'] at ht'
      have := x1.inj ht'
      subst this
      rw [g.old b2 (by have := I.next; omega)]; exact h1
    cases b with
    | false =>
      rw [if_neg (by rw [hw]; simp)]
      refine ⟨fun f _ => fe_fn rd f, ?_⟩
      obtain ⟨e1, e2⟩ := hb3 rfl
      by_cases hH : r.isH = true
      · have e2 := e2 hH
        rw [hst hH] at hs0 e2
        rw [I.heap] at hs0; cases hs0
        exact ⟨s + 1, hh, φ', I.step D hj hr hun hes e2 (by rw [if_pos hH]) hst I.grow φ'.le_refl I.next I.H (pend' φ' hh (.same rfl)) fun d hd => by rw [e1 d hd]; exact undef_rel⟩
      · exact ⟨s, hh, φ', I.step D hj hr hun hes I.heap (by rw [if_neg hH]) (fun e => absurd e hH) I.grow φ'.le_refl I.next I.H (pend' φ' hh (.same rfl)) fun d hd => by rw [e1 d hd]; exact undef_rel⟩
    | true =>
      rw [if_pos hw]
      obtain ⟨v, h2, k1, k2, k3⟩ := hb2 rfl
      by_cases hH : r.isH = true
      · have k3 := k3 hH
        rw [hst hH] at hs0 k3
        rw [I.heap] at hs0; cases hs0
        rw [hopc] at k1
        have hok := opA_ok T hb hC (o := o) I.H ht' k1
        refine hok.upon (opA_notDefer (by assumption)) fun φ'' u w' g r1 r2 => ?_
        exact ⟨s + 1, h2, φ'', I.step D hj hr hun hes k3 (by rw [if_pos hH]) hst (I.grow.trans g) g.le (Nat.le_trans I.next g.next) r2 (pend' φ'' h2 g) fun d hd => by rw [k2 d hd]; exact r1⟩
      · have light : opA ti bd C o.op (nowT ops listed t tf) hh = some (v, hh) := by
          cases hcc : r.c with
          | heavy => simp [Row.isH, hcc] at hH
          | fresh => simp [Row.isF, hcc] at hF
          | pure =>
            simp only [clsOk, hcc] at hcls
            rw [hopc] at k1
            exact (pureOp_any hcls k1).2 hh
          | read =>
            simp only [clsOk, hcc] at hcls
            by_cases hlh : r.lo = r.hi
            · have : hc rs j = s := by omega
              rw [this, I.heap] at hs0; cases hs0
              rw [hopc] at k1
              have := readOp_heap hcls k1
              subst this
              exact k1
            · have hpost := R.Po j o r hj hr
              simp only [postR, hcc, hwtf, Bool.or_eq_true, Nat.beq_eq] at hpost
              rcases hpost with hpost | hpost
              · exact absurd hpost hlh
              · cases hd : o.dst with
                | none => rw [hd] at hpost; cases hpost
                | some d =>
                  rw [hd] at hpost
                  have hv := allL_iff.1 hpost hh (cut_mem hlo hhi I.heap)
                  unfold isV at hv
                  cases hx : opA ti bd C o.op tf hh with
                  | none => rw [hx] at hv; cases hv
                  | some x =>
                    rw [hx] at hv
                    have hv' : sameV x.1 (tf d) = true := hv
                    have hxe := sameV_eq hv'
                    rw [k2 d hd] at hxe
                    have hx' : opA ti bd C o.op tf hh = some (v, x.2) := by rw [hx, ← hxe]
                    have := readOp_heap hcls hx'
                    rw [this] at hx'
                    rw [← hoptf (by simp [floats, hcc, hlh])]; exact hx'
        have hok := opA_ok T hb hC (o := o) I.H ht' light
        refine hok.upon (opA_notDefer (by assumption)) fun φ'' u w' g r1 r2 => ?_
        exact ⟨s, hh, φ'', I.step D hj hr hun hes I.heap (by rw [if_neg hH]) (fun e => absurd e hH) (I.grow.trans g) g.le I.next r2 (pend' φ'' hh g) fun d hd => by rw [k2 d hd]; exact r1⟩
end
end
end Go.AI
set_option linter.unusedVariables false
set_option linter.unusedSimpArgs false
namespace Go.AI
section
variable {P : Program} {ρ : Env} {φ : Phi} {w0 w : World} {ti : Nat → Option ATy} {bd : Bnd} {N : Nat} {ds : List Deferred}

theorem countP_less {α : Type} {p q : α → Bool} : ∀ {l : List α}, (∀ x ∈ l, p x = true → q x = true) → (∃ x ∈ l, q x = true ∧ p x = false) → l.countP p < l.countP q
  | [], _, ⟨x, hx, _⟩ => by cases hx
  | y :: l, hm, ⟨x, hx, h1, h2⟩ => by
    have hmono := List.countP_mono_left (l := l) fun x hx => hm x (by simp [hx])
    rcases List.mem_cons.1 hx with rfl | hx
    · rw [List.countP_cons_of_neg (by simp [h2]), List.countP_cons_of_pos h1]; omega
    · have ih := countP_less (l := l) (fun x hx => hm x (by simp [hx])) ⟨x, hx, h1, h2⟩
      have hy := hm y (by simp)
      simp only [List.countP_cons]
      cases hpy : p y with
      | true => rw [hy hpy]; simp; exact ih
      | false => simp; omega

theorem hc_hits {rs : List Row} {s : Nat} : ∀ {n : Nat}, n ≤ rs.length → s < hc rs n → ∃ j r, rs[j]? = some r ∧ r.isH = true ∧ hc rs j = s
  | 0, _, h => by simp [hc] at h
  | n + 1, hn, h => by
    by_cases c : s < hc rs n
    · exact hc_hits (by omega) c
    · have hr : rs[n]? = some rs[n] := List.getElem?_eq_getElem (by omega)
      refine ⟨n, rs[n], hr, ?_, ?_⟩
      · cases hh : rs[n].isH with
        | true => rfl
        | false =>
          have : hc rs (n + 1) = hc rs n := by
            unfold hc; rw [List.take_add_one, hr, List.countP_append]; simp [hh]
          omega
      · have : hc rs (n + 1) ≤ hc rs n + 1 := by
          unfold hc; rw [List.take_add_one, hr, List.countP_append]
          have : List.countP Row.isH (some rs[n]).toList ≤ 1 := by simp [List.countP_cons]; split <;> omega
          omega
        omega

section
variable {ops : Array Oper} {rs : List Row} {h h1 : AHeap} {tf : Tm} {hs : List AHeap}

theorem all_listed (D : DrawF ti N ops.toList rs) {listed : Array Bool} (hsz : listed.size = ops.size) (hr : Region.ready .any ops listed = []) : ∀ j, listed.getD j true = true := by
  intro j
  induction j using Nat.strongRecOn with
  | _ j ih =>
    cases hl : listed.getD j true with
    | true => rfl
    | false =>
      exfalso
      have hjs : j < ops.size := by
        rcases Nat.lt_or_ge j listed.size with h | h
        · omega
        · simp [h] at hl
      have hoj : ops[j]? = some ops[j] := Array.getElem?_eq_getElem hjs
      have hoj' : ops.toList[j]? = some ops[j] := by simp
      have : j ∈ Region.ready .any ops listed := by
        rw [mem_ready]
        refine ⟨hl, _, hoj, fun e he hbi => ?_⟩
        have hlt := D.edge j _ e.on hoj' (mem_edges.2 ⟨e, he, hbi, rfl⟩)
        have := ih e.on hlt
        have hes : e.on < listed.size := by omega
        simp [hes] at this ⊢; exact this
      rw [hr] at this; cases this

theorem wpAny_ok {rd : Option Nat} {n : Nat} (T : TiOk P ti) (hb : BdOk ρ bd) {C : CallF} (hC : CallOk P ρ w0 C) {t t1 : Tm} {hf : AHeap} (R : RunF ti bd C N ops rs t h t1 h1 tf hf hs) : ∀ (fuel : Nat) (listed : Array Bool) (a : Act) (w : World),
    (∃ s hh φ', Inv ρ w0 N ds ops rs φ t h h1 tf hs listed a w s hh φ') → (List.range ops.size).countP (fun i => !listed.getD i true) ≤ fuel → wpAnyIn (fe rd) n P .any ops (OutQ ρ w0 N ds h φ ⟨.normal, tf, hf, []⟩) fuel listed a w := by
  have fin : ∀ (listed : Array Bool) (a : Act) (w : World), (∃ s hh φ', Inv ρ w0 N ds ops rs φ t h h1 tf hs listed a w s hh φ') → Region.ready .any ops listed = [] → OutQ ρ w0 N ds h φ ⟨.normal, tf, hf, []⟩ .normal a w := by
    rintro listed a w ⟨s, hh, φ', I⟩ hr
    have hall := all_listed R.D I.size hr
    have hs : s = hc rs rs.length := by
      have := I.le
      rcases Nat.lt_or_ge s (hc rs rs.length) with hlt | hge
      · obtain ⟨j, r, hj, hH, hcs⟩ := hc_hits (Nat.le_refl _) hlt
        have := (I.heavy j r hj hH).1 (hall j)
        omega
      · omega
    subst hs
    have := I.heap
    rw [R.Pa.last] at this
    cases this
    refine ⟨trivial, φ', [], I.grow, .nil, I.H, fun d => ?_, I.n, I.d⟩
    by_cases hx : ∃ (i : Nat) (oi : Oper), ops.toList[i]? = some oi ∧ oi.dst = some d
    · obtain ⟨i, oi, hi, hd⟩ := hx
      exact I.vals i oi d hi (hall i) hd
    · have e : tf d = t d := by
        rw [R.Pa.keep d fun k o r hk _ _ e => hx ⟨k, o, hk, e⟩, R.F.keep d fun k o r hk _ _ e => hx ⟨k, o, hk, e⟩]
      show VRel ρ φ' (tf d) _
      rw [e]
      exact I.rest d fun i oi hi hd => absurd ⟨i, oi, hi, hd⟩ hx
  intro fuel
  induction fuel with
  | zero =>
    intro listed a w hI hcnt
    have hr : Region.ready .any ops listed = [] := by
      cases hx : Region.ready .any ops listed with
      | nil => rfl
      | cons j l =>
        exfalso
        have hm : j ∈ Region.ready .any ops listed := by rw [hx]; simp
        have hm2 := mem_ready.1 hm
        have hjs : j < ops.size := by obtain ⟨_, o, ho, _⟩ := hm2; exact (Array.getElem?_eq_some_iff.1 ho).1
        have : 0 < (List.range ops.size).countP (fun i => !listed.getD i true) := List.countP_pos_iff.2 ⟨j, List.mem_range.2 hjs, by simp only [hm2.1]; rfl⟩
        omega
    exact ⟨hr, fin listed a w hI hr⟩
  | succ fuel ih =>
    intro listed a w hI hcnt
    refine ⟨fin listed a w hI, fun j hj => ?_⟩
    obtain ⟨s, hh, φ', I⟩ := hI
    refine wpOpIn_mono (fun a' w' hI' => ih _ a' w' hI' ?_) (I.op T hb hC R hj)
    have hm2 := mem_ready.1 hj
    have hjs : j < ops.size := by obtain ⟨_, o, ho, _⟩ := hm2; exact (Array.getElem?_eq_some_iff.1 ho).1
    have hjl : j < listed.size := by rw [I.size]; exact hjs
    have := countP_less (l := List.range ops.size) (p := fun i => !(listed.setIfInBounds j true).getD i true) (q := fun i => !listed.getD i true) (fun x hx hp => by
      simp only [Bool.not_eq_true'] at hp ⊢
      exact ((getD_set_false hjl).1 hp).2) ⟨j, List.mem_range.2 hjs, by simp only [hm2.1]; rfl, by
        simp only [Bool.not_eq_false']; exact (getD_set hjl).2 (.inl rfl)⟩
    omega
end

theorem draw_ok (T : TiOk P ti) (hb : BdOk ρ bd) (hm : P.follows .mixedOrders = true) {C : CallF} (hC : CallOk P ρ w0 C) {id : Nat} {ops : Array Oper} {rs : List Row} (hd : drawOk ti N ops rs = true) : DrawOk P ρ w0 N ti bd C id ops rs := by
  intro rd n ds t h t' h' φ a w he S
  have D := drawOk_facts hd
  have ha : Apart ops.toList := D.dst
  simp only [drawA, ob2_some, ob_some] at he
  obtain ⟨t1, h1, hF, x, hP, he⟩ := he
  obtain ⟨tf, hf, hs⟩ := x
  cases hpo : postA ti bd C ops tf hs ops.toList rs with
  | false => simp only [hpo, sel_false] at he; cases he
  | true =>
    simp only [hpo, sel_true, Option.some.injEq, Prod.mk.injEq] at he
    obtain ⟨rfl, rfl⟩ := he
    have R : RunF ti bd C N ops rs t h t1 h1 tf hf hs := ⟨D, freshA_facts ha (fun k o r hk hr hf => by
      have hc0 : r.c = .fresh := by cases hx : r.c <;> simp [Row.isF, hx] at hf; rfl
      have := D.cls k o r hk hr
      simp only [clsOk, hc0, Bool.and_eq_true] at this
      exact this.1.1) hF, passA_facts ha D.len hP, postA_facts hpo⟩
    refine wpIn_region_any hm (wpAny_ok T hb hC R ops.size _ a _ ⟨0, h1, φ, ?_⟩ ?_)
    · have hfalse : ∀ j o, ops.toList[j]? = some o → (Array.replicate ops.size false).getD j true = false := by
        intro j o hj
        have : j < ops.size := by simpa using (List.getElem?_eq_some_iff.1 hj).1
        simp [this]
      refine ⟨by simp, R.Pa.head, Nat.zero_le _, fun j r hj _ => ?_, fun j o hj hl => ?_, ⟨φ.le_refl, fun _ _ => rfl, R.F.next⟩, Nat.le_refl _, R.F.rel _ _ _ _ (S.H.heap_eq rfl), fun j o r d b hj hr hf hl hdst ht => ?_, fun j o d hj hl => ?_, fun d hdst => ?_, S.n, S.d⟩
      · have hjl : j < ops.toList.length := by rw [D.len]; exact (List.getElem?_eq_some_iff.1 hj).1
        rw [hfalse j _ (List.getElem?_eq_getElem hjl)]; simp
      · rw [hfalse j o hj] at hl; cases hl
      · obtain ⟨b2, x1, x2, x3⟩ := R.F.named j o r d hj hr hf hdst
        have htf : tf d = t1 d := by
          refine R.Pa.keep d fun k o2 r2 hk hr2 hf2 e => ?_
          have := D.dst k j o2 o d hk hj e hdst
          subst this
          rw [hr] at hr2; cases hr2
          rw [hf] at hf2; cases hf2
        rw [htf] at ht
        have := x1.inj ht
        subst this
        cases hp : φ b2 with
        | none => rfl
        | some p => have := (S.H.dom b2 p.1 p.2 hp).1; omega
      · rw [hfalse j o hj] at hl; cases hl
      · exact S.t d
    · have := List.countP_le_length (p := fun i => !(Array.replicate ops.size false).getD i true) (l := List.range ops.size)
      simpa using this

/-- **calls of the abstract machine are the model's** -/
theorem call_ok (T : TiOk P ti) (hb : BdOk ρ bd) (hm : P.follows .mixedOrders = true) {fns : Nat → Option FnA} {orc : Nat → List AV → AHeap → Option (AV × AHeap)}
    (hfns : ∀ f F, fns f = some F → fnOk P (drawOk ti) f F) (ho : OrcOk P ρ w0 fns orc) (hG : ∀ N D c, codeOk N D (drawOk ti) c = true ↔ ρ.good N D c) (n : Nat) : CallOk P ρ w0 (callA ti bd fns orc n) :=
  callA_ok T hb hfns ho (fun C hC N id ops rs hd => draw_ok T hb hm hC hd) hG n
end
end Go.AI
set_option linter.unusedVariables false
namespace Go.AI
/-- a name that tells a function apart from the one the model treats by itself -/
noncomputable def bodyOk (ti : Nat → Option ATy) (F : FnA) : Bool := match F.F.body with | some c => codeOk F.F.ntmps F.D.get (drawOk ti) c | none => true
theorem fnOk_of {P : Program} {ti : Nat → Option ATy} {f : Nat} {F : FnA} (h : P.funcs[f]? = some F.F) (hn : (F.F.name == "runtime.NumGoroutine") = false) (hb : bodyOk ti F = true) : fnOk P (drawOk ti) f F :=
  ⟨h, hn, fun c hc => by unfold bodyOk at hb; rw [hc] at hb; exact hb⟩

def AllT {α : Type} (p : Nat → α → Prop) : Tr α → Nat → Nat → Prop
  | .nil, _, _ => True
  | .node v l r, s, o => (∀ a, v = some a → p o a) ∧ AllT p l (2 * s) (o + s) ∧ AllT p r (2 * s) (o + 2 * s)
theorem AllT.here {α : Type} {p : Nat → α → Prop} {o : Nat} {x : α} (h : p o x) : ∀ a, some x = some a → p o a := fun a e => by cases e; exact h
theorem AllT.none {α : Type} {p : Nat → α → Prop} {o : Nat} : ∀ a, (Option.none : Option α) = some a → p o a := fun a e => by cases e
theorem AllT.get {α : Type} (p : Nat → α → Prop) (T : Tr α) : ∀ (s o : Nat), AllT p T s o → ∀ n a, T.get n = some a → p (o + n * s) a := by
  induction T with
  | nil => intro s o _ n a h; cases h
  | node v l r ihl ihr =>
    intro s o h n a hg
    obtain ⟨h1', h2', h3'⟩ := h
    rw [Tr.get_node] at hg
    by_cases h0 : n = 0
    · subst h0; simp at hg; simpa using h1' a hg
    · rw [if_neg h0] at hg
      by_cases h1 : n % 2 = 1
      · rw [if_pos h1] at hg
        have := ihl _ _ h2' _ _ hg
        rw [show o + s + n / 2 * (2 * s) = o + n * s from by
          have e : n = 2 * (n / 2) + 1 := by omega
          conv => rhs; rw [e]
          rw [Nat.add_mul, Nat.one_mul, Nat.mul_comm 2 (n / 2), Nat.mul_assoc]; omega] at this
        exact this
      · rw [if_neg h1] at hg
        have := ihr _ _ h3' _ _ hg
        rw [show o + 2 * s + (n / 2 - 1) * (2 * s) = o + n * s from by
          obtain ⟨m, e⟩ : ∃ m, n = 2 * (m + 1) := ⟨n / 2 - 1, by omega⟩
          subst e
          rw [show 2 * (m + 1) / 2 - 1 = m from by omega, show 2 * (m + 1) * s = (m + 1) * (2 * s) from by rw [Nat.mul_comm 2 (m + 1), Nat.mul_assoc], Nat.add_mul, Nat.one_mul]; omega] at this
        exact this
theorem fns_all {P : Program} {ti : Nat → Option ATy} (T : Tr FnA) (h : AllT (fnOk P (drawOk ti)) T 1 0) : ∀ f F, T.get f = some F → fnOk P (drawOk ti) f F :=
  fun f F e => by have := AllT.get _ T 1 0 h f F e; simpa using this
end Go.AI
