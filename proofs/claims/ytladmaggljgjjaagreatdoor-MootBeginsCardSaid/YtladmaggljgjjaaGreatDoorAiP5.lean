/-
  Joined texts: AiExt AiTop AiOpen.
-/
import Derived.Test.YtladmaggljgjjaaGreatDoorAiP4
import Derived.Laws.Externs
import Derived.Below
set_option linter.unusedVariables false
set_option linter.unusedSimpArgs false
namespace Go.AI

inductive ExtK where
  | idxByteS
  | same

noncomputable def idxB (c : Nat) (l : List Nat) : Nat → Int :=
  List.rec (motive := fun _ => Nat → Int) (fun _ => .negSucc 0) (fun a _ ih i => sel (Nat.beq a c) (.ofNat i) (ih (Nat.succ i))) l

noncomputable def idxA (c : Nat) (l : List Nat) (h : AHeap) : Option (AV × AHeap) := guardB (Nat.ble c 255) (rOk (.int .i64 (idxB c l 0)) h)
noncomputable def extA (k : ExtK) (args : List AV) (h : AHeap) : Option (AV × AHeap) :=
  match k, args with
  | .idxByteS, [.str l, .int .u8 (.ofNat c)] => idxA c l h
  | .same, [v] => rOk v h
  | _, _ => none
noncomputable def orcE (ext : Nat → Option ExtK) (f : Nat) (args : List AV) (h : AHeap) : Option (AV × AHeap) := ob (ext f) fun k => extA k args h

def ExtK.sem : ExtK → Array Value → Sem Value
  | .idxByteS => Extern.BytealgIndexByte.indexByte
  | .same => Extern.AbiNoEscape.same

/-- what is asked of a table of such functions -/
def ExtOk (P : Program) (ext : Nat → Option ExtK) : Prop := ∀ f k, ext f = some k → ∃ fn, P.funcs[f]? = some fn ∧ (fn.name == "runtime.NumGoroutine") = false ∧ fn.body.isNone = true ∧ Extern.findNext fn = none ∧ Extern.find fn = some k.sem

theorem idxB_find (c : Nat) : ∀ (l : List Nat) (i : Nat), idxB c l i = match (List.range l.length).find? (fun j => l[j]! == c) with | some j => ((i + j : Nat) : Int) | none => -1
  | [], i => rfl
  | a :: l, i => by
    show sel (Nat.beq a c) (.ofNat i) (idxB c l (i + 1)) = _
    rw [List.length_cons, List.range_succ_eq_map, List.find?_cons, List.find?_map]
    have h0 : ((a :: l)[0]! == c) = Nat.beq a c := by rw [Bool.eq_iff_iff]; simp
    rw [h0]
    cases hb : Nat.beq a c with
    | true => rfl
    | false =>
      simp only [sel_false]
      rw [idxB_find c l (i + 1)]
      have : ((fun j => (a :: l)[j]! == c) ∘ Nat.succ) = fun j => l[j]! == c := by
        funext j; simp
      rw [this]
      cases (List.range l.length).find? (fun j => l[j]! == c) with
      | none => rfl
      | some j => simp only [Option.map_some, Nat.succ_eq_add_one]; congr 1; omega

theorem bytes_get (s : ByteArray) (j : Nat) (h : j < s.size) : (s.data.toList.map UInt8.toNat)[j]! = (s[j]!).toNat := by
  have h' : j < s.data.size := h
  simp [List.getElem!_eq_getElem?_getD, h', getElem!_pos, h]; rfl

theorem find_congr {α : Type} (l : List α) (p q : α → Bool) (h : ∀ x ∈ l, p x = q x) : l.find? p = l.find? q := by
  induction l with
  | nil => rfl
  | cons x l ih =>
    rw [List.find?_cons, List.find?_cons, h x (by simp), ih fun y hy => h y (by simp [hy])]

theorem idxB_first (s : ByteArray) (c : Nat) (hc : c ≤ 255) : idxB c (s.data.toList.map UInt8.toNat) 0 = firstIdx s ((c : Int).toNat.toUInt8) := by
  rw [idxB_find]
  have hl : (s.data.toList.map UInt8.toNat).length = s.size := by simp
  rw [hl]
  unfold firstIdx
  rw [find_congr (List.range s.size) _ (fun i => s[i]! == ((c : Int).toNat.toUInt8)) fun j hj => by
    rw [bytes_get s j (List.mem_range.1 hj)]
    rw [Bool.eq_iff_iff]
    simp only [beq_iff_eq]
    constructor
    · intro e; apply UInt8.toNat_inj.1; simp [e]; omega
    · intro e; rw [e]; simp; try omega]
  cases (List.range s.size).find? (fun i => s[i]! == ((c : Int).toNat.toUInt8)) with
  | none => rfl
  | some j => simp

section
variable {P : Program} {ρ : Env} {φ : Phi} {w0 w : World} {h h' : AHeap}
theorem extA_ok {k : ExtK} {args : List AV} {us : Array Value} {v : AV} (H : HRel ρ w0 φ h w) (hx : VsRel ρ φ args us.toList) (he : extA k args h = some (v, h')) :
    h' = h ∧ ∃ u, (k.sem us).run P w = .ok u w ∧ VRel ρ φ v u := by
  unfold extA at he
  split at he
  · rename_i l c
    simp only [idxA, guardB_some, rOk_some, Prod.mk.injEq] at he
    obtain ⟨hc, rfl, rfl⟩ := he
    have hc : c ≤ 255 := by simpa using hc
    obtain ⟨ul⟩ := us
    cases hx with
    | cons _ u1 _ us hu1 hus => cases hus with
      | cons _ u2 _ us hu2 hus =>
        cases hus
        cases hu2
        generalize hl : l = l' at hu1
        cases hu1 with
        | str s =>
          refine ⟨rfl, _, run_indexByte_string s (Int.ofNat c) w, ?_⟩
          rw [idxB_first s c hc]
          exact .int _ _
  · rename_i v'
    simp only [rOk_some, Prod.mk.injEq] at he
    obtain ⟨rfl, rfl⟩ := he
    obtain ⟨ul⟩ := us
    cases hx with
    | cons _ u1 _ us hu1 hus =>
      cases hus
      exact ⟨rfl, u1, rfl, hu1⟩
  · cases he

theorem orcE_ok {ext : Nat → Option ExtK} {fns : Nat → Option FnA} (hE : ExtOk P ext) : OrcOk P ρ w0 fns (orcE ext) := by
  intro f args h v h' _ he φ w uargs H hx
  simp only [orcE, ob_some] at he
  obtain ⟨k, h1, he⟩ := he
  obtain ⟨fn, k1, k2, k3, k4, k5⟩ := hE f k h1
  obtain ⟨rfl, u, h2, h3⟩ := extA_ok (P := P) H hx he
  refine .inl ⟨φ, w, .value u, ?_, .inl ⟨u, rfl, h3⟩, .same rfl, H⟩
  rw [run_callFunc_extern k1 k2 k3 k4 k5, h2]; rfl
end
end Go.AI
set_option autoImplicit false
set_option linter.unusedVariables false
namespace Go.AI
open Go.RowKit

noncomputable def h0 : AHeap := ⟨.nil, 0⟩
def φ0 : Phi := fun _ => none
def isTrue (r : Option (AV × AHeap)) : Bool := match r with
  | some (.bool true, _) => true
  | _ => false
theorem isTrue_some {r : Option (AV × AHeap)} (h : isTrue r = true) : ∃ h', r = some (.bool true, h') := by
  unfold isTrue at h
  split at h
  · exact ⟨_, rfl⟩
  · cases h

/-- what a law's call does: it returns true; all that there was is as it was -/
def TrueQ (w : World) (e : Ending) (w' : World) : Prop := e = .returned (.bool true) ∧ Below w.heap.size w w'

section
variable {P : Program} {ρ : Env} {φ : Phi} {w0 w : World} {h h' : AHeap} {ti : Nat → Option ATy} {bd : Bnd}

theorem HRel.start (ρ : Env) (w : World) : HRel ρ w φ0 h0 w :=
  ⟨Nat.le_refl _, fun _ _ => rfl, ⟨rfl, rfl, rfl⟩, (fun i blk sz e => by cases e), (fun i j _ _ _ _ _ e => by cases e), (fun i o blk sz _ e => by cases e)⟩
theorem HRel.isBelow (H : HRel ρ w0 φ h w) : Below w0.heap.size w0 w := ⟨H.next.1, H.next.2.2, H.next.2.1, H.size, H.base⟩
theorem HRel.below (H : HRel ρ w0 φ h w) {w' : World} (b : Below w.heap.size w w') : HRel ρ w0 φ h w' := by
  refine ⟨Nat.le_trans H.size b.size, fun k hk => ?_, ⟨b.os.trans H.next.1, b.output.trans H.next.2.1, b.tape.trans H.next.2.2⟩, fun i blk sz e => ?_, H.inj, fun i o blk sz hg e => ?_⟩
  · have := H.size
    rw [b.block k (by omega)]; exact H.base k hk
  · have := H.dom i blk sz e; have := b.size; omega
  · obtain ⟨x, h1, h2⟩ := H.obj i o blk sz hg e
    have := H.dom i blk sz e
    exact ⟨x, by rw [b.block blk (by omega)]; exact h1, h2⟩

/-- a run from an empty heap -/
theorem run_calls {C : CallF} (hC : ∀ w, CallOk P ρ w C) {f : FuncId} {F : Func} {c : Code} (hf : P.funcs[f]? = some F) (hn : (F.name == "runtime.NumGoroutine") = false) (hb : F.body = some c)
    {args : List AV} {uargs : Array Value} (hx : VsRel ρ φ0 args uargs.toList) (he : isTrue (C (.func f) args h0) = true) (w : World) : Calls P f uargs w (TrueQ w) := by
  obtain ⟨h', he⟩ := isTrue_some he
  rcases hC w _ _ _ _ _ he with ⟨f', e, hok⟩ | ⟨r, e, _⟩
  · cases e
    refine ((hok φ0 w uargs (.start ρ w) hx).calls hf hn hb).mono fun e w' q => ?_
    cases e with
    | returned u =>
      obtain ⟨φ', g, hv, H⟩ := q
      cases hv
      exact ⟨rfl, H.isBelow⟩
    | panicked c => exact q.elim
    | outgrown => exact q.elim
  · cases e

/-- a law's anchor as an oracle -/
noncomputable def orcTrue (f0 : Nat) (o : Nat → List AV → AHeap → Option (AV × AHeap)) (f : Nat) (args : List AV) (h : AHeap) : Option (AV × AHeap) :=
  sel (Nat.beq f f0) (nil0 args (rOk (.bool true) h)) (o f args h)
theorem orcTrue_ok {fns : Nat → Option FnA} {f0 : FuncId} {o : Nat → List AV → AHeap → Option (AV × AHeap)} {F : Func} {c : Code} (hf : P.funcs[f0]? = some F) (hn : (F.name == "runtime.NumGoroutine") = false) (hb : F.body = some c)
    (ha : ∀ w, Calls P f0 #[] w (TrueQ w)) (ho : OrcOk P ρ w0 fns o) : OrcOk P ρ w0 fns (orcTrue f0 o) := by
  intro f args h v h' hn' he φ w uargs H hx
  cases hc : Nat.beq f f0 with
  | false => simp only [orcTrue, hc, sel_false] at he; exact ho f args h v h' hn' he φ w uargs H hx
  | true =>
    simp only [orcTrue, hc, sel_true, nil0_some, rOk_some, Prod.mk.injEq] at he
    obtain ⟨rfl, rfl, rfl⟩ := he
    have : f = f0 := by simpa using hc
    subst this
    obtain ⟨l⟩ := uargs
    cases hx
    refine .inr (.inl ⟨f, #[], w, run_callFunc hf hn hb w, (ha w).mono fun e w' q => ?_⟩)
    obtain ⟨rfl, b⟩ := q
    exact ⟨φ, .same rfl, .bool true, H.below b⟩

/-- an oracle that answers by calls that are the model's -/
theorem orc_of_call {fns : Nat → Option FnA} {C : CallF} (hC : CallOk P ρ w0 C) {o o' : Nat → List AV → AHeap → Option (AV × AHeap)} (ho : OrcOk P ρ w0 fns o)
    (h : ∀ f args h r, o' f args h = some r → C (.func f) args h = some r ∨ o f args h = some r) : OrcOk P ρ w0 fns o' := by
  intro f args hh v h' hn he φ w uargs H hx
  rcases h _ _ _ _ he with he | he
  · rcases hC _ _ _ _ _ he with ⟨f', e, hok⟩ | ⟨r, e, _⟩
    · cases e; exact hok φ w uargs H hx
    · cases e
  · exact ho f args hh v h' hn he φ w uargs H hx
end
end Go.AI
set_option linter.unusedVariables false
namespace Go.AI
noncomputable def blockE (id : Nat) (x : Out) : Option Out := match x with
  | ⟨.exit id', t, h, m⟩ => sel (Nat.beq id' id) (some ⟨.normal, t, h, m⟩) (some ⟨.exit id', t, h, m⟩)
  | x => some x
section
variable {ti : Nat → Option ATy} {bd : Bnd} {C : CallF} {rng : Nat → Bool} {D : Nat → Option (List Row)} {t : Tm} {h : AHeap}
theorem codeA_skip : codeA ti bd C rng D .skip t h = some ⟨.normal, t, h, []⟩ := rfl
theorem codeA_region {id : Nat} {ops : Array Oper} : codeA ti bd C rng D (.region id ops false) t h = ob2 (opsA ti bd C ops ops.toList t h) fun t h => some ⟨.normal, t, h, []⟩ := rfl
theorem codeA_seq {a b : Code} : codeA ti bd C rng D (.seq a b) t h = thenA (codeA ti bd C rng D a t h) (codeA ti bd C rng D b) := rfl
theorem codeA_cond {c : Operand} {a b : Code} : codeA ti bd C rng D (.cond c a b) t h = ob (evx c t) fun v => v.onBool fun r => sel r (codeA ti bd C rng D a t h) (codeA ti bd C rng D b t h) := rfl
theorem codeA_block {id : Nat} {a : Code} : codeA ti bd C rng D (.block id a) t h = ob (codeA ti bd C rng D a t h) (blockE id) := rfl
theorem codeA_loop {a : Code} : codeA ti bd C rng D (.loop a) t h = iter (codeA ti bd C rng D a) mostIter t h := rfl
theorem codeA_exit {id : Nat} : codeA ti bd C rng D (.exit id) t h = some ⟨.exit id, t, h, []⟩ := rfl
theorem codeA_ret : codeA ti bd C rng D .ret t h = some ⟨.ret, t, h, []⟩ := rfl
theorem thenA_normal {K : Run} : thenA (some ⟨.normal, t, h, []⟩) K = K t h := rfl
theorem thenA_ret {K : Run} {m : List Nat} : thenA (some ⟨.ret, t, h, m⟩) K = some ⟨.ret, t, h, m⟩ := rfl
theorem thenA_exit {K : Run} {m : List Nat} {i : Nat} : thenA (some ⟨.exit i, t, h, m⟩) K = some ⟨.exit i, t, h, m⟩ := rfl
theorem blockE_normal {id : Nat} {m : List Nat} : blockE id ⟨.normal, t, h, m⟩ = some ⟨.normal, t, h, m⟩ := rfl
theorem blockE_ret {id : Nat} {m : List Nat} : blockE id ⟨.ret, t, h, m⟩ = some ⟨.ret, t, h, m⟩ := rfl
theorem blockE_exit {id i : Nat} {m : List Nat} : blockE id ⟨.exit i, t, h, m⟩ = sel (Nat.beq i id) (some ⟨.normal, t, h, m⟩) (some ⟨.exit i, t, h, m⟩) := rfl
theorem iter_succ {F : Run} {n : Nat} : iter F (n + 1) t h = thenA (F t h) (iter F n) := by
  show thenA (F (normT t) h) (iter F n) = _; rw [normT_eq]
theorem opsA_nil {ops : Array Oper} : opsA ti bd C ops [] t h = some (t, h) := rfl
theorem opsA_cons {ops : Array Oper} {o : Oper} {l : List Oper} : opsA ti bd C ops (o :: l) t h = ob (wantA ops o t) fun w => ob2 (sel w (opA ti bd C o.op t h) (some (undefA, h))) fun v h => opsA ti bd C ops l (putA t o.dst v) h := by
  show opsS ti bd C ops o (opsA ti bd C ops l) t h = _; unfold opsS; simp only [putK_eq]
theorem wantA_none {ops : Array Oper} {dst : Option Tmp} {op : Op} {type : TypeId} {pos : String} {after : Array Go.Edge} : wantA ops { dst := dst, op := op, type := type, pos := pos, after := after, guard := none } t = some true := rfl
theorem putA_some {d : Nat} {v : AV} : putA t (some d) v = putD t v d := rfl
theorem putA_none {v : AV} : putA t none v = t := rfl
theorem putD_get {d i : Nat} {v : AV} : putD t v d i = if i = d then v else t i := by
  unfold putD
  by_cases e : i = d
  · subst e; simp
  · have : Nat.beq i d = false := by rw [Bool.eq_false_iff]; simpa using e
    rw [this, if_neg e]
theorem ob_some' {α β : Type} {a : α} {K : α → Option β} : ob (some a) K = K a := rfl
theorem ob_none' {α β : Type} {K : α → Option β} : ob none K = none := rfl
theorem ob2_some' {α β γ : Type} {a : α} {b : β} {K : α → β → Option γ} : ob2 (some (a, b)) K = K a b := rfl
theorem ob2_none' {α β γ : Type} {K : α → β → Option γ} : ob2 none K = none := rfl
theorem evx_tmp {i : Nat} : evx (.tmp i) t = some (t i) := rfl
theorem evx_int {k : IntKind} {n : Int} : evx (.const (.int k n)) t = some (.int k n) := rfl
theorem evx_bool {b : Bool} : evx (.const (.bool b)) t = some (.bool b) := rfl
theorem opA_move {x : Operand} : opA ti bd C (.move x) t h = ob (evx x t) fun v => some (v, h) := rfl
theorem opA_assign {x : Operand} : opA ti bd C (.assign x) t h = ob (evx x t) fun v => some (v, h) := rfl
theorem opA_bin {op : BinOp} {ty r : TypeId} {x y : Operand} : opA ti bd C (.binOp op ty x y r) t h = ob (evx x t) fun a => ob (evx y t) fun b => ob (binA ti bd op ty a b) fun v => some (v, h) := rfl
theorem opA_conv {s d : TypeId} {x : Operand} : opA ti bd C (.convert s d x) t h = ob (evx x t) fun v => convA ti s d v h := rfl
theorem binA_int {op : BinOp} {ty : TypeId} {k k' : IntKind} {a b : Int} : binA ti bd op ty (.int k a) (.int k' b) = intA op k a k' b := rfl
end
end Go.AI
