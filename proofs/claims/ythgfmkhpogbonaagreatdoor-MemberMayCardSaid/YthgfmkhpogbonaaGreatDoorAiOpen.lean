/-
  The abstract machine at open terms: its equations.
-/
import Derived.Test.YthgfmkhpogbonaaGreatDoorAiDraw5
set_option linter.unusedVariables false
namespace Go.AI
noncomputable def blockE (id : Nat) (x : Out) : Option Out := match x with
  | ⟨.exit id', t, h, m⟩ => sel (Nat.beq id' id) (some ⟨.normal, t, h, m⟩) (some ⟨.exit id', t, h, m⟩)
  | x => some x
section
variable {ti : Nat → Option ATy} {bd : Bnd} {C : CallF} {rng : Nat → Bool} {D : Nat → Option (List Row)} {t : Tm} {h : AHeap}
theorem codeA_skip : codeA ti bd C rng D .skip t h = some ⟨.normal, t, h, []⟩ := rfl
theorem codeA_region {id : Nat} {ops : Array Oper} : codeA ti bd C rng D (.region id ops false) t h = ob2 (opsA ti bd C ops ops.toList t h) fun t h => some ⟨.normal, t, h, []⟩ := rfl
theorem codeA_seq {a b : Code} : codeA ti bd C rng D (.seq a b) t h = thenA (codeA ti bd C rng D a t h) (codeA ti bd C rng D b) := rfl
theorem codeA_cond {c : Operand} {a b : Code} : codeA ti bd C rng D (.cond c a b) t h = ob (evx c t) fun v => v.onBool fun r => sel r (codeA ti bd C rng D a t h) (codeA ti bd C rng D b t h) := rfl
theorem codeA_block {id : Nat} {a : Code} : codeA ti bd C rng D (.block id a) t h = ob (codeA ti bd C rng D a t h) (blockE id) := rfl
theorem codeA_loop {a : Code} : codeA ti bd C rng D (.loop a) t h = iter (codeA ti bd C rng D a) mostIter t h := rfl
theorem codeA_exit {id : Nat} : codeA ti bd C rng D (.exit id) t h = some ⟨.exit id, t, h, []⟩ := rfl
theorem codeA_ret : codeA ti bd C rng D .ret t h = some ⟨.ret, t, h, []⟩ := rfl
theorem thenA_normal {K : Run} : thenA (some ⟨.normal, t, h, []⟩) K = K t h := rfl
theorem thenA_ret {K : Run} {m : List Nat} : thenA (some ⟨.ret, t, h, m⟩) K = some ⟨.ret, t, h, m⟩ := rfl
theorem thenA_exit {K : Run} {m : List Nat} {i : Nat} : thenA (some ⟨.exit i, t, h, m⟩) K = some ⟨.exit i, t, h, m⟩ := rfl
theorem blockE_normal {id : Nat} {m : List Nat} : blockE id ⟨.normal, t, h, m⟩ = some ⟨.normal, t, h, m⟩ := rfl
theorem blockE_ret {id : Nat} {m : List Nat} : blockE id ⟨.ret, t, h, m⟩ = some ⟨.ret, t, h, m⟩ := rfl
theorem blockE_exit {id i : Nat} {m : List Nat} : blockE id ⟨.exit i, t, h, m⟩ = sel (Nat.beq i id) (some ⟨.normal, t, h, m⟩) (some ⟨.exit i, t, h, m⟩) := rfl
theorem iter_succ {F : Run} {n : Nat} : iter F (n + 1) t h = thenA (F t h) (iter F n) := by
  show thenA (F (normT t) h) (iter F n) = _; rw [normT_eq]
theorem opsA_nil {ops : Array Oper} : opsA ti bd C ops [] t h = some (t, h) := rfl
theorem opsA_cons {ops : Array Oper} {o : Oper} {l : List Oper} : opsA ti bd C ops (o :: l) t h = ob (wantA ops o t) fun w => ob2 (sel w (opA ti bd C o.op t h) (some (undefA, h))) fun v h => opsA ti bd C ops l (putA t o.dst v) h := by
  show opsS ti bd C ops o (opsA ti bd C ops l) t h = _; unfold opsS; simp only [putK_eq]
theorem wantA_none {ops : Array Oper} {dst : Option Tmp} {op : Op} {type : TypeId} {pos : String} {after : Array Go.Edge} : wantA ops { dst := dst, op := op, type := type, pos := pos, after := after, guard := none } t = some true := rfl
theorem putA_some {d : Nat} {v : AV} : putA t (some d) v = putD t v d := rfl
theorem putA_none {v : AV} : putA t none v = t := rfl
theorem putD_get {d i : Nat} {v : AV} : putD t v d i = if i = d then v else t i := by
  unfold putD
  by_cases e : i = d
  · subst e; simp
  · have : Nat.beq i d = false := by rw [Bool.eq_false_iff]; simpa using e
    rw [this, if_neg e]
theorem ob_some' {α β : Type} {a : α} {K : α → Option β} : ob (some a) K = K a := rfl
theorem ob_none' {α β : Type} {K : α → Option β} : ob none K = none := rfl
theorem ob2_some' {α β γ : Type} {a : α} {b : β} {K : α → β → Option γ} : ob2 (some (a, b)) K = K a b := rfl
theorem ob2_none' {α β γ : Type} {K : α → β → Option γ} : ob2 none K = none := rfl
theorem evx_tmp {i : Nat} : evx (.tmp i) t = some (t i) := rfl
theorem evx_int {k : IntKind} {n : Int} : evx (.const (.int k n)) t = some (.int k n) := rfl
theorem evx_bool {b : Bool} : evx (.const (.bool b)) t = some (.bool b) := rfl
theorem opA_move {x : Operand} : opA ti bd C (.move x) t h = ob (evx x t) fun v => some (v, h) := rfl
theorem opA_assign {x : Operand} : opA ti bd C (.assign x) t h = ob (evx x t) fun v => some (v, h) := rfl
theorem opA_bin {op : BinOp} {ty r : TypeId} {x y : Operand} : opA ti bd C (.binOp op ty x y r) t h = ob (evx x t) fun a => ob (evx y t) fun b => ob (binA ti bd op ty a b) fun v => some (v, h) := rfl
theorem opA_conv {s d : TypeId} {x : Operand} : opA ti bd C (.convert s d x) t h = ob (evx x t) fun v => convA ti s d v h := rfl
theorem binA_int {op : BinOp} {ty : TypeId} {k k' : IntKind} {a b : Int} : binA ti bd op ty (.int k a) (.int k' b) = intA op k a k' b := rfl
end
end Go.AI
