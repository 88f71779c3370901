/-
  Regions that ask the tape: what is asked of their rows; what the abstract run says.
-/
import Derived.Test.YthgfmkhpogbonaaGreatDoorAiDraw1
import Derived.OrdersIn
set_option linter.unusedVariables false
set_option linter.unusedSimpArgs false
namespace Go.AI
def Row.isH (r : Row) : Bool := match r.c with | .heavy => true | _ => false
def Row.isF (r : Row) : Bool := match r.c with | .fresh => true | _ => false
def hc (rs : List Row) (j : Nat) : Nat := (rs.take j).countP Row.isH
def edgesOf (o : Oper) : List Nat := (o.after.toList.filter (Region.binds .any)).map (·.on)

def clsOk (ti : Nat → Option ATy) (o : Oper) (r : Row) : Bool :=
  match r.c with
  | .pure => pureOp ti o.op
  | .read => readOp ti o.op
  | .fresh => freshOp o.op && o.guard.isNone && o.dst.isSome
  | .heavy => true
def loOk (rs : List Row) (es : List Nat) (n : Nat) : Bool := n == 0 || es.any fun e => match rs[e]? with | some q => q.isH && hc rs e + 1 == n | none => false
def hiOk (L : List Oper) (rs : List Row) (j n : Nat) : Bool := decide (hc rs rs.length ≤ n) || L.zipIdx.any fun p => match rs[p.2]? with | some q => q.isH && hc rs p.2 == n && (edgesOf p.1).contains j | none => false
/-- ancestors, some steps up -/
def upB (L : List Oper) : Nat → List Nat → Nat → Bool
  | 0, es, i => es.contains i
  | k + 1, es, i => es.contains i || upB L k (es.flatMap fun e => match L[e]? with | some p => edgesOf p | none => []).eraseDups i
def chainOk (L : List Oper) (rs : List Row) (o : Oper) (j : Nat) : Bool :=
  hc rs j == 0 || rs.zipIdx.any fun q => q.1.isH && hc rs q.2 + 1 == hc rs j && upB L 8 (edgesOf o) q.2
def floats (r : Row) : Bool := match r.c with | .read => !(r.lo == r.hi) | .fresh => true | _ => false
def opndOk (L : List Oper) (rs : List Row) (j : Nat) (o : Oper) (r : Row) (t : Tmp) : Bool :=
  L.zipIdx.all fun p => !(p.1.dst == some t) || (edgesOf o).contains p.2 || (!floats r && (p.2 == j || (edgesOf p.1).contains j) && (match rs[p.2]? with | some q => !q.isF | none => false))
def rowOk (ti : Nat → Option ATy) (N : Nat) (L : List Oper) (rs : List Row) (j : Nat) (o : Oper) (r : Row) : Bool :=
  dstLt N o && (edgesOf o).all (Nat.blt · j) &&
  o.op.operands.toList.all (fun x => match x with | .tmp t => opndOk L rs j o r t | _ => true) &&
  (match o.guard with | none => true | some g => (edgesOf o).contains g.1) &&
  (match o.op with | .select .. => false | _ => true) &&
  clsOk ti o r && loOk rs (edgesOf o) r.lo && hiOk L rs j r.hi && (!r.isH || chainOk L rs o j)
def dstsOk (L : List Oper) : Bool := L.zipIdx.all fun p => L.zipIdx.all fun q => p.2 == q.2 || p.1.dst.isNone || !(p.1.dst == q.1.dst)
def rowsOk (ti : Nat → Option ATy) (N : Nat) (L : List Oper) (rs : List Row) : List Oper → List Row → Nat → Bool
  | [], [], _ => true
  | o :: l, r :: rs', j => rowOk ti N L rs j o r && rowsOk ti N L rs l rs' (j + 1)
  | _, _, _ => false
def drawOk (ti : Nat → Option ATy) (N : Nat) (ops : Array Oper) (rs : List Row) : Bool := dstsOk ops.toList && rowsOk ti N ops.toList rs ops.toList rs 0

theorem rowsOk_get {ti : Nat → Option ATy} {N : Nat} {L : List Oper} {rs : List Row} : ∀ {l : List Oper} {q : List Row} {j : Nat}, rowsOk ti N L rs l q j = true → l.length = q.length ∧ ∀ k o r, l[k]? = some o → q[k]? = some r → rowOk ti N L rs (j + k) o r = true
  | [], [], _, _ => ⟨rfl, fun k o r h => by simp at h⟩
  | [], _ :: _, _, h => by cases h
  | _ :: _, [], _, h => by cases h
  | o :: l, r :: q, j, h => by
    simp only [rowsOk, Bool.and_eq_true] at h
    obtain ⟨h1, h2⟩ := rowsOk_get h.2
    refine ⟨by simp [h1], fun k o' r' ho hr => ?_⟩
    cases k with
    | zero => simp at ho hr; subst ho; subst hr; exact h.1
    | succ k =>
      have := h2 k o' r' (by simpa using ho) (by simpa using hr)
      rwa [show j + (k + 1) = j + 1 + k from by omega]

theorem mem_edges {o : Oper} {i : Nat} : i ∈ edgesOf o ↔ ∃ e ∈ o.after, Region.binds .any e = true ∧ e.on = i := by
  simp only [edgesOf, List.mem_map, List.mem_filter, Array.mem_toList_iff]
  constructor
  · rintro ⟨e, ⟨h1, h2⟩, h3⟩; exact ⟨e, h1, h2, h3⟩
  · rintro ⟨e, h1, h2, h3⟩; exact ⟨e, ⟨h1, h2⟩, h3⟩

inductive Anc (L : List Oper) : Nat → Nat → Prop where
  | edge {j i : Nat} {o : Oper} : L[j]? = some o → i ∈ edgesOf o → Anc L j i
  | step {j e i : Nat} {o : Oper} : L[j]? = some o → e ∈ edgesOf o → Anc L e i → Anc L j i

theorem upB_spec {L : List Oper} : ∀ {k : Nat} {es : List Nat} {i : Nat}, upB L k es i = true → i ∈ es ∨ ∃ e ∈ es, Anc L e i
  | 0, es, i, h => .inl (by simpa [upB] using h)
  | k + 1, es, i, h => by
    simp only [upB, Bool.or_eq_true] at h
    rcases h with h | h
    · exact .inl (by simpa using h)
    · have up : ∀ x, x ∈ (es.flatMap fun e => match L[e]? with | some p => edgesOf p | none => []).eraseDups → ∃ e ∈ es, ∃ p, L[e]? = some p ∧ x ∈ edgesOf p := by
        intro x hx
        rw [List.mem_eraseDups, List.mem_flatMap] at hx
        obtain ⟨e, he, hx⟩ := hx
        cases hp : L[e]? with
        | none => rw [hp] at hx; cases hx
        | some p => rw [hp] at hx; exact ⟨e, he, p, hp ▸ rfl, hx⟩
      rcases upB_spec h with h | ⟨x, hx, h⟩
      · obtain ⟨e, he, p, hp, hx⟩ := up i h
        exact .inr ⟨e, he, .edge hp hx⟩
      · obtain ⟨e, he, p, hp, hx⟩ := up x hx
        exact .inr ⟨e, he, .step hp hx h⟩

/-- what is known of the rows -/
structure DrawF (ti : Nat → Option ATy) (N : Nat) (L : List Oper) (rs : List Row) : Prop where
  len : L.length = rs.length
  dst : ∀ (i j : Nat) (oi oj : Oper) (d : Tmp), L[i]? = some oi → L[j]? = some oj → oi.dst = some d → oj.dst = some d → i = j
  lt : ∀ (j : Nat) (o : Oper) (d : Tmp), L[j]? = some o → o.dst = some d → d < N
  edge : ∀ (j : Nat) (o : Oper) (i : Nat), L[j]? = some o → i ∈ edgesOf o → i < j
  opnd : ∀ (j : Nat) (o : Oper) (t : Tmp) (i : Nat) (oi : Oper), L[j]? = some o → Operand.tmp t ∈ o.op.operands → L[i]? = some oi → oi.dst = some t → i ∈ edgesOf o ∨ ((i = j ∨ j ∈ edgesOf oi) ∧ ∃ q, rs[i]? = some q ∧ q.isF = false)
  opndF : ∀ (j : Nat) (o : Oper) (r : Row) (t : Tmp) (i : Nat) (oi : Oper), L[j]? = some o → rs[j]? = some r → floats r = true → Operand.tmp t ∈ o.op.operands → L[i]? = some oi → oi.dst = some t → i ∈ edgesOf o
  guard : ∀ (j : Nat) (o : Oper) (g : Nat × Bool), L[j]? = some o → o.guard = some g → g.1 ∈ edgesOf o
  sel : ∀ (j : Nat) (o : Oper) cs b, L[j]? = some o → o.op ≠ .select cs b
  cls : ∀ (j : Nat) (o : Oper) (r : Row), L[j]? = some o → rs[j]? = some r → clsOk ti o r = true
  lo : ∀ (j : Nat) (o : Oper) (r : Row), L[j]? = some o → rs[j]? = some r → r.lo = 0 ∨ ∃ e ∈ edgesOf o, ∃ q : Row, rs[e]? = some q ∧ q.isH = true ∧ hc rs e + 1 = r.lo
  hi : ∀ (j : Nat) (o : Oper) (r : Row), L[j]? = some o → rs[j]? = some r → hc rs rs.length ≤ r.hi ∨ ∃ (k : Nat) (p : Oper) (q : Row), L[k]? = some p ∧ rs[k]? = some q ∧ q.isH = true ∧ hc rs k = r.hi ∧ j ∈ edgesOf p
  chain : ∀ (j : Nat) (o : Oper) (r : Row), L[j]? = some o → rs[j]? = some r → r.isH = true → hc rs j = 0 ∨ ∃ (e : Nat) (q : Row), rs[e]? = some q ∧ q.isH = true ∧ hc rs e + 1 = hc rs j ∧ (e ∈ edgesOf o ∨ ∃ i ∈ edgesOf o, Anc L i e)

theorem loOk_spec {rs : List Row} {es : List Nat} {n : Nat} (h : loOk rs es n = true) : n = 0 ∨ ∃ e ∈ es, ∃ q, rs[e]? = some q ∧ q.isH = true ∧ hc rs e + 1 = n := by
  simp only [loOk, Bool.or_eq_true, beq_iff_eq, List.any_eq_true] at h
  rcases h with h | ⟨e, he, h⟩
  · exact .inl h
  · refine .inr ⟨e, he, ?_⟩
    cases hq : rs[e]? with
    | none => simp only [hq] at h; cases h
    | some q => simp only [hq, Bool.and_eq_true, beq_iff_eq] at h; exact ⟨q, rfl, h.1, h.2⟩

theorem drawOk_facts {ti : Nat → Option ATy} {N : Nat} {ops : Array Oper} {rs : List Row} (h : drawOk ti N ops rs = true) : DrawF ti N ops.toList rs := by
  simp only [drawOk, Bool.and_eq_true] at h
  obtain ⟨hd, hr⟩ := h
  obtain ⟨h1, h2⟩ := rowsOk_get hr
  have get : ∀ j o, ops.toList[j]? = some o → ∃ r, rs[j]? = some r ∧ rowOk ti N ops.toList rs j o r = true := by
    intro j o hj
    have : j < rs.length := by rw [← h1]; exact (List.getElem?_eq_some_iff.1 hj).1
    refine ⟨_, List.getElem?_eq_getElem this, ?_⟩
    have := h2 j o _ hj (List.getElem?_eq_getElem this)
    rwa [Nat.zero_add] at this
  have zi : ∀ j o, ops.toList[j]? = some o → (o, j) ∈ ops.toList.zipIdx := fun j o hj => List.mem_zipIdx_iff_getElem?.2 hj
  refine ⟨h1, ?_, ?_, ?_, ?_, ?_, ?_, ?_, ?_, ?_, ?_, ?_⟩
  · intro i j oi oj d hi hj e1 e2
    simp only [dstsOk, List.all_eq_true] at hd
    have := hd _ (zi i oi hi) _ (zi j oj hj)
    simpa [e1, e2] using this
  · intro j o d hj e
    obtain ⟨r, _, h⟩ := get j o hj
    simp only [rowOk, Bool.and_eq_true] at h
    exact dstLt_iff h.1.1.1.1.1.1.1.1 d e
  · intro j o i hj hi
    obtain ⟨r, _, h⟩ := get j o hj
    simp only [rowOk, Bool.and_eq_true, List.all_eq_true] at h
    simpa using h.1.1.1.1.1.1.1.2 i hi
  · intro j o t i oi hj hm hi e
    obtain ⟨r, _, h⟩ := get j o hj
    simp only [rowOk, Bool.and_eq_true, List.all_eq_true] at h
    have := h.1.1.1.1.1.1.2 _ (Array.mem_toList_iff.2 hm)
    simp only [opndOk] at this
    have := List.all_eq_true.1 this _ (zi i oi hi)
    simp only [e, beq_self_eq_true, Bool.not_true, Bool.false_or, Bool.or_eq_true, Bool.and_eq_true] at this
    rcases this with h | ⟨⟨_, h⟩, h2⟩
    · exact .inl (by simpa using h)
    · refine .inr ⟨by simpa using h, ?_⟩
      cases hq : rs[i]? with
      | none => simp only [hq] at h2; cases h2
      | some q => simp only [hq] at h2; exact ⟨q, rfl, by simpa using h2⟩
  · intro j o r t i oi hj hr hf hm hi e
    obtain ⟨r', hr', h⟩ := get j o hj
    rw [hr] at hr'; cases hr'
    simp only [rowOk, Bool.and_eq_true, List.all_eq_true] at h
    have := h.1.1.1.1.1.1.2 _ (Array.mem_toList_iff.2 hm)
    simp only [opndOk] at this
    have := List.all_eq_true.1 this _ (zi i oi hi)
    simp only [e, beq_self_eq_true, Bool.not_true, Bool.false_or, Bool.or_eq_true, Bool.and_eq_true, hf, Bool.false_eq_true, false_and, or_false] at this
    simpa using this
  · intro j o g hj hg
    obtain ⟨r, _, h⟩ := get j o hj
    simp only [rowOk, Bool.and_eq_true, hg] at h
    simpa using h.1.1.1.1.1.2
  · intro j o cs b hj e
    obtain ⟨r, _, h⟩ := get j o hj
    simp only [rowOk, Bool.and_eq_true, e] at h
    exact absurd h.1.1.1.1.2 (by simp)
  · intro j o r hj hr
    obtain ⟨r', hr', h⟩ := get j o hj
    rw [hr] at hr'; cases hr'
    simp only [rowOk, Bool.and_eq_true] at h
    exact h.1.1.1.2
  · intro j o r hj hr
    obtain ⟨r', hr', h⟩ := get j o hj
    rw [hr] at hr'; cases hr'
    simp only [rowOk, Bool.and_eq_true] at h
    exact loOk_spec h.1.1.2
  · intro j o r hj hr
    obtain ⟨r', hr', h⟩ := get j o hj
    rw [hr] at hr'; cases hr'
    simp only [rowOk, Bool.and_eq_true] at h
    have := h.1.2
    simp only [hiOk, Bool.or_eq_true, decide_eq_true_eq, List.any_eq_true] at this
    rcases this with h | ⟨p, hp, h⟩
    · exact .inl h
    · refine .inr ⟨p.2, p.1, ?_⟩
      cases hq : rs[p.2]? with
      | none => simp only [hq] at h; cases h
      | some q =>
        simp only [hq, Bool.and_eq_true, beq_iff_eq] at h
        exact ⟨q, List.mem_zipIdx_iff_getElem?.1 hp, rfl, h.1.1, h.1.2, by simpa using h.2⟩
  · intro j o r hj hr hh
    obtain ⟨r', hr', h⟩ := get j o hj
    rw [hr] at hr'; cases hr'
    simp only [rowOk, Bool.and_eq_true, hh, Bool.not_true, Bool.false_or] at h
    have := h.2
    simp only [chainOk, Bool.or_eq_true, beq_iff_eq, List.any_eq_true, Bool.and_eq_true] at this
    rcases this with h | ⟨p, hp, ⟨h1, h2⟩, h3⟩
    · exact .inl h
    · exact .inr ⟨p.2, p.1, List.mem_zipIdx_iff_getElem?.1 hp, h1, h2, upB_spec h3⟩
end Go.AI
