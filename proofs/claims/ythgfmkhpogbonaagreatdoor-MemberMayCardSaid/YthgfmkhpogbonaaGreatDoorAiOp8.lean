/-
  The abstract operations are the model's: ranges; lengths; append, copy, clear, max, min.
-/
import Derived.Test.YthgfmkhpogbonaaGreatDoorAiOp7
set_option linter.unusedVariables false
set_option linter.unusedSimpArgs false
namespace Go.AI
section
variable {P : Program} {ρ : Env} {φ : Phi} {w0 w : World} {h h' : AHeap} {ti : Nat → Option ATy} {bd : Bnd}

theorem run_newObj' (o : Obj) : (newObj o).run P w = .ok w.heap.size (wnew w o) := rfl

theorem rangeA_ok (T : TiOk P ti) {t : TypeId} {x v : AV} {u : Value} (H : HRel ρ w0 φ h w) (hx : VRel ρ φ x u) (he : rangeA ti t x h = some (v, h')) : ValOk P ρ w0 (Instr.range t u) φ w h v h' := by
  simp only [rangeA, ob_some] at he
  obtain ⟨ty, h1, he⟩ := he
  have R := T _ _ h1
  split at he
  · rename_i hk
    have k1 := R.str hk
    simp only [onStr_some, new_some, rOk_some, Prod.mk.injEq] at he
    obtain ⟨s, rfl, hn, rfl, rfl⟩ := he
    cases hx with
    | str s =>
      refine ⟨_, wnew w (.stringIter s 0), .pointer (some ⟨w.heap.size, 0, none⟩), ?_, .ptr _ _ _ 0 (Phi.ext_self _ _ _ _), H.grow rfl rfl, H.new hn (.strIter s 0)⟩
      simp [Instr.range, run_un k1, run_newObj']; rfl
  · rename_i kt e hk
    have k1 := R.map hk
    simp only [onMapV_some, new_some, rOk_some, Prod.mk.injEq, entsOf_some] at he
    rcases he with ⟨rfl, hn, rfl, rfl⟩ | ⟨m, rfl, es, c, hg, hn, rfl, rfl⟩
    · cases hx
      refine ⟨_, wnew w (.mapIter none 0 #[] 0), .pointer (some ⟨w.heap.size, 0, none⟩), ?_, .ptr _ _ _ 0 (Phi.ext_self _ _ _ _), H.grow rfl rfl, H.new hn (.nilIter 0 0 [] #[])⟩
      simp [Instr.range, run_un k1, run_newObj']; rfl
    · cases hx with
      | map _ blk sz hb =>
        obtain ⟨es', g1, R⟩ := H.ents hb hg
        refine ⟨_, wnew w (.mapIter (some blk) c #[] c), .pointer (some ⟨w.heap.size, 0, none⟩), ?_, .ptr _ _ _ 0 (Phi.ext_self _ _ _ _), H.grow rfl rfl,
          H.new hn (.mapIter m blk sz c c [] #[] (H.le_ext _ _ _ _ hb) rfl)⟩
        simp [Instr.range, run_un k1, run_getObj g1 notCells_map, run_newObj']; rfl
  · cases he

theorem decode_ascii (s : ByteArray) (p : Nat) {c : Nat} (hc : (s.data.toList.map UInt8.toNat)[p]? = some c) (h : c ≤ 127) : Utf8.decode s p = (c, 1) := by
  simp only [List.getElem?_map, Option.map_eq_some_iff, Array.getElem?_toList] at hc
  obtain ⟨b, hb, rfl⟩ := hc
  have : s.get! p = b := by
    obtain ⟨a⟩ := s
    rw [Array.getElem?_eq_some_iff] at hb
    obtain ⟨hlt, hb⟩ := hb
    simp [ByteArray.get!, hlt] ; exact hb
  simp only [Utf8.decode, Nat.add_zero, this]
  rw [if_pos (by omega)]

theorem nextA_ok {it v : AV} {b : Bool} {ty : TypeId} {u : Value} (H : HRel ρ w0 φ h w) (hx : VRel ρ φ it u) (he : nextA it b h = some (v, h')) : ValOk P ρ w0 (Instr.next u b ty) φ w h v h' := by
  simp only [nextA, onPtr_some, guardB_some, Nat.beq_eq, ob_some] at he
  obtain ⟨r, o, rfl, rfl, ob_, hg, he⟩ := he
  cases hx with
  | ptr _ _ blk sz hb =>
    obtain ⟨obj, g1, g2⟩ := H.obj _ _ _ _ hg hb
    split at he
    · rename_i s p
      cases g2 with
      | strIter s p =>
        have hnc : ∀ a b d, Obj.stringIter s p ≠ .cells a b d := by intro a b d h; cases h
        have gob := run_getObj (P := P) g1 hnc
        unfold nextStr at he
        rw [nth_eq] at he
        cases hc : (s.data.toList.map UInt8.toNat)[p]? with
        | none =>
          rw [hc] at he; simp only [rOk_some, Prod.mk.injEq] at he
          obtain ⟨rfl, rfl⟩ := he
          have : ¬ p < s.size := by
            intro hlt
            have : p < (s.data.toList.map UInt8.toNat).length := by simp; exact hlt
            rw [List.getElem?_eq_getElem this] at hc; cases hc
          refine .pure H (u := .tuple #[.bool false]) ?_ (.tup _ _ (.single (.bool false)))
          simp [Instr.next, gob, this]
        | some c =>
          rw [hc] at he; simp only [guardB_some, Nat.ble_eq, rOk_some, Prod.mk.injEq] at he
          obtain ⟨h127, rfl, rfl⟩ := he
          have hlt : p < s.size := by
            have := (List.getElem?_eq_some_iff.1 hc).1; simpa using this
          have hd := decode_ascii s p hc h127
          refine ⟨φ, wput w blk (.stringIter s (p + 1)), .tuple #[.bool true, goInt p, .int .i32 c], ?_, ?_, .same rfl, H.put hg hb (.strIter s (p + 1))⟩
          · simp [Instr.next, gob, hlt, hd, run_setObj g1 hnc]
          · exact .tup _ _ (.cons _ _ _ _ (.bool true) (.cons _ _ _ _ (.int _ _) (.single (.int _ _))))
    · cases g2
      rename_i s1 s2 s3 s4
      refine ?_
      simp only [rOk_some, Prod.mk.injEq] at he
      obtain ⟨rfl, rfl⟩ := he
      refine .pure H (u := .tuple #[.bool false]) ?_ (.tup _ _ (.single (.bool false)))
      have hnc : ∀ a b d, Obj.mapIter none s1 s4 s3 ≠ .cells a b d := by intro a b d h; cases h
      simp [Instr.next, run_getObj (P := P) g1 hnc]
    · rename_i m since seen last
      cases g2 with
      | mapIter _ mb bsz _ _ _ seen' hm hs =>
        have hnc : ∀ a b d, Obj.mapIter (some mb) since seen' last ≠ .cells a b d := by intro a b d h; cases h
        have gob := run_getObj (P := P) g1 hnc
        simp only [entsOf_some] at he
        obtain ⟨es, c, hge, he⟩ := he
        obtain ⟨es', g3, R⟩ := H.ents hm hge
        simp only [nextMap, guardB_some, Nat.beq_eq] at he
        obtain ⟨rfl, he⟩ := he
        have hgm := run_getObj (P := P) g3 notCells_map
        split at he
        · -- nothing in the map
          simp only [rOk_some, Prod.mk.injEq] at he
          obtain ⟨rfl, rfl⟩ := he
          have e0 : es' = #[] := by have := R.length; simpa using this.symm
          subst e0
          have s0 : seen' = #[] := by simpa using hs
          subst s0
          refine .pure H (u := .tuple #[.bool false]) ?_ (.tup _ _ (.single (.bool false)))
          simp [Instr.next, gob, hgm, Question.forced]
        · rename_i k x b
          simp only [guardB_some, Nat.blt_eq, rOk_some, Prod.mk.injEq] at he
          obtain ⟨hlt, rfl, rfl⟩ := he
          have s0 : seen' = #[] := by simpa using hs
          subst s0
          obtain ⟨en, e0⟩ : ∃ en, es' = #[en] := by
            have := R.length
            simp at this
            exact Array.size_eq_one_iff.1 this.symm
          subst e0
          have rk := R.k; have rv := R.v; have rb := R.b
          simp at rk rv rb
          cases rk with
          | cons _ _ _ _ rk _ => cases rv with
            | cons _ _ _ _ rv _ =>
              have hb2 : en.born < c := by omega
              refine ⟨φ, wput w blk (.mapIter (some mb) c #[en.born] c), .tuple #[.bool true, en.key, en.val], ?_, ?_, .same rfl, H.put hg hb (.mapIter m mb bsz c c _ _ hm (by simp [rb]))⟩
              · have hn : ¬ c ≤ en.born := by omega
                simp [Instr.next, gob, hgm, hb2, hn, Question.forced, run_setObj g1 hnc]
              · exact .tup _ _ (.cons _ _ _ _ (.bool true) (.cons _ _ _ _ rk (.single rv)))
        · rename_i a k x b
          simp only [guardB_some, Bool.and_eq_true, Nat.beq_eq, Nat.blt_eq, rOk_some, Prod.mk.injEq] at he
          obtain ⟨⟨rfl, hlt⟩, rfl, rfl⟩ := he
          obtain ⟨en, e0⟩ : ∃ en, es' = #[en] := by
            have := R.length
            simp at this
            exact Array.size_eq_one_iff.1 this.symm
          subst e0
          have rb := R.b
          simp at rb
          subst rb
          have s0 : seen' = #[en.born] := by apply Array.toList_inj.1; rw [hs]
          subst s0
          have hn : ¬ last ≤ en.born := by omega
          refine .pure H (u := .tuple #[.bool false]) ?_ (.tup _ _ (.single (.bool false)))
          simp [Instr.next, gob, hgm, hn, Question.forced]
        · simp only [rOk_some, Prod.mk.injEq] at he
          obtain ⟨rfl, rfl⟩ := he
          have e0 : es' = #[] := by have := R.length; simpa using this.symm
          subst e0
          refine .pure H (u := .tuple #[.bool false]) ?_ (.tup _ _ (.single (.bool false)))
          simp [Instr.next, gob, hgm, Question.forced]
        · cases he
    · cases he

theorem entryA_ok {it v : AV} {u : Value} (H : HRel ρ w0 φ h w) (hx : VRel ρ φ it u) (he : entryA it h = some (v, h')) : ValOk P ρ w0 (Instr.entry u) φ w h v h' := by
  simp only [entryA, onPtr_some, guardB_some, Nat.beq_eq, ob_some] at he
  obtain ⟨r, o, rfl, rfl, ob_, hg, he⟩ := he
  cases hx with
  | ptr _ _ blk sz hb =>
    obtain ⟨obj, g1, g2⟩ := H.obj _ _ _ _ hg hb
    split at he
    · rename_i m since b stepped
      cases g2 with
      | mapIter _ mb bsz _ _ _ seen' hm hs =>
        have hnc : ∀ a b d, Obj.mapIter (some mb) since seen' stepped ≠ .cells a b d := by intro a b d h; cases h
        have gob := run_getObj (P := P) g1 hnc
        simp only [entsOf_some, guardB_some, Nat.beq_eq] at he
        obtain ⟨es, c, hge, rfl, he⟩ := he
        obtain ⟨es', g3, R⟩ := H.ents hm hge
        have hgm := run_getObj (P := P) g3 notCells_map
        split at he
        · rename_i k x b'
          simp only [guardB_some, Nat.beq_eq, rOk_some, Prod.mk.injEq] at he
          obtain ⟨rfl, rfl, rfl⟩ := he
          obtain ⟨en, e0⟩ : ∃ en, es' = #[en] := by
            have := R.length
            simp at this
            exact Array.size_eq_one_iff.1 this.symm
          subst e0
          have rk := R.k; have rv := R.v; have rb := R.b
          simp at rk rv rb
          subst rb
          have s0 : seen' = #[en.born] := by apply Array.toList_inj.1; rw [hs]
          subst s0
          cases rk with
          | cons _ _ _ _ rk _ => cases rv with
            | cons _ _ _ _ rv _ =>
              refine .pure H (u := .tuple #[en.key, en.val]) ?_ (.tup _ _ (.cons _ _ _ _ rk (.single rv)))
              simp [Instr.entry, gob, hgm]
        · cases he
    · cases he

theorem lenA_ok (T : TiOk P ti) {at1 : Array TypeId} {ty' : TypeId} {t : TypeId} {x v : AV} {u : Value} (H : HRel ρ w0 φ h w) (hx : VRel ρ φ x u) (h0 : at1[0]? = some t) (he : lenA ti t x h = some (v, h')) : ValOk P ρ w0 (Builtin.len_ at1 ty' #[u]) φ w h v h' := by
  simp only [lenA, ob_some] at he
  obtain ⟨ty, h1, he⟩ := he
  have R := T _ _ h1
  split at he
  · rename_i hk
    have k1 := R.str hk
    simp only [onStr_some, rOk_some, Prod.mk.injEq, len_eq] at he
    obtain ⟨s, rfl, rfl, rfl⟩ := he
    cases hx with
    | str s =>
      refine .pure H (u := goInt s.size) ?_ ?_
      · simp [Builtin.len_, h0, run_un k1]
      · have : (s.data.toList.map UInt8.toNat).length = s.size := by simp
        rw [this]; exact .int _ _
  · rename_i e hk
    have k1 := R.slice hk
    simp only [onSlice_some, rOk_some, Prod.mk.injEq] at he
    rcases he with ⟨rfl, rfl, rfl⟩ | ⟨b, o, n, c, ex, es, rfl, rfl, rfl⟩
    · cases hx
      exact .pure H (u := goInt 0) (by simp [Builtin.len_, h0, run_un k1]) (.int _ _)
    · cases hx
      exact .pure H (u := goInt n) (by simp [Builtin.len_, h0, run_un k1]) (.int _ _)
  · rename_i kt e hk
    have k1 := R.map hk
    simp only [onMapV_some, rOk_some, Prod.mk.injEq, entsOf_some, len_eq] at he
    rcases he with ⟨rfl, rfl, rfl⟩ | ⟨m, rfl, es, c, hg, rfl, rfl⟩
    · cases hx
      exact .pure H (u := goInt 0) (by simp [Builtin.len_, h0, run_un k1]) (.int _ _)
    · cases hx with
      | map _ blk sz hb =>
        obtain ⟨es', g1, R⟩ := H.ents hb hg
        refine .pure H (u := goInt es'.size) ?_ ?_
        · simp [Builtin.len_, h0, run_un k1, run_getObj g1 notCells_map]
        · rw [R.length]; exact .int _ _
  · rename_i n e hk
    have k1 := R.array hk
    simp only [rOk_some, Prod.mk.injEq] at he
    obtain ⟨rfl, rfl⟩ := he
    exact .pure H (u := goInt n) (by simp [Builtin.len_, h0, run_un k1]) (.int _ _)
  · rename_i a hk
    have k1 := R.ptr hk
    simp only [ob_some, kArr_some, rOk_some, Prod.mk.injEq] at he
    obtain ⟨ta, h2, n, e, hka, rfl, rfl⟩ := he
    have k2 := (T _ _ h2).array hka
    exact .pure H (u := goInt n) (by simp [Builtin.len_, h0, run_un k1, run_un k2]) (.int _ _)
  · cases he

theorem capA_ok (T : TiOk P ti) {at1 : Array TypeId} {ty' : TypeId} {t : TypeId} {x v : AV} {u : Value} (H : HRel ρ w0 φ h w) (hx : VRel ρ φ x u) (h0 : at1[0]? = some t) (he : capA ti t x h = some (v, h')) : ValOk P ρ w0 (Builtin.cap_ at1 ty' #[u]) φ w h v h' := by
  simp only [capA, ob_some, guardB_some] at he
  obtain ⟨ty, h1, hk, he⟩ := he
  have R := T _ _ h1
  obtain ⟨e, hk'⟩ : ∃ e, ty.k = .slice e := by cases hty : ty.k <;> rw [hty] at hk <;> first | exact ⟨_, rfl⟩ | cases hk
  have k1 := R.slice hk'
  simp only [onSlice_some, rOk_some, Prod.mk.injEq, guardB_some] at he
  rcases he with ⟨rfl, rfl, rfl⟩ | ⟨b, o, n, c, ex, es, rfl, hex, rfl, rfl⟩
  · cases hx
    exact .pure H (u := goInt 0) (by simp [Builtin.cap_, h0, run_un k1]) (.int _ _)
  · cases hx with
    | slice _ _ _ _ _ _ blk sz off cc hb q1 q2 q3 q4 q5 =>
      have := q2 hex
      subst this
      exact .pure H (u := goInt cc) (by simp [Builtin.cap_, h0, run_un k1]) (.int _ _)
end
end Go.AI
