/-
  The abstract operations are the model's: conversions; slices of slices; aggregates.
-/
import Derived.Test.YthgfmkhpogbonaaGreatDoorAiOp3
set_option linter.unusedVariables false
set_option linter.unusedSimpArgs false
namespace Go.AI
section
variable {P : Program} {ρ : Env} {φ : Phi} {w0 w : World} {h h' : AHeap} {ti : Nat → Option ATy} {bd : Bnd}

theorem isU8_und {a : ATy} {t : TypeId} (R : TyRel P t a) (hk : a.k.isU8 = true) : P.underlying t = some (.int .u8) := by
  cases h : a.k <;> rw [h] at hk <;> try (cases hk; done)
  rename_i k
  cases k <;> try (cases hk; done)
  exact R.int h

theorem ofBytes_length (l : List Nat) : (ofBytes l).length = l.length := by
  induction l with
  | nil => rfl
  | cons b l ih => show (ofBytes l).length + 1 = _; rw [ih]; rfl

theorem run_bytesToString {a : Addr} {n : Nat} {c : Array Value} {r : List Nat} (hl : (loadCells a n).run P w = .ok c w) (hc : c.toList = r.map fun (n : Nat) => Value.int .u8 (n : Int)) (hr : ∀ n ∈ r, n ≤ 255) (cap : Nat) :
    (Conv.bytesToString (.slice (some a) n cap)).run P w = .ok (.string ⟨(r.map UInt8.ofNat).toArray⟩) w := by
  simp only [Conv.bytesToString, Sem.run_bind, hl, Result.andThen_ok]
  rw [← Array.forIn_toList, hc]
  have := run_bytes (P := P) (w := w) r hr ByteArray.empty
  refine (congrArg (fun r => Result.andThen r _) this).trans ?_
  simp

theorem convA_ok (T : TiOk P ti) {s d : TypeId} {x v : AV} {u : Value} (H : HRel ρ w0 φ h w) (hu : VRel ρ φ x u) (he : convA ti s d x h = some (v, h')) : ValOk P ρ w0 (convert s d u) φ w h v h' := by
  simp only [convA, ob_some] at he
  obtain ⟨as, h1, ad, h2, he⟩ := he
  have Rs := T _ _ h1
  have Rd := T _ _ h2
  obtain ⟨ds, s1, s2⟩ := Rs.und
  obtain ⟨dd, d1, d2⟩ := Rd.und
  generalize hks : as.k = ks at he s2
  generalize hkd : ad.k = kd at he d2
  unfold convK at he
  split at he
  · simp only [onInt_some, rOk_some, Prod.mk.injEq] at he
    obtain ⟨k', n, rfl, rfl, rfl⟩ := he
    cases d2; cases hu
    refine .pure H ?_ (.int _ _)
    simp [convert, run_un s1, run_un d1, Conv.intToInt, wrapA_eq]
  · simp only [onStr_some, rOk_some, Prod.mk.injEq] at he
    obtain ⟨l, rfl, rfl, rfl⟩ := he
    cases d2; cases s2
    refine .pure H ?_ hu
    cases hu
    simp [convert, run_un s1, run_un d1]
  · rename_i e
    cases d2; cases s2
    simp only [toStrA, ob_some, guardB_some, onSlice_some, rOk_some, Prod.mk.injEq, loadN_some, Nat.beq_eq] at he
    obtain ⟨te, h3, hk, he⟩ := he
    have e1 := isU8_und (T _ _ h3) hk
    rcases he with ⟨rfl, rfl, rfl⟩ | ⟨b, o, n, c, ex, es, rfl, he1, l, hg, hn, r, hb, rfl, rfl⟩
    · cases hu
      refine .pure H ?_ (.str ByteArray.empty)
      simp [convert, run_un s1, run_un d1, run_un e1, Conv.bytesToString]
    · cases hu with
      | slice _ _ _ _ _ _ blk sz off cc hb1 q1 q2 q3 q4 q5 =>
        obtain ⟨f1, f2⟩ := bytesOfA_some hb
        by_cases hn0 : n = 0
        · subst hn0
          have hr0 : r = [] := by
            have : (ofBytes r).length = 0 := by rw [← f1]; simp
            rw [ofBytes_length] at this; exact List.length_eq_zero_iff.1 this
          subst hr0
          have hl : (loadCells ⟨blk, off, none⟩ 0).run P w = .ok #[] w := rfl
          have := run_bytesToString (P := P) (r := []) hl rfl (by simp) cc
          refine .pure H ?_ (.str ⟨#[]⟩)
          simp [convert, run_un s1, run_un d1, run_un e1, this]
        · have hoff : off = o := by rcases q4 with q4 | q4 <;> omega
          subst hoff
          obtain ⟨a, k1, k2, k3, k4⟩ := H.loadN (P := P) hb1 hg hn (fun e => absurd e hn0)
          rw [f1] at k2
          have := run_bytesToString (P := P) k1 (ofBytes_inv k2) f2 cc
          refine .pure H (u := .string ⟨(r.map UInt8.ofNat).toArray⟩) ?_ ?_
          · simp [convert, run_un s1, run_un d1, run_un e1, this]
          · have := VRel.str (ρ := ρ) (φ := φ) ⟨(r.map UInt8.ofNat).toArray⟩
            simp only [u8_map r f2] at this; exact this
  · rename_i e
    cases d2; cases s2
    simp only [onStr_some, toBytesA, ob_some, guardB_some, new_some, rOk_some, Prod.mk.injEq, len_eq] at he
    obtain ⟨l, rfl, te, h3, hk, hn, rfl, rfl⟩ := he
    have e1 := isU8_und (T _ _ h3) hk
    cases hu with
    | str s =>
      -- the block: the bytes, then noughts up to the capacity; its end is marked
      obtain ⟨cap, w1, hcap, hw1, hw2, hle⟩ : ∃ cap w1, (choose (.appendCap s.size 0 e)).run P w = .ok cap w1 ∧ w1.heap = w.heap ∧ (w1.os = w.os ∧ w1.output = w.output ∧ w1.tape = w.tape) ∧ s.size ≤ cap := by
        rw [run_choose]
        exact ⟨_, _, rfl, rfl, ⟨rfl, rfl, rfl⟩, by simp [Question.cut]⟩
      generalize hcells : (s.data.map fun b => Value.int .u8 b.toNat) ++ Array.replicate (cap - s.size) (Value.int .u8 0) = cs
      have hcs : cs.size = cap := by rw [← hcells]; simp; show s.size + (cap - s.size) = cap; omega
      have H1 := H.heap_eq hw1 hw2
      have hmark : (markStringish ⟨w1.heap.size, 0, none⟩).run P (wnew w1 (.cells cs e)) = .ok () ((wnew w1 (.cells cs e)).freeze ⟨w1.heap.size, cs.size, none⟩ 1) := by
        have hs : (wnew w1 (.cells cs e)).shape? w1.heap.size = some (e, cs.size) := by simp only [World.shape?, wnew, Array.getElem?_push_size]
        simp [markStringish, hs]
      have hfz : (wnew w1 (.cells cs e)).freeze ⟨w1.heap.size, cs.size, none⟩ 1 = wnew w1 (.cells cs e (cs.size, cs.size + 1)) := by
        simp only [World.freeze, wnew]
        rw [if_neg (by omega)]
        congr 1
        apply Array.ext_getElem?
        intro k
        rw [Array.getElem?_modify]
        simp only [Array.getElem?_push]
        by_cases c : w1.heap.size = k
        · subst c; simp
        · rw [if_neg c]; rw [if_neg (fun e => c e.symm), if_neg (fun e => c e.symm)]
      have hlen : (ofBytes (s.data.toList.map UInt8.toNat)).length ≤ cs.size := by rw [ofBytes_length, hcs]; simp; exact hle
      have hrel : VsRel ρ φ (ofBytes (s.data.toList.map UInt8.toNat)) (cs.toList.take (ofBytes (s.data.toList.map UInt8.toNat)).length) := by
        have : cs.toList.take (ofBytes (s.data.toList.map UInt8.toNat)).length = s.data.toList.map fun b => Value.int .u8 b.toNat := by
          rw [ofBytes_length, ← hcells]; simp
        rw [this]; exact ofBytes_rel _
      have hnew := H1.new (sz := cs.size) (ob' := .cells cs e (cs.size, cs.size + 1)) hn (.cells _ _ _ _ _ rfl hlen (hrel.mono (H1.le_ext _ _)) (ofBytes_flat _) (fun k hk => by omega))
      refine ⟨_, _, .slice (some ⟨w1.heap.size, 0, none⟩) s.size cap, ?_, ?_, H1.grow rfl rfl, hnew⟩
      · have : (Conv.stringToBytes e s).run P w = .ok (.slice (some ⟨w1.heap.size, 0, none⟩) s.size cap) (wnew w1 (.cells cs e (cs.size, cs.size + 1))) := by
          simp only [Conv.stringToBytes, Sem.run_bind, hcap, Result.andThen_ok, hcells, run_newRow, hmark, hfz, Sem.run_pure]
        simp [convert, run_un s1, run_un d1, run_un e1, this]
      · have hsz : (s.data.toList.map UInt8.toNat).length = s.size := by simp
        rw [hsz]
        exact .slice _ 0 s.size s.size false 1 _ cs.size 0 cap (Phi.ext_self _ _ _ _) hle (by simp) (Nat.le_refl _) (.inr rfl) (by omega)
  · cases he

theorem oConv_ok (T : TiOk P ti) {s d : TypeId} {x : Operand} {t : Tm} {a : Act} {v : AV} (H : HRel ρ w0 φ h w) (ht : TRel ρ φ t a.tmps) (he : oConv ti s d x t h = some (v, h')) : ValOk P ρ w0 (convert s d (a.eval x)) φ w h v h' := by
  simp only [oConv, ob_some] at he
  obtain ⟨u, h1, h2⟩ := he
  exact convA_ok T H (evx_rel h1 ht) h2
end
end Go.AI
