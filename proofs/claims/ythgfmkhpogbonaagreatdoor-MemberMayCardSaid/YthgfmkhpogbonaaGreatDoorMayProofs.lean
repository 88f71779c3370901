/-
  MemberMay: a member is started just if the document says so: the law's call returns true for every n, me and wait.
  CONDITIONS: none of ours; the listed tables are laid as the card ties them.
-/
import Derived.Test.YthgfmkhpogbonaaGreatDoorCards
import Derived.Test.YthgfmkhpogbonaaGreatDoorTie
import Derived.Test.YthgfmkhpogbonaaGreatDoorMay
import Derived.Test.YthgfmkhpogbonaaGreatDoorFacts0
import Derived.Test.YthgfmkhpogbonaaGreatDoorFcA
import Derived.Test.YthgfmkhpogbonaaGreatDoorFcB
import Derived.Test.YthgfmkhpogbonaaGreatDoorFcC
import Derived.Test.YthgfmkhpogbonaaGreatDoorFcD
import Derived.Test.YthgfmkhpogbonaaGreatDoorFcE
import Derived.Test.YthgfmkhpogbonaaGreatDoorFcF
import Derived.Test.YthgfmkhpogbonaaGreatDoorFcG
import Derived.Test.YthgfmkhpogbonaaGreatDoorFcH
import Derived.Test.YthgfmkhpogbonaaGreatDoorFcI
import Derived.Test.YthgfmkhpogbonaaGreatDoorFcJ
import Derived.Test.YthgfmkhpogbonaaGreatDoorFcK
import Derived.Test.YthgfmkhpogbonaaGreatDoorPostBelow
import Derived.ProofKit
import Derived.OpenShut
import Derived.LaidMore
import Derived.Lay
import Derived.SevenTiedAt
import Derived.Stop.Joined
namespace Go.Proofs.YthgfmkhpogbonaaGreatDoor
open Go.ChangeShapes Go.WideShapes Go.ChangeAt Go.RowKit Go.AI

theorem own : ownKnob Tryz.prog.godebug = none := by kernel_rfl

theorem wfi {n : Int} (h : (Lit.int .i64 n).wf = true) : Go.Proofs.lo64 ≤ n ∧ n ≤ Go.Proofs.hi64 := by
  have h1 : IntKind.min .i64 = Go.Proofs.lo64 := by decide
  have h2 : IntKind.max .i64 = Go.Proofs.hi64 := by decide
  simp only [Lit.wf, Bool.and_eq_true, decide_eq_true_eq, h1, h2] at h
  exact h

set_option maxRecDepth 100000 in
theorem lifted (os : Os) (started : os.Started) (H : Type) (enc : TypeId × Value → H) :
    ReturnsInHanded {} Tryz.checked os 3 .any (fun w args => (Rows.memberMaySpec.pre enc Tryz.prog Tryz.f3 Rows.memberMayRow.domain false w args ∧ laidMetH Tryz.prog Rows.memberMayRow.laid w) ∧ sizedMet enc Tryz.prog Tryz.f3 (OpenSpec.ofChange Rows.memberMaySpec) false w args)
      (Rows.memberMaySpec.post enc Tryz.prog Tryz.f3 false true false false) := by
  refine returnsInHanded_of_change_and (C := Tryz.checked) (X := fun w _ => laidMetH Tryz.prog Rows.memberMayRow.laid w) (fun _ _ _ hh h => h.of_heap hh) own started (by kernel_rfl) Tryz.func3
    (ChangeSpec.witness_shaped (enc := enc) (C := Tryz.checked) (os := os) (X := fun w _ => laidMetH Tryz.prog Rows.memberMayRow.laid w) false (World.laidAll Tryz.prog os Rows.memberMayRow.laid) #[.int .i64 3, .int .i64 0, .int .i64 1] 8 (World.laidAll_os _ _ _)
      (World.shaped_of_ZipB (by kernel_rfl) (by kernel_rfl)) (by kernel_rfl) (by kernel_rfl) (by kernel_rfl)
      (by rw [MakeChecks.laidMetH_plain _ _ _ (by kernel_rfl)]; exact laidMet_laidAll _ (by kernel_rfl) (by kernel_rfl))) ?_
  intro W base args ds gs before hval0 hW hc _ hL _
  have hval : ∀ (j : Nat) t v, Tryz.f3.params[j]? = some t → args[j]? = some v → Value.okWide Tryz.prog W .any base t v := hval0
  have hW' := hW
  obtain ⟨p, q, hA0, hV, rfl, _, _⟩ := hW
  have hA : DataW.TrodAll enc Tryz.prog W 0 (fun _ => true) true Tryz.f3.params.toList args.toList ds p := hA0
  rw [Tryz.params3] at hA hval
  obtain ⟨v0, vs0, d0, ds0, p0, q0, hargs, rfl, rfl, h0, r0⟩ := trodAll_cons hA
  obtain ⟨v1, vs1, d1, ds1, p1, q1, rfl, rfl, rfl, h1, r1⟩ := trodAll_cons r0
  obtain ⟨v2, vs2, d2, ds2, p2, q2, rfl, rfl, rfl, h2, r2⟩ := trodAll_cons r1
  obtain ⟨rfl, rfl, rfl⟩ := trodAll_nil r2
  obtain rfl : args = #[v0, v1, v2] := by cases args; simp_all
  obtain ⟨rfl, rfl⟩ := trodVars_none hV
  obtain ⟨n, rfl, rfl, rfl, wn⟩ := open_int Tryz.underlying3 (hval 0 3 v0 rfl rfl) h0
  obtain ⟨me, rfl, rfl, rfl, wm⟩ := open_int Tryz.underlying3 (hval 1 3 v1 rfl rfl) h1
  obtain ⟨wait, rfl, rfl, rfl, ww⟩ := open_int Tryz.underlying3 (hval 2 3 v2 rfl rfl) h2
  simp only [List.append_nil] at hW'
  refine (may_calls n me wait ?_ ?_ ?_ W).mono fun e W' ⟨he, hb⟩ => ?_
  · exact wfi wn
  · exact wfi wm
  · exact wfi ww
  subst he
  exact ⟨_, rfl, post_of_below (pa := []) (pv := []) hW' (fun _ _ _ => trodAll_mk1 (shut_bool Tryz.underlying4 _)) (fun sp _ => trodAll_cons_mk (shut_int Tryz.underlying3 wn) (trodAll_cons_mk (shut_int Tryz.underlying3 wm) (trodAll_mk1 (shut_int Tryz.underlying3 ww)))) (fun _ _ => rfl) rfl hb (ok_one (by kernel_rfl) rfl (okWide_bool_mk Tryz.underlying4 _))⟩

set_option maxRecDepth 100000 in
theorem facts : joinedFacts Tryz.prog 3 Tryz.f3 Rows.memberMaySpec Rows.memberMayRow = true :=
  joinedFacts_of fact1 fact2 fact3 fact4 fact5 fact6 fact7 fact8 fact9 fact10 fact11 fact12 fact13 fact14 fact15 fact16 fact17 fact18 fact19 fact20 fact21 fact22 fact23 fact24 fact25 fact26 fact27 fact28 fact29 fact30 fact31 fact32
theorem said : Rows.MemberMaySaid :=
  OpenClaim.holds_of_wide 3 Tryz.f3 rfl rfl rfl rfl rfl rfl rfl ⟨rfl, rfl, rfl, rfl, rfl⟩ rfl rfl rfl rfl rfl cfact3 Tryz.func3 facts
    (of_decide_eq_true (by kernel_rfl)) (by unfold Func.isWrapper; first | (rw [if_pos (by decide +kernel)]; kernel_rfl) | (rw [if_neg (by decide +kernel)]; exact ⟨rfl, rfl⟩))
    (fun os started H enc _ => lifted os started H enc)
theorem memberMay_holds : Rows.MemberMayCardSaid :=
  Claim7.holds_tied_plain_at .later [] _ _ _ _ said (fun _ h => by cases h) cfact1 (fun _ h => by cases h) memberMay_row_tie rfl ⟨rfl, rfl⟩ cfact2 rfl
    (fun f fn hf hfn => by
      obtain rfl : f = 3 := Option.some.inj (cfact3.symm.trans hf) |>.symm
      obtain rfl : fn = Tryz.f3 := (Option.some.inj (Tryz.func3.symm.trans hfn)).symm
      exact ⟨cfact4, fun j t ht => by
        rw [Tryz.params3] at ht
        have hm : t ∈ [3, 3, 3] := by simpa using Array.mem_of_getElem? ht
        exact (show Tryz.prog.wantsStandIn t = false by simpa using List.all_eq_true.1 cfact5 t hm)⟩)
    cfact6
end Go.Proofs.YthgfmkhpogbonaaGreatDoor
