/-
  MootBegins: a machine begins just if the document says so: the law's call returns true for every configuration.
  CONDITIONS: none of ours; the listed tables are laid as the card ties them.
-/
import Derived.Test.YtladmaggljgjjaaGreatDoorCards
import Derived.Test.YtladmaggljgjjaaGreatDoorTie
import Derived.Test.YtladmaggljgjjaaGreatDoorBeg
import Derived.Test.YtladmaggljgjjaaGreatDoorAgg5
import Derived.Test.YtladmaggljgjjaaGreatDoorPostBelow
import Derived.Test.YtladmaggljgjjaaGreatDoorFacts0
import Derived.Test.YtladmaggljgjjaaGreatDoorFcA
import Derived.Test.YtladmaggljgjjaaGreatDoorFcB
import Derived.Test.YtladmaggljgjjaaGreatDoorFcC
import Derived.Test.YtladmaggljgjjaaGreatDoorFcD
import Derived.Test.YtladmaggljgjjaaGreatDoorFcE
import Derived.Test.YtladmaggljgjjaaGreatDoorFcF
import Derived.Test.YtladmaggljgjjaaGreatDoorFcG
import Derived.Test.YtladmaggljgjjaaGreatDoorFcH
import Derived.Test.YtladmaggljgjjaaGreatDoorFcI
import Derived.Test.YtladmaggljgjjaaGreatDoorFcJ
import Derived.Test.YtladmaggljgjjaaGreatDoorFcK
import Derived.ProofKit
import Derived.OpenShut
import Derived.LaidMore
import Derived.Lay
import Derived.SevenTiedAt
import Derived.Stop.Joined
namespace Go.Proofs.YtladmaggljgjjaaGreatDoor
open Go.ChangeShapes Go.WideShapes Go.ChangeAt Go.RowKit Go.AI Go.Deep Go.Joins

theorem own : ownKnob Tryz.prog.godebug = none := by kernel_rfl
theorem wfi {n : Int} (h : (Lit.int .i64 n).wf = true) : Go.Proofs.lo64 ≤ n ∧ n ≤ Go.Proofs.hi64 := by
  have h1 : IntKind.min .i64 = Go.Proofs.lo64 := by decide
  have h2 : IntKind.max .i64 = Go.Proofs.hi64 := by decide
  simp only [Lit.wf, Bool.and_eq_true, decide_eq_true_eq, h1, h2] at h
  exact h
theorem wfu {n : Int} (h : (Lit.int .u64 n).wf = true) : 0 ≤ n ∧ n ≤ 18446744073709551615 := by
  have h1 : IntKind.min .u64 = 0 := by decide
  have h2 : IntKind.max .u64 = 18446744073709551615 := by decide
  simp only [Lit.wf, Bool.and_eq_true, decide_eq_true_eq, h1, h2] at h
  exact h
/-- the fields of a configuration -/
theorem und24 : ∃ f0 f1 f2 f3 f4 : Field, Tryz.prog.underlying 24 = some (.struct #[f0, f1, f2, f3, f4]) ∧ oneCellFields Tryz.prog #[f0, f1, f2, f3, f4] = true ∧ f0.type = 3 ∧ f1.type = 3 ∧ f2.type = 3 ∧ f3.type = 22 ∧ f4.type = 3 :=
  ⟨_, _, _, _, _, Tryz.underlying24, by kernel_rfl, rfl, rfl, rfl, rfl, rfl⟩
theorem cells24 : Tryz.prog.cellsOf 24 = 5 := by kernel_rfl

set_option maxRecDepth 100000 in
theorem lifted (os : Os) (started : os.Started) (H : Type) (enc : TypeId × Value → H) :
    ReturnsInHanded {} Tryz.checked os 3 .any (fun w args => (Rows.mootBeginsSpec.pre enc Tryz.prog Tryz.f3 Rows.mootBeginsRow.domain false w args ∧ laidMetH Tryz.prog Rows.mootBeginsRow.laid w) ∧ sizedMet enc Tryz.prog Tryz.f3 (OpenSpec.ofChange Rows.mootBeginsSpec) false w args)
      (Rows.mootBeginsSpec.post enc Tryz.prog Tryz.f3 false true false false) := by
  refine returnsInHanded_of_change_and (C := Tryz.checked) (X := fun w _ => laidMetH Tryz.prog Rows.mootBeginsRow.laid w) (fun _ _ _ hh h => h.of_heap hh) own started (by kernel_rfl) Tryz.func3
    (ChangeSpec.witness_shaped (enc := enc) (C := Tryz.checked) (os := os) (X := fun w _ => laidMetH Tryz.prog Rows.mootBeginsRow.laid w) false (World.laidAll Tryz.prog os Rows.mootBeginsRow.laid) #[.agg #[.int .i64 3, .int .i64 1024, .int .i64 1, .int .u64 0, .int .i64 1]] 8 (World.laidAll_os _ _ _)
      (World.shaped_of_ZipB (by kernel_rfl) (by kernel_rfl)) (by kernel_rfl) (by kernel_rfl) (by kernel_rfl)
      (by rw [MakeChecks.laidMetH_plain _ _ _ (by kernel_rfl)]; exact laidMet_laidAll _ (by kernel_rfl) (by kernel_rfl))) ?_
  intro W base args ds gs before hval0 hW hc _ hL _
  have hval : ∀ (j : Nat) t v, Tryz.f3.params[j]? = some t → args[j]? = some v → Value.okWide Tryz.prog W .any base t v := hval0
  have hW' := hW
  obtain ⟨p, q, hA0, hV, rfl, _, _⟩ := hW
  have hA : DataW.TrodAll enc Tryz.prog W 0 (fun _ => true) true Tryz.f3.params.toList args.toList ds p := hA0
  rw [Tryz.params3] at hA hval
  obtain ⟨v0, d0, rfl, rfl, h0⟩ := trodAll_one hA
  obtain ⟨rfl, rfl⟩ := trodVars_none hV
  obtain ⟨f0, f1, f2, f3, f4, hs, hone, t0, t1, t2, t3, t4⟩ := und24
  obtain ⟨c0, c1, c2, c3, c4, y0, y1, y2, y3, y4, k, rfl, rfl, rfl, r0, r1, r2, r3, r4⟩ := open_agg5 hs hone cells24 (hval 0 24 v0 rfl rfl) h0
  obtain ⟨n, e0, rfl, wn⟩ := DataW.trod_int (t0 ▸ Tryz.underlying3) r0
  obtain ⟨dsk, e1, rfl, wd⟩ := DataW.trod_int (t1 ▸ Tryz.underlying3) r1
  obtain ⟨net, e2, rfl, wt⟩ := DataW.trod_int (t2 ▸ Tryz.underlying3) r2
  obtain ⟨fst, e3, rfl, wf⟩ := DataW.trod_int (t3 ▸ Tryz.underlying22) r3
  obtain ⟨wait, e4, rfl, ww⟩ := DataW.trod_int (t4 ▸ Tryz.underlying3) r4
  cases e0; cases e1; cases e2; cases e3; cases e4
  simp only [List.append_nil] at hW'
  refine (beg_calls n dsk net fst wait (wfi wn) (wfi wd) (wfi wt) (wfu wf) (wfi ww) W).mono fun e W' ⟨he, hb⟩ => ?_
  subst he
  refine ⟨_, rfl, post_of_below (pa := []) (pv := []) hW' (fun _ _ _ => trodAll_mk1 (shut_bool Tryz.underlying4 _)) (fun sp _ => ?_) (fun _ _ => rfl) rfl hb (ok_one (by kernel_rfl) rfl (okWide_bool_mk Tryz.underlying4 _))⟩
  have s3 : ∀ {i : Int} (f : Field), f.type = 3 → (Lit.int .i64 i).wf = true → ∃ m, DataW.trod enc Tryz.prog W' 0 sp true m f.type [.int .i64 i] = some (.lit (.int .i64 i), []) := fun f hf hw => by
    rw [hf]; exact Go.Joins.field_of_Trod (shut_int Tryz.underlying3 hw) rfl
  have s22 : ∃ m, DataW.trod enc Tryz.prog W' 0 sp true m f3.type [.int .u64 fst] = some (.lit (.int .u64 fst), []) := by
    rw [t3]; exact Go.Joins.field_of_Trod (shut_int Tryz.underlying22 wf) rfl
  exact trodAll_mk1 (shut_agg5 hs hone cells24 (s3 f0 t0 wn) (s3 f1 t1 wd) (s3 f2 t2 wt) s22 (s3 f4 t4 ww))

set_option maxRecDepth 100000 in
theorem facts : joinedFacts Tryz.prog 3 Tryz.f3 Rows.mootBeginsSpec Rows.mootBeginsRow = true :=
  joinedFacts_of fact1 fact2 fact3 fact4 fact5 fact6 fact7 fact8 fact9 fact10 fact11 fact12 fact13 fact14 fact15 fact16 fact17 fact18 fact19 fact20 fact21 fact22 fact23 fact24 fact25 fact26 fact27 fact28 fact29 fact30 fact31 fact32
theorem said : Rows.MootBeginsSaid :=
  OpenClaim.holds_of_wide 3 Tryz.f3 rfl rfl rfl rfl rfl rfl rfl ⟨rfl, rfl, rfl, rfl, rfl⟩ rfl rfl rfl rfl rfl cfact3 Tryz.func3 facts
    (of_decide_eq_true (by kernel_rfl)) (by unfold Func.isWrapper; first | (rw [if_pos (by decide +kernel)]; kernel_rfl) | (rw [if_neg (by decide +kernel)]; exact ⟨rfl, rfl⟩))
    (fun os started H enc _ => lifted os started H enc)
theorem mootBegins_holds : Rows.MootBeginsCardSaid :=
  Claim7.holds_tied_plain_at .later [] _ _ _ _ said (fun _ h => by cases h) cfact1 (fun _ h => by cases h) mootBegins_row_tie rfl ⟨rfl, rfl⟩ cfact2 rfl
    (fun f fn hf hfn => by
      obtain rfl : f = 3 := Option.some.inj (cfact3.symm.trans hf) |>.symm
      obtain rfl : fn = Tryz.f3 := (Option.some.inj (Tryz.func3.symm.trans hfn)).symm
      exact ⟨cfact4, fun j t ht => by
        rw [Tryz.params3] at ht
        have hm : t ∈ [24] := by simpa using Array.mem_of_getElem? ht
        exact (show Tryz.prog.wantsStandIn t = false by simpa using List.all_eq_true.1 cfact5 t hm)⟩)
    cfact6
end Go.Proofs.YtladmaggljgjjaaGreatDoor
