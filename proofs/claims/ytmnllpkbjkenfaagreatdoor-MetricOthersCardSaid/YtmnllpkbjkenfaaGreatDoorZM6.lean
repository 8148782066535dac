/- MetricOthers: for the claim. -/
import Derived.Test.YtmnllpkbjkenfaaGreatDoorM6
import Derived.Test.YtmnllpkbjkenfaaGreatDoorXM0
import Derived.Test.YtmnllpkbjkenfaaGreatDoorCards
import Derived.Test.YtmnllpkbjkenfaaGreatDoorTie
import Derived.SevenTiedAt
set_option linter.unusedSimpArgs false
set_option linter.unusedVariables false
set_option maxRecDepth 100000
namespace Go.Proofs.YtmnllpkbjkenfaaGreatDoor
open Go Go.Abs Go.ChangeShapes Go.WideShapes Go.RowKit
theorem MetricOthers_lifted (os : Os) (started : os.Started) (H : Type) (enc : TypeId × Value → H) :
  ReturnsInHanded {} Tryz.checked os 11 .any (fun w args => (Rows.metricOthersSpec.pre enc Tryz.prog Tryz.f11 [] false w args ∧ laidMetH Tryz.prog [("errors.errorType", Rows.laid_errors_errorType)] w) ∧ sizedMet enc Tryz.prog Tryz.f11 (OpenSpec.ofChange Rows.metricOthersSpec) false w args)
   (Rows.metricOthersSpec.post enc Tryz.prog Tryz.f11 false true false false) := by
 refine returnsInHanded_of_change_and (C := Tryz.checked) (X := fun w _ => laidMetH Tryz.prog [("errors.errorType", Rows.laid_errors_errorType)] w) (fun _ _ _ hh h => h.of_heap hh) l_own started (by kernel_rfl) Tryz.func11
  (ChangeSpec.witness_at (enc := enc) (C := Tryz.checked) (os := os) (X := fun w _ => laidMetH Tryz.prog [("errors.errorType", Rows.laid_errors_errorType)] w) false (laidWorld os) #[.string ⟨#[]⟩, .int .i64 0, .int .i64 0, .int .u64 0] 8 rfl (by kernel_rfl) (by kernel_rfl) (by kernel_rfl) (by kernel_rfl) (by kernel_rfl) (laidWorld_met os _)) ?_
 intro W base args ds gs before hval0 hW _ _ hL _
 have hval : ∀ (j : Nat) t v, Tryz.f11.params[j]? = some t → args[j]? = some v → Value.okWide Tryz.prog W .any base t v := hval0
 have hg := l_handle hL
 obtain ⟨p, q, hA0, hV0, hpq, hfz, hnd⟩ := hW
 have hA : DataW.TrodAll enc Tryz.prog W 0 (fun _ => true) true Tryz.f11.params.toList args.toList ds p := hA0
 have hW : DataW.Whole enc Tryz.prog Tryz.f11.params.toList Rows.metricOthersSpec.vars false W args.toList ds gs before := ⟨p, q, hA0, hV0, hpq, hfz, hnd⟩
 have hread : ∀ t ∈ Tryz.f11.params.toList, Tryz.prog.readableRec t = true ∧ t < Tryz.prog.types.size := by
  rw [Tryz.params11]
  intro t ht
  simp only [List.mem_cons, List.not_mem_nil, or_false] at ht
  rcases ht with rfl | rfl | rfl | rfl <;> exact ⟨by kernel_rfl, of_decide_eq_true (by kernel_rfl)⟩
 rw [Tryz.params11] at hA hval
 obtain ⟨avs⟩ := args
 dsimp only at hA
 obtain ⟨v0, vr0, d0, dr0, p0, q0, rfl, rfl, rfl, h0, hA0⟩ := trodAll_cons hA
 obtain ⟨v1, vr1, d1, dr1, p1, q1, rfl, rfl, rfl, h1, hA1⟩ := trodAll_cons hA0
 obtain ⟨v2, vr2, d2, dr2, p2, q2, rfl, rfl, rfl, h2, hA2⟩ := trodAll_cons hA1
 obtain ⟨v3, vr3, d3, dr3, p3, q3, rfl, rfl, rfl, h3, hA3⟩ := trodAll_cons hA2
 obtain ⟨rfl, rfl, rfl⟩ := trodAll_nil hA3
 obtain ⟨a0, rfl, rfl, -, b0⟩ := Go.ChangeMaps.open_string (by kernel_rfl) (hval 0 _ v0 rfl rfl) h0
 obtain ⟨a1, rfl, rfl, -, b1⟩ := open_int (k := .i64) (by kernel_rfl) (hval 1 _ v1 rfl rfl) h1
 obtain ⟨a2, rfl, rfl, -, b2⟩ := open_int (k := .i64) (by kernel_rfl) (hval 2 _ v2 rfl rfl) h2
 obtain ⟨a3, rfl, rfl, -, b3⟩ := open_int (k := .u64) (by kernel_rfl) (hval 3 _ v3 rfl rfl) h3
 refine (law_calls hg (MetricOthers_law BL BL_ok a0.data.toList (ba_len b0) a1 (i64_wf b1).1 (i64_wf b1).2 a2 (i64_wf b2).1 (i64_wf b2).2 a3 (u64_wf b3).1 (u64_wf b3).2) (.cons (.d (dr_str a0)) (.cons (.d (.int ..)) (.cons (.d (.int ..)) (.cons (.d (.int ..)) (.nil)))))).mono fun e W' ⟨he, hh, ho, hu⟩ => ?_
 subst he
 exact ⟨_, rfl, post_law hW rfl rfl rfl hread hh ho hu⟩
theorem metricOthers_j1 : (Rows.metricOthersRow.inPlace == Tryz.pinned.checked.prog.inPlace 11) = true := by kernel_rfl
theorem metricOthers_j2 : (Rows.metricOthersRow.unfollowed == Tryz.pinned.checked.prog.unfollowed 11) = true := by kernel_rfl
theorem metricOthers_j3 : (Rows.metricOthersRow.recurses == Tryz.pinned.checked.prog.recurses 11) = true := by kernel_rfl
theorem metricOthers_j4 : (Rows.metricOthersRow.named == Tryz.pinned.checked.prog.varsNamed 11) = true := by kernel_rfl
theorem metricOthers_j0 : joinedFacts Tryz.pinned.checked.prog 11 Tryz.f11 Rows.metricOthersSpec Rows.metricOthersRow = true := by
 unfold joinedFacts
 rw [metricOthers_j1, metricOthers_j2, metricOthers_j3, metricOthers_j4]
 kernel_rfl
theorem metricOthers_row : Rows.MetricOthersSaid :=
 OpenClaim.holds_of_wide 11 Tryz.f11 rfl rfl rfl rfl rfl rfl rfl ⟨rfl, rfl, rfl, rfl, rfl⟩ rfl rfl rfl rfl rfl (by as_aux_lemma => kernel_rfl) Tryz.func11 metricOthers_j0
  (of_decide_eq_true (by as_aux_lemma => kernel_rfl)) (by unfold Func.isWrapper; rw [if_neg (of_decide_eq_false (by kernel_rfl))]; exact ⟨rfl, rfl⟩)
  (fun os started H enc _ => MetricOthers_lifted os started H enc)
theorem metricOthers_holds : Rows.MetricOthersCardSaid :=
 Claim7.holds_tied_plain_at .later [] [.handle] true (true, "e157e3f1602c47a644458114e428f793f4d1ed70c6c23e39ce3eef0a8cdd8230") true
  metricOthers_row (fun _ h => by cases h) (by as_aux_lemma => kernel_rfl) (fun _ h => by cases h) metricOthers_row_tie rfl ⟨rfl, rfl⟩ (by as_aux_lemma => kernel_rfl) rfl
  (fun f fn hf hfn => by
   obtain rfl : f = 11 := Option.some.inj ((show Tryz.prog.funcNamed "hygrometer/hyglaw16.MetricOthers" = some 11 by as_aux_lemma => kernel_rfl).symm.trans hf) |>.symm
   obtain rfl : fn = Tryz.f11 := (Option.some.inj (Tryz.func11.symm.trans hfn)).symm
   exact ⟨by as_aux_lemma => kernel_rfl, fun j t ht => by
    rw [Tryz.params11] at ht
    have hm : t ∈ [9, 3, 3, 51] := List.mem_of_getElem? (by simpa using ht)
    simp only [List.mem_cons, List.not_mem_nil, or_false] at hm
    rcases hm with rfl | rfl | rfl | rfl
    ·exact (show Tryz.prog.wantsStandIn 9 = false by as_aux_lemma => kernel_rfl)
    ·exact (show Tryz.prog.wantsStandIn 3 = false by as_aux_lemma => kernel_rfl)
    ·exact (show Tryz.prog.wantsStandIn 3 = false by as_aux_lemma => kernel_rfl)
    ·exact (show Tryz.prog.wantsStandIn 51 = false by as_aux_lemma => kernel_rfl)⟩)
  (by as_aux_lemma => kernel_rfl)
#print axioms metricOthers_holds
end Go.Proofs.YtmnllpkbjkenfaaGreatDoor
