/- MetricReads: for the claim. -/
import Derived.Test.YtnaojdjhjkendaaGreatDoorXM0
import Derived.Test.YtnaojdjhjkendaaGreatDoorCards
import Derived.Test.YtnaojdjhjkendaaGreatDoorTie
import Derived.SevenTiedAt
set_option linter.unusedSimpArgs false
set_option linter.unusedVariables false
set_option maxRecDepth 100000
namespace Go.Proofs.YtnaojdjhjkendaaGreatDoor
open Go Go.Abs Go.ChangeShapes Go.WideShapes Go.RowKit
theorem MetricReads_lifted (os : Os) (started : os.Started) (H : Type) (enc : TypeId × Value → H) :
  ReturnsInHanded {} Tryz.checked os 3 .any (fun w args => (Rows.metricReadsSpec.pre enc Tryz.prog Tryz.f3 [] false w args ∧ laidMetH Tryz.prog [("errors.errorType", Rows.laid_errors_errorType)] w) ∧ sizedMet enc Tryz.prog Tryz.f3 (OpenSpec.ofChange Rows.metricReadsSpec) false w args)
   (Rows.metricReadsSpec.post enc Tryz.prog Tryz.f3 false true false false) := by
 refine returnsInHanded_of_change_and (C := Tryz.checked) (X := fun w _ => laidMetH Tryz.prog [("errors.errorType", Rows.laid_errors_errorType)] w) (fun _ _ _ hh h => h.of_heap hh) l_own started (by kernel_rfl) Tryz.func3
  (ChangeSpec.witness_at (enc := enc) (C := Tryz.checked) (os := os) (X := fun w _ => laidMetH Tryz.prog [("errors.errorType", Rows.laid_errors_errorType)] w) false (laidWorld os) #[.string ⟨#[]⟩, .int .i64 0] 8 rfl (by kernel_rfl) (by kernel_rfl) (by kernel_rfl) (by kernel_rfl) (by kernel_rfl) (laidWorld_met os _)) ?_
 intro W base args ds gs before hval0 hW _ _ hL _
 have hval : ∀ (j : Nat) t v, Tryz.f3.params[j]? = some t → args[j]? = some v → Value.okWide Tryz.prog W .any base t v := hval0
 have hg := l_handle hL
 obtain ⟨p, q, hA0, hV0, hpq, hfz, hnd⟩ := hW
 have hA : DataW.TrodAll enc Tryz.prog W 0 (fun _ => true) true Tryz.f3.params.toList args.toList ds p := hA0
 have hW : DataW.Whole enc Tryz.prog Tryz.f3.params.toList Rows.metricReadsSpec.vars false W args.toList ds gs before := ⟨p, q, hA0, hV0, hpq, hfz, hnd⟩
 have hread : ∀ t ∈ Tryz.f3.params.toList, Tryz.prog.readableRec t = true ∧ t < Tryz.prog.types.size := by
  rw [Tryz.params3]
  intro t ht
  simp only [List.mem_cons, List.not_mem_nil, or_false] at ht
  rcases ht with rfl | rfl <;> exact ⟨by kernel_rfl, of_decide_eq_true (by kernel_rfl)⟩
 rw [Tryz.params3] at hA hval
 obtain ⟨avs⟩ := args
 dsimp only at hA
 obtain ⟨v0, vr0, d0, dr0, p0, q0, rfl, rfl, rfl, h0, hA0⟩ := trodAll_cons hA
 obtain ⟨v1, vr1, d1, dr1, p1, q1, rfl, rfl, rfl, h1, hA1⟩ := trodAll_cons hA0
 obtain ⟨rfl, rfl, rfl⟩ := trodAll_nil hA1
 obtain ⟨a0, rfl, rfl, -, b0⟩ := Go.ChangeMaps.open_string (by kernel_rfl) (hval 0 _ v0 rfl rfl) h0
 obtain ⟨a1, rfl, rfl, -, b1⟩ := open_int (k := .i64) (by kernel_rfl) (hval 1 _ v1 rfl rfl) h1
 refine (law_calls hg (MetricReads_law BL BL_ok a0.data.toList (ba_len b0) a1 (i64_wf b1).1 (i64_wf b1).2) (.cons (.d (dr_str a0)) (.cons (.d (.int ..)) (.nil)))).mono fun e W' ⟨he, hh, ho, hu⟩ => ?_
 subst he
 exact ⟨_, rfl, post_law hW rfl rfl rfl hread hh ho hu⟩
theorem metricReads_j1 : (Rows.metricReadsRow.inPlace == Tryz.pinned.checked.prog.inPlace 3) = true := by kernel_rfl
theorem metricReads_j2 : (Rows.metricReadsRow.unfollowed == Tryz.pinned.checked.prog.unfollowed 3) = true := by kernel_rfl
theorem metricReads_j3 : (Rows.metricReadsRow.recurses == Tryz.pinned.checked.prog.recurses 3) = true := by kernel_rfl
theorem metricReads_j4 : (Rows.metricReadsRow.named == Tryz.pinned.checked.prog.varsNamed 3) = true := by kernel_rfl
theorem metricReads_j0 : joinedFacts Tryz.pinned.checked.prog 3 Tryz.f3 Rows.metricReadsSpec Rows.metricReadsRow = true := by
 unfold joinedFacts
 rw [metricReads_j1, metricReads_j2, metricReads_j3, metricReads_j4]
 kernel_rfl
theorem metricReads_row : Rows.MetricReadsSaid :=
 OpenClaim.holds_of_wide 3 Tryz.f3 rfl rfl rfl rfl rfl rfl rfl ⟨rfl, rfl, rfl, rfl, rfl⟩ rfl rfl rfl rfl rfl (by as_aux_lemma => kernel_rfl) Tryz.func3 metricReads_j0
  (of_decide_eq_true (by as_aux_lemma => kernel_rfl)) (by unfold Func.isWrapper; rw [if_neg (of_decide_eq_false (by kernel_rfl))]; exact ⟨rfl, rfl⟩)
  (fun os started H enc _ => MetricReads_lifted os started H enc)
theorem metricReads_holds : Rows.MetricReadsCardSaid :=
 Claim7.holds_tied_plain_at .later [] [.handle] true (true, "5dbbfb889e48e19eef359568373258f96f00e06cfb5c47c661d71ef76a96011b") true
  metricReads_row (fun _ h => by cases h) (by as_aux_lemma => kernel_rfl) (fun _ h => by cases h) metricReads_row_tie rfl ⟨rfl, rfl⟩ (by as_aux_lemma => kernel_rfl) rfl
  (fun f fn hf hfn => by
   obtain rfl : f = 3 := Option.some.inj ((show Tryz.prog.funcNamed "hygrometer/hyglaw16.MetricReads" = some 3 by as_aux_lemma => kernel_rfl).symm.trans hf) |>.symm
   obtain rfl : fn = Tryz.f3 := (Option.some.inj (Tryz.func3.symm.trans hfn)).symm
   exact ⟨by as_aux_lemma => kernel_rfl, fun j t ht => by
    rw [Tryz.params3] at ht
    have hm : t ∈ [9, 3] := List.mem_of_getElem? (by simpa using ht)
    simp only [List.mem_cons, List.not_mem_nil, or_false] at hm
    rcases hm with rfl | rfl
    ·exact (show Tryz.prog.wantsStandIn 9 = false by as_aux_lemma => kernel_rfl)
    ·exact (show Tryz.prog.wantsStandIn 3 = false by as_aux_lemma => kernel_rfl)⟩)
  (by as_aux_lemma => kernel_rfl)
#print axioms metricReads_holds
