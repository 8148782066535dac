/- MetricSame: for the claim. -/
import Derived.Test.YtmnllpkbjkenfaaGreatDoorM4
import Derived.Test.YtmnllpkbjkenfaaGreatDoorMO
import Derived.Test.YtmnllpkbjkenfaaGreatDoorCards
import Derived.Test.YtmnllpkbjkenfaaGreatDoorTie
import Derived.SevenTiedAt
set_option linter.unusedSimpArgs false
set_option linter.unusedVariables false
set_option maxRecDepth 100000
namespace Go.Proofs.YtmnllpkbjkenfaaGreatDoor
open Go Go.Abs Go.ChangeShapes Go.WideShapes Go.RowKit
theorem MetricSame_lifted (os : Os) (started : os.Started) (H : Type) (enc : TypeId × Value → H) :
  ReturnsInHanded {} Tryz.checked os 8 .any (fun w args => (Rows.metricSameSpec.pre enc Tryz.prog Tryz.f8 [] false w args ∧ laidMetH Tryz.prog [("errors.errorType", Rows.laid_errors_errorType)] w) ∧ sizedMet enc Tryz.prog Tryz.f8 (OpenSpec.ofChange Rows.metricSameSpec) false w args)
   (Rows.metricSameSpec.post enc Tryz.prog Tryz.f8 false true false false) := by
 refine returnsInHanded_of_change_and (C := Tryz.checked) (X := fun w _ => laidMetH Tryz.prog [("errors.errorType", Rows.laid_errors_errorType)] w) (fun _ _ _ hh h => h.of_heap hh) l_own started (by kernel_rfl) Tryz.func8
  (ChangeSpec.witness_at (enc := enc) (C := Tryz.checked) (os := os) (X := fun w _ => laidMetH Tryz.prog [("errors.errorType", Rows.laid_errors_errorType)] w) false (laidWorld os) #[.agg #[.string ⟨#[]⟩, .string ⟨#[]⟩, .string ⟨#[]⟩, .int .i64 0, .int .i32 0, .bool false, .slice none 0 0, .slice none 0 0, .slice none 0 0, .slice none 0 0, .slice none 0 0, .string ⟨#[]⟩, .string ⟨#[]⟩], .agg #[.string ⟨#[]⟩, .string ⟨#[]⟩, .string ⟨#[]⟩, .int .i64 0, .int .i32 0, .bool false, .slice none 0 0, .slice none 0 0, .slice none 0 0, .slice none 0 0, .slice none 0 0, .string ⟨#[]⟩, .string ⟨#[]⟩]] 8 rfl (by kernel_rfl) (by kernel_rfl) (by kernel_rfl) (by kernel_rfl) (by kernel_rfl) (laidWorld_met os _)) ?_
 intro W base args ds gs before hval0 hW _ _ hL _
 have hval : ∀ (j : Nat) t v, Tryz.f8.params[j]? = some t → args[j]? = some v → Value.okWide Tryz.prog W .any base t v := hval0
 have hg := l_handle hL
 obtain ⟨p, q, hA0, hV0, hpq, hfz, hnd⟩ := hW
 have hA : DataW.TrodAll enc Tryz.prog W 0 (fun _ => true) true Tryz.f8.params.toList args.toList ds p := hA0
 have hW : DataW.Whole enc Tryz.prog Tryz.f8.params.toList Rows.metricSameSpec.vars false W args.toList ds gs before := ⟨p, q, hA0, hV0, hpq, hfz, hnd⟩
 have hread : ∀ t ∈ Tryz.f8.params.toList, Tryz.prog.readableRec t = true ∧ t < Tryz.prog.types.size := by
  rw [Tryz.params8]
  intro t ht
  simp only [List.mem_cons, List.not_mem_nil, or_false] at ht
  rcases ht with rfl | rfl <;> exact ⟨by kernel_rfl, of_decide_eq_true (by kernel_rfl)⟩
 rw [Tryz.params8] at hA hval
 obtain ⟨avs⟩ := args
 dsimp only at hA
 obtain ⟨v0, vr0, d0, dr0, p0, q0, rfl, rfl, rfl, h0, hA0⟩ := trodAll_cons hA
 obtain ⟨v1, vr1, d1, dr1, p1, q1, rfl, rfl, rfl, h1, hA1⟩ := trodAll_cons hA0
 obtain ⟨rfl, rfl, rfl⟩ := trodAll_nil hA1
 obtain ⟨x0, y0, r0, k0, e0⟩ := open_Me (hval 0 _ v0 rfl rfl) h0
 obtain ⟨x1, y1, r1, k1, e1⟩ := open_Me (hval 1 _ v1 rfl rfl) h1
 refine (law_calls hg (MetricSame_law BL BL_ok x0 y0 r0 k0 x1 y1 r1 k1) (.cons (.d e0) (.cons (.d e1) (.nil)))).mono fun e W' ⟨he, hh, ho, hu⟩ => ?_
 subst he
 exact ⟨_, rfl, post_law hW rfl rfl rfl hread hh ho hu⟩
theorem metricSame_j1 : (Rows.metricSameRow.inPlace == Tryz.pinned.checked.prog.inPlace 8) = true := by kernel_rfl
theorem metricSame_j2 : (Rows.metricSameRow.unfollowed == Tryz.pinned.checked.prog.unfollowed 8) = true := by kernel_rfl
theorem metricSame_j3 : (Rows.metricSameRow.recurses == Tryz.pinned.checked.prog.recurses 8) = true := by kernel_rfl
theorem metricSame_j4 : (Rows.metricSameRow.named == Tryz.pinned.checked.prog.varsNamed 8) = true := by kernel_rfl
theorem metricSame_j0 : joinedFacts Tryz.pinned.checked.prog 8 Tryz.f8 Rows.metricSameSpec Rows.metricSameRow = true := by
 unfold joinedFacts
 rw [metricSame_j1, metricSame_j2, metricSame_j3, metricSame_j4]
 kernel_rfl
theorem metricSame_row : Rows.MetricSameSaid :=
 OpenClaim.holds_of_wide 8 Tryz.f8 rfl rfl rfl rfl rfl rfl rfl ⟨rfl, rfl, rfl, rfl, rfl⟩ rfl rfl rfl rfl rfl (by as_aux_lemma => kernel_rfl) Tryz.func8 metricSame_j0
  (of_decide_eq_true (by as_aux_lemma => kernel_rfl)) (by unfold Func.isWrapper; rw [if_neg (of_decide_eq_false (by kernel_rfl))]; exact ⟨rfl, rfl⟩)
  (fun os started H enc _ => MetricSame_lifted os started H enc)
theorem metricSame_holds : Rows.MetricSameCardSaid :=
 Claim7.holds_tied_plain_at .later [] [.handle] true (true, "e157e3f1602c47a644458114e428f793f4d1ed70c6c23e39ce3eef0a8cdd8230") true
  metricSame_row (fun _ h => by cases h) (by as_aux_lemma => kernel_rfl) (fun _ h => by cases h) metricSame_row_tie rfl ⟨rfl, rfl⟩ (by as_aux_lemma => kernel_rfl) rfl
  (fun f fn hf hfn => by
   obtain rfl : f = 8 := Option.some.inj ((show Tryz.prog.funcNamed "hygrometer/hyglaw16.MetricSame" = some 8 by as_aux_lemma => kernel_rfl).symm.trans hf) |>.symm
   obtain rfl : fn = Tryz.f8 := (Option.some.inj (Tryz.func8.symm.trans hfn)).symm
   exact ⟨by as_aux_lemma => kernel_rfl, fun j t ht => by
    rw [Tryz.params8] at ht
    have hm : t ∈ [29, 29] := List.mem_of_getElem? (by simpa using ht)
    simp only [List.mem_cons, List.not_mem_nil, or_false] at hm
    rcases hm with rfl | rfl
    ·exact (show Tryz.prog.wantsStandIn 29 = false by as_aux_lemma => kernel_rfl)
    ·exact (show Tryz.prog.wantsStandIn 29 = false by as_aux_lemma => kernel_rfl)⟩)
  (by as_aux_lemma => kernel_rfl)
#print axioms metricSame_holds
