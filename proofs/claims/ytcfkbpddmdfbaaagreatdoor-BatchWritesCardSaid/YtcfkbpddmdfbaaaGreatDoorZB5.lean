/- BatchWrites: for the claim. -/
import Derived.Test.YtcfkbpddmdfbaaaGreatDoorQO
import Derived.Test.YtcfkbpddmdfbaaaGreatDoorBO
import Derived.Test.YtcfkbpddmdfbaaaGreatDoorCards
import Derived.Test.YtcfkbpddmdfbaaaGreatDoorTie
import Derived.SevenTiedAt
set_option linter.unusedSimpArgs false
set_option linter.unusedVariables false
set_option maxRecDepth 100000
namespace Go.Proofs.YtcfkbpddmdfbaaaGreatDoor
open Go Go.Abs Go.ChangeShapes Go.WideShapes Go.RowKit
theorem andT {a b : Bool} (h1 : a = true) (h2 : b = true) : (a && b) = true := by rw [h1, h2]; rfl
theorem goes_no {P : Program} (h : P.funcs.any Func.goes = false) {c : OpenClaim} (hs : c.start = .entering) : false = c.goesBy P := by
 have hg : ∀ f, P.goes f = false := fun f => by
  unfold Program.goes
  rw [h, Bool.and_false, Bool.or_false, List.any_eq_false]
  intro g _
  cases hf : P.funcs[g]? with
  | none => simp
  | some fn =>
   have hm : fn ∈ P.funcs := Array.mem_of_getElem? hf
   rw [Array.any_eq_false'] at h
   simpa using h fn hm
 unfold OpenClaim.goesBy Program.goesAt Program.goesFrom
 rw [hs]
 cases P.funcNamed c.func with
 | none => rfl
 | some f => simp [hg f]
theorem goes_prog : Tryz.pinned.checked.prog.funcs.any Func.goes = false := by kernel_rfl
theorem BatchWrites_lifted (os : Os) (started : os.Started) (H : Type) (enc : TypeId × Value → H) :
  ReturnsInHanded {} Tryz.checked os 3 .any (fun w args => (Rows.batchWritesSpec.pre enc Tryz.prog Tryz.f3 [] false w args ∧ laidMetH Tryz.prog [("errors.errorType", Rows.laid_errors_errorType)] w) ∧ sizedMet enc Tryz.prog Tryz.f3 (OpenSpec.ofChange Rows.batchWritesSpec) false w args)
   (Rows.batchWritesSpec.post enc Tryz.prog Tryz.f3 false true false false) := by
 refine returnsInHanded_of_change_and (C := Tryz.checked) (X := fun w _ => laidMetH Tryz.prog [("errors.errorType", Rows.laid_errors_errorType)] w) (fun _ _ _ hh h => h.of_heap hh) l_own started (by kernel_rfl) Tryz.func3
  (ChangeSpec.witness_at (enc := enc) (C := Tryz.checked) (os := os) (X := fun w _ => laidMetH Tryz.prog [("errors.errorType", Rows.laid_errors_errorType)] w) false (laidWorld os) #[.agg #[.slice none 0 0, .string ⟨#[]⟩], .agg #[.bool false, .int .i64 0, .string ⟨#[]⟩, .string ⟨#[]⟩, .string ⟨#[]⟩]] 8 rfl (by kernel_rfl) (by kernel_rfl) (by kernel_rfl) (by kernel_rfl) (by kernel_rfl) (laidWorld_met os _)) ?_
 intro W base args ds gs before hval0 hW _ _ hL _
 have hval : ∀ (j : Nat) t v, Tryz.f3.params[j]? = some t → args[j]? = some v → Value.okWide Tryz.prog W .any base t v := hval0
 have hg := l_handle hL
 obtain ⟨p, q, hA0, hV0, hpq, hfz, hnd⟩ := hW
 have hA : DataW.TrodAll enc Tryz.prog W 0 (fun _ => true) true Tryz.f3.params.toList args.toList ds p := hA0
 have hW : DataW.Whole enc Tryz.prog Tryz.f3.params.toList Rows.batchWritesSpec.vars false W args.toList ds gs before := ⟨p, q, hA0, hV0, hpq, hfz, hnd⟩
 have hread : ∀ t ∈ Tryz.f3.params.toList, Tryz.prog.readableRec t = true ∧ t < Tryz.prog.types.size := by
  rw [Tryz.params3]
  intro t ht
  simp only [List.mem_cons, List.not_mem_nil, or_false] at ht
  rcases ht with rfl | rfl <;> exact ⟨by kernel_rfl, of_decide_eq_true (by kernel_rfl)⟩
 rw [Tryz.params3] at hA hval
 obtain ⟨avs⟩ := args
 dsimp only at hA
 obtain ⟨v0, vr0, d0, dr0, p0, q0, rfl, rfl, rfl, h0, hA0⟩ := trodAll_cons hA
 obtain ⟨v1, vr1, d1, dr1, p1, q1, rfl, rfl, rfl, h1, hA1⟩ := trodAll_cons hA0
 obtain ⟨rfl, rfl, rfl⟩ := trodAll_nil hA1
 obtain ⟨x0, y0, r0, k0, e0⟩ := open_Bt (hval 0 _ v0 rfl rfl) h0
 obtain ⟨x1, y1, r1, k1, e1⟩ := open_Rp (hval 1 _ v1 rfl rfl) h1
 refine (law_calls hg (BatchWrites_law BL BL_ok x0 y0 r0 k0 x1 y1 r1 k1) (.cons (.d e0) (.cons (.d e1) (.nil)))).mono fun e W' ⟨he, hh, ho, hu⟩ => ?_
 subst he
 exact ⟨_, rfl, post_law hW rfl rfl rfl hread hh ho hu⟩
theorem batchWrites_j1 : (Rows.batchWritesRow.inPlace == Tryz.pinned.checked.prog.inPlace 3) = true := by kernel_rfl
theorem batchWrites_j2 : (Rows.batchWritesRow.unfollowed == Tryz.pinned.checked.prog.unfollowed 3) = true := by kernel_rfl
theorem batchWrites_j3 : (Rows.batchWritesRow.recurses == Tryz.pinned.checked.prog.recurses 3) = true := by kernel_rfl
theorem batchWrites_j4 : (Rows.batchWritesRow.named == Tryz.pinned.checked.prog.varsNamed 3) = true := by kernel_rfl
theorem batchWrites_k0 : (Rows.batchWritesRow.wf (OpenSpec.ofChange Rows.batchWritesSpec)) = true := by kernel_rfl
theorem batchWrites_k1 : (laidOutB Tryz.pinned.checked.prog) = true := by kernel_rfl
theorem batchWrites_k2 : (mapsRowed Tryz.pinned.checked.prog) = true := by kernel_rfl
theorem batchWrites_k3 : (Tryz.f3.params.all (Tryz.pinned.checked.prog.readableRec ·)) = true := by kernel_rfl
theorem batchWrites_k4 : (namedTie Tryz.pinned.checked.prog Rows.batchWritesRow.named Rows.batchWritesSpec.vars) = true := by kernel_rfl
theorem batchWrites_k5 : (Rows.batchWritesRow.stops == []) = true := by kernel_rfl
theorem batchWrites_k6 : (Tryz.pinned.checked.prog.stops == []) = true := by kernel_rfl
theorem batchWrites_k7 : (Rows.batchWritesRow.knobs == []) = true := by kernel_rfl
theorem batchWrites_k8 : (Tryz.pinned.checked.prog.stopKnobs == []) = true := by kernel_rfl
theorem batchWrites_k13 : (Rows.batchWritesRow.maps == (Tryz.f3.params.toList ++ Rows.batchWritesSpec.plain.varTypes Tryz.pinned.checked.prog).any (Tryz.pinned.checked.prog.mapsRec ·)) = true := by kernel_rfl
theorem batchWrites_k14 : (Rows.batchWritesRow.ifaces == (Tryz.f3.params.toList ++ Rows.batchWritesSpec.plain.varTypes Tryz.pinned.checked.prog).any (Tryz.pinned.checked.prog.ifacesRec ·)) = true := by kernel_rfl
theorem batchWrites_k15 : (Rows.batchWritesRow.mapsOut == Tryz.pinned.checked.prog.mapsAmong Tryz.f3.resultTypes.toList) = true := by kernel_rfl
theorem batchWrites_k16 : (Rows.batchWritesRow.loops == (Tryz.f3.params.toList ++ Rows.batchWritesSpec.plain.varTypes Tryz.pinned.checked.prog).any (Tryz.pinned.checked.prog.loopsFrom ·)) = true := by kernel_rfl
theorem batchWrites_k17 : (Rows.batchWritesRow.wideKeys == (Tryz.f3.params.toList ++ Rows.batchWritesSpec.plain.varTypes Tryz.pinned.checked.prog ++ Tryz.f3.resultTypes.toList).any (Tryz.pinned.checked.prog.wideKeysFrom ·)) = true := by kernel_rfl
theorem batchWrites_k18 : (Rows.batchWritesSpec.vars.all (Tryz.pinned.checked.prog.varReadable ·)) = true := by kernel_rfl
theorem batchWrites_k19 : (Tryz.f3.resultTypes.all (fun t => Tryz.pinned.checked.prog.readableRec t && decide (t < Tryz.pinned.checked.prog.types.size))) = true := by kernel_rfl
theorem batchWrites_k20 : (Rows.batchWritesRow.ifacesOut == Tryz.f3.resultTypes.toList.any (Tryz.pinned.checked.prog.ifacesRec ·)) = true := by kernel_rfl
theorem batchWrites_k21 : (Rows.batchWritesRow.loopsOut == Tryz.f3.resultTypes.toList.any (Tryz.pinned.checked.prog.loopsFrom ·)) = true := by kernel_rfl
theorem batchWrites_k22 : (Rows.batchWritesRow.plainKeys == Tryz.pinned.checked.prog.plainKeys) = true := by kernel_rfl
theorem batchWrites_k23 : (Rows.batchWritesRow.shortTexts.isNone) = true := by kernel_rfl
theorem batchWrites_k24 : (Tryz.pinned.checked.prog.stopsHeard) = true := by kernel_rfl
theorem batchWrites_k25 : (Tryz.pinned.checked.prog.mayEnter) = true := by kernel_rfl
theorem batchWrites_k26 : (Rows.batchWritesRow.lifted == Tryz.pinned.checked.prog.liftsFinal) = true := by kernel_rfl
theorem batchWrites_k27 : (Tryz.pinned.checked.prog.make == some Rows.batchWritesRow.make) = true := by kernel_rfl
theorem batchWrites_k28 : (Rows.batchWritesRow.kinds == (if Rows.batchWritesRow.domain.isEmpty then [] else Tryz.f3.params.toList.map fun t => match Tryz.pinned.checked.prog.underlying t with | some (.int k) => some k | _ => none)) = true := by kernel_rfl
theorem batchWrites_k29 : (Rows.batchWritesRow.pinned == Rows.batchWritesRow.pinnedBy) = true := by kernel_rfl
theorem batchWrites_k30 : (Rows.batchWritesRow.veiled == (Tryz.f3.params.toList ++ Rows.batchWritesSpec.plain.varTypes Tryz.pinned.checked.prog ++ Tryz.f3.resultTypes.toList).any (Tryz.pinned.checked.prog.veiledRec ·)) = true := by kernel_rfl
theorem batchWrites_k31 : (Rows.batchWritesRow.veiledFits Tryz.pinned.checked.prog Tryz.f3.params.toList (Tryz.f3.params.toList ++ Rows.batchWritesSpec.plain.varTypes Tryz.pinned.checked.prog ++ Tryz.f3.resultTypes.toList)) = true := by kernel_rfl
theorem batchWrites_j0 : joinedFacts Tryz.pinned.checked.prog 3 Tryz.f3 Rows.batchWritesSpec Rows.batchWritesRow = true := by
 unfold joinedFacts
 exact andT (andT (andT (andT (andT (andT (andT (andT (andT (andT (andT (andT (andT (andT (andT (andT (andT (andT (andT (andT (andT (andT (andT (andT (andT (andT (andT (andT (andT (andT (andT batchWrites_k0 batchWrites_k1) batchWrites_k2) batchWrites_k3) batchWrites_k4) batchWrites_k5) batchWrites_k6) batchWrites_k7) batchWrites_k8) batchWrites_j1) batchWrites_j2) batchWrites_j3) batchWrites_j4) batchWrites_k13) batchWrites_k14) batchWrites_k15) batchWrites_k16) batchWrites_k17) batchWrites_k18) batchWrites_k19) batchWrites_k20) batchWrites_k21) batchWrites_k22) batchWrites_k23) batchWrites_k24) batchWrites_k25) batchWrites_k26) batchWrites_k27) batchWrites_k28) batchWrites_k29) batchWrites_k30) batchWrites_k31
theorem batchWrites_row : Rows.BatchWritesSaid :=
 OpenClaim.holds_of_wide 3 Tryz.f3 rfl rfl rfl rfl rfl rfl rfl ⟨rfl, rfl, rfl, rfl, rfl⟩ rfl rfl rfl rfl rfl (by as_aux_lemma => kernel_rfl) Tryz.func3 batchWrites_j0
  (of_decide_eq_true (by as_aux_lemma => kernel_rfl)) (by unfold Func.isWrapper; rw [if_neg (of_decide_eq_false (by kernel_rfl))]; exact ⟨rfl, rfl⟩)
  (fun os started H enc _ => BatchWrites_lifted os started H enc)
theorem batchWrites_holds : Rows.BatchWritesCardSaid :=
 Claim7.holds_tied_plain_at .later [] [.handle] true (true, "90e024dd0ce1e4bb4555e53593b93d3f3c229847f2570a539dc6eb6132e52844") true
  batchWrites_row (fun _ h => by cases h) (by as_aux_lemma => kernel_rfl) (fun _ h => by cases h) batchWrites_row_tie rfl ⟨rfl, rfl⟩ (by as_aux_lemma => kernel_rfl) rfl
  (fun f fn hf hfn => by
   obtain rfl : f = 3 := Option.some.inj ((show Tryz.prog.funcNamed "hygrometer/hyglaw17.BatchWrites" = some 3 by as_aux_lemma => kernel_rfl).symm.trans hf) |>.symm
   obtain rfl : fn = Tryz.f3 := (Option.some.inj (Tryz.func3.symm.trans hfn)).symm
   exact ⟨by as_aux_lemma => kernel_rfl, fun j t ht => by
    rw [Tryz.params3] at ht
    have hm : t ∈ [24, 26] := List.mem_of_getElem? (by simpa using ht)
    simp only [List.mem_cons, List.not_mem_nil, or_false] at hm
    rcases hm with rfl | rfl
    ·exact (show Tryz.prog.wantsStandIn 24 = false by as_aux_lemma => kernel_rfl)
    ·exact (show Tryz.prog.wantsStandIn 26 = false by as_aux_lemma => kernel_rfl)⟩)
  (goes_no goes_prog rfl)
#print axioms batchWrites_holds
