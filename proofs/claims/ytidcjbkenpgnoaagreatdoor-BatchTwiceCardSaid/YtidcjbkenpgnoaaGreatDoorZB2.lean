/- BatchTwice: for the claim. -/
import Derived.Test.YtidcjbkenpgnoaaGreatDoorXM0
import Derived.Test.YtidcjbkenpgnoaaGreatDoorCards
import Derived.Test.YtidcjbkenpgnoaaGreatDoorTie
import Derived.SevenTiedAt
set_option linter.unusedSimpArgs false
set_option linter.unusedVariables false
set_option maxRecDepth 100000
namespace Go.Proofs.YtidcjbkenpgnoaaGreatDoor
open Go Go.Abs Go.ChangeShapes Go.WideShapes Go.RowKit
theorem andT {a b : Bool} (h1 : a = true) (h2 : b = true) : (a && b) = true := by rw [h1, h2]; rfl
theorem goes_no {P : Program} (h : P.funcs.any Func.goes = false) {c : OpenClaim} (hs : c.start = .entering) : false = c.goesBy P := by
 have hg : ∀ f, P.goes f = false := fun f => by
  unfold Program.goes
  rw [h, Bool.and_false, Bool.or_false, List.any_eq_false]
  intro g _
  cases hf : P.funcs[g]? with
  | none => simp
  | some fn =>
   have hm : fn ∈ P.funcs := Array.mem_of_getElem? hf
   rw [Array.any_eq_false'] at h
   simpa using h fn hm
 unfold OpenClaim.goesBy Program.goesAt Program.goesFrom
 rw [hs]
 cases P.funcNamed c.func with
 | none => rfl
 | some f => simp [hg f]
theorem goes_prog : Tryz.pinned.checked.prog.funcs.any Func.goes = false := by kernel_rfl
theorem BatchTwice_lifted (os : Os) (started : os.Started) (H : Type) (enc : TypeId × Value → H) :
  ReturnsInHanded {} Tryz.checked os 6 .any (fun w args => (Rows.batchTwiceSpec.pre enc Tryz.prog Tryz.f6 [] false w args ∧ laidMetH Tryz.prog [("errors.errorType", Rows.laid_errors_errorType)] w) ∧ sizedMet enc Tryz.prog Tryz.f6 (OpenSpec.ofChange Rows.batchTwiceSpec) false w args)
   (Rows.batchTwiceSpec.post enc Tryz.prog Tryz.f6 false true false false) := by
 refine returnsInHanded_of_change_and (C := Tryz.checked) (X := fun w _ => laidMetH Tryz.prog [("errors.errorType", Rows.laid_errors_errorType)] w) (fun _ _ _ hh h => h.of_heap hh) l_own started (by kernel_rfl) Tryz.func6
  (ChangeSpec.witness_at (enc := enc) (C := Tryz.checked) (os := os) (X := fun w _ => laidMetH Tryz.prog [("errors.errorType", Rows.laid_errors_errorType)] w) false (laidWorld os) #[.string ⟨#[]⟩] 8 rfl (by kernel_rfl) (by kernel_rfl) (by kernel_rfl) (by kernel_rfl) (by kernel_rfl) (laidWorld_met os _)) ?_
 intro W base args ds gs before hval0 hW _ _ hL _
 have hval : ∀ (j : Nat) t v, Tryz.f6.params[j]? = some t → args[j]? = some v → Value.okWide Tryz.prog W .any base t v := hval0
 have hg := l_handle hL
 obtain ⟨p, q, hA0, hV0, hpq, hfz, hnd⟩ := hW
 have hA : DataW.TrodAll enc Tryz.prog W 0 (fun _ => true) true Tryz.f6.params.toList args.toList ds p := hA0
 have hW : DataW.Whole enc Tryz.prog Tryz.f6.params.toList Rows.batchTwiceSpec.vars false W args.toList ds gs before := ⟨p, q, hA0, hV0, hpq, hfz, hnd⟩
 have hread : ∀ t ∈ Tryz.f6.params.toList, Tryz.prog.readableRec t = true ∧ t < Tryz.prog.types.size := by
  rw [Tryz.params6]
  intro t ht
  simp only [List.mem_cons, List.not_mem_nil, or_false] at ht
  rcases ht with rfl <;> exact ⟨by kernel_rfl, of_decide_eq_true (by kernel_rfl)⟩
 rw [Tryz.params6] at hA hval
 obtain ⟨avs⟩ := args
 dsimp only at hA
 obtain ⟨v0, vr0, d0, dr0, p0, q0, rfl, rfl, rfl, h0, hA0⟩ := trodAll_cons hA
 obtain ⟨rfl, rfl, rfl⟩ := trodAll_nil hA0
 obtain ⟨a0, rfl, rfl, -, b0⟩ := Go.ChangeMaps.open_string (by kernel_rfl) (hval 0 _ v0 rfl rfl) h0
 refine (law_calls hg (BatchTwice_law BL BL_ok a0.data.toList (ba_len b0)) (.cons (.d (dr_str a0)) (.nil))).mono fun e W' ⟨he, hh, ho, hu⟩ => ?_
 subst he
 exact ⟨_, rfl, post_law hW rfl rfl rfl hread hh ho hu⟩
theorem batchTwice_j1 : (Rows.batchTwiceRow.inPlace == Tryz.pinned.checked.prog.inPlace 6) = true := by kernel_rfl
theorem batchTwice_j2 : (Rows.batchTwiceRow.unfollowed == Tryz.pinned.checked.prog.unfollowed 6) = true := by kernel_rfl
theorem batchTwice_j3 : (Rows.batchTwiceRow.recurses == Tryz.pinned.checked.prog.recurses 6) = true := by kernel_rfl
theorem batchTwice_j4 : (Rows.batchTwiceRow.named == Tryz.pinned.checked.prog.varsNamed 6) = true := by kernel_rfl
theorem batchTwice_k0 : (Rows.batchTwiceRow.wf (OpenSpec.ofChange Rows.batchTwiceSpec)) = true := by kernel_rfl
theorem batchTwice_k1 : (laidOutB Tryz.pinned.checked.prog) = true := by kernel_rfl
theorem batchTwice_k2 : (mapsRowed Tryz.pinned.checked.prog) = true := by kernel_rfl
theorem batchTwice_k3 : (Tryz.f6.params.all (Tryz.pinned.checked.prog.readableRec ·)) = true := by kernel_rfl
theorem batchTwice_k4 : (namedTie Tryz.pinned.checked.prog Rows.batchTwiceRow.named Rows.batchTwiceSpec.vars) = true := by kernel_rfl
theorem batchTwice_k5 : (Rows.batchTwiceRow.stops == []) = true := by kernel_rfl
theorem batchTwice_k6 : (Tryz.pinned.checked.prog.stops == []) = true := by kernel_rfl
theorem batchTwice_k7 : (Rows.batchTwiceRow.knobs == []) = true := by kernel_rfl
theorem batchTwice_k8 : (Tryz.pinned.checked.prog.stopKnobs == []) = true := by kernel_rfl
theorem batchTwice_k13 : (Rows.batchTwiceRow.maps == (Tryz.f6.params.toList ++ Rows.batchTwiceSpec.plain.varTypes Tryz.pinned.checked.prog).any (Tryz.pinned.checked.prog.mapsRec ·)) = true := by kernel_rfl
theorem batchTwice_k14 : (Rows.batchTwiceRow.ifaces == (Tryz.f6.params.toList ++ Rows.batchTwiceSpec.plain.varTypes Tryz.pinned.checked.prog).any (Tryz.pinned.checked.prog.ifacesRec ·)) = true := by kernel_rfl
theorem batchTwice_k15 : (Rows.batchTwiceRow.mapsOut == Tryz.pinned.checked.prog.mapsAmong Tryz.f6.resultTypes.toList) = true := by kernel_rfl
theorem batchTwice_k16 : (Rows.batchTwiceRow.loops == (Tryz.f6.params.toList ++ Rows.batchTwiceSpec.plain.varTypes Tryz.pinned.checked.prog).any (Tryz.pinned.checked.prog.loopsFrom ·)) = true := by kernel_rfl
theorem batchTwice_k17 : (Rows.batchTwiceRow.wideKeys == (Tryz.f6.params.toList ++ Rows.batchTwiceSpec.plain.varTypes Tryz.pinned.checked.prog ++ Tryz.f6.resultTypes.toList).any (Tryz.pinned.checked.prog.wideKeysFrom ·)) = true := by kernel_rfl
theorem batchTwice_k18 : (Rows.batchTwiceSpec.vars.all (Tryz.pinned.checked.prog.varReadable ·)) = true := by kernel_rfl
theorem batchTwice_k19 : (Tryz.f6.resultTypes.all (fun t => Tryz.pinned.checked.prog.readableRec t && decide (t < Tryz.pinned.checked.prog.types.size))) = true := by kernel_rfl
theorem batchTwice_k20 : (Rows.batchTwiceRow.ifacesOut == Tryz.f6.resultTypes.toList.any (Tryz.pinned.checked.prog.ifacesRec ·)) = true := by kernel_rfl
theorem batchTwice_k21 : (Rows.batchTwiceRow.loopsOut == Tryz.f6.resultTypes.toList.any (Tryz.pinned.checked.prog.loopsFrom ·)) = true := by kernel_rfl
theorem batchTwice_k22 : (Rows.batchTwiceRow.plainKeys == Tryz.pinned.checked.prog.plainKeys) = true := by kernel_rfl
theorem batchTwice_k23 : (Rows.batchTwiceRow.shortTexts.isNone) = true := by kernel_rfl
theorem batchTwice_k24 : (Tryz.pinned.checked.prog.stopsHeard) = true := by kernel_rfl
theorem batchTwice_k25 : (Tryz.pinned.checked.prog.mayEnter) = true := by kernel_rfl
theorem batchTwice_k26 : (Rows.batchTwiceRow.lifted == Tryz.pinned.checked.prog.liftsFinal) = true := by kernel_rfl
theorem batchTwice_k27 : (Tryz.pinned.checked.prog.make == some Rows.batchTwiceRow.make) = true := by kernel_rfl
theorem batchTwice_k28 : (Rows.batchTwiceRow.kinds == (if Rows.batchTwiceRow.domain.isEmpty then [] else Tryz.f6.params.toList.map fun t => match Tryz.pinned.checked.prog.underlying t with | some (.int k) => some k | _ => none)) = true := by kernel_rfl
theorem batchTwice_k29 : (Rows.batchTwiceRow.pinned == Rows.batchTwiceRow.pinnedBy) = true := by kernel_rfl
theorem batchTwice_k30 : (Rows.batchTwiceRow.veiled == (Tryz.f6.params.toList ++ Rows.batchTwiceSpec.plain.varTypes Tryz.pinned.checked.prog ++ Tryz.f6.resultTypes.toList).any (Tryz.pinned.checked.prog.veiledRec ·)) = true := by kernel_rfl
theorem batchTwice_k31 : (Rows.batchTwiceRow.veiledFits Tryz.pinned.checked.prog Tryz.f6.params.toList (Tryz.f6.params.toList ++ Rows.batchTwiceSpec.plain.varTypes Tryz.pinned.checked.prog ++ Tryz.f6.resultTypes.toList)) = true := by kernel_rfl
theorem batchTwice_j0 : joinedFacts Tryz.pinned.checked.prog 6 Tryz.f6 Rows.batchTwiceSpec Rows.batchTwiceRow = true := by
 unfold joinedFacts
 exact andT (andT (andT (andT (andT (andT (andT (andT (andT (andT (andT (andT (andT (andT (andT (andT (andT (andT (andT (andT (andT (andT (andT (andT (andT (andT (andT (andT (andT (andT (andT batchTwice_k0 batchTwice_k1) batchTwice_k2) batchTwice_k3) batchTwice_k4) batchTwice_k5) batchTwice_k6) batchTwice_k7) batchTwice_k8) batchTwice_j1) batchTwice_j2) batchTwice_j3) batchTwice_j4) batchTwice_k13) batchTwice_k14) batchTwice_k15) batchTwice_k16) batchTwice_k17) batchTwice_k18) batchTwice_k19) batchTwice_k20) batchTwice_k21) batchTwice_k22) batchTwice_k23) batchTwice_k24) batchTwice_k25) batchTwice_k26) batchTwice_k27) batchTwice_k28) batchTwice_k29) batchTwice_k30) batchTwice_k31
theorem batchTwice_row : Rows.BatchTwiceSaid :=
 OpenClaim.holds_of_wide 6 Tryz.f6 rfl rfl rfl rfl rfl rfl rfl ⟨rfl, rfl, rfl, rfl, rfl⟩ rfl rfl rfl rfl rfl (by as_aux_lemma => kernel_rfl) Tryz.func6 batchTwice_j0
  (of_decide_eq_true (by as_aux_lemma => kernel_rfl)) (by unfold Func.isWrapper; rw [if_neg (of_decide_eq_false (by kernel_rfl))]; exact ⟨rfl, rfl⟩)
  (fun os started H enc _ => BatchTwice_lifted os started H enc)
theorem batchTwice_holds : Rows.BatchTwiceCardSaid :=
 Claim7.holds_tied_plain_at .later [] [.handle] true (true, "97f62a84a53801b834cc5f4edc35ca11328e57ba8aadef45846846cb6a908743") true
  batchTwice_row (fun _ h => by cases h) (by as_aux_lemma => kernel_rfl) (fun _ h => by cases h) batchTwice_row_tie rfl ⟨rfl, rfl⟩ (by as_aux_lemma => kernel_rfl) rfl
  (fun f fn hf hfn => by
   obtain rfl : f = 6 := Option.some.inj ((show Tryz.prog.funcNamed "hygrometer/hyglaw17.BatchTwice" = some 6 by as_aux_lemma => kernel_rfl).symm.trans hf) |>.symm
   obtain rfl : fn = Tryz.f6 := (Option.some.inj (Tryz.func6.symm.trans hfn)).symm
   exact ⟨by as_aux_lemma => kernel_rfl, fun j t ht => by
    rw [Tryz.params6] at ht
    have hm : t ∈ [9] := List.mem_of_getElem? (by simpa using ht)
    simp only [List.mem_cons, List.not_mem_nil, or_false] at hm
    rcases hm with rfl
    ·exact (show Tryz.prog.wantsStandIn 9 = false by as_aux_lemma => kernel_rfl)⟩)
  (goes_no goes_prog rfl)
#print axioms batchTwice_holds
