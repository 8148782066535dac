/- BatchBack: for the claim. -/
import Derived.Test.YtidcjbkenpgnoaaGreatDoorQO
import Derived.Test.YtidcjbkenpgnoaaGreatDoorBO
import Derived.Test.YtidcjbkenpgnoaaGreatDoorCards
import Derived.Test.YtidcjbkenpgnoaaGreatDoorTie
import Derived.SevenTiedAt
set_option linter.unusedSimpArgs false
set_option linter.unusedVariables false
set_option maxRecDepth 100000
namespace Go.Proofs.YtidcjbkenpgnoaaGreatDoor
open Go Go.Abs Go.ChangeShapes Go.WideShapes Go.RowKit
theorem andT {a b : Bool} (h1 : a = true) (h2 : b = true) : (a && b) = true := by rw [h1, h2]; rfl
theorem goes_no {P : Program} (h : P.funcs.any Func.goes = false) {c : OpenClaim} (hs : c.start = .entering) : false = c.goesBy P := by
 have hg : ∀ f, P.goes f = false := fun f => by
  unfold Program.goes
  rw [h, Bool.and_false, Bool.or_false, List.any_eq_false]
  intro g _
  cases hf : P.funcs[g]? with
  | none => simp
  | some fn =>
   have hm : fn ∈ P.funcs := Array.mem_of_getElem? hf
   rw [Array.any_eq_false'] at h
   simpa using h fn hm
 unfold OpenClaim.goesBy Program.goesAt Program.goesFrom
 rw [hs]
 cases P.funcNamed c.func with
 | none => rfl
 | some f => simp [hg f]
theorem goes_prog : Tryz.pinned.checked.prog.funcs.any Func.goes = false := by kernel_rfl
theorem BatchBack_lifted (os : Os) (started : os.Started) (H : Type) (enc : TypeId × Value → H) :
  ReturnsInHanded {} Tryz.checked os 9 .any (fun w args => (Rows.batchBackSpec.pre enc Tryz.prog Tryz.f9 [] false w args ∧ laidMetH Tryz.prog [("errors.errorType", Rows.laid_errors_errorType)] w) ∧ sizedMet enc Tryz.prog Tryz.f9 (OpenSpec.ofChange Rows.batchBackSpec) false w args)
   (Rows.batchBackSpec.post enc Tryz.prog Tryz.f9 false true false false) := by
 refine returnsInHanded_of_change_and (C := Tryz.checked) (X := fun w _ => laidMetH Tryz.prog [("errors.errorType", Rows.laid_errors_errorType)] w) (fun _ _ _ hh h => h.of_heap hh) l_own started (by kernel_rfl) Tryz.func9
  (ChangeSpec.witness_at (enc := enc) (C := Tryz.checked) (os := os) (X := fun w _ => laidMetH Tryz.prog [("errors.errorType", Rows.laid_errors_errorType)] w) false (laidWorld os) #[.agg #[.slice none 0 0, .string ⟨#[]⟩], .agg #[.bool false, .int .i64 0, .string ⟨#[]⟩, .string ⟨#[]⟩, .string ⟨#[]⟩]] 8 rfl (by kernel_rfl) (by kernel_rfl) (by kernel_rfl) (by kernel_rfl) (by kernel_rfl) (laidWorld_met os _)) ?_
 intro W base args ds gs before hval0 hW _ _ hL _
 have hval : ∀ (j : Nat) t v, Tryz.f9.params[j]? = some t → args[j]? = some v → Value.okWide Tryz.prog W .any base t v := hval0
 have hg := l_handle hL
 obtain ⟨p, q, hA0, hV0, hpq, hfz, hnd⟩ := hW
 have hA : DataW.TrodAll enc Tryz.prog W 0 (fun _ => true) true Tryz.f9.params.toList args.toList ds p := hA0
 have hW : DataW.Whole enc Tryz.prog Tryz.f9.params.toList Rows.batchBackSpec.vars false W args.toList ds gs before := ⟨p, q, hA0, hV0, hpq, hfz, hnd⟩
 have hread : ∀ t ∈ Tryz.f9.params.toList, Tryz.prog.readableRec t = true ∧ t < Tryz.prog.types.size := by
  rw [Tryz.params9]
  intro t ht
  simp only [List.mem_cons, List.not_mem_nil, or_false] at ht
  rcases ht with rfl | rfl <;> exact ⟨by kernel_rfl, of_decide_eq_true (by kernel_rfl)⟩
 rw [Tryz.params9] at hA hval
 obtain ⟨avs⟩ := args
 dsimp only at hA
 obtain ⟨v0, vr0, d0, dr0, p0, q0, rfl, rfl, rfl, h0, hA0⟩ := trodAll_cons hA
 obtain ⟨v1, vr1, d1, dr1, p1, q1, rfl, rfl, rfl, h1, hA1⟩ := trodAll_cons hA0
 obtain ⟨rfl, rfl, rfl⟩ := trodAll_nil hA1
 obtain ⟨x0, y0, r0, k0, e0⟩ := open_Bt (hval 0 _ v0 rfl rfl) h0
 obtain ⟨x1, y1, r1, k1, e1⟩ := open_Rp (hval 1 _ v1 rfl rfl) h1
 refine (law_calls hg (BatchBack_law BL BL_ok x0 y0 r0 k0 x1 y1 r1 k1) (.cons (.d e0) (.cons (.d e1) (.nil)))).mono fun e W' ⟨he, hh, ho, hu⟩ => ?_
 subst he
 exact ⟨_, rfl, post_law hW rfl rfl rfl hread hh ho hu⟩
theorem batchBack_j1 : (Rows.batchBackRow.inPlace == Tryz.pinned.checked.prog.inPlace 9) = true := by kernel_rfl
theorem batchBack_j2 : (Rows.batchBackRow.unfollowed == Tryz.pinned.checked.prog.unfollowed 9) = true := by kernel_rfl
theorem batchBack_j3 : (Rows.batchBackRow.recurses == Tryz.pinned.checked.prog.recurses 9) = true := by kernel_rfl
theorem batchBack_j4 : (Rows.batchBackRow.named == Tryz.pinned.checked.prog.varsNamed 9) = true := by kernel_rfl
theorem batchBack_k0 : (Rows.batchBackRow.wf (OpenSpec.ofChange Rows.batchBackSpec)) = true := by kernel_rfl
theorem batchBack_k1 : (laidOutB Tryz.pinned.checked.prog) = true := by kernel_rfl
theorem batchBack_k2 : (mapsRowed Tryz.pinned.checked.prog) = true := by kernel_rfl
theorem batchBack_k3 : (Tryz.f9.params.all (Tryz.pinned.checked.prog.readableRec ·)) = true := by kernel_rfl
theorem batchBack_k4 : (namedTie Tryz.pinned.checked.prog Rows.batchBackRow.named Rows.batchBackSpec.vars) = true := by kernel_rfl
theorem batchBack_k5 : (Rows.batchBackRow.stops == []) = true := by kernel_rfl
theorem batchBack_k6 : (Tryz.pinned.checked.prog.stops == []) = true := by kernel_rfl
theorem batchBack_k7 : (Rows.batchBackRow.knobs == []) = true := by kernel_rfl
theorem batchBack_k8 : (Tryz.pinned.checked.prog.stopKnobs == []) = true := by kernel_rfl
theorem batchBack_k13 : (Rows.batchBackRow.maps == (Tryz.f9.params.toList ++ Rows.batchBackSpec.plain.varTypes Tryz.pinned.checked.prog).any (Tryz.pinned.checked.prog.mapsRec ·)) = true := by kernel_rfl
theorem batchBack_k14 : (Rows.batchBackRow.ifaces == (Tryz.f9.params.toList ++ Rows.batchBackSpec.plain.varTypes Tryz.pinned.checked.prog).any (Tryz.pinned.checked.prog.ifacesRec ·)) = true := by kernel_rfl
theorem batchBack_k15 : (Rows.batchBackRow.mapsOut == Tryz.pinned.checked.prog.mapsAmong Tryz.f9.resultTypes.toList) = true := by kernel_rfl
theorem batchBack_k16 : (Rows.batchBackRow.loops == (Tryz.f9.params.toList ++ Rows.batchBackSpec.plain.varTypes Tryz.pinned.checked.prog).any (Tryz.pinned.checked.prog.loopsFrom ·)) = true := by kernel_rfl
theorem batchBack_k17 : (Rows.batchBackRow.wideKeys == (Tryz.f9.params.toList ++ Rows.batchBackSpec.plain.varTypes Tryz.pinned.checked.prog ++ Tryz.f9.resultTypes.toList).any (Tryz.pinned.checked.prog.wideKeysFrom ·)) = true := by kernel_rfl
theorem batchBack_k18 : (Rows.batchBackSpec.vars.all (Tryz.pinned.checked.prog.varReadable ·)) = true := by kernel_rfl
theorem batchBack_k19 : (Tryz.f9.resultTypes.all (fun t => Tryz.pinned.checked.prog.readableRec t && decide (t < Tryz.pinned.checked.prog.types.size))) = true := by kernel_rfl
theorem batchBack_k20 : (Rows.batchBackRow.ifacesOut == Tryz.f9.resultTypes.toList.any (Tryz.pinned.checked.prog.ifacesRec ·)) = true := by kernel_rfl
theorem batchBack_k21 : (Rows.batchBackRow.loopsOut == Tryz.f9.resultTypes.toList.any (Tryz.pinned.checked.prog.loopsFrom ·)) = true := by kernel_rfl
theorem batchBack_k22 : (Rows.batchBackRow.plainKeys == Tryz.pinned.checked.prog.plainKeys) = true := by kernel_rfl
theorem batchBack_k23 : (Rows.batchBackRow.shortTexts.isNone) = true := by kernel_rfl
theorem batchBack_k24 : (Tryz.pinned.checked.prog.stopsHeard) = true := by kernel_rfl
theorem batchBack_k25 : (Tryz.pinned.checked.prog.mayEnter) = true := by kernel_rfl
theorem batchBack_k26 : (Rows.batchBackRow.lifted == Tryz.pinned.checked.prog.liftsFinal) = true := by kernel_rfl
theorem batchBack_k27 : (Tryz.pinned.checked.prog.make == some Rows.batchBackRow.make) = true := by kernel_rfl
theorem batchBack_k28 : (Rows.batchBackRow.kinds == (if Rows.batchBackRow.domain.isEmpty then [] else Tryz.f9.params.toList.map fun t => match Tryz.pinned.checked.prog.underlying t with | some (.int k) => some k | _ => none)) = true := by kernel_rfl
theorem batchBack_k29 : (Rows.batchBackRow.pinned == Rows.batchBackRow.pinnedBy) = true := by kernel_rfl
theorem batchBack_k30 : (Rows.batchBackRow.veiled == (Tryz.f9.params.toList ++ Rows.batchBackSpec.plain.varTypes Tryz.pinned.checked.prog ++ Tryz.f9.resultTypes.toList).any (Tryz.pinned.checked.prog.veiledRec ·)) = true := by kernel_rfl
theorem batchBack_k31 : (Rows.batchBackRow.veiledFits Tryz.pinned.checked.prog Tryz.f9.params.toList (Tryz.f9.params.toList ++ Rows.batchBackSpec.plain.varTypes Tryz.pinned.checked.prog ++ Tryz.f9.resultTypes.toList)) = true := by kernel_rfl
theorem batchBack_j0 : joinedFacts Tryz.pinned.checked.prog 9 Tryz.f9 Rows.batchBackSpec Rows.batchBackRow = true := by
 unfold joinedFacts
 exact andT (andT (andT (andT (andT (andT (andT (andT (andT (andT (andT (andT (andT (andT (andT (andT (andT (andT (andT (andT (andT (andT (andT (andT (andT (andT (andT (andT (andT (andT (andT batchBack_k0 batchBack_k1) batchBack_k2) batchBack_k3) batchBack_k4) batchBack_k5) batchBack_k6) batchBack_k7) batchBack_k8) batchBack_j1) batchBack_j2) batchBack_j3) batchBack_j4) batchBack_k13) batchBack_k14) batchBack_k15) batchBack_k16) batchBack_k17) batchBack_k18) batchBack_k19) batchBack_k20) batchBack_k21) batchBack_k22) batchBack_k23) batchBack_k24) batchBack_k25) batchBack_k26) batchBack_k27) batchBack_k28) batchBack_k29) batchBack_k30) batchBack_k31
theorem batchBack_row : Rows.BatchBackSaid :=
 OpenClaim.holds_of_wide 9 Tryz.f9 rfl rfl rfl rfl rfl rfl rfl ⟨rfl, rfl, rfl, rfl, rfl⟩ rfl rfl rfl rfl rfl (by as_aux_lemma => kernel_rfl) Tryz.func9 batchBack_j0
  (of_decide_eq_true (by as_aux_lemma => kernel_rfl)) (by unfold Func.isWrapper; rw [if_neg (of_decide_eq_false (by kernel_rfl))]; exact ⟨rfl, rfl⟩)
  (fun os started H enc _ => BatchBack_lifted os started H enc)
theorem batchBack_holds : Rows.BatchBackCardSaid :=
 Claim7.holds_tied_plain_at .later [] [.handle] true (true, "97f62a84a53801b834cc5f4edc35ca11328e57ba8aadef45846846cb6a908743") true
  batchBack_row (fun _ h => by cases h) (by as_aux_lemma => kernel_rfl) (fun _ h => by cases h) batchBack_row_tie rfl ⟨rfl, rfl⟩ (by as_aux_lemma => kernel_rfl) rfl
  (fun f fn hf hfn => by
   obtain rfl : f = 9 := Option.some.inj ((show Tryz.prog.funcNamed "hygrometer/hyglaw17.BatchBack" = some 9 by as_aux_lemma => kernel_rfl).symm.trans hf) |>.symm
   obtain rfl : fn = Tryz.f9 := (Option.some.inj (Tryz.func9.symm.trans hfn)).symm
   exact ⟨by as_aux_lemma => kernel_rfl, fun j t ht => by
    rw [Tryz.params9] at ht
    have hm : t ∈ [24, 26] := List.mem_of_getElem? (by simpa using ht)
    simp only [List.mem_cons, List.not_mem_nil, or_false] at hm
    rcases hm with rfl | rfl
    ·exact (show Tryz.prog.wantsStandIn 24 = false by as_aux_lemma => kernel_rfl)
    ·exact (show Tryz.prog.wantsStandIn 26 = false by as_aux_lemma => kernel_rfl)⟩)
  (goes_no goes_prog rfl)
#print axioms batchBack_holds
