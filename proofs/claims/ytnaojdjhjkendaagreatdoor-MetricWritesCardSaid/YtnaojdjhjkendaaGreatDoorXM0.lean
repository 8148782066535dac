/- Metrics: written as the document tells. -/
import Derived.Test.YtnaojdjhjkendaaGreatDoorRV
import Derived.Test.YtnaojdjhjkendaaGreatDoorMV
import Derived.Test.YtnaojdjhjkendaaGreatDoorMQ
import Derived.Test.YtnaojdjhjkendaaGreatDoorXG3
import Derived.Test.YtnaojdjhjkendaaGreatDoorRows
import Derived.ChangeSame
import Derived.ChangeVars
import Derived.ChangeStays
import Derived.ChangeMaps5
import Derived.JoinedOf
import Derived.Handed
import Derived.RowKit
import Derived.RowKitTokens
import Derived.LaidLaws
import Derived.LaidHandle
import Derived.Stop.Joined
import Derived.Deep.Strs
import Derived.ChangeSlices
set_option linter.unusedSimpArgs false
set_option linter.unusedVariables false
set_option maxRecDepth 100000
namespace Go.Proofs.YtnaojdjhjkendaaGreatDoor
open Go Go.Abs
variable (B : Fr)
section
set_option maxHeartbeats 4000000 in
theorem MetricWrites_law (hB : BOk B) (x : Me) (xa : D) (hR : x.R xa) (hp : x.ln ∧ x.wf)
  (d : Int) (hd1 : -9223372036854775808 ≤ d) (hd2 : d < 9223372036854775808) :
  k'0 (cx B) 4 [.d xa, .d (.int .i64 d)] [] (.d (.bool true)) [] := by
 have hf := firstMe_calls B hB
 have hr := RmMe_calls B x xa hp.1 hR
 have hwf := hp.2
 obtain ⟨a0, a1, a2, a3, a4, a5, a6, a7, a8, a9, a10, a11, a12, a13, a14, a15, a16, a17, rfl⟩ := Me.R_sh hR
 refine l_bw Tryz.func4 0 [] ?_
 refine l_cw [] (hf) rfl rfl rfl ?_
 refine l_cw [] (hr) rfl rfl rfl ?_
 by_cases h1 : rmMe x 12000 < 0
 ·rw [show decide (rmMe x 12000 < 0) = true from decide_eq_true h1]
  refine Y ?_
  refine k'2 [] (hf) rfl rfl rfl ?_
  exact Z
 rw [show decide (rmMe x 12000 < 0) = false from decide_eq_false h1]
 refine Y ?_
 have hsz := rmMe_sz h1
 have hbig : x.sz < big := by unfold big; omega
 have c2 := k'3u B x _ d hbig hwf hR hd1 hd2
 have c3 := Me_May_calls B x _ d hbig hR hd1 hd2
 have c1 : k'0 (cx B) 11 [.d _, .d (.int .i64 d)] [] (.d (.bool (x.may d))) [] := rMayMe_calls B x _ d hbig hR hd1 hd2
 refine l_cw [] (c1) rfl rfl rfl ?_
 cases hm : x.may d
 rotate_left
 ·rw [hm, if_pos rfl] at c2
  rw [hm] at c3
  have c4 := rMe_calls B x _ d hbig hwf hm hR
  have c5 := Me_Size_calls B x _ hbig hwf hR (x.far d 1073741824 (by omega) hm)
  generalize x.mar = M at c2 c4 c5
  refine l_cw [] (c2) rfl rfl rfl ?_
  refine l_cw [] (c3) rfl rfl rfl ?_
  refine l_cw [] (hf) rfl rfl rfl ?_
  refine k'2d [] (c4) rfl rfl rfl rfl rfl ?_
  rw [show (M == M) = true by simp]
  refine Y ?_
  refine k'2d [] (c5) rfl rfl rfl rfl rfl ?_
  rw [show ((M.length : Int) == (M.length : Int)) = true by simp]
  exact Z
 rw [hm, if_neg (by simp)] at c2
 rw [hm] at c3
 have c6 := Code_calls B hB (some (Er.code 8))
 refine l_cw [] (c2) rfl rfl rfl ?_
 refine l_cw [] (c3) rfl rfl rfl ?_
 refine l_cw [] (hf) rfl rfl rfl ?_
 refine k'7 [] (c6) rfl rfl rfl rfl rfl ?_
 exact Z
end
section
open Go Go.Abs Go.ChangeShapes Go.WideShapes Go.RowKit
theorem l_own : ownKnob Tryz.prog.godebug = none := by kernel_rfl
theorem l_et : Tryz.prog.globalNamed "errors.errorType" = some 0 := by kernel_rfl
theorem l_rt : (Tryz.prog.cutTypes.find? (·.1 == "internal/reflectlite.rtype")).map (·.2) = some 316 := by kernel_rfl
theorem l_size : Tryz.prog.types.size = 422 := by kernel_rfl
theorem l_oneRow : ((List.range 422).filter fun t => Tryz.prog.rowNamed t [101, 114, 114, 111, 114]) = [31] := by kernel_rfl
theorem l_laidOut : laidOutB Tryz.prog = true := by kernel_rfl
theorem l_handle {W : World} (h : laidMetH Tryz.prog [("errors.errorType", Rows.laid_errors_errorType)] W) : W.cell? ⟨0, 0, none⟩ = some (rty 31) := by
 have h' : laidMet Tryz.prog [] W ∧ handlesMet Tryz.prog [("errors.errorType", Rows.laid_errors_errorType)] W := h
 obtain ⟨name, u, ty, e1, e2, e3, e4, e5⟩ := h'.2 _ (List.mem_singleton.2 rfl)
 have en : name = [101, 114, 114, 111, 114] := (Option.some.inj e1).symm
 subst en
 obtain rfl := Option.some.inj (l_rt.symm.trans e2)
 have hm : ty ∈ (List.range 422).filter fun t => Tryz.prog.rowNamed t [101, 114, 114, 111, 114] := List.mem_filter.2 ⟨List.mem_range.2 (by rw [← l_size]; exact e3), e4⟩
 rw [l_oneRow] at hm
 obtain rfl := List.mem_singleton.1 hm
 have hh : typeHandle Tryz.prog 31 = hnd 31 := by kernel_rfl
 rw [hh] at e5
 simpa using World.var?_cell l_et e5 0
noncomputable def laidWorld (os : Os) : World :=
 let w0 := World.holding Tryz.prog os ⟨#[], #[], []⟩
 { w0 with heap := w0.heap.modify 0 fun
   | .cells _ t frozen => .cells #[rty 31] t frozen
   | o => o }
theorem laidWorld_met (os : Os) (args : Array Value) : laidMetH Tryz.prog [("errors.errorType", Rows.laid_errors_errorType)] ((laidWorld os).forCall (fun _ _ => 0) ⟨#[], args, []⟩).memory :=
 laidMetH_of_parts (laidMet_nil _ _) (by kernel_rfl)
theorem keptBut_of_heap {w w' : World} (ho : w'.os = w.os) (hu : w'.output = w.output) (h : ∀ b, b < w.heap.size → w'.heap[b]? = w.heap[b]?) (may : MemPlace → Prop) : w.keptBut w' may := by
 refine ⟨ho, hu, fun i hi => ?_⟩
 rw [h i hi]
 have := (World.keptBut_refl w may).2.2 i hi
 exact this
section
variable {H : Type} {enc : TypeId × Value → H}
theorem trod_keep {W W' : World} (h : ∀ b, b < W.heap.size → W'.heap[b]? = W.heap[b]?) {t : TypeId} (hr : Tryz.prog.readableRec t = true) (ht : t < Tryz.prog.types.size) {v : Value} {d : DataW H} {p : List MemPlace} (hT : DataW.Trod enc Tryz.prog W 0 (fun _ => true) true t v d p) (sp : Nat → Bool) (hs : ∀ q ∈ p, sp q.block = true) : DataW.Trod enc Tryz.prog W' 0 sp true t v d p := by
 obtain ⟨fuel, hf⟩ := hT
 refine ⟨fuel, DataW.trod_stays (kids_book l_laidOut hr) (book_sized hr) (fun h => by cases h) ⟨ht, book_self t⟩ hf (fun q hq => ?_) hs⟩
 have hl := DataW.trod_lt _ _ _ _ hf q hq
 cases q with
 | cell b off => show W'.cell? ⟨b, off, none⟩ = W.cell? ⟨b, off, none⟩; unfold World.cell?; rw [h b hl]
 | map b => exact h b hl
theorem trodAll_keep {W W' : World} (h : ∀ b, b < W.heap.size → W'.heap[b]? = W.heap[b]?) : ∀ {ts : List TypeId} {vs : List Value} {ds : List (DataW H)} {p : List MemPlace}, (∀ t ∈ ts, Tryz.prog.readableRec t = true ∧ t < Tryz.prog.types.size) → DataW.TrodAll enc Tryz.prog W 0 (fun _ => true) true ts vs ds p → ∀ sp : Nat → Bool, (∀ q ∈ p, sp q.block = true) → DataW.TrodAll enc Tryz.prog W' 0 sp true ts vs ds p
 | [], _, _, _, _, hT, sp, hs => by
  obtain ⟨rfl, rfl, rfl⟩ := trodAll_nil hT
  rfl
 | t :: ts, _, _, _, hr, hT, sp, hs => by
  obtain ⟨v, vs1, d, ds1, a, b, rfl, rfl, rfl, h1, h2⟩ := trodAll_cons hT
  exact ⟨a, b, trod_keep h (hr t (by simp)).1 (hr t (by simp)).2 h1 sp (fun q hq => hs q (by simp [hq])), trodAll_keep h (fun t ht => hr t (by simp [ht])) h2 sp (fun q hq => hs q (by simp [hq])), rfl⟩
theorem post_law {f : Func} {s : ChangeSpec} {apart fresh handsOn again : Bool} {W W' : World} {args : Array Value} {ds gs : List (DataW H)} {before : List MemPlace}
  (hW : DataW.Whole enc Tryz.prog f.params.toList s.vars apart W args.toList ds gs before) (hv : s.vars = []) (hr : f.resultTypes = #[4]) (hs : s.fn H ds = { results := [.lit (.bool true)], args := ds })
  (hread : ∀ t ∈ f.params.toList, Tryz.prog.readableRec t = true ∧ t < Tryz.prog.types.size) (h : ∀ b, b < W.heap.size → W'.heap[b]? = W.heap[b]?) (ho : W'.os = W.os) (hu : W'.output = W.output) :
  s.post enc Tryz.prog f apart fresh handsOn again W args (.bool true) W' := by
 have hW0 := hW
 obtain ⟨p, q, hA, hV, rfl, hfz, hnd⟩ := hW
 rw [hv] at hV
 obtain ⟨rfl, rfl⟩ : gs = [] ∧ q = [] := by
  cases gs with
  | nil => exact ⟨rfl, hV⟩
  | cons g r => exact absurd hV (by intro h; cases h)
 have hlt := hW0.lt
 have hold : ∀ x ∈ p, (fun b => decide (b < W.heap.size)) x.block = true := fun x hx => by simpa using hlt x (by simp [hx])
 have hres : ∀ (b : Nat) (sp : Nat → Bool) (hd : Bool), DataW.TrodAll enc Tryz.prog W' b sp hd f.resultTypes.toList ((Value.bool true).resultList f.resultTypes.size) (s.fn H (ds ++ [])).results [] := by
  intro b sp hd
  rw [List.append_nil, hs, hr]
  exact trodAll_mk1 (shut_bool (by kernel_rfl) true)
 have hargs : ∀ sp : Nat → Bool, (∀ x ∈ p, sp x.block = true) → DataW.TrodAll enc Tryz.prog W' 0 sp true f.params.toList args.toList (s.fn H (ds ++ [])).args p := by
  intro sp hsp
  rw [List.append_nil, hs]
  exact trodAll_keep h hread hA sp hsp
 have hvars : ∀ sp : Nat → Bool, DataW.TrodVars enc Tryz.prog W' sp s.vars (s.fn H (ds ++ [])).vars [] := by
  intro sp
  rw [List.append_nil, hs, hv]; rfl
 refine ⟨ds, [], p ++ [], [], p, [], hW0, hres _ _ _, hargs _ hold, hvars _, World.keptBut_mono (fun x hx => hx) (keptBut_of_heap ho hu h _), fun _ => ?_⟩
 refine ⟨?_, _, _, ([] ++ p) ++ [], ⟨[] ++ p, [], trodAll_append (hargs _ (fun _ _ => rfl)) (hres _ _ _), hvars _, rfl, ?_, ?_⟩, ?_⟩
 ·intro j t r h1 h2
  rw [hr] at h1 h2
  rcases j with _ | j
  ·simp [Value.resultList] at h1 h2
   subst h1; subst h2
   have hb : Tryz.prog.underlying 4 = some .bool := by kernel_rfl
   simp [Value.okWide, hb, Cell.okWide, Cell.ok]
  ·simp at h1
 ·intro b off hp
  have hp' : MemPlace.cell b off ∈ p := by simpa using hp
  have hb := hlt (.cell b off) (by simpa using hp')
  have := hfz b off (by simpa using hp')
  unfold World.frozen? at this ⊢
  rw [h b hb]; exact this
 ·intro ha
  have := hnd ha
  simpa using this
 ·intro x hx _
  simpa using hx
end
noncomputable def BL : Fr := fun b off => if b = 0 ∧ off = 0 then some (rty 31) else none
theorem BL_ok : BOk BL := by unfold BOk BL; simp
theorem law_calls {f : FuncId} {args : List T} {vs : List Value} {W : World} (hg : W.cell? ⟨0, 0, none⟩ = some (rty 31)) (h : k'0 (cx BL) f args [] (.d (.bool true)) [])
  (ha : TRs (fun b off => W.cell? ⟨b, off, none⟩) (fun _ => .free) W (.tmp 0) args vs) : Calls Tryz.prog f vs.toArray W fun e W' => e = .returned (.bool true) ∧ (∀ b, b < W.heap.size → W'.heap[b]? = W.heap[b]?) ∧ W'.os = W.os ∧ W'.output = W.output := by
 have hw : WR (fun b off => W.cell? ⟨b, off, none⟩) (fun _ => .free) W [] := ⟨fun _ _ _ e => e, fun b e => absurd rfl e, fun b i e => by simp at e, fun b c i e => by simp at e⟩
 refine (h.2 _ _ W vs hw ha (fun b t => by simp) (fun b off v e => ?_)).mono fun e W' hp => ?_
 ·show W.cell? ⟨b, off, none⟩ = some v
  have e' : BL b off = some v := e
  unfold BL at e'
  split at e'
  ·rename_i hc
   obtain ⟨rfl, rfl⟩ := hc
   rw [← e']; exact hg
  ·simp at e'
 ·obtain ⟨v, F', ρ', rfl, -, hv, hx, -⟩ := hp
  cases hv with
  | d hv => cases hv; exact ⟨rfl, fun b hb => (hx.free b hb rfl).2.1, hx.os, hx.output⟩
theorem k'36 {F : Fr} (a : ByteArray) : DR F (.str a.data.toList) (.string a) := by
 have := DR.str (F := F) a.data.toList
 simpa using this
theorem ba_len {a : ByteArray} (h : a.size ≤ maxLen) : a.data.toList.length ≤ 9223372036854775807 := by
 have e : a.data.toList.length = a.size := by rw [Array.length_toList]; rfl
 rw [e]
 exact Nat.le_trans h (by show 2 ^ 63 - 1 ≤ 9223372036854775807; omega)
theorem i64_wf {n : Int} (h : (Lit.int .i64 n).wf = true) : -9223372036854775808 ≤ n ∧ n < 9223372036854775808 := by
 simp only [Lit.wf, Bool.and_eq_true, decide_eq_true_eq] at h
 have h1 : IntKind.i64.min = -9223372036854775808 := by decide
 have h2 : IntKind.i64.max = 9223372036854775807 := by decide
 rw [h1, h2] at h
 omega
end
section
open Go Go.Abs Go.ChangeShapes Go.WideShapes Go.RowKit
def noField : Field := { name := "", type := 0, offset := 0, embedded := false, tag := "", pkgPath := "", byteOffset := 0 }
noncomputable def stF (t i : Nat) : Field :=
 match Tryz.prog.underlying t with
 | some (.struct fs) => (fs[i]?).getD noField
 | _ => noField
theorem u64_wf {n : Int} (h : (Lit.int .u64 n).wf = true) : 0 ≤ n ∧ n < 18446744073709551616 := by
 simp only [Lit.wf, Bool.and_eq_true, decide_eq_true_eq] at h
 have h1 : IntKind.u64.min = 0 := by decide
 have h2 : IntKind.u64.max = 18446744073709551615 := by decide
 rw [h1, h2] at h
 omega
theorem i32_wf {n : Int} (h : (Lit.int .i32 n).wf = true) : -2147483648 ≤ n ∧ n < 2147483648 := by
 simp only [Lit.wf, Bool.and_eq_true, decide_eq_true_eq] at h
 have h1 : IntKind.i32.min = -2147483648 := by decide
 have h2 : IntKind.i32.max = 2147483647 := by decide
 rw [h1, h2] at h
 omega
end
