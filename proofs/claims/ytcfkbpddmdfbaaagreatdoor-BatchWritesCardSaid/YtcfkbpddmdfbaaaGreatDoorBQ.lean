/- Arguments: values and attributes, as deep as they go. -/
import Derived.Test.YtcfkbpddmdfbaaaGreatDoorXM0
import Derived.Test.YtcfkbpddmdfbaaaGreatDoorRV
import Derived.Deep.Strs
import Derived.ChangeSlices
import Derived.ChangeArms
set_option linter.unusedSimpArgs false
set_option linter.unusedVariables false
set_option maxRecDepth 100000
namespace Go.Proofs.YtcfkbpddmdfbaaaGreatDoor
open Go Go.Abs
section
open Go Go.Abs Go.ChangeShapes Go.WideShapes Go.RowKit
theorem u32_wf {n : Int} (h : (Lit.int .u32 n).wf = true) : 0 ≤ n ∧ n < 4294967296 := by
 simp only [Lit.wf, Bool.and_eq_true, decide_eq_true_eq] at h
 have h1 : IntKind.u32.min = 0 := by decide
 have h2 : IntKind.u32.max = 4294967295 := by decide
 rw [h1, h2] at h
 omega
def Fw (W : World) : Fr := fun b off => W.cell? ⟨b, off, none⟩
theorem k'3j {F : Fr} : ∀ {a : List D} {va : List Value} {b : List D} {vb : List Value}, DRs F a va → DRs F b vb → DRs F (a ++ b) (va ++ vb)
 | _, _, _, _, .nil, h => h
 | _, _, _, _, .cons h t, k => .cons h (k'3j t k)
theorem Vl.Rs_of : ∀ {l : List Vl} {xs : List D}, RsOf Vl.R l xs → Vl.Rs l xs
 | [], xs, h => by have := h.1; cases xs with | nil => rfl | cons _ _ => simp at this
 | v :: l, xs, h => by
  obtain ⟨x, h1, h2⟩ := h.2 0 v rfl
  cases xs with
  | nil => simp at h1
  | cons y ys =>
   simp at h1; subst h1
   exact ⟨y, ys, rfl, h2, Vl.Rs_of ⟨by have := h.1; simpa using this, fun i u hu => by have := h.2 (i + 1) u (by simpa using hu); simpa using this⟩⟩
theorem Kv.Rs_of : ∀ {l : List Kv} {xs : List D}, RsOf Kv.R l xs → Kv.Rs l xs
 | [], xs, h => by have := h.1; cases xs with | nil => rfl | cons _ _ => simp at this
 | v :: l, xs, h => by
  obtain ⟨x, h1, h2⟩ := h.2 0 v rfl
  cases xs with
  | nil => simp at h1
  | cons y ys =>
   simp at h1; subst h1
   exact ⟨y, ys, rfl, h2, Kv.Rs_of ⟨by have := h.1; simpa using this, fun i u hu => by have := h.2 (i + 1) u (by simpa using hu); simpa using this⟩⟩
theorem Vl.lns_of : ∀ {l : List Vl}, (∀ v ∈ l, v.ln) → Vl.lns l
 | [], _ => trivial
 | v :: l, h => ⟨h v (List.mem_cons_self ..), Vl.lns_of fun x hx => h x (List.mem_cons_of_mem _ hx)⟩
theorem Kv.lns_of : ∀ {l : List Kv}, (∀ v ∈ l, v.ln) → Kv.lns l
 | [], _ => trivial
 | v :: l, h => ⟨h v (List.mem_cons_self ..), Kv.lns_of fun x hx => h x (List.mem_cons_of_mem _ hx)⟩
theorem Vl.wfs_of : ∀ {l : List Vl}, (∀ v ∈ l, v.wf) → Vl.wfs l
 | [], _ => trivial
 | v :: l, h => ⟨h v (List.mem_cons_self ..), Vl.wfs_of fun x hx => h x (List.mem_cons_of_mem _ hx)⟩
section
variable {H : Type} {enc : TypeId × Value → H} {W : World}
theorem cells_get {base n : Nat} {a : Addr} {cs : List Value} (h : W.cells? base a n = some cs) : cs.length = n ∧ ∀ j, j < n → W.cell? (a.add j) = cs[j]? := by
 unfold World.cells? at h
 split at h
 ·refine ⟨by simpa using mapM_some_length h, fun j hj => ?_⟩
  exact mapM_some_get h j j (by simp [hj])
 ·simp at h
theorem k'd {α : Type} {R : α → D → Prop} {Fine : α → Prop} {t e : TypeId} {k fuel : Nat} {cs : List Value} {x : DataW H × List MemPlace} (ht : Tryz.prog.underlying t = some (.slice e)) (hk : Tryz.prog.cellsOf e = k) (hk0 : 0 < k) (h : DataW.trod enc Tryz.prog W 0 (fun _ => true) true fuel t cs = some x)
  (el : ∀ n, n < fuel → ∀ cs' y, DataW.trod enc Tryz.prog W 0 (fun _ => true) true n e cs' = some y → ∃ v xd, R v xd ∧ Fine v ∧ DRs (Fw W) xd.cells cs') :
  ∃ (c : Value) (z : Bool) (vs : List α) (xs : List D), cs = [c] ∧ RsOf R vs xs ∧ (∀ v ∈ vs, Fine v) ∧ vs.length ≤ 9223372036854775807 ∧ DR (Fw W) (.sl z xs) c := by
 have hmax : maxLen = 2 ^ 63 - 1 := rfl
 rcases DataW.trod_slice ht h with ⟨rfl, -⟩ | ⟨a, len, cap, elems, rest, n, rfl, rfl, -, -, hlc, hcm, hlen, hel, -, -⟩
 ·exact ⟨_, true, [], [], rfl, RsOf.nil R, by simp, by simp, .nils⟩
 ·rcases Nat.eq_zero_or_pos len with rfl | hpos
  ·exact ⟨_, false, [], [], rfl, RsOf.nil R, by simp, by simp, .void⟩
  ·have each : ∀ i, i < len → ∃ cs' v xd, W.cells? 0 (a.add (i * k)) k = some cs' ∧ R v xd ∧ Fine v ∧ DRs (Fw W) xd.cells cs' := by
    intro i hi
    have h1 := hel i hi
    rw [hk] at h1
    obtain ⟨y, hy⟩ : ∃ y, elems[i]? = some y := ⟨_, List.getElem?_eq_getElem (by omega)⟩
    rw [hy, Option.bind_eq_some_iff] at h1
    obtain ⟨cs', c1, c2⟩ := h1
    obtain ⟨v, xd, r1, r2, r3⟩ := el n (by omega) cs' y c2
    exact ⟨cs', v, xd, c1, r1, r2, r3⟩
   have hsp : a.spot = none := by
    obtain ⟨cs', v, xd, c1, -⟩ := each 0 hpos
    obtain ⟨l1, l2⟩ := cells_get c1
    have h0 := l2 0 hk0
    rw [Nat.zero_mul] at h0
    obtain ⟨y, hy⟩ : ∃ y, cs'[0]? = some y := ⟨_, List.getElem?_eq_getElem (by omega)⟩
    rw [hy] at h0
    have h0 : W.cell? a = some y := h0
    unfold World.cell? at h0
    split at h0
    ·cases hs : a.spot with
     | none => rfl
     | some _ => rw [hs] at h0; simp at h0
    ·simp at h0
   obtain ⟨b, off, spot⟩ := a
   obtain rfl : spot = none := hsp
   have key : ∀ r, r ≤ len → ∃ (vs : List α) (xs : List D) (ws : List Value), vs.length = r ∧ RsOf R vs xs ∧ (∀ v ∈ vs, Fine v) ∧ DRe (Fw W) k xs ws ∧ ∀ j w, ws[j]? = some w → W.cell? ⟨b, off + (len - r) * k + j, none⟩ = some w := by
    intro r
    induction r with
    | zero => exact fun _ => ⟨[], [], [], rfl, RsOf.nil R, by simp, .nil, by simp⟩
    | succ r ih =>
     intro hr
     obtain ⟨vs, xs, ws, h1, h2, h3, h4, h5⟩ := ih (by omega)
     obtain ⟨cs', v, xd, c1, r1, r2, r3⟩ := each (len - (r + 1)) (by omega)
     obtain ⟨l1, l2⟩ := cells_get c1
     refine ⟨v :: vs, xd :: xs, cs' ++ ws, by simp [h1], ⟨by simp [h2.1], fun i u hu => ?_⟩, fun u hu => ?_, DRe.cons r3 l1 h4, fun j w hj => ?_⟩
     ·cases i with
      | zero => simp at hu; subst hu; exact ⟨xd, rfl, r1⟩
      | succ i => simp at hu ⊢; exact h2.2 i u hu
     ·rcases List.mem_cons.1 hu with rfl | hu
      ·exact r2
      ·exact h3 u hu
     ·by_cases hjk : j < k
      ·rw [List.getElem?_append_left (by omega)] at hj
       have h6 := l2 j hjk
       rw [hj, k'28, k'28] at h6
       exact h6
      ·rw [List.getElem?_append_right (by omega), l1] at hj
       have h6 := h5 (j - k) w hj
       rw [show off + (len - (r + 1)) * k + j = off + (len - r) * k + (j - k) by
        rw [show len - r = (len - (r + 1)) + 1 by omega, Nat.add_mul]; omega]
       exact h6
   obtain ⟨vs, xs, ws, h1, h2, h3, h4, h5⟩ := key len (Nat.le_refl _)
   refine ⟨_, false, vs, xs, rfl, h2, h3, by omega, ?_⟩
   have hq := DR.sl (F := Fw W) (cap := cap) (b := b) (off := off) h4 (fun j w hj => by have := h5 j w hj; rw [Nat.sub_self, Nat.zero_mul, Nat.add_zero] at this; exact this) (by rw [h2.1, h1]; exact hlc)
   rw [h2.1, h1] at hq
   exact hq
section
variable {fs : Array Field} {m : Nat} {cs : List Value} {ys : List (DataW H × List MemPlace)} (hlen : ys.length = fs.size) (hf : ∀ (i : Nat) (f : Field), fs[i]? = some f → DataW.trod enc Tryz.prog W 0 (fun _ => true) true m f.type ((cs.drop f.offset).take (Tryz.prog.cellsOf f.type)) = ys[i]?) (j : Nat) {f : Field} (hj : fs[j]? = some f) {X : TypeId} {off c : Nat} (h : (f.type, f.offset, Tryz.prog.cellsOf f.type) = (X, off, c))
include hlen hf hj h
theorem fld : ∃ y, DataW.trod enc Tryz.prog W 0 (fun _ => true) true m X ((cs.drop off).take c) = some y := by
 simp only [Prod.mk.injEq] at h
 obtain ⟨rfl, rfl, rfl⟩ := h
 obtain ⟨y, hy⟩ : ∃ y, ys[j]? = some y := ⟨_, List.getElem?_eq_getElem (by rw [hlen]; exact (Array.getElem?_eq_some_iff.1 hj).1)⟩
 exact ⟨y, (hf j f hj).trans hy⟩
theorem k'1w (hX : Tryz.prog.underlying X = some (.int .u64)) : ∃ n : Nat, (cs.drop off).take c = [.int .u64 n] ∧ (n : Int) < 18446744073709551616 := by
 obtain ⟨y, f⟩ := fld hlen hf j hj h
 obtain ⟨n, a, -, w⟩ := DataW.trod_int (k := .u64) hX f
 obtain ⟨lo, hi⟩ := u64_wf w
 obtain ⟨n, rfl⟩ : ∃ k : Nat, n = k := ⟨n.toNat, by omega⟩
 exact ⟨n, a, hi⟩
theorem fld_u32 (hX : Tryz.prog.underlying X = some (.int .u32)) : ∃ n : Nat, (cs.drop off).take c = [.int .u32 n] ∧ (n : Int) < 4294967296 := by
 obtain ⟨y, f⟩ := fld hlen hf j hj h
 obtain ⟨n, a, -, w⟩ := DataW.trod_int (k := .u32) hX f
 obtain ⟨lo, hi⟩ := u32_wf w
 obtain ⟨n, rfl⟩ : ∃ k : Nat, n = k := ⟨n.toNat, by omega⟩
 exact ⟨n, a, hi⟩
theorem fld_i64 (hX : Tryz.prog.underlying X = some (.int .i64)) : ∃ n : Int, (cs.drop off).take c = [.int .i64 n] ∧ -9223372036854775808 ≤ n ∧ n < 9223372036854775808 := by
 obtain ⟨y, f⟩ := fld hlen hf j hj h
 obtain ⟨n, a, -, w⟩ := DataW.trod_int (k := .i64) hX f
 exact ⟨n, a, i64_wf w⟩
theorem fld_i32 (hX : Tryz.prog.underlying X = some (.int .i32)) : ∃ n : Int, (cs.drop off).take c = [.int .i32 n] ∧ -2147483648 ≤ n ∧ n < 2147483648 := by
 obtain ⟨y, f⟩ := fld hlen hf j hj h
 obtain ⟨n, a, -, w⟩ := DataW.trod_int (k := .i32) hX f
 exact ⟨n, a, i32_wf w⟩
theorem k'3b (hX : Tryz.prog.underlying X = some .bool) : ∃ b : Bool, (cs.drop off).take c = [.bool b] := by
 obtain ⟨y, f⟩ := fld hlen hf j hj h
 obtain ⟨b, a, -⟩ := DataW.trod_bool hX f
 exact ⟨b, a⟩
theorem k'11 (hX : Tryz.prog.underlying X = some .string) : ∃ s, (cs.drop off).take c = [.string s] ∧ s.data.toList.length ≤ 9223372036854775807 := by
 obtain ⟨y, f⟩ := fld hlen hf j hj h
 obtain ⟨s, a, -, w⟩ := DataW.trod_string hX f
 exact ⟨s, a, ba_len w⟩
end
theorem open_vk (fuel : Nat) : (∀ cs x, DataW.trod enc Tryz.prog W 0 (fun _ => true) true fuel 248 cs = some x → ∃ (v : Vl) (xd : D), v.R xd ∧ (v.ln ∧ v.wf) ∧ DRs (Fw W) xd.cells cs) ∧
  (∀ cs x, DataW.trod enc Tryz.prog W 0 (fun _ => true) true fuel 250 cs = some x → ∃ (v : Kv) (xd : D), v.R xd ∧ (v.ln ∧ v.wf) ∧ DRs (Fw W) xd.cells cs) := by
 induction fuel using Nat.strongRecOn with
 | _ fuel ih =>
 constructor
 ·intro cs x h
  have hu : Tryz.prog.underlying 248 = some (.struct #[stF 248 0, stF 248 1, stF 248 2, stF 248 3, stF 248 4, stF 248 5, stF 248 6, stF 248 7]) := by kernel_rfl
  obtain ⟨ys, m, rfl, -, hl, hlen, hf⟩ := DataW.trod_struct hu h
  rw [show Tryz.prog.cellsOf 248 = 8 by kernel_rfl] at hl
  obtain ⟨v0, v1, v2, v3, v4, v5, v6, v7, rfl⟩ : ∃ v0 v1 v2 v3 v4 v5 v6 v7, cs = [v0, v1, v2, v3, v4, v5, v6, v7] := by
   match cs, hl with
   | [v0, v1, v2, v3, v4, v5, v6, v7], _ => exact ⟨_, _, _, _, _, _, _, _, rfl⟩
  obtain ⟨n0, a0, lo0, hi0⟩ := fld_i64 hlen hf 0 rfl (X := 3) (off := 0) (c := 1) (by kernel_rfl) (by kernel_rfl)
  obtain rfl : v0 = .int .i64 n0 := (List.cons.inj a0).1
  obtain ⟨s1, a1, l1⟩ := k'11 hlen hf 1 rfl (X := 9) (off := 1) (c := 1) (by kernel_rfl) (by kernel_rfl)
  obtain rfl : v1 = .string s1 := (List.cons.inj a1).1
  obtain ⟨b2, a2⟩ := k'3b hlen hf 2 rfl (X := 4) (off := 2) (c := 1) (by kernel_rfl) (by kernel_rfl)
  obtain rfl : v2 = .bool b2 := (List.cons.inj a2).1
  obtain ⟨n3, a3, hi3⟩ := k'1w hlen hf 3 rfl (X := 73) (off := 3) (c := 1) (by kernel_rfl) (by kernel_rfl)
  obtain rfl : v3 = .int .u64 n3 := (List.cons.inj a3).1
  obtain ⟨y4, f4⟩ := fld hlen hf 4 rfl (X := 246) (off := 4) (c := 1) (by kernel_rfl)
  obtain ⟨k4, z4, e4, x4, a4, r4, p4, l4, q4⟩ := k'd (by kernel_rfl) (show Tryz.prog.cellsOf 248 = 8 by kernel_rfl) (by omega) f4 (fun n hn => (ih n (by omega)).1)
  obtain rfl : v4 = k4 := (List.cons.inj a4).1
  obtain ⟨y5, f5⟩ := fld hlen hf 5 rfl (X := 55) (off := 5) (c := 1) (by kernel_rfl)
  obtain ⟨k5, z5, e5, x5, a5, r5, p5, l5, q5⟩ := k'd (by kernel_rfl) (show Tryz.prog.cellsOf 250 = 11 by kernel_rfl) (by omega) f5 (fun n hn => (ih n (by omega)).2)
  obtain rfl : v5 = k5 := (List.cons.inj a5).1
  obtain ⟨s6, a6, l6⟩ := k'11 hlen hf 6 rfl (X := 9) (off := 6) (c := 1) (by kernel_rfl) (by kernel_rfl)
  obtain rfl : v6 = .string s6 := (List.cons.inj a6).1
  obtain ⟨s7, a7, l7⟩ := k'11 hlen hf 7 rfl (X := 9) (off := 7) (c := 1) (by kernel_rfl) (by kernel_rfl)
  obtain rfl : v7 = .string s7 := (List.cons.inj a7).1
  exact ⟨.mk n0 s1.data.toList b2 n3 e4 e5 s6.data.toList s7.data.toList, .agg _, ⟨z4, x4, z5, x5, rfl, Vl.Rs_of r4, Kv.Rs_of r5⟩, ⟨⟨l1, l6, l7, l4, l5, Vl.lns_of fun v hv => (p4 v hv).1, Kv.lns_of fun v hv => (p5 v hv).1⟩, ⟨lo0, hi0, by omega, Vl.wfs_of fun v hv => (p4 v hv).2, (Kv.wfs_all _).2 fun v hv => (p5 v hv).2⟩⟩, .cons (.int ..) (.cons (k'20 _) (.cons (.bool _) (.cons (.int ..) (.cons (q4) (.cons (q5) (.cons (k'20 _) (.cons (k'20 _) .nil)))))))⟩
 ·intro cs x h
  have hu : Tryz.prog.underlying 250 = some (.struct #[stF 250 0, stF 250 1, stF 250 2, stF 250 3]) := by kernel_rfl
  obtain ⟨ys, m, rfl, -, hl, hlen, hf⟩ := DataW.trod_struct hu h
  rw [show Tryz.prog.cellsOf 250 = 11 by kernel_rfl] at hl
  obtain ⟨v0, v1, v2, v3, v4, v5, v6, v7, v8, v9, v10, rfl⟩ : ∃ v0 v1 v2 v3 v4 v5 v6 v7 v8 v9 v10, cs = [v0, v1, v2, v3, v4, v5, v6, v7, v8, v9, v10] := by
   match cs, hl with
   | [v0, v1, v2, v3, v4, v5, v6, v7, v8, v9, v10], _ => exact ⟨_, _, _, _, _, _, _, _, _, _, _, rfl⟩
  obtain ⟨s0, a0, l0⟩ := k'11 hlen hf 0 rfl (X := 9) (off := 0) (c := 1) (by kernel_rfl) (by kernel_rfl)
  obtain rfl : v0 = .string s0 := (List.cons.inj a0).1
  obtain ⟨b1, a1⟩ := k'3b hlen hf 1 rfl (X := 4) (off := 1) (c := 1) (by kernel_rfl) (by kernel_rfl)
  obtain rfl : v1 = .bool b1 := (List.cons.inj a1).1
  obtain ⟨y2, f2⟩ := fld hlen hf 2 rfl (X := 248) (off := 2) (c := 8) (by kernel_rfl)
  replace f2 : DataW.trod enc Tryz.prog W 0 (fun _ => true) true m 248 [v2, v3, v4, v5, v6, v7, v8, v9] = some y2 := f2
  obtain ⟨e2, x2, r2, p2, q2⟩ := (ih m (by omega)).1 _ _ f2
  obtain ⟨s3, a3, l3⟩ := k'11 hlen hf 3 rfl (X := 9) (off := 10) (c := 1) (by kernel_rfl) (by kernel_rfl)
  obtain rfl : v10 = .string s3 := (List.cons.inj a3).1
  obtain ⟨kind, vs, vb, vn, vl, vm, vi, vu⟩ := e2
  obtain ⟨zl, ls, zm, ms, rfl, hl2, hm2⟩ := r2
  exact ⟨.mk s0.data.toList b1 (.mk kind vs vb vn vl vm vi vu) s3.data.toList, .agg _, ⟨zl, ls, zm, ms, rfl, hl2, hm2⟩, ⟨⟨l0, l3, p2.1⟩, p2.2⟩, .cons (k'20 _) (.cons (.bool _) (k'3j q2 (.cons (k'20 _) .nil)))⟩
theorem open_opt {fuel : Nat} {cs : List Value} {x : DataW H × List MemPlace} (h : DataW.trod enc Tryz.prog W 0 (fun _ => true) true fuel 185 cs = some x) : ∃ (e : Bool × Nat) (xd : D), xd = .agg [.bool e.1, .int .u64 e.2] ∧ e.2 < 2 ^ 64 ∧ DRs (Fw W) xd.cells cs := by
 have hu : Tryz.prog.underlying 185 = some (.struct #[stF 185 0, stF 185 1]) := by kernel_rfl
 obtain ⟨ys, m, rfl, -, hl, hlen, hf⟩ := DataW.trod_struct hu h
 rw [show Tryz.prog.cellsOf 185 = 2 by kernel_rfl] at hl
 obtain ⟨v0, v1, rfl⟩ : ∃ v0 v1, cs = [v0, v1] := by
  match cs, hl with
  | [v0, v1], _ => exact ⟨_, _, rfl⟩
 obtain ⟨b0, a0⟩ := k'3b hlen hf 0 rfl (X := 4) (off := 0) (c := 1) (by kernel_rfl) (by kernel_rfl)
 obtain rfl : v0 = .bool b0 := (List.cons.inj a0).1
 obtain ⟨n1, a1, hi1⟩ := k'1w hlen hf 1 rfl (X := 73) (off := 1) (c := 1) (by kernel_rfl) (by kernel_rfl)
 obtain rfl : v1 = .int .u64 n1 := (List.cons.inj a1).1
 exact ⟨(b0, n1), _, rfl, by show n1 < 2 ^ 64; omega, .cons (.bool _) (.cons (.int ..) .nil)⟩
theorem open_u64 (n : Nat) : ∀ cs x, DataW.trod enc Tryz.prog W 0 (fun _ => true) true n 73 cs = some x → ∃ (v : Nat) (xd : D), xd = uD v ∧ v < 2 ^ 64 ∧ DRs (Fw W) xd.cells cs := fun cs x h => by
 obtain ⟨m, a, -, w⟩ := DataW.trod_int (k := .u64) (by kernel_rfl) h
 obtain ⟨lo, hi⟩ := u64_wf w
 obtain ⟨m, rfl⟩ : ∃ k : Nat, m = k := ⟨m.toNat, by omega⟩
 subst a
 exact ⟨m, _, rfl, by omega, .cons (.int ..) .nil⟩
theorem u_of {vs : List Nat} {xs : List D} (h : RsOf (fun (v : Nat) (xd : D) => xd = uD v) vs xs) : xs = vs.map uD := by
 apply List.ext_getElem?
 intro i
 rcases Nat.lt_or_ge i vs.length with g | g
 ·obtain ⟨v, hv⟩ : ∃ v, vs[i]? = some v := ⟨_, List.getElem?_eq_getElem g⟩
  obtain ⟨x, hx, rfl⟩ := h.2 i v hv
  rw [hx, List.getElem?_map, hv]; rfl
 ·rw [List.getElem?_eq_none (by rw [h.1]; exact g), List.getElem?_eq_none (by simpa using g)]
theorem open_bk {fuel : Nat} {cs : List Value} {x : DataW H × List MemPlace} (h : DataW.trod enc Tryz.prog W 0 (fun _ => true) true fuel 191 cs = some x) : ∃ (e : Bk) (xd : D), (∃ z, xd = bkZ z e.off e.cs e.u) ∧ ((e.cs.length ≤ 9223372036854775807 ∧ e.u.length ≤ 9223372036854775807) ∧ ((-2147483648 ≤ e.off ∧ e.off < 2147483648) ∧ ∀ n ∈ e.cs, n < 2 ^ 64)) ∧ DRs (Fw W) xd.cells cs := by
 have hu : Tryz.prog.underlying 191 = some (.struct #[stF 191 0, stF 191 1, stF 191 2]) := by kernel_rfl
 obtain ⟨ys, m, rfl, -, hl, hlen, hf⟩ := DataW.trod_struct hu h
 rw [show Tryz.prog.cellsOf 191 = 3 by kernel_rfl] at hl
 obtain ⟨v0, v1, v2, rfl⟩ : ∃ v0 v1 v2, cs = [v0, v1, v2] := by
  match cs, hl with
  | [v0, v1, v2], _ => exact ⟨_, _, _, rfl⟩
 obtain ⟨n0, a0, lo0, hi0⟩ := fld_i32 hlen hf 0 rfl (X := 21) (off := 0) (c := 1) (by kernel_rfl) (by kernel_rfl)
 obtain rfl : v0 = .int .i32 n0 := (List.cons.inj a0).1
 obtain ⟨y1, f1⟩ := fld hlen hf 1 rfl (X := 186) (off := 1) (c := 1) (by kernel_rfl)
 obtain ⟨k1, z1, e1, x1, a1, r1, p1, l1, q1⟩ := k'd (by kernel_rfl) (show Tryz.prog.cellsOf 73 = 1 by kernel_rfl) (by omega) f1 (fun n _ => open_u64 n)
 obtain rfl : v1 = k1 := (List.cons.inj a1).1
 obtain ⟨s2, a2, l2⟩ := k'11 hlen hf 2 rfl (X := 9) (off := 2) (c := 1) (by kernel_rfl) (by kernel_rfl)
 obtain rfl : v2 = .string s2 := (List.cons.inj a2).1
 obtain rfl := u_of r1
 exact ⟨⟨n0, e1, s2.data.toList⟩, _, ⟨z1, rfl⟩, ⟨⟨l1, l2⟩, ⟨⟨lo0, by omega⟩, p1⟩⟩, .cons (.int ..) (.cons (q1) (.cons (k'20 _) .nil))⟩
end
end
section
open Go Go.Abs Go.ChangeShapes Go.WideShapes Go.RowKit
def Rp.R (x : Rp) (a : D) : Prop := a = x.d
def Rp.ln (x : Rp) : Prop := x.p.msg.length ≤ 9223372036854775807 ∧ x.p.u.length ≤ 9223372036854775807 ∧ x.u.length ≤ 9223372036854775807
section
variable {H : Type} {enc : TypeId × Value → H} {W : World}
theorem open_cRp {fuel : Nat} {cs : List Value} {x : DataW H × List MemPlace} (h : DataW.trod enc Tryz.prog W 0 (fun _ => true) true fuel 26 cs = some x) : ∃ (v : Rp) (xd : D), v.R xd ∧ (v.ln ∧ v.wf) ∧ DRs (Fw W) xd.cells cs := by
 have hu : Tryz.prog.underlying 26 = some (.struct #[stF 26 0, stF 26 1, stF 26 2, stF 26 3, stF 26 4]) := by kernel_rfl
 obtain ⟨ys, m, rfl, -, hl, hlen, hf⟩ := DataW.trod_struct hu h
 rw [show Tryz.prog.cellsOf 26 = 5 by kernel_rfl] at hl
 obtain ⟨v0, v1, v2, v3, v4, rfl⟩ : ∃ v0 v1 v2 v3 v4, cs = [v0, v1, v2, v3, v4] := by
  match cs, hl with
  | [v0, v1, v2, v3, v4], _ => exact ⟨_, _, _, _, _, rfl⟩
 obtain ⟨b0, a0⟩ := k'3b hlen hf 0 rfl (X := 4) (off := 0) (c := 1) (by kernel_rfl) (by kernel_rfl)
 obtain rfl : v0 = .bool b0 := (List.cons.inj a0).1
 obtain ⟨n1, a1, lo1, hi1⟩ := fld_i64 hlen hf 1 rfl (X := 2) (off := 1) (c := 1) (by kernel_rfl) (by kernel_rfl)
 obtain rfl : v1 = .int .i64 n1 := (List.cons.inj a1).1
 obtain ⟨s2, a2, l2⟩ := k'11 hlen hf 2 rfl (X := 9) (off := 2) (c := 1) (by kernel_rfl) (by kernel_rfl)
 obtain rfl : v2 = .string s2 := (List.cons.inj a2).1
 obtain ⟨s3, a3, l3⟩ := k'11 hlen hf 3 rfl (X := 9) (off := 3) (c := 1) (by kernel_rfl) (by kernel_rfl)
 obtain rfl : v3 = .string s3 := (List.cons.inj a3).1
 obtain ⟨s4, a4, l4⟩ := k'11 hlen hf 4 rfl (X := 9) (off := 4) (c := 1) (by kernel_rfl) (by kernel_rfl)
 obtain rfl : v4 = .string s4 := (List.cons.inj a4).1
 exact ⟨⟨b0, ⟨n1, s2.data.toList, s3.data.toList⟩, s4.data.toList⟩, .agg _, rfl, ⟨⟨l2, l3, l4⟩, ⟨lo1, by show n1 < 9223372036854775808; omega⟩⟩, .cons (.bool _) (.cons (.int ..) (.cons (k'20 _) (.cons (k'20 _) (.cons (k'20 _) .nil))))⟩
theorem open_Rp {base : Nat} {v : Value} {d : DataW H} {p : List MemPlace} (hval : Value.okWide Tryz.prog W .any base 26 v) (h : DataW.Trod enc Tryz.prog W 0 (fun _ => true) true 26 v d p) :
  ∃ (x : Rp) (xd : D), x.R xd ∧ (x.ln ∧ x.wf) ∧ DR (Fw W) xd v := by
 have hu : Tryz.prog.underlying 26 = some (.struct #[stF 26 0, stF 26 1, stF 26 2, stF 26 3, stF 26 4]) := by kernel_rfl
 obtain ⟨cs, rfl⟩ : ∃ cs, v = .agg cs := by
  unfold Value.okWide at hval
  rw [hu] at hval
  obtain ⟨cs, a, -⟩ := hval
  exact ⟨cs, a⟩
 obtain ⟨cs⟩ := cs
 obtain ⟨fuel, hf⟩ := h
 obtain ⟨x, xd, r, q, e⟩ := open_cRp hf
 have r' := r
 obtain rfl : xd = _ := r'
 exact ⟨x, _, r, q, .agg e⟩
end
end
