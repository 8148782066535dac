/- Arguments: values and attributes, as deep as they go. -/
import Derived.Test.YtidcjbkenpgnoaaGreatDoorXM0
import Derived.Test.YtidcjbkenpgnoaaGreatDoorRV
import Derived.Deep.Strs
import Derived.ChangeSlices
import Derived.ChangeArms
import Derived.Test.YtidcjbkenpgnoaaGreatDoorQV
set_option linter.unusedSimpArgs false
set_option linter.unusedVariables false
set_option maxRecDepth 100000
namespace Go.Proofs.YtidcjbkenpgnoaaGreatDoor
open Go Go.Abs
variable (B : Fr)
section
open Go Go.Abs Go.ChangeShapes Go.WideShapes Go.RowKit
theorem u32_wf {n : Int} (h : (Lit.int .u32 n).wf = true) : 0 ≤ n ∧ n < 4294967296 := by
 simp only [Lit.wf, Bool.and_eq_true, decide_eq_true_eq] at h
 have h1 : IntKind.u32.min = 0 := by decide
 have h2 : IntKind.u32.max = 4294967295 := by decide
 rw [h1, h2] at h
 omega
def Fw (W : World) : Fr := fun b off => W.cell? ⟨b, off, none⟩
theorem k'47 {F : Fr} : ∀ {a : List D} {va : List Value} {b : List D} {vb : List Value}, DRs F a va → DRs F b vb → DRs F (a ++ b) (va ++ vb)
 | _, _, _, _, .nil, h => h
 | _, _, _, _, .cons h t, k => .cons h (k'47 t k)
theorem Vl.Rs_of : ∀ {l : List Vl} {xs : List D}, RsOf Vl.R l xs → Vl.Rs l xs
 | [], xs, h => by have := h.1; cases xs with | nil => rfl | cons _ _ => simp at this
 | v :: l, xs, h => by
  obtain ⟨x, h1, h2⟩ := h.2 0 v rfl
  cases xs with
  | nil => simp at h1
  | cons y ys =>
   simp at h1; subst h1
   exact ⟨y, ys, rfl, h2, Vl.Rs_of ⟨by have := h.1; simpa using this, fun i u hu => by have := h.2 (i + 1) u (by simpa using hu); simpa using this⟩⟩
theorem Kv.Rs_of : ∀ {l : List Kv} {xs : List D}, RsOf Kv.R l xs → Kv.Rs l xs
 | [], xs, h => by have := h.1; cases xs with | nil => rfl | cons _ _ => simp at this
 | v :: l, xs, h => by
  obtain ⟨x, h1, h2⟩ := h.2 0 v rfl
  cases xs with
  | nil => simp at h1
  | cons y ys =>
   simp at h1; subst h1
   exact ⟨y, ys, rfl, h2, Kv.Rs_of ⟨by have := h.1; simpa using this, fun i u hu => by have := h.2 (i + 1) u (by simpa using hu); simpa using this⟩⟩
theorem Vl.lns_of : ∀ {l : List Vl}, (∀ v ∈ l, v.ln) → Vl.lns l
 | [], _ => trivial
 | v :: l, h => ⟨h v (List.mem_cons_self ..), Vl.lns_of fun x hx => h x (List.mem_cons_of_mem _ hx)⟩
theorem Kv.lns_of : ∀ {l : List Kv}, (∀ v ∈ l, v.ln) → Kv.lns l
 | [], _ => trivial
 | v :: l, h => ⟨h v (List.mem_cons_self ..), Kv.lns_of fun x hx => h x (List.mem_cons_of_mem _ hx)⟩
theorem Vl.wfs_of : ∀ {l : List Vl}, (∀ v ∈ l, v.wf) → Vl.wfs l
 | [], _ => trivial
 | v :: l, h => ⟨h v (List.mem_cons_self ..), Vl.wfs_of fun x hx => h x (List.mem_cons_of_mem _ hx)⟩
section
variable {H : Type} {enc : TypeId × Value → H} {W : World}
theorem cells_get {base n : Nat} {a : Addr} {cs : List Value} (h : W.cells? base a n = some cs) : cs.length = n ∧ ∀ j, j < n → W.cell? (a.add j) = cs[j]? := by
 unfold World.cells? at h
 split at h
 ·refine ⟨by simpa using mapM_some_length h, fun j hj => ?_⟩
  exact mapM_some_get h j j (by simp [hj])
 ·simp at h
theorem k'c {α : Type} {R : α → D → Prop} {Fine : α → Prop} {t e : TypeId} {k fuel : Nat} {cs : List Value} {x : DataW H × List MemPlace} (ht : Tryz.prog.underlying t = some (.slice e)) (hk : Tryz.prog.cellsOf e = k) (hk0 : 0 < k) (h : DataW.trod enc Tryz.prog W 0 (fun _ => true) true fuel t cs = some x)
  (el : ∀ n, n < fuel → ∀ cs' y, DataW.trod enc Tryz.prog W 0 (fun _ => true) true n e cs' = some y → ∃ v xd, R v xd ∧ Fine v ∧ DRs (Fw W) xd.cells cs') :
  ∃ (c : Value) (z : Bool) (vs : List α) (xs : List D), cs = [c] ∧ RsOf R vs xs ∧ (∀ v ∈ vs, Fine v) ∧ vs.length ≤ 9223372036854775807 ∧ DR (Fw W) (.sl z xs) c := by
 have hmax : maxLen = 2 ^ 63 - 1 := rfl
 rcases DataW.trod_slice ht h with ⟨rfl, -⟩ | ⟨a, len, cap, elems, rest, n, rfl, rfl, -, -, hlc, hcm, hlen, hel, -, -⟩
 ·exact ⟨_, true, [], [], rfl, RsOf.nil R, by simp, by simp, .nils⟩
 ·rcases Nat.eq_zero_or_pos len with rfl | hpos
  ·exact ⟨_, false, [], [], rfl, RsOf.nil R, by simp, by simp, .void⟩
  ·have each : ∀ i, i < len → ∃ cs' v xd, W.cells? 0 (a.add (i * k)) k = some cs' ∧ R v xd ∧ Fine v ∧ DRs (Fw W) xd.cells cs' := by
    intro i hi
    have h1 := hel i hi
    rw [hk] at h1
    obtain ⟨y, hy⟩ : ∃ y, elems[i]? = some y := ⟨_, List.getElem?_eq_getElem (by omega)⟩
    rw [hy, Option.bind_eq_some_iff] at h1
    obtain ⟨cs', c1, c2⟩ := h1
    obtain ⟨v, xd, r1, r2, r3⟩ := el n (by omega) cs' y c2
    exact ⟨cs', v, xd, c1, r1, r2, r3⟩
   have hsp : a.spot = none := by
    obtain ⟨cs', v, xd, c1, -⟩ := each 0 hpos
    obtain ⟨l1, l2⟩ := cells_get c1
    have h0 := l2 0 hk0
    rw [Nat.zero_mul] at h0
    obtain ⟨y, hy⟩ : ∃ y, cs'[0]? = some y := ⟨_, List.getElem?_eq_getElem (by omega)⟩
    rw [hy] at h0
    have h0 : W.cell? a = some y := h0
    unfold World.cell? at h0
    split at h0
    ·cases hs : a.spot with
     | none => rfl
     | some _ => rw [hs] at h0; simp at h0
    ·simp at h0
   obtain ⟨b, off, spot⟩ := a
   obtain rfl : spot = none := hsp
   have key : ∀ r, r ≤ len → ∃ (vs : List α) (xs : List D) (ws : List Value), vs.length = r ∧ RsOf R vs xs ∧ (∀ v ∈ vs, Fine v) ∧ DRe (Fw W) k xs ws ∧ ∀ j w, ws[j]? = some w → W.cell? ⟨b, off + (len - r) * k + j, none⟩ = some w := by
    intro r
    induction r with
    | zero => exact fun _ => ⟨[], [], [], rfl, RsOf.nil R, by simp, .nil, by simp⟩
    | succ r ih =>
     intro hr
     obtain ⟨vs, xs, ws, h1, h2, h3, h4, h5⟩ := ih (by omega)
     obtain ⟨cs', v, xd, c1, r1, r2, r3⟩ := each (len - (r + 1)) (by omega)
     obtain ⟨l1, l2⟩ := cells_get c1
     refine ⟨v :: vs, xd :: xs, cs' ++ ws, by simp [h1], ⟨by simp [h2.1], fun i u hu => ?_⟩, fun u hu => ?_, DRe.cons r3 l1 h4, fun j w hj => ?_⟩
     ·cases i with
      | zero => simp at hu; subst hu; exact ⟨xd, rfl, r1⟩
      | succ i => simp at hu ⊢; exact h2.2 i u hu
     ·rcases List.mem_cons.1 hu with rfl | hu
      ·exact r2
      ·exact h3 u hu
     ·by_cases hjk : j < k
      ·rw [List.getElem?_append_left (by omega)] at hj
       have h6 := l2 j hjk
       rw [hj, k'2k, k'2k] at h6
       exact h6
      ·rw [List.getElem?_append_right (by omega), l1] at hj
       have h6 := h5 (j - k) w hj
       rw [show off + (len - (r + 1)) * k + j = off + (len - r) * k + (j - k) by
        rw [show len - r = (len - (r + 1)) + 1 by omega, Nat.add_mul]; omega]
       exact h6
   obtain ⟨vs, xs, ws, h1, h2, h3, h4, h5⟩ := key len (Nat.le_refl _)
   refine ⟨_, false, vs, xs, rfl, h2, h3, by omega, ?_⟩
   have hq := DR.sl (F := Fw W) (cap := cap) (b := b) (off := off) h4 (fun j w hj => by have := h5 j w hj; rw [Nat.sub_self, Nat.zero_mul, Nat.add_zero] at this; exact this) (by rw [h2.1, h1]; exact hlc)
   rw [h2.1, h1] at hq
   exact hq
section
variable {fs : Array Field} {m : Nat} {cs : List Value} {ys : List (DataW H × List MemPlace)} (hlen : ys.length = fs.size) (hf : ∀ (i : Nat) (f : Field), fs[i]? = some f → DataW.trod enc Tryz.prog W 0 (fun _ => true) true m f.type ((cs.drop f.offset).take (Tryz.prog.cellsOf f.type)) = ys[i]?) (j : Nat) {f : Field} (hj : fs[j]? = some f) {X : TypeId} {off c : Nat} (h : (f.type, f.offset, Tryz.prog.cellsOf f.type) = (X, off, c))
include hlen hf hj h
theorem fld : ∃ y, DataW.trod enc Tryz.prog W 0 (fun _ => true) true m X ((cs.drop off).take c) = some y := by
 simp only [Prod.mk.injEq] at h
 obtain ⟨rfl, rfl, rfl⟩ := h
 obtain ⟨y, hy⟩ : ∃ y, ys[j]? = some y := ⟨_, List.getElem?_eq_getElem (by rw [hlen]; exact (Array.getElem?_eq_some_iff.1 hj).1)⟩
 exact ⟨y, (hf j f hj).trans hy⟩
theorem k'20 (hX : Tryz.prog.underlying X = some (.int .u64)) : ∃ n : Nat, (cs.drop off).take c = [.int .u64 n] ∧ (n : Int) < 18446744073709551616 := by
 obtain ⟨y, f⟩ := fld hlen hf j hj h
 obtain ⟨n, a, -, w⟩ := DataW.trod_int (k := .u64) hX f
 obtain ⟨lo, hi⟩ := u64_wf w
 obtain ⟨n, rfl⟩ : ∃ k : Nat, n = k := ⟨n.toNat, by omega⟩
 exact ⟨n, a, hi⟩
theorem fld_u32 (hX : Tryz.prog.underlying X = some (.int .u32)) : ∃ n : Nat, (cs.drop off).take c = [.int .u32 n] ∧ (n : Int) < 4294967296 := by
 obtain ⟨y, f⟩ := fld hlen hf j hj h
 obtain ⟨n, a, -, w⟩ := DataW.trod_int (k := .u32) hX f
 obtain ⟨lo, hi⟩ := u32_wf w
 obtain ⟨n, rfl⟩ : ∃ k : Nat, n = k := ⟨n.toNat, by omega⟩
 exact ⟨n, a, hi⟩
theorem fld_i64 (hX : Tryz.prog.underlying X = some (.int .i64)) : ∃ n : Int, (cs.drop off).take c = [.int .i64 n] ∧ -9223372036854775808 ≤ n ∧ n < 9223372036854775808 := by
 obtain ⟨y, f⟩ := fld hlen hf j hj h
 obtain ⟨n, a, -, w⟩ := DataW.trod_int (k := .i64) hX f
 exact ⟨n, a, i64_wf w⟩
theorem fld_i32 (hX : Tryz.prog.underlying X = some (.int .i32)) : ∃ n : Int, (cs.drop off).take c = [.int .i32 n] ∧ -2147483648 ≤ n ∧ n < 2147483648 := by
 obtain ⟨y, f⟩ := fld hlen hf j hj h
 obtain ⟨n, a, -, w⟩ := DataW.trod_int (k := .i32) hX f
 exact ⟨n, a, i32_wf w⟩
theorem k'3x (hX : Tryz.prog.underlying X = some .bool) : ∃ b : Bool, (cs.drop off).take c = [.bool b] := by
 obtain ⟨y, f⟩ := fld hlen hf j hj h
 obtain ⟨b, a, -⟩ := DataW.trod_bool hX f
 exact ⟨b, a⟩
theorem k'18 (hX : Tryz.prog.underlying X = some .string) : ∃ s, (cs.drop off).take c = [.string s] ∧ s.data.toList.length ≤ 9223372036854775807 := by
 obtain ⟨y, f⟩ := fld hlen hf j hj h
 obtain ⟨s, a, -, w⟩ := DataW.trod_string hX f
 exact ⟨s, a, ba_len w⟩
end
theorem open_vk (fuel : Nat) : (∀ cs x, DataW.trod enc Tryz.prog W 0 (fun _ => true) true fuel 248 cs = some x → ∃ (v : Vl) (xd : D), v.R xd ∧ (v.ln ∧ v.wf) ∧ DRs (Fw W) xd.cells cs) ∧
  (∀ cs x, DataW.trod enc Tryz.prog W 0 (fun _ => true) true fuel 250 cs = some x → ∃ (v : Kv) (xd : D), v.R xd ∧ (v.ln ∧ v.wf) ∧ DRs (Fw W) xd.cells cs) := by
 induction fuel using Nat.strongRecOn with
 | _ fuel ih =>
 constructor
 ·intro cs x h
  have hu : Tryz.prog.underlying 248 = some (.struct #[stF 248 0, stF 248 1, stF 248 2, stF 248 3, stF 248 4, stF 248 5, stF 248 6, stF 248 7]) := by kernel_rfl
  obtain ⟨ys, m, rfl, -, hl, hlen, hf⟩ := DataW.trod_struct hu h
  rw [show Tryz.prog.cellsOf 248 = 8 by kernel_rfl] at hl
  obtain ⟨v0, v1, v2, v3, v4, v5, v6, v7, rfl⟩ : ∃ v0 v1 v2 v3 v4 v5 v6 v7, cs = [v0, v1, v2, v3, v4, v5, v6, v7] := by
   match cs, hl with
   | [v0, v1, v2, v3, v4, v5, v6, v7], _ => exact ⟨_, _, _, _, _, _, _, _, rfl⟩
  obtain ⟨n0, a0, lo0, hi0⟩ := fld_i64 hlen hf 0 rfl (X := 3) (off := 0) (c := 1) (by kernel_rfl) (by kernel_rfl)
  obtain rfl : v0 = .int .i64 n0 := (List.cons.inj a0).1
  obtain ⟨s1, a1, l1⟩ := k'18 hlen hf 1 rfl (X := 9) (off := 1) (c := 1) (by kernel_rfl) (by kernel_rfl)
  obtain rfl : v1 = .string s1 := (List.cons.inj a1).1
  obtain ⟨b2, a2⟩ := k'3x hlen hf 2 rfl (X := 4) (off := 2) (c := 1) (by kernel_rfl) (by kernel_rfl)
  obtain rfl : v2 = .bool b2 := (List.cons.inj a2).1
  obtain ⟨n3, a3, hi3⟩ := k'20 hlen hf 3 rfl (X := 73) (off := 3) (c := 1) (by kernel_rfl) (by kernel_rfl)
  obtain rfl : v3 = .int .u64 n3 := (List.cons.inj a3).1
  obtain ⟨y4, f4⟩ := fld hlen hf 4 rfl (X := 246) (off := 4) (c := 1) (by kernel_rfl)
  obtain ⟨k4, z4, e4, x4, a4, r4, p4, l4, q4⟩ := k'c (by kernel_rfl) (show Tryz.prog.cellsOf 248 = 8 by kernel_rfl) (by omega) f4 (fun n hn => (ih n (by omega)).1)
  obtain rfl : v4 = k4 := (List.cons.inj a4).1
  obtain ⟨y5, f5⟩ := fld hlen hf 5 rfl (X := 55) (off := 5) (c := 1) (by kernel_rfl)
  obtain ⟨k5, z5, e5, x5, a5, r5, p5, l5, q5⟩ := k'c (by kernel_rfl) (show Tryz.prog.cellsOf 250 = 11 by kernel_rfl) (by omega) f5 (fun n hn => (ih n (by omega)).2)
  obtain rfl : v5 = k5 := (List.cons.inj a5).1
  obtain ⟨s6, a6, l6⟩ := k'18 hlen hf 6 rfl (X := 9) (off := 6) (c := 1) (by kernel_rfl) (by kernel_rfl)
  obtain rfl : v6 = .string s6 := (List.cons.inj a6).1
  obtain ⟨s7, a7, l7⟩ := k'18 hlen hf 7 rfl (X := 9) (off := 7) (c := 1) (by kernel_rfl) (by kernel_rfl)
  obtain rfl : v7 = .string s7 := (List.cons.inj a7).1
  exact ⟨.mk n0 s1.data.toList b2 n3 e4 e5 s6.data.toList s7.data.toList, .agg _, ⟨z4, x4, z5, x5, rfl, Vl.Rs_of r4, Kv.Rs_of r5⟩, ⟨⟨l1, l6, l7, l4, l5, Vl.lns_of fun v hv => (p4 v hv).1, Kv.lns_of fun v hv => (p5 v hv).1⟩, ⟨lo0, hi0, by omega, Vl.wfs_of fun v hv => (p4 v hv).2, (Kv.wfs_all _).2 fun v hv => (p5 v hv).2⟩⟩, .cons (.int ..) (.cons (k'24 _) (.cons (.bool _) (.cons (.int ..) (.cons (q4) (.cons (q5) (.cons (k'24 _) (.cons (k'24 _) .nil)))))))⟩
 ·intro cs x h
  have hu : Tryz.prog.underlying 250 = some (.struct #[stF 250 0, stF 250 1, stF 250 2, stF 250 3]) := by kernel_rfl
  obtain ⟨ys, m, rfl, -, hl, hlen, hf⟩ := DataW.trod_struct hu h
  rw [show Tryz.prog.cellsOf 250 = 11 by kernel_rfl] at hl
  obtain ⟨v0, v1, v2, v3, v4, v5, v6, v7, v8, v9, v10, rfl⟩ : ∃ v0 v1 v2 v3 v4 v5 v6 v7 v8 v9 v10, cs = [v0, v1, v2, v3, v4, v5, v6, v7, v8, v9, v10] := by
   match cs, hl with
   | [v0, v1, v2, v3, v4, v5, v6, v7, v8, v9, v10], _ => exact ⟨_, _, _, _, _, _, _, _, _, _, _, rfl⟩
  obtain ⟨s0, a0, l0⟩ := k'18 hlen hf 0 rfl (X := 9) (off := 0) (c := 1) (by kernel_rfl) (by kernel_rfl)
  obtain rfl : v0 = .string s0 := (List.cons.inj a0).1
  obtain ⟨b1, a1⟩ := k'3x hlen hf 1 rfl (X := 4) (off := 1) (c := 1) (by kernel_rfl) (by kernel_rfl)
  obtain rfl : v1 = .bool b1 := (List.cons.inj a1).1
  obtain ⟨y2, f2⟩ := fld hlen hf 2 rfl (X := 248) (off := 2) (c := 8) (by kernel_rfl)
  replace f2 : DataW.trod enc Tryz.prog W 0 (fun _ => true) true m 248 [v2, v3, v4, v5, v6, v7, v8, v9] = some y2 := f2
  obtain ⟨e2, x2, r2, p2, q2⟩ := (ih m (by omega)).1 _ _ f2
  obtain ⟨s3, a3, l3⟩ := k'18 hlen hf 3 rfl (X := 9) (off := 10) (c := 1) (by kernel_rfl) (by kernel_rfl)
  obtain rfl : v10 = .string s3 := (List.cons.inj a3).1
  obtain ⟨kind, vs, vb, vn, vl, vm, vi, vu⟩ := e2
  obtain ⟨zl, ls, zm, ms, rfl, hl2, hm2⟩ := r2
  exact ⟨.mk s0.data.toList b1 (.mk kind vs vb vn vl vm vi vu) s3.data.toList, .agg _, ⟨zl, ls, zm, ms, rfl, hl2, hm2⟩, ⟨⟨l0, l3, p2.1⟩, p2.2⟩, .cons (k'24 _) (.cons (.bool _) (k'47 q2 (.cons (k'24 _) .nil)))⟩
theorem open_opt {fuel : Nat} {cs : List Value} {x : DataW H × List MemPlace} (h : DataW.trod enc Tryz.prog W 0 (fun _ => true) true fuel 185 cs = some x) : ∃ (e : Bool × Nat) (xd : D), xd = .agg [.bool e.1, .int .u64 e.2] ∧ e.2 < 2 ^ 64 ∧ DRs (Fw W) xd.cells cs := by
 have hu : Tryz.prog.underlying 185 = some (.struct #[stF 185 0, stF 185 1]) := by kernel_rfl
 obtain ⟨ys, m, rfl, -, hl, hlen, hf⟩ := DataW.trod_struct hu h
 rw [show Tryz.prog.cellsOf 185 = 2 by kernel_rfl] at hl
 obtain ⟨v0, v1, rfl⟩ : ∃ v0 v1, cs = [v0, v1] := by
  match cs, hl with
  | [v0, v1], _ => exact ⟨_, _, rfl⟩
 obtain ⟨b0, a0⟩ := k'3x hlen hf 0 rfl (X := 4) (off := 0) (c := 1) (by kernel_rfl) (by kernel_rfl)
 obtain rfl : v0 = .bool b0 := (List.cons.inj a0).1
 obtain ⟨n1, a1, hi1⟩ := k'20 hlen hf 1 rfl (X := 73) (off := 1) (c := 1) (by kernel_rfl) (by kernel_rfl)
 obtain rfl : v1 = .int .u64 n1 := (List.cons.inj a1).1
 exact ⟨(b0, n1), _, rfl, by show n1 < 2 ^ 64; omega, .cons (.bool _) (.cons (.int ..) .nil)⟩
theorem open_u64 (n : Nat) : ∀ cs x, DataW.trod enc Tryz.prog W 0 (fun _ => true) true n 73 cs = some x → ∃ (v : Nat) (xd : D), xd = uD v ∧ v < 2 ^ 64 ∧ DRs (Fw W) xd.cells cs := fun cs x h => by
 obtain ⟨m, a, -, w⟩ := DataW.trod_int (k := .u64) (by kernel_rfl) h
 obtain ⟨lo, hi⟩ := u64_wf w
 obtain ⟨m, rfl⟩ : ∃ k : Nat, m = k := ⟨m.toNat, by omega⟩
 subst a
 exact ⟨m, _, rfl, by omega, .cons (.int ..) .nil⟩
theorem u_of {vs : List Nat} {xs : List D} (h : RsOf (fun (v : Nat) (xd : D) => xd = uD v) vs xs) : xs = vs.map uD := by
 apply List.ext_getElem?
 intro i
 rcases Nat.lt_or_ge i vs.length with g | g
 ·obtain ⟨v, hv⟩ : ∃ v, vs[i]? = some v := ⟨_, List.getElem?_eq_getElem g⟩
  obtain ⟨x, hx, rfl⟩ := h.2 i v hv
  rw [hx, List.getElem?_map, hv]; rfl
 ·rw [List.getElem?_eq_none (by rw [h.1]; exact g), List.getElem?_eq_none (by simpa using g)]
theorem open_bk {fuel : Nat} {cs : List Value} {x : DataW H × List MemPlace} (h : DataW.trod enc Tryz.prog W 0 (fun _ => true) true fuel 191 cs = some x) : ∃ (e : Bk) (xd : D), (∃ z, xd = bkZ z e.off e.cs e.u) ∧ ((e.cs.length ≤ 9223372036854775807 ∧ e.u.length ≤ 9223372036854775807) ∧ ((-2147483648 ≤ e.off ∧ e.off < 2147483648) ∧ ∀ n ∈ e.cs, n < 2 ^ 64)) ∧ DRs (Fw W) xd.cells cs := by
 have hu : Tryz.prog.underlying 191 = some (.struct #[stF 191 0, stF 191 1, stF 191 2]) := by kernel_rfl
 obtain ⟨ys, m, rfl, -, hl, hlen, hf⟩ := DataW.trod_struct hu h
 rw [show Tryz.prog.cellsOf 191 = 3 by kernel_rfl] at hl
 obtain ⟨v0, v1, v2, rfl⟩ : ∃ v0 v1 v2, cs = [v0, v1, v2] := by
  match cs, hl with
  | [v0, v1, v2], _ => exact ⟨_, _, _, rfl⟩
 obtain ⟨n0, a0, lo0, hi0⟩ := fld_i32 hlen hf 0 rfl (X := 21) (off := 0) (c := 1) (by kernel_rfl) (by kernel_rfl)
 obtain rfl : v0 = .int .i32 n0 := (List.cons.inj a0).1
 obtain ⟨y1, f1⟩ := fld hlen hf 1 rfl (X := 186) (off := 1) (c := 1) (by kernel_rfl)
 obtain ⟨k1, z1, e1, x1, a1, r1, p1, l1, q1⟩ := k'c (by kernel_rfl) (show Tryz.prog.cellsOf 73 = 1 by kernel_rfl) (by omega) f1 (fun n _ => open_u64 n)
 obtain rfl : v1 = k1 := (List.cons.inj a1).1
 obtain ⟨s2, a2, l2⟩ := k'18 hlen hf 2 rfl (X := 9) (off := 2) (c := 1) (by kernel_rfl) (by kernel_rfl)
 obtain rfl : v2 = .string s2 := (List.cons.inj a2).1
 obtain rfl := u_of r1
 exact ⟨⟨n0, e1, s2.data.toList⟩, _, ⟨z1, rfl⟩, ⟨⟨l1, l2⟩, ⟨⟨lo0, by omega⟩, p1⟩⟩, .cons (.int ..) (.cons (q1) (.cons (k'24 _) .nil))⟩
end
end
section
open Go Go.Abs Go.ChangeShapes Go.WideShapes Go.RowKit
def Rp.R (x : Rp) (a : D) : Prop := a = x.d
def Rp.ln (x : Rp) : Prop := x.p.msg.length ≤ 9223372036854775807 ∧ x.p.u.length ≤ 9223372036854775807 ∧ x.u.length ≤ 9223372036854775807
section
variable {H : Type} {enc : TypeId × Value → H} {W : World}
theorem open_cRp {fuel : Nat} {cs : List Value} {x : DataW H × List MemPlace} (h : DataW.trod enc Tryz.prog W 0 (fun _ => true) true fuel 26 cs = some x) : ∃ (v : Rp) (xd : D), v.R xd ∧ (v.ln ∧ v.wf) ∧ DRs (Fw W) xd.cells cs := by
 have hu : Tryz.prog.underlying 26 = some (.struct #[stF 26 0, stF 26 1, stF 26 2, stF 26 3, stF 26 4]) := by kernel_rfl
 obtain ⟨ys, m, rfl, -, hl, hlen, hf⟩ := DataW.trod_struct hu h
 rw [show Tryz.prog.cellsOf 26 = 5 by kernel_rfl] at hl
 obtain ⟨v0, v1, v2, v3, v4, rfl⟩ : ∃ v0 v1 v2 v3 v4, cs = [v0, v1, v2, v3, v4] := by
  match cs, hl with
  | [v0, v1, v2, v3, v4], _ => exact ⟨_, _, _, _, _, rfl⟩
 obtain ⟨b0, a0⟩ := k'3x hlen hf 0 rfl (X := 4) (off := 0) (c := 1) (by kernel_rfl) (by kernel_rfl)
 obtain rfl : v0 = .bool b0 := (List.cons.inj a0).1
 obtain ⟨n1, a1, lo1, hi1⟩ := fld_i64 hlen hf 1 rfl (X := 2) (off := 1) (c := 1) (by kernel_rfl) (by kernel_rfl)
 obtain rfl : v1 = .int .i64 n1 := (List.cons.inj a1).1
 obtain ⟨s2, a2, l2⟩ := k'18 hlen hf 2 rfl (X := 9) (off := 2) (c := 1) (by kernel_rfl) (by kernel_rfl)
 obtain rfl : v2 = .string s2 := (List.cons.inj a2).1
 obtain ⟨s3, a3, l3⟩ := k'18 hlen hf 3 rfl (X := 9) (off := 3) (c := 1) (by kernel_rfl) (by kernel_rfl)
 obtain rfl : v3 = .string s3 := (List.cons.inj a3).1
 obtain ⟨s4, a4, l4⟩ := k'18 hlen hf 4 rfl (X := 9) (off := 4) (c := 1) (by kernel_rfl) (by kernel_rfl)
 obtain rfl : v4 = .string s4 := (List.cons.inj a4).1
 exact ⟨⟨b0, ⟨n1, s2.data.toList, s3.data.toList⟩, s4.data.toList⟩, .agg _, rfl, ⟨⟨l2, l3, l4⟩, ⟨lo1, by show n1 < 9223372036854775808; omega⟩⟩, .cons (.bool _) (.cons (.int ..) (.cons (k'24 _) (.cons (k'24 _) (.cons (k'24 _) .nil))))⟩
theorem open_Rp {base : Nat} {v : Value} {d : DataW H} {p : List MemPlace} (hval : Value.okWide Tryz.prog W .any base 26 v) (h : DataW.Trod enc Tryz.prog W 0 (fun _ => true) true 26 v d p) :
  ∃ (x : Rp) (xd : D), x.R xd ∧ (x.ln ∧ x.wf) ∧ DR (Fw W) xd v := by
 have hu : Tryz.prog.underlying 26 = some (.struct #[stF 26 0, stF 26 1, stF 26 2, stF 26 3, stF 26 4]) := by kernel_rfl
 obtain ⟨cs, rfl⟩ : ∃ cs, v = .agg cs := by
  unfold Value.okWide at hval
  rw [hu] at hval
  obtain ⟨cs, a, -⟩ := hval
  exact ⟨cs, a⟩
 obtain ⟨cs⟩ := cs
 obtain ⟨fuel, hf⟩ := h
 obtain ⟨x, xd, r, q, e⟩ := open_cRp hf
 have r' := r
 obtain rfl : xd = _ := r'
 exact ⟨x, _, r, q, .agg e⟩
end
end
section
set_option maxHeartbeats 2000000 in
theorem BatchBack_law (hB : BOk B) (x : Bt) (xa : D) (hR : x.R xa) (hp : x.ln ∧ x.wf) (r : Rp) (ra : D) (hS : r.R ra) (hq : r.ln ∧ r.wf) :
  k'0 (cx B) 9 [.d xa, .d ra] [] (.d (.bool true)) [] := by
 have hf := firstBt_calls B hB
 have hr := FewBt_calls B x _ hp.1 hR
 have c2 := fun h => k'4w B x _ h hp.2 hR
 have cm := fun h => Bt_May_calls B x _ h hR
 have c5 := fun h => Bt_Same_calls B x x _ x.d h hR x.d_R
 have c6 := fun h => k'5b B x _ h hR
 have c6' := fun h => k'5b B x _ h x.d_R
 obtain ⟨z, l, rfl, -⟩ := hR
 obtain rfl : ra = r.d := hS
 unfold Rp.d
 refine l_bw Tryz.func9 0 [] ?_
 refine l_cw [] (hf) rfl rfl rfl ?_
 refine l_cw [] (hr) rfl rfl rfl ?_
 by_cases h1 : roomBt x 20000 ≥ 0
 rotate_left
 ·rw [show decide (roomBt x 20000 ≥ 0) = false from decide_eq_false h1]
  refine Y ?_
  refine k'1 [] (hf) rfl rfl rfl ?_
  exact Z
 rw [show decide (roomBt x 20000 ≥ 0) = true from decide_eq_true h1]
 refine Y ?_
 by_cases g0 : (r.p.msg.length : Int) > 9000
 ·rw [show decide ((r.p.msg.length : Int) > 9000) = true from decide_eq_true g0]
  refine Y ?_
  refine k'1 [] (hf) rfl rfl rfl ?_
  exact Z
 rw [show decide ((r.p.msg.length : Int) > 9000) = false from decide_eq_false g0]
 refine Y ?_
 by_cases g1 : (r.p.u.length : Int) > 4000
 ·rw [show decide ((r.p.u.length : Int) > 4000) = true from decide_eq_true g1]
  refine Y ?_
  refine k'1 [] (hf) rfl rfl rfl ?_
  exact Z
 rw [show decide ((r.p.u.length : Int) > 4000) = false from decide_eq_false g1]
 refine Y ?_
 by_cases g2 : (r.u.length : Int) > 4000
 ·rw [show decide ((r.u.length : Int) > 4000) = true from decide_eq_true g2]
  refine Y ?_
  refine k'1 [] (hf) rfl rfl rfl ?_
  exact Z
 rw [show decide ((r.u.length : Int) > 4000) = false from decide_eq_false g2]
 refine Y ?_
 have hrb : r.sz < big := by unfold Rp.sz Sx.sz big; omega
 have hrt : ¬ tooB r.mar := by
  have := r.mar_len
  unfold Rp.sz Sx.sz at this
  unfold tooB
  omega
 have hbig := roomBt_ok x h1
 have hno := roomBt_T x h1
 replace c2 := c2 hbig
 replace cm := cm hbig
 replace c5 := c5 hbig
 replace c6 := c6 hbig
 replace c6' := c6' hbig
 rw [Bt.eq_self] at c5
 have hml := x.mar_len
 cases m1 : x.may
 ·rw [m1] at cm
  rw [m1, if_neg (by simp)] at c2
  obtain ⟨b, y, c3⟩ := Bt_any B hB (s := []) (by unfold big; decide)
  unfold Bt.d at c3
  refine l_cw [] (c2) rfl rfl rfl ?_
  refine l_cw [] (c3) rfl rfl rfl ?_
  refine x_cw [] (cm) rfl rfl rfl ?_
  have c7 := k'5j B r hrb hq.2
  cases n1 : r.may
  ·rw [n1, if_neg (by simp)] at c7
   obtain ⟨rb, ry, c8⟩ := Rp_any B hB (s := []) (by unfold big; decide)
   unfold Rp.d at c7 c8
   refine l_cw [] (c7) rfl rfl rfl ?_
   refine l_cw [] (c8) rfl rfl rfl ?_
   refine k'1 [] (hf) rfl rfl rfl ?_
   exact Z
  rw [n1, if_pos rfl, if_neg hrt] at c7
  have c8 := Rp_some B hB (s := r.mar) (x := r) (by unfold big; unfold tooB at hrt; omega) (by unfold rdRp; rw [if_neg hrt]; exact Rp_back hrb hq.2 n1)
  have c9 := refRp_calls B r r
  rw [Rp.eq_self] at c9
  unfold Rp.d at c7 c8 c9
  generalize r.mar = rs at *
  refine l_cw [] (c7) rfl rfl rfl ?_
  refine l_cw [] (c8) rfl rfl rfl ?_
  refine l_cw [] (hf) rfl rfl rfl ?_
  refine k'8 [] (c9) rfl rfl rfl rfl rfl ?_
  exact Z
 rw [m1] at cm
 rw [m1, if_pos rfl, if_neg hno] at c2
 have c3 := Bt_some B hB (s := x.mar) (x := x) (by omega) (by unfold rdBt; rw [if_neg hno]; exact Bt_back hbig hp.2 m1)
 unfold Bt.d at c3 c5 c6'
 generalize x.mar = s at *
 generalize x.sum Me.points = np at *
 refine l_cw [] (c2) rfl rfl rfl ?_
 refine l_cw [] (c3) rfl rfl rfl ?_
 refine x_cw [] (c5) rfl rfl rfl ?_
 refine x_cw [] (c6') rfl rfl rfl ?_
 refine k'1v [] (c6) rfl rfl rfl ?_
 (repeat ((with_reducible refine k'1m ?_); first | refine k'35 rfl rfl ?_ | refine k'29 rfl rfl rfl ?_ | refine k'30 rfl rfl rfl rfl rfl rfl ?_))
 rw [show ((np : Int) != (np : Int)) = false by simp]
 refine Y ?_
 refine x_cw [] (cm) rfl rfl rfl ?_
 have c7 := k'5j B r hrb hq.2
 cases n1 : r.may
 ·rw [n1, if_neg (by simp)] at c7
  obtain ⟨rb, ry, c8⟩ := Rp_any B hB (s := []) (by unfold big; decide)
  unfold Rp.d at c7 c8
  refine l_cw [] (c7) rfl rfl rfl ?_
  refine l_cw [] (c8) rfl rfl rfl ?_
  refine k'1 [] (hf) rfl rfl rfl ?_
  exact Z
 rw [n1, if_pos rfl, if_neg hrt] at c7
 have c8 := Rp_some B hB (s := r.mar) (x := r) (by unfold big; unfold tooB at hrt; omega) (by unfold rdRp; rw [if_neg hrt]; exact Rp_back hrb hq.2 n1)
 have c9 := refRp_calls B r r
 rw [Rp.eq_self] at c9
 unfold Rp.d at c7 c8 c9
 generalize r.mar = rs at *
 refine l_cw [] (c7) rfl rfl rfl ?_
 refine l_cw [] (c8) rfl rfl rfl ?_
 refine l_cw [] (hf) rfl rfl rfl ?_
 refine k'8 [] (c9) rfl rfl rfl rfl rfl ?_
 exact Z
end
section
open Go Go.Abs Go.ChangeShapes Go.WideShapes Go.RowKit
section
variable {H : Type} {enc : TypeId × Value → H} {W : World}
theorem open_cEm (fuel : Nat) : ∀ cs x, DataW.trod enc Tryz.prog W 0 (fun _ => true) true fuel 322 cs = some x → ∃ (v : Em) (xd : D), v.R xd ∧ (v.ln ∧ v.wf) ∧ DRs (Fw W) xd.cells cs := by
 intro cs x h
 have hu : Tryz.prog.underlying 322 = some (.struct #[stF 322 0, stF 322 1, stF 322 2, stF 322 3, stF 322 4, stF 322 5, stF 322 6]) := by kernel_rfl
 obtain ⟨ys, m, rfl, -, hl, hlen, hf⟩ := DataW.trod_struct hu h
 rw [show Tryz.prog.cellsOf 322 = 7 by kernel_rfl] at hl
 obtain ⟨v0, v1, v2, v3, v4, v5, v6, rfl⟩ : ∃ v0 v1 v2 v3 v4 v5 v6, cs = [v0, v1, v2, v3, v4, v5, v6] := by
  match cs, hl with
  | [v0, v1, v2, v3, v4, v5, v6], _ => exact ⟨_, _, _, _, _, _, _, rfl⟩
 obtain ⟨y0, f0⟩ := fld hlen hf 0 rfl (X := 55) (off := 0) (c := 1) (by kernel_rfl)
 obtain ⟨k0, z0, e0, x0, a0, r0, p0, l0, q0⟩ := k'c (by kernel_rfl) (show Tryz.prog.cellsOf 250 = 11 by kernel_rfl) (by omega) f0 (fun n _ => (open_vk n).2)
 obtain rfl : v0 = k0 := (List.cons.inj a0).1
 obtain ⟨n1, a1, hi1⟩ := k'20 hlen hf 1 rfl (X := 73) (off := 1) (c := 1) (by kernel_rfl) (by kernel_rfl)
 obtain rfl : v1 = .int .u64 n1 := (List.cons.inj a1).1
 obtain ⟨n2, a2, lo2, hi2⟩ := fld_i64 hlen hf 2 rfl (X := 3) (off := 2) (c := 1) (by kernel_rfl) (by kernel_rfl)
 obtain rfl : v2 = .int .i64 n2 := (List.cons.inj a2).1
 obtain ⟨n3, a3, hi3⟩ := k'20 hlen hf 3 rfl (X := 73) (off := 3) (c := 1) (by kernel_rfl) (by kernel_rfl)
 obtain rfl : v3 = .int .u64 n3 := (List.cons.inj a3).1
 obtain ⟨s4, a4, l4⟩ := k'18 hlen hf 4 rfl (X := 9) (off := 4) (c := 1) (by kernel_rfl) (by kernel_rfl)
 obtain rfl : v4 = .string s4 := (List.cons.inj a4).1
 obtain ⟨s5, a5, l5⟩ := k'18 hlen hf 5 rfl (X := 9) (off := 5) (c := 1) (by kernel_rfl) (by kernel_rfl)
 obtain rfl : v5 = .string s5 := (List.cons.inj a5).1
 obtain ⟨s6, a6, l6⟩ := k'18 hlen hf 6 rfl (X := 9) (off := 6) (c := 1) (by kernel_rfl) (by kernel_rfl)
 obtain rfl : v6 = .string s6 := (List.cons.inj a6).1
 exact ⟨⟨e0, n1, n2, n3, s4.data.toList, s5.data.toList, s6.data.toList⟩, .agg _, ⟨z0, x0, rfl, Kv.Rs_of r0⟩, ⟨⟨Kv.lns_of fun v hv => (p0 v hv).1, l0, l4, l5, l6⟩, ⟨fun v hv => (p0 v hv).2, by show n1 < 2 ^ 64; omega, by show n3 < 2 ^ 64; omega⟩⟩, .cons (q0) (.cons (.int ..) (.cons (.int ..) (.cons (.int ..) (.cons (k'24 _) (.cons (k'24 _) (.cons (k'24 _) .nil))))))⟩
end
end
section
open Go Go.Abs Go.ChangeShapes Go.WideShapes Go.RowKit
section
variable {H : Type} {enc : TypeId × Value → H} {W : World}
theorem open_cNb (fuel : Nat) : ∀ cs x, DataW.trod enc Tryz.prog W 0 (fun _ => true) true fuel 182 cs = some x → ∃ (v : Nb) (xd : D), v.R xd ∧ (v.ln ∧ v.wf) ∧ DRs (Fw W) xd.cells cs := by
 intro cs x h
 have hu : Tryz.prog.underlying 182 = some (.struct #[stF 182 0, stF 182 1, stF 182 2, stF 182 3, stF 182 4, stF 182 5, stF 182 6, stF 182 7]) := by kernel_rfl
 obtain ⟨ys, m, rfl, -, hl, hlen, hf⟩ := DataW.trod_struct hu h
 rw [show Tryz.prog.cellsOf 182 = 8 by kernel_rfl] at hl
 obtain ⟨v0, v1, v2, v3, v4, v5, v6, v7, rfl⟩ : ∃ v0 v1 v2 v3 v4 v5 v6 v7, cs = [v0, v1, v2, v3, v4, v5, v6, v7] := by
  match cs, hl with
  | [v0, v1, v2, v3, v4, v5, v6, v7], _ => exact ⟨_, _, _, _, _, _, _, _, rfl⟩
 obtain ⟨y0, f0⟩ := fld hlen hf 0 rfl (X := 55) (off := 0) (c := 1) (by kernel_rfl)
 obtain ⟨k0, z0, e0, x0, a0, r0, p0, l0, q0⟩ := k'c (by kernel_rfl) (show Tryz.prog.cellsOf 250 = 11 by kernel_rfl) (by omega) f0 (fun n _ => (open_vk n).2)
 obtain rfl : v0 = k0 := (List.cons.inj a0).1
 obtain ⟨n1, a1, hi1⟩ := k'20 hlen hf 1 rfl (X := 73) (off := 1) (c := 1) (by kernel_rfl) (by kernel_rfl)
 obtain rfl : v1 = .int .u64 n1 := (List.cons.inj a1).1
 obtain ⟨n2, a2, hi2⟩ := k'20 hlen hf 2 rfl (X := 73) (off := 2) (c := 1) (by kernel_rfl) (by kernel_rfl)
 obtain rfl : v2 = .int .u64 n2 := (List.cons.inj a2).1
 obtain ⟨n3, a3, lo3, hi3⟩ := fld_i64 hlen hf 3 rfl (X := 3) (off := 3) (c := 1) (by kernel_rfl) (by kernel_rfl)
 obtain rfl : v3 = .int .i64 n3 := (List.cons.inj a3).1
 obtain ⟨n4, a4, hi4⟩ := k'20 hlen hf 4 rfl (X := 73) (off := 4) (c := 1) (by kernel_rfl) (by kernel_rfl)
 obtain rfl : v4 = .int .u64 n4 := (List.cons.inj a4).1
 obtain ⟨y5, f5⟩ := fld hlen hf 5 rfl (X := 180) (off := 5) (c := 1) (by kernel_rfl)
 obtain ⟨k5, z5, e5, x5, a5, r5, p5, l5, q5⟩ := k'c (by kernel_rfl) (show Tryz.prog.cellsOf 322 = 7 by kernel_rfl) (by omega) f5 (fun n _ => open_cEm n)
 obtain rfl : v5 = k5 := (List.cons.inj a5).1
 obtain ⟨n6, a6, hi6⟩ := fld_u32 hlen hf 6 rfl (X := 56) (off := 6) (c := 1) (by kernel_rfl) (by kernel_rfl)
 obtain rfl : v6 = .int .u32 n6 := (List.cons.inj a6).1
 obtain ⟨s7, a7, l7⟩ := k'18 hlen hf 7 rfl (X := 9) (off := 7) (c := 1) (by kernel_rfl) (by kernel_rfl)
 obtain rfl : v7 = .string s7 := (List.cons.inj a7).1
 exact ⟨⟨e0, n1, n2, n3, n4, e5, n6, s7.data.toList⟩, .agg _, ⟨z0, x0, z5, x5, rfl, Kv.Rs_of r0, r5⟩, ⟨⟨Kv.lns_of fun v hv => (p0 v hv).1, l0, fun v hv => (p5 v hv).1, l5, l7⟩, ⟨fun v hv => (p0 v hv).2, by show n1 < 2 ^ 64; omega, by show n2 < 2 ^ 64; omega, by show n4 < 2 ^ 64; omega, fun v hv => (p5 v hv).2, by show n6 < 4294967296; omega⟩⟩, .cons (q0) (.cons (.int ..) (.cons (.int ..) (.cons (.int ..) (.cons (.int ..) (.cons (q5) (.cons (.int ..) (.cons (k'24 _) .nil)))))))⟩
end
end
section
open Go Go.Abs Go.ChangeShapes Go.WideShapes Go.RowKit
section
variable {H : Type} {enc : TypeId × Value → H} {W : World}
theorem open_cHi (fuel : Nat) : ∀ cs x, DataW.trod enc Tryz.prog W 0 (fun _ => true) true fuel 188 cs = some x → ∃ (v : Hi) (xd : D), v.R xd ∧ (v.ln ∧ v.wf) ∧ DRs (Fw W) xd.cells cs := by
 intro cs x h
 have hu : Tryz.prog.underlying 188 = some (.struct #[stF 188 0, stF 188 1, stF 188 2, stF 188 3, stF 188 4, stF 188 5, stF 188 6, stF 188 7, stF 188 8, stF 188 9, stF 188 10, stF 188 11]) := by kernel_rfl
 obtain ⟨ys, m, rfl, -, hl, hlen, hf⟩ := DataW.trod_struct hu h
 rw [show Tryz.prog.cellsOf 188 = 15 by kernel_rfl] at hl
 obtain ⟨v0, v1, v2, v3, v4, v5, v6, v7, v8, v9, v10, v11, v12, v13, v14, rfl⟩ : ∃ v0 v1 v2 v3 v4 v5 v6 v7 v8 v9 v10 v11 v12 v13 v14, cs = [v0, v1, v2, v3, v4, v5, v6, v7, v8, v9, v10, v11, v12, v13, v14] := by
  match cs, hl with
  | [v0, v1, v2, v3, v4, v5, v6, v7, v8, v9, v10, v11, v12, v13, v14], _ => exact ⟨_, _, _, _, _, _, _, _, _, _, _, _, _, _, _, rfl⟩
 obtain ⟨y0, f0⟩ := fld hlen hf 0 rfl (X := 55) (off := 0) (c := 1) (by kernel_rfl)
 obtain ⟨k0, z0, e0, x0, a0, r0, p0, l0, q0⟩ := k'c (by kernel_rfl) (show Tryz.prog.cellsOf 250 = 11 by kernel_rfl) (by omega) f0 (fun n _ => (open_vk n).2)
 obtain rfl : v0 = k0 := (List.cons.inj a0).1
 obtain ⟨n1, a1, hi1⟩ := k'20 hlen hf 1 rfl (X := 73) (off := 1) (c := 1) (by kernel_rfl) (by kernel_rfl)
 obtain rfl : v1 = .int .u64 n1 := (List.cons.inj a1).1
 obtain ⟨n2, a2, hi2⟩ := k'20 hlen hf 2 rfl (X := 73) (off := 2) (c := 1) (by kernel_rfl) (by kernel_rfl)
 obtain rfl : v2 = .int .u64 n2 := (List.cons.inj a2).1
 obtain ⟨n3, a3, hi3⟩ := k'20 hlen hf 3 rfl (X := 73) (off := 3) (c := 1) (by kernel_rfl) (by kernel_rfl)
 obtain rfl : v3 = .int .u64 n3 := (List.cons.inj a3).1
 obtain ⟨y4, f4⟩ := fld hlen hf 4 rfl (X := 185) (off := 4) (c := 2) (by kernel_rfl)
 replace f4 : DataW.trod enc Tryz.prog W 0 (fun _ => true) true m 185 [v4, v5] = some y4 := f4
 obtain ⟨e4, x4, r4, p4, q4⟩ := open_opt f4
 obtain ⟨y5, f5⟩ := fld hlen hf 5 rfl (X := 185) (off := 6) (c := 2) (by kernel_rfl)
 replace f5 : DataW.trod enc Tryz.prog W 0 (fun _ => true) true m 185 [v6, v7] = some y5 := f5
 obtain ⟨e5, x5, r5, p5, q5⟩ := open_opt f5
 obtain ⟨y6, f6⟩ := fld hlen hf 6 rfl (X := 185) (off := 8) (c := 2) (by kernel_rfl)
 replace f6 : DataW.trod enc Tryz.prog W 0 (fun _ => true) true m 185 [v8, v9] = some y6 := f6
 obtain ⟨e6, x6, r6, p6, q6⟩ := open_opt f6
 obtain ⟨y7, f7⟩ := fld hlen hf 7 rfl (X := 186) (off := 10) (c := 1) (by kernel_rfl)
 obtain ⟨k7, z7, e7, x7, a7, r7, p7, l7, q7⟩ := k'c (by kernel_rfl) (show Tryz.prog.cellsOf 73 = 1 by kernel_rfl) (by omega) f7 (fun n _ => open_u64 n)
 obtain rfl : v10 = k7 := (List.cons.inj a7).1
 obtain ⟨y8, f8⟩ := fld hlen hf 8 rfl (X := 186) (off := 11) (c := 1) (by kernel_rfl)
 obtain ⟨k8, z8, e8, x8, a8, r8, p8, l8, q8⟩ := k'c (by kernel_rfl) (show Tryz.prog.cellsOf 73 = 1 by kernel_rfl) (by omega) f8 (fun n _ => open_u64 n)
 obtain rfl : v11 = k8 := (List.cons.inj a8).1
 obtain ⟨y9, f9⟩ := fld hlen hf 9 rfl (X := 180) (off := 12) (c := 1) (by kernel_rfl)
 obtain ⟨k9, z9, e9, x9, a9, r9, p9, l9, q9⟩ := k'c (by kernel_rfl) (show Tryz.prog.cellsOf 322 = 7 by kernel_rfl) (by omega) f9 (fun n _ => open_cEm n)
 obtain rfl : v12 = k9 := (List.cons.inj a9).1
 obtain ⟨n10, a10, hi10⟩ := fld_u32 hlen hf 10 rfl (X := 56) (off := 13) (c := 1) (by kernel_rfl) (by kernel_rfl)
 obtain rfl : v13 = .int .u32 n10 := (List.cons.inj a10).1
 obtain ⟨s11, a11, l11⟩ := k'18 hlen hf 11 rfl (X := 9) (off := 14) (c := 1) (by kernel_rfl) (by kernel_rfl)
 obtain rfl : v14 = .string s11 := (List.cons.inj a11).1
 subst r4
 subst r5
 subst r6
 obtain rfl := u_of r7
 obtain rfl := u_of r8
 exact ⟨⟨e0, n1, n2, n3, e4.1, e4.2, e5.1, e5.2, e6.1, e6.2, e7, e8, e9, n10, s11.data.toList⟩, .agg _, ⟨z0, x0, z7, z8, z9, x9, rfl, Kv.Rs_of r0, r9⟩, ⟨⟨Kv.lns_of fun v hv => (p0 v hv).1, l0, l7, l8, fun v hv => (p9 v hv).1, l9, l11⟩, ⟨fun v hv => (p0 v hv).2, by show n1 < 2 ^ 64; omega, by show n2 < 2 ^ 64; omega, by show n3 < 2 ^ 64; omega, p4, p5, p6, p7, p8, fun v hv => (p9 v hv).2, by show n10 < 4294967296; omega⟩⟩, .cons (q0) (.cons (.int ..) (.cons (.int ..) (.cons (.int ..) (k'47 q4 (k'47 q5 (k'47 q6 (.cons (q7) (.cons (q8) (.cons (q9) (.cons (.int ..) (.cons (k'24 _) .nil)))))))))))⟩
end
end
section
open Go Go.Abs Go.ChangeShapes Go.WideShapes Go.RowKit
section
variable {H : Type} {enc : TypeId × Value → H} {W : World}
theorem open_cEh (fuel : Nat) : ∀ cs x, DataW.trod enc Tryz.prog W 0 (fun _ => true) true fuel 193 cs = some x → ∃ (v : Eh) (xd : D), v.R xd ∧ (v.ln ∧ v.wf) ∧ DRs (Fw W) xd.cells cs := by
 intro cs x h
 have hu : Tryz.prog.underlying 193 = some (.struct #[stF 193 0, stF 193 1, stF 193 2, stF 193 3, stF 193 4, stF 193 5, stF 193 6, stF 193 7, stF 193 8, stF 193 9, stF 193 10, stF 193 11, stF 193 12, stF 193 13, stF 193 14, stF 193 15, stF 193 16]) := by kernel_rfl
 obtain ⟨ys, m, rfl, -, hl, hlen, hf⟩ := DataW.trod_struct hu h
 rw [show Tryz.prog.cellsOf 193 = 24 by kernel_rfl] at hl
 obtain ⟨v0, v1, v2, v3, v4, v5, v6, v7, v8, v9, v10, v11, v12, v13, v14, v15, v16, v17, v18, v19, v20, v21, v22, v23, rfl⟩ : ∃ v0 v1 v2 v3 v4 v5 v6 v7 v8 v9 v10 v11 v12 v13 v14 v15 v16 v17 v18 v19 v20 v21 v22 v23, cs = [v0, v1, v2, v3, v4, v5, v6, v7, v8, v9, v10, v11, v12, v13, v14, v15, v16, v17, v18, v19, v20, v21, v22, v23] := by
  match cs, hl with
  | [v0, v1, v2, v3, v4, v5, v6, v7, v8, v9, v10, v11, v12, v13, v14, v15, v16, v17, v18, v19, v20, v21, v22, v23], _ => exact ⟨_, _, _, _, _, _, _, _, _, _, _, _, _, _, _, _, _, _, _, _, _, _, _, _, rfl⟩
 obtain ⟨y0, f0⟩ := fld hlen hf 0 rfl (X := 55) (off := 0) (c := 1) (by kernel_rfl)
 obtain ⟨k0, z0, e0, x0, a0, r0, p0, l0, q0⟩ := k'c (by kernel_rfl) (show Tryz.prog.cellsOf 250 = 11 by kernel_rfl) (by omega) f0 (fun n _ => (open_vk n).2)
 obtain rfl : v0 = k0 := (List.cons.inj a0).1
 obtain ⟨n1, a1, hi1⟩ := k'20 hlen hf 1 rfl (X := 73) (off := 1) (c := 1) (by kernel_rfl) (by kernel_rfl)
 obtain rfl : v1 = .int .u64 n1 := (List.cons.inj a1).1
 obtain ⟨n2, a2, hi2⟩ := k'20 hlen hf 2 rfl (X := 73) (off := 2) (c := 1) (by kernel_rfl) (by kernel_rfl)
 obtain rfl : v2 = .int .u64 n2 := (List.cons.inj a2).1
 obtain ⟨n3, a3, hi3⟩ := k'20 hlen hf 3 rfl (X := 73) (off := 3) (c := 1) (by kernel_rfl) (by kernel_rfl)
 obtain rfl : v3 = .int .u64 n3 := (List.cons.inj a3).1
 obtain ⟨y4, f4⟩ := fld hlen hf 4 rfl (X := 185) (off := 4) (c := 2) (by kernel_rfl)
 replace f4 : DataW.trod enc Tryz.prog W 0 (fun _ => true) true m 185 [v4, v5] = some y4 := f4
 obtain ⟨e4, x4, r4, p4, q4⟩ := open_opt f4
 obtain ⟨y5, f5⟩ := fld hlen hf 5 rfl (X := 185) (off := 6) (c := 2) (by kernel_rfl)
 replace f5 : DataW.trod enc Tryz.prog W 0 (fun _ => true) true m 185 [v6, v7] = some y5 := f5
 obtain ⟨e5, x5, r5, p5, q5⟩ := open_opt f5
 obtain ⟨y6, f6⟩ := fld hlen hf 6 rfl (X := 185) (off := 8) (c := 2) (by kernel_rfl)
 replace f6 : DataW.trod enc Tryz.prog W 0 (fun _ => true) true m 185 [v8, v9] = some y6 := f6
 obtain ⟨e6, x6, r6, p6, q6⟩ := open_opt f6
 obtain ⟨n7, a7, lo7, hi7⟩ := fld_i32 hlen hf 7 rfl (X := 21) (off := 10) (c := 1) (by kernel_rfl) (by kernel_rfl)
 obtain rfl : v10 = .int .i32 n7 := (List.cons.inj a7).1
 obtain ⟨n8, a8, hi8⟩ := k'20 hlen hf 8 rfl (X := 73) (off := 11) (c := 1) (by kernel_rfl) (by kernel_rfl)
 obtain rfl : v11 = .int .u64 n8 := (List.cons.inj a8).1
 obtain ⟨b9, a9⟩ := k'3x hlen hf 9 rfl (X := 4) (off := 12) (c := 1) (by kernel_rfl) (by kernel_rfl)
 obtain rfl : v12 = .bool b9 := (List.cons.inj a9).1
 obtain ⟨y10, f10⟩ := fld hlen hf 10 rfl (X := 191) (off := 13) (c := 3) (by kernel_rfl)
 replace f10 : DataW.trod enc Tryz.prog W 0 (fun _ => true) true m 191 [v13, v14, v15] = some y10 := f10
 obtain ⟨e10, x10, r10, p10, q10⟩ := open_bk f10
 obtain ⟨b11, a11⟩ := k'3x hlen hf 11 rfl (X := 4) (off := 16) (c := 1) (by kernel_rfl) (by kernel_rfl)
 obtain rfl : v16 = .bool b11 := (List.cons.inj a11).1
 obtain ⟨y12, f12⟩ := fld hlen hf 12 rfl (X := 191) (off := 17) (c := 3) (by kernel_rfl)
 replace f12 : DataW.trod enc Tryz.prog W 0 (fun _ => true) true m 191 [v17, v18, v19] = some y12 := f12
 obtain ⟨e12, x12, r12, p12, q12⟩ := open_bk f12
 obtain ⟨y13, f13⟩ := fld hlen hf 13 rfl (X := 180) (off := 20) (c := 1) (by kernel_rfl)
 obtain ⟨k13, z13, e13, x13, a13, r13, p13, l13, q13⟩ := k'c (by kernel_rfl) (show Tryz.prog.cellsOf 322 = 7 by kernel_rfl) (by omega) f13 (fun n _ => open_cEm n)
 obtain rfl : v20 = k13 := (List.cons.inj a13).1
 obtain ⟨n14, a14, hi14⟩ := fld_u32 hlen hf 14 rfl (X := 56) (off := 21) (c := 1) (by kernel_rfl) (by kernel_rfl)
 obtain rfl : v21 = .int .u32 n14 := (List.cons.inj a14).1
 obtain ⟨n15, a15, hi15⟩ := k'20 hlen hf 15 rfl (X := 73) (off := 22) (c := 1) (by kernel_rfl) (by kernel_rfl)
 obtain rfl : v22 = .int .u64 n15 := (List.cons.inj a15).1
 obtain ⟨s16, a16, l16⟩ := k'18 hlen hf 16 rfl (X := 9) (off := 23) (c := 1) (by kernel_rfl) (by kernel_rfl)
 obtain rfl : v23 = .string s16 := (List.cons.inj a16).1
 subst r4
 subst r5
 subst r6
 obtain ⟨z10, rfl⟩ := r10
 obtain ⟨z12, rfl⟩ := r12
 exact ⟨⟨e0, n1, n2, n3, e4.1, e4.2, e5.1, e5.2, e6.1, e6.2, n7, n8, b9, e10, b11, e12, e13, n14, n15, s16.data.toList⟩, .agg _, ⟨z0, x0, z10, z12, z13, x13, rfl, Kv.Rs_of r0, r13⟩, ⟨⟨Kv.lns_of fun v hv => (p0 v hv).1, l0, p10.1, p12.1, fun v hv => (p13 v hv).1, l13, l16⟩, ⟨fun v hv => (p0 v hv).2, by show n1 < 2 ^ 64; omega, by show n2 < 2 ^ 64; omega, by show n3 < 2 ^ 64; omega, p4, p5, p6, ⟨lo7, by omega⟩, by show n8 < 2 ^ 64; omega, p10.2, p12.2, fun v hv => (p13 v hv).2, by show n14 < 4294967296; omega, by show n15 < 2 ^ 64; omega⟩⟩, .cons (q0) (.cons (.int ..) (.cons (.int ..) (.cons (.int ..) (k'47 q4 (k'47 q5 (k'47 q6 (.cons (.int ..) (.cons (.int ..) (.cons (.bool _) (k'47 q10 (.cons (.bool _) (k'47 q12 (.cons (q13) (.cons (.int ..) (.cons (.int ..) (.cons (k'24 _) .nil))))))))))))))))⟩
end
end
