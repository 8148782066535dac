/- Arguments: values and attributes, as deep as they go. -/
import Derived.Test.YthogjpjcidfoaaaGreatDoorXM0
import Derived.Test.YthogjpjcidfoaaaGreatDoorRV
import Derived.Deep.Strs
import Derived.ChangeSlices
import Derived.ChangeArms
set_option linter.unusedSimpArgs false
set_option linter.unusedVariables false
set_option maxRecDepth 100000
namespace Go.Proofs.YthogjpjcidfoaaaGreatDoor
open Go Go.Abs Go.ChangeShapes Go.WideShapes Go.RowKit
theorem u32_wf {n : Int} (h : (Lit.int .u32 n).wf = true) : 0 ≤ n ∧ n < 4294967296 := by
  simp only [Lit.wf, Bool.and_eq_true, decide_eq_true_eq] at h
  have h1 : IntKind.u32.min = 0 := by decide
  have h2 : IntKind.u32.max = 4294967295 := by decide
  rw [h1, h2] at h
  omega
/-- The cells as they stand. -/
def Fw (W : World) : Fr := fun b off => W.cell? ⟨b, off, none⟩
theorem DRs_app {F : Fr} : ∀ {a : List D} {va : List Value} {b : List D} {vb : List Value}, DRs F a va → DRs F b vb → DRs F (a ++ b) (va ++ vb)
  | _, _, _, _, .nil, h => h
  | _, _, _, _, .cons h t, k => .cons h (DRs_app t k)
theorem Vl.Rs_of : ∀ {l : List Vl} {xs : List D}, RsOf Vl.R l xs → Vl.Rs l xs
  | [], xs, h => by have := h.1; cases xs with | nil => rfl | cons _ _ => simp at this
  | v :: l, xs, h => by
    obtain ⟨x, h1, h2⟩ := h.2 0 v rfl
    cases xs with
    | nil => simp at h1
    | cons y ys =>
      simp at h1; subst h1
      exact ⟨y, ys, rfl, h2, Vl.Rs_of ⟨by have := h.1; simpa using this, fun i u hu => by have := h.2 (i + 1) u (by simpa using hu); simpa using this⟩⟩
theorem Kv.Rs_of : ∀ {l : List Kv} {xs : List D}, RsOf Kv.R l xs → Kv.Rs l xs
  | [], xs, h => by have := h.1; cases xs with | nil => rfl | cons _ _ => simp at this
  | v :: l, xs, h => by
    obtain ⟨x, h1, h2⟩ := h.2 0 v rfl
    cases xs with
    | nil => simp at h1
    | cons y ys =>
      simp at h1; subst h1
      exact ⟨y, ys, rfl, h2, Kv.Rs_of ⟨by have := h.1; simpa using this, fun i u hu => by have := h.2 (i + 1) u (by simpa using hu); simpa using this⟩⟩
theorem Vl.lns_of : ∀ {l : List Vl}, (∀ v ∈ l, v.ln) → Vl.lns l
  | [], _ => trivial
  | v :: l, h => ⟨h v (List.mem_cons_self ..), Vl.lns_of fun x hx => h x (List.mem_cons_of_mem _ hx)⟩
theorem Kv.lns_of : ∀ {l : List Kv}, (∀ v ∈ l, v.ln) → Kv.lns l
  | [], _ => trivial
  | v :: l, h => ⟨h v (List.mem_cons_self ..), Kv.lns_of fun x hx => h x (List.mem_cons_of_mem _ hx)⟩
theorem Vl.wfs_of : ∀ {l : List Vl}, (∀ v ∈ l, v.wf) → Vl.wfs l
  | [], _ => trivial
  | v :: l, h => ⟨h v (List.mem_cons_self ..), Vl.wfs_of fun x hx => h x (List.mem_cons_of_mem _ hx)⟩
section
variable {H : Type} {enc : TypeId × Value → H} {W : World}
theorem cells_get {base n : Nat} {a : Addr} {cs : List Value} (h : W.cells? base a n = some cs) : cs.length = n ∧ ∀ j, j < n → W.cell? (a.add j) = cs[j]? := by
  unfold World.cells? at h
  split at h
  · refine ⟨by simpa using mapM_some_length h, fun j hj => ?_⟩
    exact mapM_some_get h j j (by simp [hj])
  · simp at h
theorem open_elems {α : Type} {R : α → D → Prop} {Fine : α → Prop} {t e : TypeId} {k fuel : Nat} {cs : List Value} {x : DataW H × List MemPlace} (ht : Tryz.prog.underlying t = some (.slice e)) (hk : Tryz.prog.cellsOf e = k) (hk0 : 0 < k) (h : DataW.trod enc Tryz.prog W 0 (fun _ => true) true fuel t cs = some x)
    (el : ∀ n, n < fuel → ∀ cs' y, DataW.trod enc Tryz.prog W 0 (fun _ => true) true n e cs' = some y → ∃ v xd, R v xd ∧ Fine v ∧ DRs (Fw W) xd.cells cs') :
    ∃ (c : Value) (z : Bool) (vs : List α) (xs : List D), cs = [c] ∧ RsOf R vs xs ∧ (∀ v ∈ vs, Fine v) ∧ vs.length ≤ 9223372036854775807 ∧ DR (Fw W) (.sl z xs) c := by
  have hmax : maxLen = 2 ^ 63 - 1 := rfl
  rcases DataW.trod_slice ht h with ⟨rfl, -⟩ | ⟨a, len, cap, elems, rest, n, rfl, rfl, -, -, hlc, hcm, hlen, hel, -, -⟩
  · exact ⟨_, true, [], [], rfl, RsOf.nil R, by simp, by simp, .nils⟩
  · rcases Nat.eq_zero_or_pos len with rfl | hpos
    · exact ⟨_, false, [], [], rfl, RsOf.nil R, by simp, by simp, .void⟩
    · have each : ∀ i, i < len → ∃ cs' v xd, W.cells? 0 (a.add (i * k)) k = some cs' ∧ R v xd ∧ Fine v ∧ DRs (Fw W) xd.cells cs' := by
        intro i hi
        have h1 := hel i hi
        rw [hk] at h1
        obtain ⟨y, hy⟩ : ∃ y, elems[i]? = some y := ⟨_, List.getElem?_eq_getElem (by omega)⟩
        rw [hy, Option.bind_eq_some_iff] at h1
        obtain ⟨cs', c1, c2⟩ := h1
        obtain ⟨v, xd, r1, r2, r3⟩ := el n (by omega) cs' y c2
        exact ⟨cs', v, xd, c1, r1, r2, r3⟩
      have hsp : a.spot = none := by
        obtain ⟨cs', v, xd, c1, -⟩ := each 0 hpos
        obtain ⟨l1, l2⟩ := cells_get c1
        have h0 := l2 0 hk0
        rw [Nat.zero_mul] at h0
        obtain ⟨y, hy⟩ : ∃ y, cs'[0]? = some y := ⟨_, List.getElem?_eq_getElem (by omega)⟩
        rw [hy] at h0
        have h0 : W.cell? a = some y := h0
        unfold World.cell? at h0
        split at h0
        · cases hs : a.spot with
          | none => rfl
          | some _ => rw [hs] at h0; simp at h0
        · simp at h0
      obtain ⟨b, off, spot⟩ := a
      obtain rfl : spot = none := hsp
      have key : ∀ r, r ≤ len → ∃ (vs : List α) (xs : List D) (ws : List Value), vs.length = r ∧ RsOf R vs xs ∧ (∀ v ∈ vs, Fine v) ∧ DRe (Fw W) k xs ws ∧ ∀ j w, ws[j]? = some w → W.cell? ⟨b, off + (len - r) * k + j, none⟩ = some w := by
        intro r
        induction r with
        | zero => exact fun _ => ⟨[], [], [], rfl, RsOf.nil R, by simp, .nil, by simp⟩
        | succ r ih =>
          intro hr
          obtain ⟨vs, xs, ws, h1, h2, h3, h4, h5⟩ := ih (by omega)
          obtain ⟨cs', v, xd, c1, r1, r2, r3⟩ := each (len - (r + 1)) (by omega)
          obtain ⟨l1, l2⟩ := cells_get c1
          refine ⟨v :: vs, xd :: xs, cs' ++ ws, by simp [h1], ⟨by simp [h2.1], fun i u hu => ?_⟩, fun u hu => ?_, DRe.cons r3 l1 h4, fun j w hj => ?_⟩
          · cases i with
            | zero => simp at hu; subst hu; exact ⟨xd, rfl, r1⟩
            | succ i => simp at hu ⊢; exact h2.2 i u hu
          · rcases List.mem_cons.1 hu with rfl | hu
            · exact r2
            · exact h3 u hu
          · by_cases hjk : j < k
            · rw [List.getElem?_append_left (by omega)] at hj
              have h6 := l2 j hjk
              rw [hj, addr_add, addr_add] at h6
              exact h6
            · rw [List.getElem?_append_right (by omega), l1] at hj
              have h6 := h5 (j - k) w hj
              rw [show off + (len - (r + 1)) * k + j = off + (len - r) * k + (j - k) by
                rw [show len - r = (len - (r + 1)) + 1 by omega, Nat.add_mul]; omega]
              exact h6
      obtain ⟨vs, xs, ws, h1, h2, h3, h4, h5⟩ := key len (Nat.le_refl _)
      refine ⟨_, false, vs, xs, rfl, h2, h3, by omega, ?_⟩
      have hq := DR.sl (F := Fw W) (cap := cap) (b := b) (off := off) h4 (fun j w hj => by have := h5 j w hj; rw [Nat.sub_self, Nat.zero_mul, Nat.add_zero] at this; exact this) (by rw [h2.1, h1]; exact hlc)
      rw [h2.1, h1] at hq
      exact hq
theorem open_vk (fuel : Nat) : (∀ cs x, DataW.trod enc Tryz.prog W 0 (fun _ => true) true fuel 88 cs = some x → ∃ (v : Vl) (xd : D), v.R xd ∧ (v.ln ∧ v.wf) ∧ DRs (Fw W) xd.cells cs) ∧
    (∀ cs x, DataW.trod enc Tryz.prog W 0 (fun _ => true) true fuel 90 cs = some x → ∃ (v : Kv) (xd : D), v.R xd ∧ (v.ln ∧ v.wf) ∧ DRs (Fw W) xd.cells cs) := by
  induction fuel using Nat.strongRecOn with
  | _ fuel ih =>
  constructor
  · intro cs x h
    have hu : Tryz.prog.underlying 88 = some (.struct #[stF 88 0, stF 88 1, stF 88 2, stF 88 3, stF 88 4, stF 88 5, stF 88 6, stF 88 7]) := by kernel_rfl
    have t0 : (stF 88 0).type = 3 := by kernel_rfl
    have o0 : (stF 88 0).offset = 0 := by kernel_rfl
    have c0 : Tryz.prog.cellsOf 3 = 1 := by kernel_rfl
    have t1 : (stF 88 1).type = 9 := by kernel_rfl
    have o1 : (stF 88 1).offset = 1 := by kernel_rfl
    have c1 : Tryz.prog.cellsOf 9 = 1 := by kernel_rfl
    have t2 : (stF 88 2).type = 4 := by kernel_rfl
    have o2 : (stF 88 2).offset = 2 := by kernel_rfl
    have c2 : Tryz.prog.cellsOf 4 = 1 := by kernel_rfl
    have t3 : (stF 88 3).type = 23 := by kernel_rfl
    have o3 : (stF 88 3).offset = 3 := by kernel_rfl
    have c3 : Tryz.prog.cellsOf 23 = 1 := by kernel_rfl
    have t4 : (stF 88 4).type = 86 := by kernel_rfl
    have o4 : (stF 88 4).offset = 4 := by kernel_rfl
    have c4 : Tryz.prog.cellsOf 86 = 1 := by kernel_rfl
    have t5 : (stF 88 5).type = 22 := by kernel_rfl
    have o5 : (stF 88 5).offset = 5 := by kernel_rfl
    have c5 : Tryz.prog.cellsOf 22 = 1 := by kernel_rfl
    have t6 : (stF 88 6).type = 9 := by kernel_rfl
    have o6 : (stF 88 6).offset = 6 := by kernel_rfl
    have c6 : Tryz.prog.cellsOf 9 = 1 := by kernel_rfl
    have t7 : (stF 88 7).type = 9 := by kernel_rfl
    have o7 : (stF 88 7).offset = 7 := by kernel_rfl
    have c7 : Tryz.prog.cellsOf 9 = 1 := by kernel_rfl
    have ca : Tryz.prog.cellsOf 88 = 8 := by kernel_rfl
    obtain ⟨ys, m, rfl, -, hl, hlen, hf⟩ := DataW.trod_struct hu h
    rw [ca] at hl
    obtain ⟨v0, v1, v2, v3, v4, v5, v6, v7, rfl⟩ : ∃ v0 v1 v2 v3 v4 v5 v6 v7, cs = [v0, v1, v2, v3, v4, v5, v6, v7] := by
      match cs, hl with
      | [v0, v1, v2, v3, v4, v5, v6, v7], _ => exact ⟨_, _, _, _, _, _, _, _, rfl⟩
    have f0 := hf 0 (stF 88 0) rfl
    obtain ⟨y0, hy0⟩ : ∃ y, ys[0]? = some y := ⟨_, List.getElem?_eq_getElem (by rw [hlen]; decide)⟩
    rw [t0, o0, c0, hy0] at f0
    replace f0 : DataW.trod enc Tryz.prog W 0 (fun _ => true) true m 3 [v0] = some y0 := f0
    obtain ⟨n0, a0, -, w0⟩ := DataW.trod_int (k := .i64) (by kernel_rfl) f0
    obtain rfl : v0 = .int .i64 n0 := (List.cons.inj a0).1
    obtain ⟨lo0, hi0⟩ := i64_wf w0
    have f1 := hf 1 (stF 88 1) rfl
    obtain ⟨y1, hy1⟩ : ∃ y, ys[1]? = some y := ⟨_, List.getElem?_eq_getElem (by rw [hlen]; decide)⟩
    rw [t1, o1, c1, hy1] at f1
    replace f1 : DataW.trod enc Tryz.prog W 0 (fun _ => true) true m 9 [v1] = some y1 := f1
    obtain ⟨s1, a1, -, w1⟩ := DataW.trod_string (by kernel_rfl) f1
    obtain rfl : v1 = .string s1 := (List.cons.inj a1).1
    have l1 := ba_len w1
    have q1 := dr_str (F := Fw W) s1
    have f2 := hf 2 (stF 88 2) rfl
    obtain ⟨y2, hy2⟩ : ∃ y, ys[2]? = some y := ⟨_, List.getElem?_eq_getElem (by rw [hlen]; decide)⟩
    rw [t2, o2, c2, hy2] at f2
    replace f2 : DataW.trod enc Tryz.prog W 0 (fun _ => true) true m 4 [v2] = some y2 := f2
    obtain ⟨b2, a2, -⟩ := DataW.trod_bool (by kernel_rfl) f2
    obtain rfl : v2 = .bool b2 := (List.cons.inj a2).1
    have f3 := hf 3 (stF 88 3) rfl
    obtain ⟨y3, hy3⟩ : ∃ y, ys[3]? = some y := ⟨_, List.getElem?_eq_getElem (by rw [hlen]; decide)⟩
    rw [t3, o3, c3, hy3] at f3
    replace f3 : DataW.trod enc Tryz.prog W 0 (fun _ => true) true m 23 [v3] = some y3 := f3
    obtain ⟨n3, a3, -, w3⟩ := DataW.trod_int (k := .u64) (by kernel_rfl) f3
    obtain rfl : v3 = .int .u64 n3 := (List.cons.inj a3).1
    obtain ⟨lo3, hi3⟩ := u64_wf w3
    obtain ⟨n3, rfl⟩ : ∃ n : Nat, n3 = n := ⟨n3.toNat, by omega⟩
    have f4 := hf 4 (stF 88 4) rfl
    obtain ⟨y4, hy4⟩ : ∃ y, ys[4]? = some y := ⟨_, List.getElem?_eq_getElem (by rw [hlen]; decide)⟩
    rw [t4, o4, c4, hy4] at f4
    replace f4 : DataW.trod enc Tryz.prog W 0 (fun _ => true) true m 86 [v4] = some y4 := f4
    obtain ⟨k4, z4, e4, x4, a4, r4, p4, l4, q4⟩ := open_elems (by kernel_rfl) (show Tryz.prog.cellsOf 88 = 8 by kernel_rfl) (by omega) f4 (fun n hn => (ih n (by omega)).1)
    obtain rfl : v4 = k4 := (List.cons.inj a4).1
    have f5 := hf 5 (stF 88 5) rfl
    obtain ⟨y5, hy5⟩ : ∃ y, ys[5]? = some y := ⟨_, List.getElem?_eq_getElem (by rw [hlen]; decide)⟩
    rw [t5, o5, c5, hy5] at f5
    replace f5 : DataW.trod enc Tryz.prog W 0 (fun _ => true) true m 22 [v5] = some y5 := f5
    obtain ⟨k5, z5, e5, x5, a5, r5, p5, l5, q5⟩ := open_elems (by kernel_rfl) (show Tryz.prog.cellsOf 90 = 11 by kernel_rfl) (by omega) f5 (fun n hn => (ih n (by omega)).2)
    obtain rfl : v5 = k5 := (List.cons.inj a5).1
    have f6 := hf 6 (stF 88 6) rfl
    obtain ⟨y6, hy6⟩ : ∃ y, ys[6]? = some y := ⟨_, List.getElem?_eq_getElem (by rw [hlen]; decide)⟩
    rw [t6, o6, c6, hy6] at f6
    replace f6 : DataW.trod enc Tryz.prog W 0 (fun _ => true) true m 9 [v6] = some y6 := f6
    obtain ⟨s6, a6, -, w6⟩ := DataW.trod_string (by kernel_rfl) f6
    obtain rfl : v6 = .string s6 := (List.cons.inj a6).1
    have l6 := ba_len w6
    have q6 := dr_str (F := Fw W) s6
    have f7 := hf 7 (stF 88 7) rfl
    obtain ⟨y7, hy7⟩ : ∃ y, ys[7]? = some y := ⟨_, List.getElem?_eq_getElem (by rw [hlen]; decide)⟩
    rw [t7, o7, c7, hy7] at f7
    replace f7 : DataW.trod enc Tryz.prog W 0 (fun _ => true) true m 9 [v7] = some y7 := f7
    obtain ⟨s7, a7, -, w7⟩ := DataW.trod_string (by kernel_rfl) f7
    obtain rfl : v7 = .string s7 := (List.cons.inj a7).1
    have l7 := ba_len w7
    have q7 := dr_str (F := Fw W) s7
    exact ⟨.mk n0 s1.data.toList b2 n3 e4 e5 s6.data.toList s7.data.toList, .agg _, ⟨z4, x4, z5, x5, rfl, Vl.Rs_of r4, Kv.Rs_of r5⟩, ⟨⟨l1, l6, l7, l4, l5, Vl.lns_of fun v hv => (p4 v hv).1, Kv.lns_of fun v hv => (p5 v hv).1⟩, ⟨lo0, hi0, by omega, Vl.wfs_of fun v hv => (p4 v hv).2, (Kv.wfs_all _).2 fun v hv => (p5 v hv).2⟩⟩, .cons (.int ..) (.cons (q1) (.cons (.bool _) (.cons (.int ..) (.cons (q4) (.cons (q5) (.cons (q6) (.cons (q7) .nil)))))))⟩
  · intro cs x h
    have hu : Tryz.prog.underlying 90 = some (.struct #[stF 90 0, stF 90 1, stF 90 2, stF 90 3]) := by kernel_rfl
    have t0 : (stF 90 0).type = 9 := by kernel_rfl
    have o0 : (stF 90 0).offset = 0 := by kernel_rfl
    have c0 : Tryz.prog.cellsOf 9 = 1 := by kernel_rfl
    have t1 : (stF 90 1).type = 4 := by kernel_rfl
    have o1 : (stF 90 1).offset = 1 := by kernel_rfl
    have c1 : Tryz.prog.cellsOf 4 = 1 := by kernel_rfl
    have t2 : (stF 90 2).type = 88 := by kernel_rfl
    have o2 : (stF 90 2).offset = 2 := by kernel_rfl
    have c2 : Tryz.prog.cellsOf 88 = 8 := by kernel_rfl
    have t3 : (stF 90 3).type = 9 := by kernel_rfl
    have o3 : (stF 90 3).offset = 10 := by kernel_rfl
    have c3 : Tryz.prog.cellsOf 9 = 1 := by kernel_rfl
    have ca : Tryz.prog.cellsOf 90 = 11 := by kernel_rfl
    obtain ⟨ys, m, rfl, -, hl, hlen, hf⟩ := DataW.trod_struct hu h
    rw [ca] at hl
    obtain ⟨v0, v1, v2, v3, v4, v5, v6, v7, v8, v9, v10, rfl⟩ : ∃ v0 v1 v2 v3 v4 v5 v6 v7 v8 v9 v10, cs = [v0, v1, v2, v3, v4, v5, v6, v7, v8, v9, v10] := by
      match cs, hl with
      | [v0, v1, v2, v3, v4, v5, v6, v7, v8, v9, v10], _ => exact ⟨_, _, _, _, _, _, _, _, _, _, _, rfl⟩
    have f0 := hf 0 (stF 90 0) rfl
    obtain ⟨y0, hy0⟩ : ∃ y, ys[0]? = some y := ⟨_, List.getElem?_eq_getElem (by rw [hlen]; decide)⟩
    rw [t0, o0, c0, hy0] at f0
    replace f0 : DataW.trod enc Tryz.prog W 0 (fun _ => true) true m 9 [v0] = some y0 := f0
    obtain ⟨s0, a0, -, w0⟩ := DataW.trod_string (by kernel_rfl) f0
    obtain rfl : v0 = .string s0 := (List.cons.inj a0).1
    have l0 := ba_len w0
    have q0 := dr_str (F := Fw W) s0
    have f1 := hf 1 (stF 90 1) rfl
    obtain ⟨y1, hy1⟩ : ∃ y, ys[1]? = some y := ⟨_, List.getElem?_eq_getElem (by rw [hlen]; decide)⟩
    rw [t1, o1, c1, hy1] at f1
    replace f1 : DataW.trod enc Tryz.prog W 0 (fun _ => true) true m 4 [v1] = some y1 := f1
    obtain ⟨b1, a1, -⟩ := DataW.trod_bool (by kernel_rfl) f1
    obtain rfl : v1 = .bool b1 := (List.cons.inj a1).1
    have f2 := hf 2 (stF 90 2) rfl
    obtain ⟨y2, hy2⟩ : ∃ y, ys[2]? = some y := ⟨_, List.getElem?_eq_getElem (by rw [hlen]; decide)⟩
    rw [t2, o2, c2, hy2] at f2
    replace f2 : DataW.trod enc Tryz.prog W 0 (fun _ => true) true m 88 [v2, v3, v4, v5, v6, v7, v8, v9] = some y2 := f2
    obtain ⟨e2, x2, r2, p2, q2⟩ := (ih m (by omega)).1 _ _ f2
    have f3 := hf 3 (stF 90 3) rfl
    obtain ⟨y3, hy3⟩ : ∃ y, ys[3]? = some y := ⟨_, List.getElem?_eq_getElem (by rw [hlen]; decide)⟩
    rw [t3, o3, c3, hy3] at f3
    replace f3 : DataW.trod enc Tryz.prog W 0 (fun _ => true) true m 9 [v10] = some y3 := f3
    obtain ⟨s3, a3, -, w3⟩ := DataW.trod_string (by kernel_rfl) f3
    obtain rfl : v10 = .string s3 := (List.cons.inj a3).1
    have l3 := ba_len w3
    have q3 := dr_str (F := Fw W) s3
    obtain ⟨kind, vs, vb, vn, vl, vm, vi, vu⟩ := e2
    obtain ⟨zl, ls, zm, ms, rfl, hl2, hm2⟩ := r2
    exact ⟨.mk s0.data.toList b1 (.mk kind vs vb vn vl vm vi vu) s3.data.toList, .agg _, ⟨zl, ls, zm, ms, rfl, hl2, hm2⟩, ⟨⟨l0, l3, p2.1⟩, p2.2⟩, .cons (q0) (.cons (.bool _) (DRs_app q2 (.cons (q3) .nil)))⟩
theorem open_opt {fuel : Nat} {cs : List Value} {x : DataW H × List MemPlace} (h : DataW.trod enc Tryz.prog W 0 (fun _ => true) true fuel 42 cs = some x) : ∃ (e : Bool × Nat) (xd : D), xd = .agg [.bool e.1, .int .u64 e.2] ∧ e.2 < 2 ^ 64 ∧ DRs (Fw W) xd.cells cs := by
  have hu : Tryz.prog.underlying 42 = some (.struct #[stF 42 0, stF 42 1]) := by kernel_rfl
  have t0 : (stF 42 0).type = 4 := by kernel_rfl
  have o0 : (stF 42 0).offset = 0 := by kernel_rfl
  have c0 : Tryz.prog.cellsOf 4 = 1 := by kernel_rfl
  have t1 : (stF 42 1).type = 23 := by kernel_rfl
  have o1 : (stF 42 1).offset = 1 := by kernel_rfl
  have c1 : Tryz.prog.cellsOf 23 = 1 := by kernel_rfl
  have ca : Tryz.prog.cellsOf 42 = 2 := by kernel_rfl
  obtain ⟨ys, m, rfl, -, hl, hlen, hf⟩ := DataW.trod_struct hu h
  rw [ca] at hl
  obtain ⟨v0, v1, rfl⟩ : ∃ v0 v1, cs = [v0, v1] := by
    match cs, hl with
    | [v0, v1], _ => exact ⟨_, _, rfl⟩
  have f0 := hf 0 (stF 42 0) rfl
  obtain ⟨y0, hy0⟩ : ∃ y, ys[0]? = some y := ⟨_, List.getElem?_eq_getElem (by rw [hlen]; decide)⟩
  rw [t0, o0, c0, hy0] at f0
  replace f0 : DataW.trod enc Tryz.prog W 0 (fun _ => true) true m 4 [v0] = some y0 := f0
  obtain ⟨b0, a0, -⟩ := DataW.trod_bool (by kernel_rfl) f0
  obtain rfl : v0 = .bool b0 := (List.cons.inj a0).1
  have f1 := hf 1 (stF 42 1) rfl
  obtain ⟨y1, hy1⟩ : ∃ y, ys[1]? = some y := ⟨_, List.getElem?_eq_getElem (by rw [hlen]; decide)⟩
  rw [t1, o1, c1, hy1] at f1
  replace f1 : DataW.trod enc Tryz.prog W 0 (fun _ => true) true m 23 [v1] = some y1 := f1
  obtain ⟨n1, a1, -, w1⟩ := DataW.trod_int (k := .u64) (by kernel_rfl) f1
  obtain rfl : v1 = .int .u64 n1 := (List.cons.inj a1).1
  obtain ⟨lo1, hi1⟩ := u64_wf w1
  obtain ⟨n1, rfl⟩ : ∃ n : Nat, n1 = n := ⟨n1.toNat, by omega⟩
  exact ⟨(b0, n1), _, rfl, by show n1 < 2 ^ 64; omega, .cons (.bool _) (.cons (.int ..) .nil)⟩
theorem open_u64 (n : Nat) : ∀ cs x, DataW.trod enc Tryz.prog W 0 (fun _ => true) true n 23 cs = some x → ∃ (v : Nat) (xd : D), xd = uD v ∧ v < 2 ^ 64 ∧ DRs (Fw W) xd.cells cs := fun cs x h => by
  obtain ⟨m, a, -, w⟩ := DataW.trod_int (k := .u64) (by kernel_rfl) h
  obtain ⟨lo, hi⟩ := u64_wf w
  obtain ⟨m, rfl⟩ : ∃ k : Nat, m = k := ⟨m.toNat, by omega⟩
  subst a
  exact ⟨m, _, rfl, by omega, .cons (.int ..) .nil⟩
theorem u_of {vs : List Nat} {xs : List D} (h : RsOf (fun (v : Nat) (xd : D) => xd = uD v) vs xs) : xs = vs.map uD := by
  apply List.ext_getElem?
  intro i
  rcases Nat.lt_or_ge i vs.length with g | g
  · obtain ⟨v, hv⟩ : ∃ v, vs[i]? = some v := ⟨_, List.getElem?_eq_getElem g⟩
    obtain ⟨x, hx, rfl⟩ := h.2 i v hv
    rw [hx, List.getElem?_map, hv]; rfl
  · rw [List.getElem?_eq_none (by rw [h.1]; exact g), List.getElem?_eq_none (by simpa using g)]
end
end Go.Proofs.YthogjpjcidfoaaaGreatDoor
