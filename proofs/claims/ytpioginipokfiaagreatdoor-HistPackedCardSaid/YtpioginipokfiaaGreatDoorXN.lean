/- Arguments: values and attributes, as deep as they go. -/
import Derived.Test.YtpioginipokfiaaGreatDoorXM0
import Derived.Test.YtpioginipokfiaaGreatDoorRV
import Derived.Deep.Strs
import Derived.ChangeSlices
import Derived.ChangeArms
set_option linter.unusedSimpArgs false
set_option linter.unusedVariables false
set_option maxRecDepth 100000
namespace Go.Proofs.YtpioginipokfiaaGreatDoor
open Go Go.Abs Go.ChangeShapes Go.WideShapes Go.RowKit
def Fw (W : World) : Fr := fun b off => W.cell? ⟨b, off, none⟩
section
variable {H : Type} {enc : TypeId × Value → H} {W : World}
theorem cells_get {base n : Nat} {a : Addr} {cs : List Value} (h : W.cells? base a n = some cs) : cs.length = n ∧ ∀ j, j < n → W.cell? (a.add j) = cs[j]? := by
 unfold World.cells? at h
 split at h
 ·refine ⟨by simpa using mapM_some_length h, fun j hj => ?_⟩
  exact mapM_some_get h j j (by simp [hj])
 ·simp at h
theorem open_elems {α : Type} {R : α → D → Prop} {Fine : α → Prop} {t e : TypeId} {k fuel : Nat} {cs : List Value} {x : DataW H × List MemPlace} (ht : Tryz.prog.underlying t = some (.slice e)) (hk : Tryz.prog.cellsOf e = k) (hk0 : 0 < k) (h : DataW.trod enc Tryz.prog W 0 (fun _ => true) true fuel t cs = some x)
  (el : ∀ n, n < fuel → ∀ cs' y, DataW.trod enc Tryz.prog W 0 (fun _ => true) true n e cs' = some y → ∃ v xd, R v xd ∧ Fine v ∧ DRs (Fw W) xd.cells cs') :
  ∃ (c : Value) (z : Bool) (vs : List α) (xs : List D), cs = [c] ∧ RsOf R vs xs ∧ (∀ v ∈ vs, Fine v) ∧ vs.length ≤ 9223372036854775807 ∧ DR (Fw W) (.sl z xs) c := by
 have hmax : maxLen = 2 ^ 63 - 1 := rfl
 rcases DataW.trod_slice ht h with ⟨rfl, -⟩ | ⟨a, len, cap, elems, rest, n, rfl, rfl, -, -, hlc, hcm, hlen, hel, -, -⟩
 ·exact ⟨_, true, [], [], rfl, RsOf.nil R, by simp, by simp, .nils⟩
 ·rcases Nat.eq_zero_or_pos len with rfl | hpos
  ·exact ⟨_, false, [], [], rfl, RsOf.nil R, by simp, by simp, .void⟩
  ·have each : ∀ i, i < len → ∃ cs' v xd, W.cells? 0 (a.add (i * k)) k = some cs' ∧ R v xd ∧ Fine v ∧ DRs (Fw W) xd.cells cs' := by
    intro i hi
    have h1 := hel i hi
    rw [hk] at h1
    obtain ⟨y, hy⟩ : ∃ y, elems[i]? = some y := ⟨_, List.getElem?_eq_getElem (by omega)⟩
    rw [hy, Option.bind_eq_some_iff] at h1
    obtain ⟨cs', c1, c2⟩ := h1
    obtain ⟨v, xd, r1, r2, r3⟩ := el n (by omega) cs' y c2
    exact ⟨cs', v, xd, c1, r1, r2, r3⟩
   have hsp : a.spot = none := by
    obtain ⟨cs', v, xd, c1, -⟩ := each 0 hpos
    obtain ⟨l1, l2⟩ := cells_get c1
    have h0 := l2 0 hk0
    rw [Nat.zero_mul] at h0
    obtain ⟨y, hy⟩ : ∃ y, cs'[0]? = some y := ⟨_, List.getElem?_eq_getElem (by omega)⟩
    rw [hy] at h0
    have h0 : W.cell? a = some y := h0
    unfold World.cell? at h0
    split at h0
    ·cases hs : a.spot with
     | none => rfl
     | some _ => rw [hs] at h0; simp at h0
    ·simp at h0
   obtain ⟨b, off, spot⟩ := a
   obtain rfl : spot = none := hsp
   have key : ∀ r, r ≤ len → ∃ (vs : List α) (xs : List D) (ws : List Value), vs.length = r ∧ RsOf R vs xs ∧ (∀ v ∈ vs, Fine v) ∧ DRe (Fw W) k xs ws ∧ ∀ j w, ws[j]? = some w → W.cell? ⟨b, off + (len - r) * k + j, none⟩ = some w := by
    intro r
    induction r with
    | zero => exact fun _ => ⟨[], [], [], rfl, RsOf.nil R, by simp, .nil, by simp⟩
    | succ r ih =>
     intro hr
     obtain ⟨vs, xs, ws, h1, h2, h3, h4, h5⟩ := ih (by omega)
     obtain ⟨cs', v, xd, c1, r1, r2, r3⟩ := each (len - (r + 1)) (by omega)
     obtain ⟨l1, l2⟩ := cells_get c1
     refine ⟨v :: vs, xd :: xs, cs' ++ ws, by simp [h1], ⟨by simp [h2.1], fun i u hu => ?_⟩, fun u hu => ?_, DRe.cons r3 l1 h4, fun j w hj => ?_⟩
     ·cases i with
      | zero => simp at hu; subst hu; exact ⟨xd, rfl, r1⟩
      | succ i => simp at hu ⊢; exact h2.2 i u hu
     ·rcases List.mem_cons.1 hu with rfl | hu
      ·exact r2
      ·exact h3 u hu
     ·by_cases hjk : j < k
      ·rw [List.getElem?_append_left (by omega)] at hj
       have h6 := l2 j hjk
       rw [hj, k'y, k'y] at h6
       exact h6
      ·rw [List.getElem?_append_right (by omega), l1] at hj
       have h6 := h5 (j - k) w hj
       rw [show off + (len - (r + 1)) * k + j = off + (len - r) * k + (j - k) by
        rw [show len - r = (len - (r + 1)) + 1 by omega, Nat.add_mul]; omega]
       exact h6
   obtain ⟨vs, xs, ws, h1, h2, h3, h4, h5⟩ := key len (Nat.le_refl _)
   refine ⟨_, false, vs, xs, rfl, h2, h3, by omega, ?_⟩
   have hq := DR.sl (F := Fw W) (cap := cap) (b := b) (off := off) h4 (fun j w hj => by have := h5 j w hj; rw [Nat.sub_self, Nat.zero_mul, Nat.add_zero] at this; exact this) (by rw [h2.1, h1]; exact hlc)
   rw [h2.1, h1] at hq
   exact hq
section
variable {fs : Array Field} {m : Nat} {cs : List Value} {ys : List (DataW H × List MemPlace)} (hlen : ys.length = fs.size) (hf : ∀ (i : Nat) (f : Field), fs[i]? = some f → DataW.trod enc Tryz.prog W 0 (fun _ => true) true m f.type ((cs.drop f.offset).take (Tryz.prog.cellsOf f.type)) = ys[i]?) (j : Nat) {f : Field} (hj : fs[j]? = some f) {X : TypeId} {off c : Nat} (h : (f.type, f.offset, Tryz.prog.cellsOf f.type) = (X, off, c))
include hlen hf hj h
theorem fld : ∃ y, DataW.trod enc Tryz.prog W 0 (fun _ => true) true m X ((cs.drop off).take c) = some y := by
 simp only [Prod.mk.injEq] at h
 obtain ⟨rfl, rfl, rfl⟩ := h
 obtain ⟨y, hy⟩ : ∃ y, ys[j]? = some y := ⟨_, List.getElem?_eq_getElem (by rw [hlen]; exact (Array.getElem?_eq_some_iff.1 hj).1)⟩
 exact ⟨y, (hf j f hj).trans hy⟩
end
theorem open_u64 (n : Nat) : ∀ cs x, DataW.trod enc Tryz.prog W 0 (fun _ => true) true n 29 cs = some x → ∃ (v : Nat) (xd : D), xd = uD v ∧ v < 2 ^ 64 ∧ DRs (Fw W) xd.cells cs := fun cs x h => by
 obtain ⟨m, a, -, w⟩ := DataW.trod_int (k := .u64) (by kernel_rfl) h
 obtain ⟨lo, hi⟩ := u64_wf w
 obtain ⟨m, rfl⟩ : ∃ k : Nat, m = k := ⟨m.toNat, by omega⟩
 subst a
 exact ⟨m, _, rfl, by omega, .cons (.int ..) .nil⟩
theorem u_of {vs : List Nat} {xs : List D} (h : RsOf (fun (v : Nat) (xd : D) => xd = uD v) vs xs) : xs = vs.map uD := by
 apply List.ext_getElem?
 intro i
 rcases Nat.lt_or_ge i vs.length with g | g
 ·obtain ⟨v, hv⟩ : ∃ v, vs[i]? = some v := ⟨_, List.getElem?_eq_getElem g⟩
  obtain ⟨x, hx, rfl⟩ := h.2 i v hv
  rw [hx, List.getElem?_map, hv]; rfl
 ·rw [List.getElem?_eq_none (by rw [h.1]; exact g), List.getElem?_eq_none (by simpa using g)]
end
