/- Arguments that are buckets. -/
import Derived.Test.YtfbckigcelmopaaGreatDoorXL
import Derived.Test.YtfbckigcelmopaaGreatDoorXG2
import Derived.Deep.Strs
import Derived.ChangeSlices
set_option linter.unusedSimpArgs false
set_option linter.unusedVariables false
set_option maxRecDepth 100000
namespace Go.Proofs.YtfbckigcelmopaaGreatDoor
open Go Go.Abs Go.ChangeShapes Go.WideShapes Go.RowKit
def noField : Field := { name := "", type := 0, offset := 0, embedded := false, tag := "", pkgPath := "", byteOffset := 0 }
/-- A struct's field. -/
noncomputable def stF (t i : Nat) : Field :=
  match Tryz.prog.underlying t with
  | some (.struct fs) => (fs[i]?).getD noField
  | _ => noField
theorem u64_wf {n : Int} (h : (Lit.int .u64 n).wf = true) : 0 ≤ n ∧ n < 18446744073709551616 := by
  simp only [Lit.wf, Bool.and_eq_true, decide_eq_true_eq] at h
  have h1 : IntKind.u64.min = 0 := by decide
  have h2 : IntKind.u64.max = 18446744073709551615 := by decide
  rw [h1, h2] at h
  omega
theorem i32_wf {n : Int} (h : (Lit.int .i32 n).wf = true) : -2147483648 ≤ n ∧ n < 2147483648 := by
  simp only [Lit.wf, Bool.and_eq_true, decide_eq_true_eq] at h
  have h1 : IntKind.i32.min = -2147483648 := by decide
  have h2 : IntKind.i32.max = 2147483647 := by decide
  rw [h1, h2] at h
  omega
/-- Numbers as they stand in memory. -/
theorem dre_nums {F : Fr} : ∀ (ns : List Nat), DRe F 1 (ns.map uD) (ns.map fun n : Nat => Value.int .u64 (n : Int))
  | [] => .nil
  | n :: ns => DRe.cons (e := uD n) (vs := [.int .u64 n]) (.cons (.int ..) .nil) rfl (dre_nums ns)
theorem bk_cells : Tryz.prog.cellTypes Tryz.prog.depth 25 = some [21, 23, 9] := by kernel_rfl
section
variable {H : Type} {enc : TypeId × Value → H}
theorem open_B {W : World} {base : Nat} {v : Value} {d : DataW H} {p : List MemPlace} (hval : Value.okWide Tryz.prog W .any base 25 v) (h : DataW.Trod enc Tryz.prog W 0 (fun _ => true) true 25 v d p) :
    ∃ (z : Bool) (o : Int) (cs : List Nat) (u : List UInt8), DR (fun b off => W.cell? ⟨b, off, none⟩) (bkZ z o cs u) v ∧ (-2147483648 ≤ o ∧ o < 2147483648) ∧ (∀ n ∈ cs, n < 2 ^ 64) ∧ cs.length ≤ 9223372036854775807 ∧ u.length ≤ 9223372036854775807 := by
  have hu : Tryz.prog.underlying 25 = some (.struct #[stF 25 0, stF 25 1, stF 25 2]) := by kernel_rfl
  have t0 : (stF 25 0).type = 21 := by kernel_rfl
  have t1 : (stF 25 1).type = 23 := by kernel_rfl
  have t2 : (stF 25 2).type = 9 := by kernel_rfl
  have o0 : (stF 25 0).offset = 0 := by kernel_rfl
  have o1 : (stF 25 1).offset = 1 := by kernel_rfl
  have o2 : (stF 25 2).offset = 2 := by kernel_rfl
  have c0 : Tryz.prog.cellsOf 21 = 1 := by kernel_rfl
  have c1 : Tryz.prog.cellsOf 23 = 1 := by kernel_rfl
  have c2 : Tryz.prog.cellsOf 9 = 1 := by kernel_rfl
  have c3 : Tryz.prog.cellsOf 25 = 3 := by kernel_rfl
  have hv2 : ∃ cs, v = .agg cs ∧ cs.size = 3 ∧ Row.okWide Tryz.prog W .any base 25 cs := by
    unfold Value.okWide at hval
    rw [hu] at hval
    obtain ⟨cs, a, b, c⟩ := hval
    exact ⟨cs, a, b.trans c3, c⟩
  obtain ⟨⟨cs⟩, rfl, hsz, hrow⟩ := hv2
  match cs, hsz with
  | [v0, v1, v2], _ =>
    obtain ⟨fuel, hf⟩ := h
    obtain ⟨y0, y1, y2, n, -, -, h0, h1, h2⟩ := Go.Deep.trod_struct3 hu hf
    rw [t0, o0, c0] at h0
    rw [t1, o1, c1] at h1
    rw [t2, o2, c2] at h2
    have e0 : ((Value.agg ⟨[v0, v1, v2]⟩).cells.toList.drop 0).take 1 = [v0] := rfl
    have e1 : ((Value.agg ⟨[v0, v1, v2]⟩).cells.toList.drop 1).take 1 = [v1] := rfl
    have e2 : ((Value.agg ⟨[v0, v1, v2]⟩).cells.toList.drop 2).take 1 = [v2] := rfl
    rw [e0] at h0
    rw [e1] at h1
    rw [e2] at h2
    obtain ⟨o, a1, -, ow⟩ := DataW.trod_int (k := .i32) (by kernel_rfl) h0
    obtain ⟨s, a2, -, sw⟩ := DataW.trod_string (by kernel_rfl) h2
    obtain rfl : v0 = .int .i32 o := (List.cons.inj a1).1
    obtain rfl : v2 = .string s := (List.cons.inj a2).1
    have hs := dr_str (F := fun b off => W.cell? ⟨b, off, none⟩) s
    have hsl := ba_len sw
    rcases open_ints (e := 46) (k := .u64) (by kernel_rfl) (by kernel_rfl) (by kernel_rfl) h1 with ⟨a3, -⟩ | ⟨a, len, cap, zs, a3, -, hlc, hcm, hzl, -, hcell, hwf⟩
    · obtain rfl : v1 = .slice none 0 0 := (List.cons.inj a3).1
      exact ⟨true, o, [], s.data.toList, .agg (.cons (.int ..) (.cons .nils (.cons hs .nil))), i32_wf ow, by simp, by simp, hsl⟩
    · obtain rfl : v1 = .slice (some a) len cap := (List.cons.inj a3).1
      have hsp : a.spot = none := by
        obtain ⟨ts, hts, -, hall⟩ := hrow
        rw [bk_cells] at hts
        injection hts with hts
        subst hts
        obtain ⟨u, hu1, hu2⟩ := hall 1 (.slice (some a) len cap) rfl
        obtain rfl : u = 23 := (Option.some.inj hu1).symm
        have hus : Tryz.prog.underlying 23 = some (.slice 46) := by kernel_rfl
        simp only [Cell.okWide, hus, Cell.ok] at hu2
        exact hu2.2.2.2.1
      obtain ⟨b, off, spot⟩ := a
      obtain rfl : spot = none := hsp
      rw [if_pos rfl] at hzl
      have hnn : ∀ x ∈ zs, 0 ≤ x ∧ x < 18446744073709551616 := fun x hx => u64_wf (hwf x hx)
      have htk : (zs.take len).length = len := by simp; omega
      refine ⟨false, o, (zs.take len).map Int.toNat, s.data.toList, .agg (.cons (.int ..) (.cons ?_ (.cons hs .nil))), i32_wf ow, ?_, ?_, hsl⟩
      · have hq := DR.sl (F := fun b off => W.cell? ⟨b, off, none⟩) (cap := cap) (b := b) (off := off) (dre_nums ((zs.take len).map Int.toNat)) ?_ (by simp; omega)
        · rw [List.length_map, List.length_map, htk] at hq; exact hq
        · intro j w hj
          rw [List.getElem?_map, List.getElem?_map] at hj
          cases hz : (zs.take len)[j]? with
          | none => rw [hz] at hj; simp at hj
          | some x =>
            rw [hz] at hj
            simp only [Option.map_some, Option.some.injEq] at hj
            subst hj
            have hjl : j < len := by have := (List.getElem?_eq_some_iff.1 hz).1; omega
            have hz2 : zs[j]? = some x := by rw [List.getElem?_take_of_lt hjl] at hz; exact hz
            have hx := hnn x (List.mem_of_getElem? hz2)
            have hc := hcell j (by omega)
            rw [List.getD_eq_getElem?_getD, hz2] at hc
            have ha : (⟨b, off, none⟩ : Addr).add j = ⟨b, off + j, none⟩ := by unfold Addr.add; split <;> simp_all
            rw [ha] at hc
            show W.cell? ⟨b, off + j, none⟩ = _
            rw [hc]
            simp only [Option.getD_some]
            rw [Int.toNat_of_nonneg hx.1]
      · intro m hm
        obtain ⟨x, hx, rfl⟩ := List.mem_map.1 hm
        have := hnn x (List.mem_of_mem_take hx)
        omega
      · simp only [List.length_map, htk]
        have : maxLen = 2 ^ 63 - 1 := rfl
        omega
end
end Go.Proofs.YtfbckigcelmopaaGreatDoor
