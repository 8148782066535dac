/- strings.Join with nothing between. -/
import Derived.Test.YtaenjdichndafaaGreatDoorW0
import Derived.Shelf.Strings.OnBuilder
set_option linter.unusedSimpArgs false
set_option linter.unusedVariables false
set_option maxRecDepth 100000
namespace Go.Proofs.YtaenjdichndafaaGreatDoor
open Go Go.Abs Go.Shelf
def j_ren : Go.Shelf.Ren := ⟨fun | 156 => 138 | 165 => 160 | 166 => 77 | 169 => 78 | 240 => 109 | 241 => 165 | 276 => 135 | 277 => 168 | n => n, fun | 0 => 0 | 3 => 3 | 4 => 4 | 9 => 9 | 20 => 20 | 31 => 133 | 37 => 96 | 70 => 95 | 72 => 98 | 75 => 28 | 76 => 126 | 127 => 168 | 164 => 144 | 5 => 5 | 80 => 108 | n => n, fun | n => n⟩
theorem j_lays : Go.Proofs.Lays.n156 Tryz.prog j_ren := {
  mixed := by kernel_rfl
  f156 := Tryz.func138.trans (congrArg some (by kernel_rfl))
  f165 := Tryz.func160.trans (congrArg some (by kernel_rfl))
  f166 := Tryz.func77.trans (congrArg some (by kernel_rfl))
  f169 := Tryz.func78.trans (congrArg some (by kernel_rfl))
  f240 := Tryz.func109.trans (congrArg some (by kernel_rfl))
  f241 := Tryz.func165.trans (congrArg some (by kernel_rfl))
  f276 := Tryz.func135.trans (congrArg some (by kernel_rfl))
  f277 := Tryz.func168.trans (congrArg some (by kernel_rfl))
  t0 := Tryz.underlying0
  a0 := Tryz.isAgg0
  z0 := Tryz.sizeOf0
  v0 := Tryz.zeroValue0
  t3 := Tryz.underlying3
  a3 := Tryz.isAgg3
  z3 := Tryz.sizeOf3
  v3 := Tryz.zeroValue3
  t4 := Tryz.underlying4
  a4 := Tryz.isAgg4
  z4 := Tryz.sizeOf4
  v4 := Tryz.zeroValue4
  t9 := Tryz.underlying9
  a9 := Tryz.isAgg9
  z9 := Tryz.sizeOf9
  v9 := Tryz.zeroValue9
  t20 := Tryz.underlying20
  a20 := Tryz.isAgg20
  z20 := Tryz.sizeOf20
  v20 := Tryz.zeroValue20
  t31 := Tryz.underlying133
  a31 := Tryz.isAgg133
  z31 := Tryz.sizeOf133
  v31 := Tryz.zeroValue133
  t37 := Tryz.underlying96
  a37 := Tryz.isAgg96
  z37 := Tryz.sizeOf96
  v37 := Tryz.zeroValue96
  t70 := Tryz.underlying95
  a70 := Tryz.isAgg95
  z70 := Tryz.sizeOf95
  v70 := Tryz.zeroValue95
  t72 := Tryz.underlying98
  a72 := Tryz.isAgg98
  z72 := Tryz.sizeOf98
  v72 := Tryz.zeroValue98
  t75 := Tryz.underlying28
  a75 := Tryz.isAgg28
  z75 := Tryz.sizeOf28
  v75 := Tryz.zeroValue28
  t76 := Tryz.underlying126
  a76 := Tryz.isAgg126
  z76 := Tryz.sizeOf126
  v76 := Tryz.zeroValue126
  t127 := Tryz.underlying168
  a127 := Tryz.isAgg168
  z127 := Tryz.sizeOf168
  v127 := Tryz.zeroValue168
  t164 := Tryz.underlying144
  a164 := Tryz.isAgg144
  z164 := Tryz.sizeOf144
  v164 := Tryz.zeroValue144 }
theorem j_extra : Go.Proofs.Builder.Extra Tryz.prog j_ren := {
  sizeBuilder := by kernel_rfl
  liesBuilder := by kernel_rfl
  t5 := Tryz.underlying5
  a5 := Tryz.isAgg5
  z5 := Tryz.sizeOf5
  v5 := Tryz.zeroValue5
  infoByte := by kernel_rfl
  cellsByte := by kernel_rfl
  sizeByte := by kernel_rfl
  neB5 := by decide }
theorem below_more {w w' : World} (h : Go.RowKit.Below w.heap.size w w') : More w w' := ⟨h.size, h.os, h.tape, h.output, h.block⟩
theorem join_flat : ∀ l : List (List UInt8), Lib.join l [] = l.flatten
  | [] => rfl
  | [x] => by rw [Lib.join_one]; simp
  | x :: y :: l => by
    rw [Lib.join_cons]
    unfold Lib.joinTail
    simp
theorem strs_cells {F : Fr} : ∀ {l : List (List UInt8)} {vs : List Value}, DRe F 1 (l.map D.str) vs → vs = l.map fun s => Value.string ⟨s.toArray⟩
  | [], _, h => by cases h; rfl
  | s :: l, _, h => by
    cases h with
    | cons h1 h2 h3 =>
    rename_i a b
    have e := strs_cells h3
    cases h1 with
    | cons h4 h5 =>
    cases h5
    rw [e, h4.inv_str]; rfl
variable (B : Fr)
theorem Join_calls (l : List (List UInt8)) (hl : l.flatten.length < big) (hn : l.length < big) : CallsA (cx B) 138 [.d (slD (l.map D.str)), sT []] [] (sT l.flatten) [] := by
  unfold big at hl hn
  refine ⟨⟨Tryz.f138, Tryz.func138, rfl, rfl⟩, fun F ρ w vs hwr hvs hnt hb => ?_⟩
  cases hvs with
  | cons hp hr =>
  cases hr with
  | cons hq hr =>
  cases hr
  obtain rfl := hq.inv_str
  have fin : ∀ v, Calls (cx B).P 138 #[v, .string ⟨#[]⟩] w (fun e w' => e = .returned (.string ⟨l.flatten.toArray⟩) ∧ More w w') → Calls (cx B).P 138 #[v, .string ⟨#[]⟩] w (Post F ρ w (sT l.flatten) []) := by
    intro v hc
    refine hc.mono fun e w' ⟨he, hm⟩ => ?_
    have h1 : WR F ρ w' ([] ++ []) := hwr.more hm (Sub.refl F) (fun _ _ _ => rfl) (fun _ _ => rfl) (fun b off v hb e => absurd (lt_of_cell (hwr.fix b off v e)) (by omega)) (fun b hb => Nat.lt_of_lt_of_le (hwr.lt b hb) hm.size)
      (fun b i hb e => absurd (hwr.lt b (by rw [e]; simp)) (by omega))
    exact ⟨_, F, ρ, he, h1, .d (.str _), Ext.more hwr hm (Sub.refl F) (fun _ _ _ => rfl) (fun _ _ => rfl), hnt⟩
  have hp := hp.inv_d
  rcases l with _ | ⟨s, l⟩
  · cases hp
    refine fin _ ((Any.strings_Join_none j_lays j_extra none 0 .empty w).mono ?_)
    rintro e w' ⟨rfl, rfl⟩
    exact ⟨rfl, ⟨Nat.le_refl _, rfl, rfl, rfl, fun _ _ => rfl⟩⟩
  · cases hp with
    | sl he hA hc =>
    rename_i vs b off cap sz
    have hsz : sz = 1 := by
      rw [List.map_cons] at he
      cases he with
      | cons h1 h2 h3 =>
      have := h1.length
      rw [← h2, ← this]; rfl
    subst hsz
    obtain rfl := strs_cells he
    have hcell : ∀ (j : Nat) (x : List UInt8), (s :: l)[j]? = some x → w.cell? ⟨b, off + j, none⟩ = some (.string ⟨x.toArray⟩) := fun j x hx => hwr.fix _ _ _ (hA j _ (by rw [List.getElem?_map, hx]; rfl))
    have hj := Any.strings_Join j_lays j_extra b off cap ((s :: l).map fun s => ⟨s.toArray⟩) .empty w (fun j x hx => by
      rw [List.getElem?_map] at hx
      cases hy : (s :: l)[j]? with
      | none => rw [hy] at hx; simp at hx
      | some y => rw [hy] at hx; simp at hx; rw [← hx]; exact hcell j y hy) (lt_of_cell (hcell 0 s rfl)) (by simp at hn ⊢; omega) (by simpa using hc)
      (by
        rw [List.map_map]
        have e : ((s :: l).map ((fun b : ByteArray => b.data.toList) ∘ fun s : List UInt8 => (⟨s.toArray⟩ : ByteArray))) = s :: l := by
          have : ((fun b : ByteArray => b.data.toList) ∘ fun s : List UInt8 => (⟨s.toArray⟩ : ByteArray)) = id := by funext x; simp
          rw [this]; simp
        rw [e]
        show (Lib.join (s :: l) []).length ≤ _
        rw [join_flat]; omega)
    have e : (((s :: l).map fun s : List UInt8 => (⟨s.toArray⟩ : ByteArray)).map (·.data.toList)) = s :: l := by
      rw [List.map_map]
      have : ((fun b : ByteArray => b.data.toList) ∘ fun s : List UInt8 => (⟨s.toArray⟩ : ByteArray)) = id := by funext x; simp
      rw [this]; simp
    rw [e, List.length_map] at hj
    rw [List.length_map]
    refine fin _ (hj.mono fun e w' ⟨he, hm⟩ => ⟨?_, below_more hm⟩)
    rw [he]
    show Ending.returned (.string ⟨(Lib.join (s :: l) []).toArray⟩) = _
    rw [join_flat]
end Go.Proofs.YtaenjdichndafaaGreatDoor
