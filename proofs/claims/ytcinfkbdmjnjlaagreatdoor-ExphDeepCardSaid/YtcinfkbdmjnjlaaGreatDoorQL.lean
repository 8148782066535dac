/- Exp: read, with more behind; read, and called so. -/
import Derived.Test.YtcinfkbdmjnjlaaGreatDoorQW
import Derived.Test.YtcinfkbdmjnjlaaGreatDoorX29
import Derived.Test.YtcinfkbdmjnjlaaGreatDoorR5
set_option linter.unusedSimpArgs false
set_option linter.unusedVariables false
set_option maxRecDepth 100000
namespace Go.Proofs.YtcinfkbdmjnjlaaGreatDoor
open Go Go.Abs
variable (B : Fr)
def Eh.setU (x : Eh) (u : List UInt8) : Eh := { x with u := u }
theorem Eh.takes : Takes tellEh Eh.setU Eh.u := by
  intro d l f h u
  unfold tellEh at h
  split at h
  · simp at h
  split at h
  · simp at h
  split at h
  · simp at h
  split at h
  · simp at h
  injection h with h
  subst h
  exact ⟨rfl, fun v => rfl⟩
variable {s w t : List UInt8} {d : Int} {x y : Eh}
theorem okEh_right (hw : mayU tbQ w d = true) (h : okEh s d = some x) : okEh (s ++ w) d = some (x.setU (x.u ++ w)) := apO_right Eh.takes hw h
theorem okEh_left (hw : mayU tbQ w d = true) (h : okEh s d = some x) : okEh (w ++ s) d = some (x.setU (w ++ x.u)) := apO_left Eh.takes hw h
theorem okEh_left_none (hw : 0 ≤ d → mayU tbQ w d = true) (h : okEh s d = none) : okEh (w ++ s) d = none := apO_left_none hw h
theorem okEh_pos (h : okEh s d = some x) : 0 ≤ d := apO_pos h
theorem okEh_bad {e : Er} (h : okEh s d = some x) (ht : all t d = .error e) : okEh (s ++ t) d = none ∧ readE (s ++ t) d = some (e.sh s.length) := apO_bad h ht
theorem okEh_app (hx : okEh s d = some x) (hy : okEh t d = some y) : ∃ z, okEh (s ++ t) d = some z ∧ z.u = x.u ++ y.u ∧ z.attrs = x.attrs ++ y.attrs ∧ z.exs = x.exs ++ y.exs ∧ (z.posH = (x.posH || y.posH) ∧ z.pos.u = x.pos.u ++ y.pos.u ∧ z.pos.cs = x.pos.cs ++ y.pos.cs) ∧ (z.negH = (x.negH || y.negH) ∧ z.neg.u = x.neg.u ++ y.neg.u ∧ z.neg.cs = x.neg.cs ++ y.neg.cs) ∧ (z.sumH = (x.sumH || y.sumH) ∧ (y.sumH = true → z.sum = y.sum)) ∧ (z.minH = (x.minH || y.minH) ∧ (y.minH = true → z.min = y.min)) ∧ (z.maxH = (x.maxH || y.maxH) ∧ (y.maxH = true → z.max = y.max)) := by
  obtain ⟨f, u, h1, rfl⟩ := apO_some hx
  obtain ⟨g, v, h2, rfl⟩ := apO_some hy
  obtain ⟨l1, l2, k1, k2, h3⟩ := okG_two h1 h2
  unfold tellEh at k1 k2
  split at k1
  · simp at k1
  rename_i attrs1 g1_attrs
  split at k1
  · simp at k1
  rename_i pos1 g1_pos
  split at k1
  · simp at k1
  rename_i neg1 g1_neg
  split at k1
  · simp at k1
  rename_i exs1 g1_exs
  split at k2
  · simp at k2
  rename_i attrs2 g2_attrs
  split at k2
  · simp at k2
  rename_i pos2 g2_pos
  split at k2
  · simp at k2
  rename_i neg2 g2_neg
  split at k2
  · simp at k2
  rename_i exs2 g2_exs
  injection k1 with k1
  injection k2 with k2
  subst k1
  subst k2
  obtain ⟨j_pos, i_pos, e_pos⟩ := sd_app g1_pos g2_pos
  obtain ⟨j_neg, i_neg, e_neg⟩ := sd_app g1_neg g2_neg
  refine ⟨?z, by unfold okEh; rw [h3]; unfold tellEh; simp only [partsO_app, g1_attrs, g2_attrs, i_pos, i_neg, g1_exs, g2_exs]; exact rfl, rfl, rfl, rfl, e_pos, e_neg, has_app (n := 5) (by omega) l1 l2, has_app (n := 12) (by omega) l1 l2, has_app (n := 13) (by omega) l1 l2⟩
theorem Eh_some (hB : BOk B) (hl : s.length < big) (hd1 : -9223372036854775808 ≤ d) (hd2 : d < 9223372036854775808) (h : okEh s d = some x) : CallsA (cx B) 12 [sT s, .d (.int .i64 d)] [] (.tup [.d x.d, .d .nili]) [] := by
  have := (Eh_read B hB s d hl hd1 hd2).1
  rw [h] at this; exact this
theorem Eh_noneE (hB : BOk B) (hl : s.length < big) (hd1 : -9223372036854775808 ≤ d) (hd2 : d < 9223372036854775808) (h : okEh s d = none) : ∃ e : Er, EIn s.length e ∧ CallsA (cx B) 12 [sT s, .d (.int .i64 d)] [] (.tup [.d noEh.d, .d e.d]) [] := by
  have := (Eh_read B hB s d hl hd1 hd2).1
  rw [h] at this; exact this
theorem Eh_none (hB : BOk B) (hl : s.length < big) (hd1 : -9223372036854775808 ≤ d) (hd2 : d < 9223372036854775808) (h : okEh s d = none) : ∃ T x, CallsA (cx B) 12 [sT s, .d (.int .i64 d)] [] (.tup [.d noEh.d, .d (.iface T x)]) [] := by
  obtain ⟨e, -, h1⟩ := Eh_noneE B hB hl hd1 hd2 h
  obtain ⟨T, x, hx⟩ := er_iface e
  rw [hx] at h1
  exact ⟨T, x, h1⟩
theorem Eh_err (hB : BOk B) {e : Er} (hl : s.length < big) (hd1 : -9223372036854775808 ≤ d) (hd2 : d < 9223372036854775808) (h : readE s d = some e) : CallsA (cx B) 12 [sT s, .d (.int .i64 d)] [] (.tup [.d noEh.d, .d e.d]) [] := (Eh_read B hB s d hl hd1 hd2).2 e h
theorem Eh_any (hB : BOk B) (hl : s.length < big) (hd1 : -9223372036854775808 ≤ d) (hd2 : d < 9223372036854775808) : ∃ (b : Eh) (y : D), CallsA (cx B) 12 [sT s, .d (.int .i64 d)] [] (.tup [.d b.d, .d y]) [] := by
  cases h : okEh s d with
  | some b => exact ⟨_, _, Eh_some B hB hl hd1 hd2 h⟩
  | none => obtain ⟨T, x, h⟩ := Eh_none B hB hl hd1 hd2 h; exact ⟨_, _, h⟩
theorem tbQ_5 (n : Nat) : tbQ n 5 = false := by simp [tbQ, Bool.cond_eq_ite]
theorem tbQ_x : tbQ 536870911 1 = false := by rfl
theorem tbQ_90 : tbQ 90 3 = false := by rfl
theorem okEh_len {s : List UInt8} {d : Int} {x : Eh} (h : okEh s d = some x) : x.u.length ≤ 1400 + 1400 * s.length := by
  have := (Eh_told _ _ _ h).2.2
  unfold Eh.sz at this; omega
theorem firstEh_calls (hB : BOk B) : CallsA (cx B) 11 [] [] (.d (.bool true)) [] := by
  have h1 := MarshalZ B false (-1) [1, 300] [] 0 (by omega) (by omega) (by decide) (by unfold big; decide) (by omega) (by omega)
  rw [if_pos (show mayB [] 0 = true by rfl), show marB (-1) [1, 300] [] = [8, 1, 18, 3, 1, 172, 2] by rfl] at h1
  have h2 := Eh_some B hB (s := [66, 0]) (d := 1) (x := ⟨[], 0, 0, 0, false, 0, false, 0, false, 0, 0, 0, true, noBk, false, noBk, [], 0, 0, []⟩) (by unfold big; decide) (by omega) (by omega) (by rfl)
  refine l_body (X := cx B) (fn := Tryz.f11) Tryz.func11 rfl rfl rfl rfl rfl 0 [] rfl rfl ?_
  refine walk ?_
  refine l_step (.buildSlice (es := [uD 1, uD 300]) rfl rfl rfl rfl rfl rfl (by intro x hx; simp at hx; rcases hx with rfl | rfl <;> rfl) (by simp) (by decide) (by decide)) rfl rfl ?_
  refine walk ?_
  refine l_call [] (h1) rfl rfl rfl rfl rfl rfl rfl (by decide) rfl rfl rfl rfl rfl ?_
  refine walk ?_
  refine l_call [] (h2) rfl rfl rfl rfl rfl rfl rfl (by decide) rfl rfl rfl rfl rfl ?_
  refine walk ?_
  exact l_end trivial (by decide) rfl rfl rfl rfl rfl
end Go.Proofs.YtcinfkbdmjnjlaaGreatDoor
