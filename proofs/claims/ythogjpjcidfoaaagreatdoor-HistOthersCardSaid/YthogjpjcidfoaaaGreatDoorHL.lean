/- Hist: read, with more behind; read, and called so. -/
import Derived.Test.YthogjpjcidfoaaaGreatDoorHW
import Derived.Test.YthogjpjcidfoaaaGreatDoorX29
import Derived.Test.YthogjpjcidfoaaaGreatDoorR5
set_option linter.unusedSimpArgs false
set_option linter.unusedVariables false
set_option maxRecDepth 100000
namespace Go.Proofs.YthogjpjcidfoaaaGreatDoor
open Go Go.Abs
variable (B : Fr)
def Hi.setU (x : Hi) (u : List UInt8) : Hi := { x with u := u }
theorem Hi.takes : Takes tellHi Hi.setU Hi.u := by
  intro d l f h u
  unfold tellHi at h
  split at h
  · simp at h
  split at h
  · simp at h
  split at h
  · simp at h
  split at h
  · simp at h
  injection h with h
  subst h
  exact ⟨rfl, fun v => rfl⟩
variable {s w t : List UInt8} {d : Int} {x y : Hi}
theorem okHi_right (hw : mayU tbH w d = true) (h : okHi s d = some x) : okHi (s ++ w) d = some (x.setU (x.u ++ w)) := apO_right Hi.takes hw h
theorem okHi_left (hw : mayU tbH w d = true) (h : okHi s d = some x) : okHi (w ++ s) d = some (x.setU (w ++ x.u)) := apO_left Hi.takes hw h
theorem okHi_left_none (hw : 0 ≤ d → mayU tbH w d = true) (h : okHi s d = none) : okHi (w ++ s) d = none := apO_left_none hw h
theorem okHi_pos (h : okHi s d = some x) : 0 ≤ d := apO_pos h
theorem okHi_bad {e : Er} (h : okHi s d = some x) (ht : all t d = .error e) : okHi (s ++ t) d = none ∧ readE (s ++ t) d = some (e.sh s.length) := apO_bad h ht
theorem okHi_app (hx : okHi s d = some x) (hy : okHi t d = some y) : ∃ z, okHi (s ++ t) d = some z ∧ z.u = x.u ++ y.u ∧ z.attrs = x.attrs ++ y.attrs ∧ z.counts = x.counts ++ y.counts ∧ z.bounds = x.bounds ++ y.bounds ∧ z.exs = x.exs ++ y.exs ∧ (z.sumH = (x.sumH || y.sumH) ∧ (y.sumH = true → z.sum = y.sum)) ∧ (z.minH = (x.minH || y.minH) ∧ (y.minH = true → z.min = y.min)) ∧ (z.maxH = (x.maxH || y.maxH) ∧ (y.maxH = true → z.max = y.max)) := by
  obtain ⟨f, u, h1, rfl⟩ := apO_some hx
  obtain ⟨g, v, h2, rfl⟩ := apO_some hy
  obtain ⟨l1, l2, k1, k2, h3⟩ := okG_two h1 h2
  unfold tellHi at k1 k2
  split at k1
  · simp at k1
  rename_i attrs1 g1_attrs
  split at k1
  · simp at k1
  rename_i counts1 g1_counts
  split at k1
  · simp at k1
  rename_i bounds1 g1_bounds
  split at k1
  · simp at k1
  rename_i exs1 g1_exs
  split at k2
  · simp at k2
  rename_i attrs2 g2_attrs
  split at k2
  · simp at k2
  rename_i counts2 g2_counts
  split at k2
  · simp at k2
  rename_i bounds2 g2_bounds
  split at k2
  · simp at k2
  rename_i exs2 g2_exs
  injection k1 with k1
  injection k2 with k2
  subst k1
  subst k2
  refine ⟨?z, by unfold okHi; rw [h3]; unfold tellHi; simp only [partsO_app, g1_attrs, g2_attrs, packO_app g1_counts g2_counts, packO_app g1_bounds g2_bounds, g1_exs, g2_exs]; exact rfl, rfl, rfl, rfl, rfl, rfl, has_app (n := 5) (by omega) l1 l2, has_app (n := 11) (by omega) l1 l2, has_app (n := 12) (by omega) l1 l2⟩
theorem Hi_some (hB : BOk B) (hl : s.length < big) (hd1 : -9223372036854775808 ≤ d) (hd2 : d < 9223372036854775808) (h : okHi s d = some x) : CallsA (cx B) 20 [sT s, .d (.int .i64 d)] [] (.tup [.d x.d, .d .nili]) [] := by
  have := (Hi_read B hB s d hl hd1 hd2).1
  rw [h] at this; exact this
theorem Hi_noneE (hB : BOk B) (hl : s.length < big) (hd1 : -9223372036854775808 ≤ d) (hd2 : d < 9223372036854775808) (h : okHi s d = none) : ∃ e : Er, EIn s.length e ∧ CallsA (cx B) 20 [sT s, .d (.int .i64 d)] [] (.tup [.d noHi.d, .d e.d]) [] := by
  have := (Hi_read B hB s d hl hd1 hd2).1
  rw [h] at this; exact this
theorem Hi_none (hB : BOk B) (hl : s.length < big) (hd1 : -9223372036854775808 ≤ d) (hd2 : d < 9223372036854775808) (h : okHi s d = none) : ∃ T x, CallsA (cx B) 20 [sT s, .d (.int .i64 d)] [] (.tup [.d noHi.d, .d (.iface T x)]) [] := by
  obtain ⟨e, -, h1⟩ := Hi_noneE B hB hl hd1 hd2 h
  obtain ⟨T, x, hx⟩ := er_iface e
  rw [hx] at h1
  exact ⟨T, x, h1⟩
theorem Hi_err (hB : BOk B) {e : Er} (hl : s.length < big) (hd1 : -9223372036854775808 ≤ d) (hd2 : d < 9223372036854775808) (h : readE s d = some e) : CallsA (cx B) 20 [sT s, .d (.int .i64 d)] [] (.tup [.d noHi.d, .d e.d]) [] := (Hi_read B hB s d hl hd1 hd2).2 e h
theorem Hi_any (hB : BOk B) (hl : s.length < big) (hd1 : -9223372036854775808 ≤ d) (hd2 : d < 9223372036854775808) : ∃ (b : Hi) (y : D), CallsA (cx B) 20 [sT s, .d (.int .i64 d)] [] (.tup [.d b.d, .d y]) [] := by
  cases h : okHi s d with
  | some b => exact ⟨_, _, Hi_some B hB hl hd1 hd2 h⟩
  | none => obtain ⟨T, x, h⟩ := Hi_none B hB hl hd1 hd2 h; exact ⟨_, _, h⟩
theorem tbH_5 (n : Nat) : tbH n 5 = false := by simp [tbH, Bool.cond_eq_ite]
theorem tbH_x : tbH 536870911 1 = false := by rfl
theorem tbH_90 : tbH 90 3 = false := by rfl
theorem okHi_len {s : List UInt8} {d : Int} {x : Hi} (h : okHi s d = some x) : x.u.length ≤ 1200 + 1200 * s.length := by
  have := (Hi_told _ _ _ h).2.2
  unfold Hi.sz at this; omega
theorem firstHi_calls (hB : BOk B) : CallsA (cx B) 18 [] [] (.d (.bool true)) [] := by
  have h1 := Hi_Marshal_calls B ⟨[], 0, 0, 0, true, 0, false, 0, false, 0, [], [], [], 0, []⟩ _ 0 (by unfold big; decide) ⟨by simp, by decide, by decide, by decide, by decide, by decide, by decide, by simp, by simp, by simp, by decide⟩ (Hi.d_R _) (by omega) (by omega)
  rw [if_pos (show Hi.may ⟨[], 0, 0, 0, true, 0, false, 0, false, 0, [], [], [], 0, []⟩ 0 = true by rfl), show Hi.mar ⟨[], 0, 0, 0, true, 0, false, 0, false, 0, [], [], [], 0, []⟩ = [41, 0, 0, 0, 0, 0, 0, 0, 0] by rfl] at h1
  have h2 := Hi_some B hB (s := [49, 7, 0, 0, 0, 0, 0, 0, 0]) (d := 0) (x := ⟨[], 0, 0, 0, false, 0, false, 0, false, 0, [7], [], [], 0, []⟩) (by unfold big; decide) (by omega) (by omega) (by rfl)
  refine l_body (X := cx B) (fn := Tryz.f18) Tryz.func18 rfl rfl rfl rfl rfl 0 [] rfl rfl ?_
  refine walk ?_
  refine l_call [] (h1) rfl rfl rfl rfl rfl rfl rfl (by decide) rfl rfl rfl rfl rfl ?_
  refine walk ?_
  refine l_call [] (h2) rfl rfl rfl rfl rfl rfl rfl (by decide) rfl rfl rfl rfl rfl ?_
  refine walk ?_
  refine l_stepG (.indexAddr (k := .i64) (n := 0) (es := [uD 7]) (u := uD 7) rfl rfl rfl rfl (.inl ⟨_, rfl⟩) rfl (by omega) rfl rfl (by decide)) rfl rfl rfl rfl ?_
  refine walk ?_
  exact l_end trivial (by decide) rfl rfl rfl rfl rfl
end Go.Proofs.YthogjpjcidfoaaaGreatDoor
