/- Number: read, with more behind; read, and called so. -/
import Derived.Test.YtoihfgdjmeeelaaGreatDoorNW
import Derived.Test.YtoihfgdjmeeelaaGreatDoorX29
import Derived.Test.YtoihfgdjmeeelaaGreatDoorR5
set_option linter.unusedSimpArgs false
set_option linter.unusedVariables false
set_option maxRecDepth 100000
namespace Go.Proofs.YtoihfgdjmeeelaaGreatDoor
open Go Go.Abs
variable (B : Fr)
def Nb.setU (x : Nb) (u : List UInt8) : Nb := { x with u := u }
theorem Nb.takes : Takes tellNb Nb.setU Nb.u := by
  intro d l f h u
  unfold tellNb at h
  split at h
  · simp at h
  split at h
  · simp at h
  injection h with h
  subst h
  exact ⟨rfl, fun v => rfl⟩
variable {s w t : List UInt8} {d : Int} {x y : Nb}
theorem okNb_right (hw : mayU tbN w d = true) (h : okNb s d = some x) : okNb (s ++ w) d = some (x.setU (x.u ++ w)) := apO_right Nb.takes hw h
theorem okNb_left (hw : mayU tbN w d = true) (h : okNb s d = some x) : okNb (w ++ s) d = some (x.setU (w ++ x.u)) := apO_left Nb.takes hw h
theorem okNb_left_none (hw : 0 ≤ d → mayU tbN w d = true) (h : okNb s d = none) : okNb (w ++ s) d = none := apO_left_none hw h
theorem okNb_pos (h : okNb s d = some x) : 0 ≤ d := apO_pos h
theorem okNb_bad {e : Er} (h : okNb s d = some x) (ht : all t d = .error e) : okNb (s ++ t) d = none ∧ readE (s ++ t) d = some (e.sh s.length) := apO_bad h ht
theorem okNb_app (hx : okNb s d = some x) (hy : okNb t d = some y) : ∃ z, okNb (s ++ t) d = some z ∧ z.u = x.u ++ y.u ∧ z.attrs = x.attrs ++ y.attrs ∧ z.exs = x.exs ++ y.exs ∧ (z.kind, z.n) = if y.kind = 0 then (x.kind, x.n) else (y.kind, y.n) := by
  obtain ⟨f, u, h1, rfl⟩ := apO_some hx
  obtain ⟨g, v, h2, rfl⟩ := apO_some hy
  obtain ⟨l1, l2, k1, k2, h3⟩ := okG_two h1 h2
  unfold tellNb at k1 k2
  split at k1
  · simp at k1
  rename_i attrs1 g1_attrs
  split at k1
  · simp at k1
  rename_i exs1 g1_exs
  split at k2
  · simp at k2
  rename_i attrs2 g2_attrs
  split at k2
  · simp at k2
  rename_i exs2 g2_exs
  injection k1 with k1
  injection k2 with k2
  subst k1
  subst k2
  have hn := num_app (a := 4) (b := 6) (by omega) (by omega) l1 l2
  refine ⟨?z, by unfold okNb; rw [h3]; unfold tellNb; simp only [partsO_app, g1_attrs, g2_attrs, g1_exs, g2_exs]; exact rfl, rfl, rfl, rfl, ?_⟩
  show (((numKN 4 6 (oneF [4, 6] (l1 ++ l2))).1 : Int), (numKN 4 6 (oneF [4, 6] (l1 ++ l2))).2) = if ((numKN 4 6 (oneF [4, 6] l2)).1 : Int) = 0 then (((numKN 4 6 (oneF [4, 6] l1)).1 : Int), (numKN 4 6 (oneF [4, 6] l1)).2) else (((numKN 4 6 (oneF [4, 6] l2)).1 : Int), (numKN 4 6 (oneF [4, 6] l2)).2)
  rw [hn]
  by_cases h0 : (numKN 4 6 (oneF [4, 6] l2)).1 = 0
  · rw [if_pos h0, if_pos (by omega)]
  · rw [if_neg h0, if_neg (by omega)]
theorem Nb_some (hB : BOk B) (hl : s.length < big) (hd1 : -9223372036854775808 ≤ d) (hd2 : d < 9223372036854775808) (h : okNb s d = some x) : CallsA (cx B) 19 [sT s, .d (.int .i64 d)] [] (.tup [.d x.d, .d .nili]) [] := by
  have := (Nb_read B hB s d hl hd1 hd2).1
  rw [h] at this; exact this
theorem Nb_noneE (hB : BOk B) (hl : s.length < big) (hd1 : -9223372036854775808 ≤ d) (hd2 : d < 9223372036854775808) (h : okNb s d = none) : ∃ e : Er, EIn s.length e ∧ CallsA (cx B) 19 [sT s, .d (.int .i64 d)] [] (.tup [.d noNb.d, .d e.d]) [] := by
  have := (Nb_read B hB s d hl hd1 hd2).1
  rw [h] at this; exact this
theorem Nb_none (hB : BOk B) (hl : s.length < big) (hd1 : -9223372036854775808 ≤ d) (hd2 : d < 9223372036854775808) (h : okNb s d = none) : ∃ T x, CallsA (cx B) 19 [sT s, .d (.int .i64 d)] [] (.tup [.d noNb.d, .d (.iface T x)]) [] := by
  obtain ⟨e, -, h1⟩ := Nb_noneE B hB hl hd1 hd2 h
  obtain ⟨T, x, hx⟩ := er_iface e
  rw [hx] at h1
  exact ⟨T, x, h1⟩
theorem Nb_err (hB : BOk B) {e : Er} (hl : s.length < big) (hd1 : -9223372036854775808 ≤ d) (hd2 : d < 9223372036854775808) (h : readE s d = some e) : CallsA (cx B) 19 [sT s, .d (.int .i64 d)] [] (.tup [.d noNb.d, .d e.d]) [] := (Nb_read B hB s d hl hd1 hd2).2 e h
theorem Nb_any (hB : BOk B) (hl : s.length < big) (hd1 : -9223372036854775808 ≤ d) (hd2 : d < 9223372036854775808) : ∃ (b : Nb) (y : D), CallsA (cx B) 19 [sT s, .d (.int .i64 d)] [] (.tup [.d b.d, .d y]) [] := by
  cases h : okNb s d with
  | some b => exact ⟨_, _, Nb_some B hB hl hd1 hd2 h⟩
  | none => obtain ⟨T, x, h⟩ := Nb_none B hB hl hd1 hd2 h; exact ⟨_, _, h⟩
theorem tbN_5 (n : Nat) : tbN n 5 = false := by simp [tbN, Bool.cond_eq_ite]
theorem tbN_x : tbN 536870911 1 = false := by rfl
theorem tbN_90 : tbN 90 3 = false := by rfl
theorem okNb_len {s : List UInt8} {d : Int} {x : Nb} (h : okNb s d = some x) : x.u.length ≤ 800 + 800 * s.length := by
  have := (Nb_told _ _ _ h).2.2
  unfold Nb.sz at this; omega
theorem firstNb_calls (hB : BOk B) : CallsA (cx B) 11 [] [] (.d (.bool true)) [] := by
  have h1 := Nb_Marshal_calls B ⟨[], 0, 0, 0, 0, [], 1, []⟩ _ 0 (by unfold big; decide) ⟨by simp, by decide, by decide, by decide, by simp, by decide⟩ (Nb.d_R _) (by omega) (by omega)
  rw [if_pos (show Nb.may ⟨[], 0, 0, 0, 0, [], 1, []⟩ 0 = true by rfl), show Nb.mar ⟨[], 0, 0, 0, 0, [], 1, []⟩ = [64, 1] by rfl] at h1
  have h2 := Nb_some B hB (s := [64, 1]) (d := 0) (x := ⟨[], 0, 0, 0, 0, [], 1, []⟩) (by unfold big; decide) (by omega) (by omega) (by rfl)
  have h3 := Nb_Size_calls B ⟨[], 0, 0, 1, 0, [], 0, []⟩ _ (by unfold big; decide) ⟨by simp, by decide, by decide, by decide, by simp, by decide⟩ (Nb.d_R _) (by rfl)
  rw [show (Nb.mar ⟨[], 0, 0, 1, 0, [], 0, []⟩).length = 9 by rfl] at h3
  refine l_body (X := cx B) (fn := Tryz.f11) Tryz.func11 rfl rfl rfl rfl rfl 0 [] rfl rfl ?_
  refine walk ?_
  refine l_call [] (h1) rfl rfl rfl rfl rfl rfl rfl (by decide) rfl rfl rfl rfl rfl ?_
  refine walk ?_
  refine l_call [] (h2) rfl rfl rfl rfl rfl rfl rfl (by decide) rfl rfl rfl rfl rfl ?_
  refine walk ?_
  refine l_callG [] (h3) rfl rfl rfl rfl rfl rfl rfl rfl rfl (by decide) rfl rfl rfl rfl rfl ?_
  refine walk ?_
  exact l_end trivial (by decide) rfl rfl rfl rfl rfl
end Go.Proofs.YtoihfgdjmeeelaaGreatDoor
