/- Exemplar: read, with more behind; read, and called so. -/
import Derived.Test.YtaenjdichndafaaGreatDoorEW
import Derived.Test.YtaenjdichndafaaGreatDoorX29
import Derived.Test.YtaenjdichndafaaGreatDoorR5
set_option linter.unusedSimpArgs false
set_option linter.unusedVariables false
set_option maxRecDepth 100000
namespace Go.Proofs.YtaenjdichndafaaGreatDoor
open Go Go.Abs
variable (B : Fr)
def Em.setU (x : Em) (u : List UInt8) : Em := { x with u := u }
theorem Em.takes : Takes tellEm Em.setU Em.u := by
  intro d l f h u
  unfold tellEm at h
  split at h
  · simp at h
  injection h with h
  subst h
  exact ⟨rfl, fun v => rfl⟩
variable {s w t : List UInt8} {d : Int} {x y : Em}
theorem okEm_right (hw : mayU tbE w d = true) (h : okEm s d = some x) : okEm (s ++ w) d = some (x.setU (x.u ++ w)) := apO_right Em.takes hw h
theorem okEm_left (hw : mayU tbE w d = true) (h : okEm s d = some x) : okEm (w ++ s) d = some (x.setU (w ++ x.u)) := apO_left Em.takes hw h
theorem okEm_left_none (hw : 0 ≤ d → mayU tbE w d = true) (h : okEm s d = none) : okEm (w ++ s) d = none := apO_left_none hw h
theorem okEm_pos (h : okEm s d = some x) : 0 ≤ d := apO_pos h
theorem okEm_bad {e : Er} (h : okEm s d = some x) (ht : all t d = .error e) : okEm (s ++ t) d = none ∧ readE (s ++ t) d = some (e.sh s.length) := apO_bad h ht
theorem okEm_app (hx : okEm s d = some x) (hy : okEm t d = some y) : ∃ z, okEm (s ++ t) d = some z ∧ z.u = x.u ++ y.u ∧ z.attrs = x.attrs ++ y.attrs ∧ (z.kind, z.n) = if y.kind = 0 then (x.kind, x.n) else (y.kind, y.n) := by
  obtain ⟨f, u, h1, rfl⟩ := apO_some hx
  obtain ⟨g, v, h2, rfl⟩ := apO_some hy
  obtain ⟨l1, l2, k1, k2, h3⟩ := okG_two h1 h2
  unfold tellEm at k1 k2
  split at k1
  · simp at k1
  rename_i attrs1 g1_attrs
  split at k2
  · simp at k2
  rename_i attrs2 g2_attrs
  injection k1 with k1
  injection k2 with k2
  subst k1
  subst k2
  have hn := num_app (a := 3) (b := 6) (by omega) (by omega) l1 l2
  refine ⟨?z, by unfold okEm; rw [h3]; unfold tellEm; simp only [partsO_app, g1_attrs, g2_attrs]; exact rfl, rfl, rfl, ?_⟩
  show (((numKN 3 6 (oneF [3, 6] (l1 ++ l2))).1 : Int), (numKN 3 6 (oneF [3, 6] (l1 ++ l2))).2) = if ((numKN 3 6 (oneF [3, 6] l2)).1 : Int) = 0 then (((numKN 3 6 (oneF [3, 6] l1)).1 : Int), (numKN 3 6 (oneF [3, 6] l1)).2) else (((numKN 3 6 (oneF [3, 6] l2)).1 : Int), (numKN 3 6 (oneF [3, 6] l2)).2)
  rw [hn]
  by_cases h0 : (numKN 3 6 (oneF [3, 6] l2)).1 = 0
  · rw [if_pos h0, if_pos (by omega)]
  · rw [if_neg h0, if_neg (by omega)]
theorem Em_some (hB : BOk B) (hl : s.length < big) (hd1 : -9223372036854775808 ≤ d) (hd2 : d < 9223372036854775808) (h : okEm s d = some x) : CallsA (cx B) 16 [sT s, .d (.int .i64 d)] [] (.tup [.d x.d, .d .nili]) [] := by
  have := (Em_read B hB s d hl hd1 hd2).1
  rw [h] at this; exact this
theorem Em_noneE (hB : BOk B) (hl : s.length < big) (hd1 : -9223372036854775808 ≤ d) (hd2 : d < 9223372036854775808) (h : okEm s d = none) : ∃ e : Er, EIn s.length e ∧ CallsA (cx B) 16 [sT s, .d (.int .i64 d)] [] (.tup [.d noEm.d, .d e.d]) [] := by
  have := (Em_read B hB s d hl hd1 hd2).1
  rw [h] at this; exact this
theorem Em_none (hB : BOk B) (hl : s.length < big) (hd1 : -9223372036854775808 ≤ d) (hd2 : d < 9223372036854775808) (h : okEm s d = none) : ∃ T x, CallsA (cx B) 16 [sT s, .d (.int .i64 d)] [] (.tup [.d noEm.d, .d (.iface T x)]) [] := by
  obtain ⟨e, -, h1⟩ := Em_noneE B hB hl hd1 hd2 h
  obtain ⟨T, x, hx⟩ := er_iface e
  rw [hx] at h1
  exact ⟨T, x, h1⟩
theorem Em_err (hB : BOk B) {e : Er} (hl : s.length < big) (hd1 : -9223372036854775808 ≤ d) (hd2 : d < 9223372036854775808) (h : readE s d = some e) : CallsA (cx B) 16 [sT s, .d (.int .i64 d)] [] (.tup [.d noEm.d, .d e.d]) [] := (Em_read B hB s d hl hd1 hd2).2 e h
theorem Em_any (hB : BOk B) (hl : s.length < big) (hd1 : -9223372036854775808 ≤ d) (hd2 : d < 9223372036854775808) : ∃ (b : Em) (y : D), CallsA (cx B) 16 [sT s, .d (.int .i64 d)] [] (.tup [.d b.d, .d y]) [] := by
  cases h : okEm s d with
  | some b => exact ⟨_, _, Em_some B hB hl hd1 hd2 h⟩
  | none => obtain ⟨T, x, h⟩ := Em_none B hB hl hd1 hd2 h; exact ⟨_, _, h⟩
theorem tbE_5 (n : Nat) : tbE n 5 = false := by simp [tbE, Bool.cond_eq_ite]
theorem tbE_x : tbE 536870911 1 = false := by rfl
theorem tbE_90 : tbE 90 3 = false := by rfl
theorem okEm_len {s : List UInt8} {d : Int} {x : Em} (h : okEm s d = some x) : x.u.length ≤ 300 + 300 * s.length := by
  have := (Em_told _ _ _ h).2.2
  unfold Em.sz at this; omega
theorem firstEm_calls (hB : BOk B) : CallsA (cx B) 15 [] [] (.d (.bool true)) [] := by
  have h1 := Em_Marshal_calls B ⟨[], 0, 2, 1, [], [], []⟩ _ 0 (by unfold big; decide) ⟨by simp, by decide, by decide⟩ (Em.d_R _) (by omega) (by omega)
  rw [if_pos (show Em.may ⟨[], 0, 2, 1, [], [], []⟩ 0 = true by rfl), show Em.mar ⟨[], 0, 2, 1, [], [], []⟩ = [49, 1, 0, 0, 0, 0, 0, 0, 0] by rfl] at h1
  have h2 := Em_Marshal_calls B ⟨[], 0, 0, 1, [], [], []⟩ _ 0 (by unfold big; decide) ⟨by simp, by decide, by decide⟩ (Em.d_R _) (by omega) (by omega)
  rw [show Em.may ⟨[], 0, 0, 1, [], [], []⟩ 0 = false by rfl, if_neg (by simp)] at h2
  have h3 := Code_calls B hB (some (Er.code 8))
  refine l_body (X := cx B) (fn := Tryz.f15) Tryz.func15 rfl rfl rfl rfl rfl 0 [] rfl rfl ?_
  refine walk ?_
  refine l_call [] (h1) rfl rfl rfl rfl rfl rfl rfl (by decide) rfl rfl rfl rfl rfl ?_
  refine walk ?_
  refine l_call [] (h2) rfl rfl rfl rfl rfl rfl rfl (by decide) rfl rfl rfl rfl rfl ?_
  refine walk ?_
  refine l_callG [] (h3) rfl rfl rfl rfl rfl rfl rfl rfl rfl (by decide) rfl rfl rfl rfl rfl ?_
  refine walk ?_
  exact l_end trivial (by decide) rfl rfl rfl rfl rfl
end Go.Proofs.YtaenjdichndafaaGreatDoor
