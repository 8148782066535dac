/- Hist: how much room they take. -/
import Derived.Test.YthogjpjcidfoaaaGreatDoorEV
import Derived.Test.YthogjpjcidfoaaaGreatDoorHW
set_option linter.unusedSimpArgs false
set_option linter.unusedVariables false
set_option maxRecDepth 100000
namespace Go.Proofs.YthogjpjcidfoaaaGreatDoor
open Go Go.Abs
theorem minW (a : List Nat) : IntKind.i64.wrap (8 * (if (100000 : Int) < ((a.map uD).length : Int) then 100000 else ((a.map uD).length : Int))) = ((8 * min a.length 100000 : Nat) : Int) := by
  rw [List.length_map]
  by_cases h : 100000 < a.length
  · rw [if_pos (by omega), show 8 * min a.length 100000 = 800000 by omega]; rfl
  · rw [if_neg (by omega), wrapI (by omega) (by omega)]; omega
def Hi.ln (x : Hi) : Prop := Kv.lns x.attrs ∧ x.attrs.length ≤ 9223372036854775807 ∧ x.counts.length ≤ 9223372036854775807 ∧ x.bounds.length ≤ 9223372036854775807 ∧ (∀ v ∈ x.exs, v.ln) ∧ x.exs.length ≤ 9223372036854775807 ∧ x.u.length ≤ 9223372036854775807
def roomHi (x : Hi) (room : Int) : Int := roomEms x.exs (roomK x.attrs 40 (takeR (takeR (takeR room x.u.length) (8 * min x.counts.length 100000)) (8 * min x.bounds.length 100000)))
theorem roomHi_ok (x : Hi) (room : Int) (h : -1 ≤ room) : -1 ≤ roomHi x room ∧ (0 ≤ roomHi x room → (room ≤ 700000 → (x.sz : Int) ≤ 300 + 5 * (room - roomHi x room) - 5 * 0) ∧ roomHi x room + 20 ≤ room) := by
  unfold roomHi Hi.sz
  obtain ⟨a0, b0⟩ := takeR_ok (n := x.u.length) h
  obtain ⟨a1, b1⟩ := takeR_ok (n := 8 * min x.counts.length 100000) a0
  obtain ⟨a2, b2⟩ := takeR_ok (n := 8 * min x.bounds.length 100000) a1
  obtain ⟨a3, b3⟩ := roomK_ok x.attrs 40 _ a2
  obtain ⟨a4, b4⟩ := roomEms_ok x.exs _ a3
  refine ⟨a4, fun hh => ?_⟩
  have d4 := b4 hh
  have d3 := b3 (by omega)
  have d2 := b2 (by omega)
  have d1 := b1 (by omega)
  have d0 := b0 (by omega)
  omega
variable (B : Fr)
theorem RoomHi_calls (x : Hi) (xa : D) (room : Int) (h1 : x.ln) (h3 : x.R xa) (hr1 : -1 ≤ room) (hr2 : room < 9223372036854775000) : CallsA (cx B) 25 [.d xa, .d (.int .i64 room)] [] (.d (.int .i64 (roomHi x room))) [] := by
  obtain ⟨n_attrs, k_attrs, k_counts, k_bounds, n_exs, k_exs, k_u⟩ := h1
  obtain ⟨z_attrs, l_attrs, z_counts, z_bounds, z_exs, l_exs, rfl, r_attrs, r_exs⟩ := h3
  have c0 := take_calls B (room) x.u.length hr1 hr2 k_u
  obtain ⟨g0, j0⟩ := takeR_ge (n := x.u.length) hr2
  have c1 := take_calls B (takeR (room) x.u.length) (8 * min x.counts.length 100000) g0 j0 (by omega)
  obtain ⟨g1, j1⟩ := takeR_ge (n := 8 * min x.counts.length 100000) j0
  have c2 := take_calls B (takeR (takeR (room) x.u.length) (8 * min x.counts.length 100000)) (8 * min x.bounds.length 100000) g1 j1 (by omega)
  obtain ⟨g2, j2⟩ := takeR_ge (n := 8 * min x.bounds.length 100000) j1
  have c3 := RoomKeys_calls B z_attrs (takeR (takeR (takeR (room) x.u.length) (8 * min x.counts.length 100000)) (8 * min x.bounds.length 100000)) n_attrs k_attrs r_attrs g2 j2
  have g3 := (roomK_ok x.attrs 40 _ g2).1
  have j3 := roomK_lt (l := x.attrs) (deep := 40) g2 j2 (by omega)
  have c4 := RoomEms_calls B z_exs (roomK x.attrs 40 (takeR (takeR (takeR (room) x.u.length) (8 * min x.counts.length 100000)) (8 * min x.bounds.length 100000))) n_exs k_exs r_exs g3 j3
  unfold roomHi
  refine l_body (X := cx B) (fn := Tryz.f25) Tryz.func25 rfl rfl rfl rfl rfl 0 [] rfl rfl ?_
  refine walk ?_
  refine x_call [] (c0) rfl rfl rfl rfl rfl rfl (by decide) rfl rfl rfl rfl rfl rfl ?_
  refine walk ?_
  rw [minW x.counts]
  refine x_call [] (c1) rfl rfl rfl rfl rfl rfl (by decide) rfl rfl rfl rfl rfl rfl ?_
  refine walk ?_
  rw [minW x.bounds]
  refine x_call [] (c2) rfl rfl rfl rfl rfl rfl (by decide) rfl rfl rfl rfl rfl rfl ?_
  refine walk ?_
  refine x_call [] (c3) rfl rfl rfl rfl rfl rfl (by decide) rfl rfl rfl rfl rfl rfl ?_
  refine walk ?_
  refine x_call [] (c4) rfl rfl rfl rfl rfl rfl (by decide) rfl rfl rfl rfl rfl rfl ?_
  refine walk ?_
  exact l_end trivial (by decide) rfl rfl rfl rfl rfl
/-- What the law's room tells. -/
def rmHi (x : Hi) (room : Int) : Int := roomHi x room
theorem rmHi_sz {x : Hi} (h : ¬ rmHi x 12000 < 0) : x.sz < 1000000 := by
  unfold rmHi at h
  obtain ⟨a, b⟩ := roomHi_ok x 12000 (by omega)
  have := (b (by omega)).1 (by omega)
  omega
theorem RmHi_calls (x : Hi) (xa : D) (h1 : x.ln) (h3 : x.R xa) : CallsA (cx B) 25 [.d xa, .d (.int .i64 12000)] [] (.d (.int .i64 (rmHi x 12000))) [] := RoomHi_calls B x xa 12000 h1 h3 (by omega) (by omega)
end Go.Proofs.YthogjpjcidfoaaaGreatDoor
