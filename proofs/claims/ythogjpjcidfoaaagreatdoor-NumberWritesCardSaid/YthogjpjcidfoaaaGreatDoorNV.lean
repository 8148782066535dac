/- Number: how much room they take. -/
import Derived.Test.YthogjpjcidfoaaaGreatDoorEV
import Derived.Test.YthogjpjcidfoaaaGreatDoorNW
set_option linter.unusedSimpArgs false
set_option linter.unusedVariables false
set_option maxRecDepth 100000
namespace Go.Proofs.YthogjpjcidfoaaaGreatDoor
open Go Go.Abs
def Nb.ln (x : Nb) : Prop := Kv.lns x.attrs ∧ x.attrs.length ≤ 9223372036854775807 ∧ (∀ v ∈ x.exs, v.ln) ∧ x.exs.length ≤ 9223372036854775807 ∧ x.u.length ≤ 9223372036854775807
def roomNb (x : Nb) (room : Int) : Int := roomEms x.exs (roomK x.attrs 40 (takeR room x.u.length))
theorem roomNb_ok (x : Nb) (room : Int) (h : -1 ≤ room) : -1 ≤ roomNb x room ∧ (0 ≤ roomNb x room → ((x.sz : Int) ≤ 300 + 5 * (room - roomNb x room) - 5 * 0) ∧ roomNb x room + 20 ≤ room) := by
  unfold roomNb Nb.sz
  obtain ⟨a0, b0⟩ := takeR_ok (n := x.u.length) h
  obtain ⟨a1, b1⟩ := roomK_ok x.attrs 40 _ a0
  obtain ⟨a2, b2⟩ := roomEms_ok x.exs _ a1
  refine ⟨a2, fun hh => ?_⟩
  have d2 := b2 hh
  have d1 := b1 (by omega)
  have d0 := b0 (by omega)
  omega
variable (B : Fr)
theorem RoomNb_calls (x : Nb) (xa : D) (room : Int) (h1 : x.ln) (h3 : x.R xa) (hr1 : -1 ≤ room) (hr2 : room < 9223372036854775000) : CallsA (cx B) 11 [.d xa, .d (.int .i64 room)] [] (.d (.int .i64 (roomNb x room))) [] := by
  obtain ⟨n_attrs, k_attrs, n_exs, k_exs, k_u⟩ := h1
  obtain ⟨z_attrs, l_attrs, z_exs, l_exs, rfl, r_attrs, r_exs⟩ := h3
  have c0 := take_calls B (room) x.u.length hr1 hr2 k_u
  obtain ⟨g0, j0⟩ := takeR_ge (n := x.u.length) hr2
  have c1 := RoomKeys_calls B z_attrs (takeR (room) x.u.length) n_attrs k_attrs r_attrs g0 j0
  have g1 := (roomK_ok x.attrs 40 _ g0).1
  have j1 := roomK_lt (l := x.attrs) (deep := 40) g0 j0 (by omega)
  have c2 := RoomEms_calls B z_exs (roomK x.attrs 40 (takeR (room) x.u.length)) n_exs k_exs r_exs g1 j1
  unfold roomNb
  refine l_body (X := cx B) (fn := Tryz.f11) Tryz.func11 rfl rfl rfl rfl rfl 0 [] rfl rfl ?_
  refine walk ?_
  refine x_call [] (c0) rfl rfl rfl rfl rfl rfl (by decide) rfl rfl rfl rfl rfl rfl ?_
  refine walk ?_
  refine x_call [] (c1) rfl rfl rfl rfl rfl rfl (by decide) rfl rfl rfl rfl rfl rfl ?_
  refine walk ?_
  refine x_call [] (c2) rfl rfl rfl rfl rfl rfl (by decide) rfl rfl rfl rfl rfl rfl ?_
  refine walk ?_
  exact l_end trivial (by decide) rfl rfl rfl rfl rfl
/-- What the law's room tells. -/
def rmNb (x : Nb) (room : Int) : Int := roomNb x room
theorem rmNb_sz {x : Nb} (h : ¬ rmNb x 12000 < 0) : x.sz < 1000000 := by
  unfold rmNb at h
  obtain ⟨a, b⟩ := roomNb_ok x 12000 (by omega)
  have := (b (by omega)).1
  omega
theorem RmNb_calls (x : Nb) (xa : D) (h1 : x.ln) (h3 : x.R xa) : CallsA (cx B) 11 [.d xa, .d (.int .i64 12000)] [] (.d (.int .i64 (rmNb x 12000))) [] := RoomNb_calls B x xa 12000 h1 h3 (by omega) (by omega)
end Go.Proofs.YthogjpjcidfoaaaGreatDoor
