/- Number: how much room they take. -/
import Derived.Test.YtaenjdichndafaaGreatDoorEV
import Derived.Test.YtaenjdichndafaaGreatDoorNW
set_option linter.unusedSimpArgs false
set_option linter.unusedVariables false
set_option maxRecDepth 100000
namespace Go.Proofs.YtaenjdichndafaaGreatDoor
open Go Go.Abs
def Nb.ln (x : Nb) : Prop := Kv.lns x.attrs ∧ x.attrs.length ≤ 9223372036854775807 ∧ (∀ v ∈ x.exs, v.ln) ∧ x.exs.length ≤ 9223372036854775807 ∧ x.u.length ≤ 9223372036854775807
def roomNb (x : Nb) (room : Int) : Int := roomEms x.exs (roomK x.attrs 40 (takeR room x.u.length))
theorem roomNb_ok (x : Nb) (room : Int) (h : -1 ≤ room) : -1 ≤ roomNb x room ∧ (0 ≤ roomNb x room → (x.sz : Int) ≤ 300 + 5 * (room - roomNb x room) - 5 * 0 ∧ roomNb x room + 20 ≤ room) := by
  unfold roomNb Nb.sz
  obtain ⟨a0, b0⟩ := takeR_ok (n := x.u.length) h
  obtain ⟨a1, b1⟩ := roomK_ok x.attrs 40 _ a0
  obtain ⟨a2, b2⟩ := roomEms_ok x.exs _ a1
  refine ⟨a2, fun hh => ?_⟩
  have d2 := b2 hh
  have d1 := b1 (by omega)
  have d0 := b0 (by omega)
  omega
theorem roomNb_lt {x : Nb} {room M : Int} (h1 : -1 ≤ room) (h : room < M) (hM : 0 ≤ M) : roomNb x room < M := by
  obtain ⟨a, b⟩ := roomNb_ok x room h1
  rcases Int.lt_or_le (roomNb x room) 0 with g | g
  · omega
  · have := b g; omega
def roomNbs : List Nb → Int → Int
  | [], room => room
  | x :: l, room => if room < 0 then room else roomNbs l (roomNb x room)
theorem roomNbs_neg {l : List Nb} {room : Int} (h : room < 0) : roomNbs l room = room := by
  cases l with
  | nil => rfl
  | cons v l => unfold roomNbs; rw [if_pos h]
theorem roomNbs_ok : ∀ (l : List Nb) (room : Int), -1 ≤ room → -1 ≤ roomNbs l room ∧ (0 ≤ roomNbs l room → ((l.map Nb.sz).sum : Int) ≤ 20 * (room - roomNbs l room) ∧ roomNbs l room ≤ room)
  | [], room, h => by unfold roomNbs; simp; omega
  | x :: l, room, h => by
    obtain ⟨a1, a2⟩ := roomNb_ok x room h
    obtain ⟨b1, b2⟩ := roomNbs_ok l _ a1
    unfold roomNbs
    rw [List.map_cons, List.sum_cons]
    split
    · omega
    · exact ⟨b1, fun hh => by have c1 := b2 hh; have c2 := a2 (by omega); push_cast; omega⟩
theorem roomNbs_lt {l : List Nb} {room M : Int} (h1 : -1 ≤ room) (h : room < M) (hM : 0 ≤ M) : roomNbs l room < M := by
  obtain ⟨a, b⟩ := roomNbs_ok l room h1
  rcases Int.lt_or_le (roomNbs l room) 0 with g | g
  · omega
  · have := b g; omega
variable (B : Fr)
theorem RoomNb_calls (x : Nb) (xa : D) (room : Int) (h1 : x.ln) (h3 : x.R xa) (hr1 : -1 ≤ room) (hr2 : room < 9223372036854775000) : CallsA (cx B) 29 [.d xa, .d (.int .i64 room)] [] (.d (.int .i64 (roomNb x room))) [] := by
  obtain ⟨n_attrs, k_attrs, n_exs, k_exs, k_u⟩ := h1
  obtain ⟨z_attrs, l_attrs, z_exs, l_exs, rfl, r_attrs, r_exs⟩ := h3
  have c0 := take_calls B (room) x.u.length hr1 hr2 k_u
  obtain ⟨g0, j0⟩ := takeR_ge (n := x.u.length) hr2
  have c1 := RoomKeys_calls B z_attrs (takeR (room) x.u.length) n_attrs k_attrs r_attrs g0 j0
  have g1 := (roomK_ok x.attrs 40 _ g0).1
  have j1 := roomK_lt (l := x.attrs) (deep := 40) g0 j0 (by omega)
  have c2 := RoomEms_calls B z_exs (roomK x.attrs 40 (takeR (room) x.u.length)) n_exs k_exs r_exs g1 j1
  unfold roomNb
  refine l_body (X := cx B) (fn := Tryz.f29) Tryz.func29 rfl rfl rfl rfl rfl 0 [] rfl rfl ?_
  refine walk ?_
  refine x_call [] (c0) rfl rfl rfl rfl rfl rfl (by decide) rfl rfl rfl rfl rfl rfl ?_
  refine walk ?_
  refine x_call [] (c1) rfl rfl rfl rfl rfl rfl (by decide) rfl rfl rfl rfl rfl rfl ?_
  refine walk ?_
  refine x_call [] (c2) rfl rfl rfl rfl rfl rfl (by decide) rfl rfl rfl rfl rfl rfl ?_
  refine walk ?_
  exact l_end trivial (by decide) rfl rfl rfl rfl rfl
/-- What the law's room tells. -/
def rmNb (x : Nb) (room : Int) : Int := roomNb x room
theorem rmNb_ge (x : Nb) : -1 ≤ rmNb x 12000 ∧ rmNb x 12000 < 9223372036854775000 := by
  unfold rmNb
  exact ⟨(roomNb_ok x 12000 (by omega)).1, roomNb_lt (by omega) (by omega) (by omega)⟩
theorem rmNb_sz {x : Nb} (h : ¬ rmNb x 12000 < 0) : x.sz < 1000000 := by
  unfold rmNb at h
  obtain ⟨a, b⟩ := roomNb_ok x 12000 (by omega)
  have := (b (by omega)).1
  omega
theorem RmNb_calls (x : Nb) (xa : D) (h1 : x.ln) (h3 : x.R xa) : CallsA (cx B) 29 [.d xa, .d (.int .i64 12000)] [] (.d (.int .i64 (rmNb x 12000))) [] := RoomNb_calls B x xa 12000 h1 h3 (by omega) (by omega)
end Go.Proofs.YtaenjdichndafaaGreatDoor
