/- Number: how much room they take. -/
import Derived.Test.YtmnllpkbjkenfaaGreatDoorEV
import Derived.Test.YtmnllpkbjkenfaaGreatDoorNW
set_option linter.unusedSimpArgs false
set_option linter.unusedVariables false
set_option maxRecDepth 100000
namespace Go.Proofs.YtmnllpkbjkenfaaGreatDoor
open Go Go.Abs
def Nb.ln (x : Nb) : Prop := Kv.lns x.attrs ∧ x.attrs.length ≤ 9223372036854775807 ∧ (∀ v ∈ x.exs, v.ln) ∧ x.exs.length ≤ 9223372036854775807 ∧ x.u.length ≤ 9223372036854775807
def roomNb (x : Nb) (room : Int) : Int := k'2a x.exs (roomK x.attrs 40 (k'18 room x.u.length))
theorem roomNb_ok (x : Nb) (room : Int) (h : -1 ≤ room) : -1 ≤ roomNb x room ∧ (0 ≤ roomNb x room → ((x.sz : Int) ≤ 300 + 5 * (room - roomNb x room) - 5 * 0) ∧ roomNb x room + 20 ≤ room) := by
 unfold roomNb Nb.sz
 obtain ⟨a0, b0⟩ := k'10 (n := x.u.length) h
 obtain ⟨a1, b1⟩ := k'2x x.attrs 40 _ a0
 obtain ⟨a2, b2⟩ := roomEms_ok x.exs _ a1
 refine ⟨a2, fun hh => ?_⟩
 have d2 := b2 hh
 have d1 := b1 (by omega)
 have d0 := b0 (by omega)
 omega
theorem roomNb_lt {x : Nb} {room M : Int} (h1 : -1 ≤ room) (h : room < M) (hM : 0 ≤ M) : roomNb x room < M := by
 obtain ⟨a, b⟩ := roomNb_ok x room h1
 rcases Int.lt_or_le (roomNb x room) 0 with g | g
 ·omega
 ·have := b g; omega
def k'2g : List Nb → Int → Int
 | [], room => room
 | x :: l, room => if room < 0 then room else k'2g l (roomNb x room)
theorem roomNbs_neg {l : List Nb} {room : Int} (h : room < 0) : k'2g l room = room := by
 cases l with
 | nil => rfl
 | cons v l => unfold k'2g; rw [if_pos h]
theorem roomNbs_ok : ∀ (l : List Nb) (room : Int), -1 ≤ room → -1 ≤ k'2g l room ∧ (0 ≤ k'2g l room → (((l.map Nb.sz).sum : Int) ≤ 20 * (room - k'2g l room)) ∧ k'2g l room ≤ room)
 | [], room, h => by unfold k'2g; simp; omega
 | x :: l, room, h => by
  obtain ⟨a1, a2⟩ := roomNb_ok x room h
  obtain ⟨b1, b2⟩ := roomNbs_ok l _ a1
  unfold k'2g
  rw [List.map_cons, List.sum_cons]
  split
  ·omega
  ·exact ⟨b1, fun hh => by have c1 := b2 hh; have c2 := a2 (by omega); push_cast; omega⟩
theorem roomNbs_lt {l : List Nb} {room M : Int} (h1 : -1 ≤ room) (h : room < M) (hM : 0 ≤ M) : k'2g l room < M := by
 obtain ⟨a, b⟩ := roomNbs_ok l room h1
 rcases Int.lt_or_le (k'2g l room) 0 with g | g
 ·omega
 ·have := b g; omega
variable (B : Fr)
theorem RoomNb_calls (x : Nb) (xa : D) (room : Int) (h1 : x.ln) (h3 : x.R xa) (hr1 : -1 ≤ room) (hr2 : room < 9223372036854775000) : k'1 (cx B) 41 [.d xa, .d (.int .i64 room)] [] (.d (.int .i64 (roomNb x room))) [] := by
 obtain ⟨n_attrs, k_attrs, n_exs, k_exs, k_u⟩ := h1
 obtain ⟨z_attrs, l_attrs, z_exs, l_exs, rfl, r_attrs, r_exs⟩ := h3
 have c0 := k'b B (room) x.u.length hr1 hr2 k_u
 obtain ⟨g0, j0⟩ := k'11 (n := x.u.length) hr2
 have c1 := k'1o B z_attrs (k'18 (room) x.u.length) n_attrs k_attrs r_attrs g0 j0
 have g1 := (k'2x x.attrs 40 _ g0).1
 have j1 := roomK_lt (l := x.attrs) (deep := 40) g0 j0 (by omega)
 have c2 := k'46 B z_exs (roomK x.attrs 40 (k'18 (room) x.u.length)) n_exs k_exs r_exs g1 j1
 unfold roomNb
 refine k'2 (X := cx B) (fn := Tryz.f41) Tryz.func41 rfl rfl rfl rfl rfl 0 [] rfl rfl ?_
 refine Y ?_
 refine x_cw [] (c0) rfl rfl rfl ?_
 refine x_cw [] (c1) rfl rfl rfl ?_
 refine k'17 [] (c2) rfl rfl rfl ?_
 exact Z
