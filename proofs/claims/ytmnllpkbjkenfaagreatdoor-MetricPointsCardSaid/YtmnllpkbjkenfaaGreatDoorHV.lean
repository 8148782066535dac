/- Hist: how much room they take. -/
import Derived.Test.YtmnllpkbjkenfaaGreatDoorEV
import Derived.Test.YtmnllpkbjkenfaaGreatDoorHW
set_option linter.unusedSimpArgs false
set_option linter.unusedVariables false
set_option maxRecDepth 100000
namespace Go.Proofs.YtmnllpkbjkenfaaGreatDoor
open Go Go.Abs
theorem minW (a : List Nat) : IntKind.i64.wrap (8 * (if (100000 : Int) < ((a.map uD).length : Int) then 100000 else ((a.map uD).length : Int))) = ((8 * min a.length 100000 : Nat) : Int) := by
 rw [List.length_map]
 by_cases h : 100000 < a.length
 ·rw [if_pos (by omega), show 8 * min a.length 100000 = 800000 by omega]; rfl
 ·rw [if_neg (by omega), k'1m (by omega) (by omega)]; omega
def Hi.ln (x : Hi) : Prop := Kv.lns x.attrs ∧ x.attrs.length ≤ 9223372036854775807 ∧ x.counts.length ≤ 9223372036854775807 ∧ x.bounds.length ≤ 9223372036854775807 ∧ (∀ v ∈ x.exs, v.ln) ∧ x.exs.length ≤ 9223372036854775807 ∧ x.u.length ≤ 9223372036854775807
def roomHi (x : Hi) (room : Int) : Int := k'2a x.exs (roomK x.attrs 40 (k'18 (k'18 (k'18 room x.u.length) (8 * min x.counts.length 100000)) (8 * min x.bounds.length 100000)))
theorem roomHi_ok (x : Hi) (room : Int) (h : -1 ≤ room) : -1 ≤ roomHi x room ∧ (0 ≤ roomHi x room → (room ≤ 700000 → (x.sz : Int) ≤ 300 + 5 * (room - roomHi x room) - 5 * 0) ∧ roomHi x room + 20 ≤ room) := by
 unfold roomHi Hi.sz
 obtain ⟨a0, b0⟩ := k'10 (n := x.u.length) h
 obtain ⟨a1, b1⟩ := k'10 (n := 8 * min x.counts.length 100000) a0
 obtain ⟨a2, b2⟩ := k'10 (n := 8 * min x.bounds.length 100000) a1
 obtain ⟨a3, b3⟩ := k'2x x.attrs 40 _ a2
 obtain ⟨a4, b4⟩ := roomEms_ok x.exs _ a3
 refine ⟨a4, fun hh => ?_⟩
 have d4 := b4 hh
 have d3 := b3 (by omega)
 have d2 := b2 (by omega)
 have d1 := b1 (by omega)
 have d0 := b0 (by omega)
 omega
theorem roomHi_lt {x : Hi} {room M : Int} (h1 : -1 ≤ room) (h : room < M) (hM : 0 ≤ M) : roomHi x room < M := by
 obtain ⟨a, b⟩ := roomHi_ok x room h1
 rcases Int.lt_or_le (roomHi x room) 0 with g | g
 ·omega
 ·have := b g; omega
def k'2h : List Hi → Int → Int
 | [], room => room
 | x :: l, room => if room < 0 then room else k'2h l (roomHi x room)
theorem roomHis_neg {l : List Hi} {room : Int} (h : room < 0) : k'2h l room = room := by
 cases l with
 | nil => rfl
 | cons v l => unfold k'2h; rw [if_pos h]
theorem roomHis_ok : ∀ (l : List Hi) (room : Int), -1 ≤ room → -1 ≤ k'2h l room ∧ (0 ≤ k'2h l room → (room ≤ 700000 → ((l.map Hi.sz).sum : Int) ≤ 20 * (room - k'2h l room)) ∧ k'2h l room ≤ room)
 | [], room, h => by unfold k'2h; simp; omega
 | x :: l, room, h => by
  obtain ⟨a1, a2⟩ := roomHi_ok x room h
  obtain ⟨b1, b2⟩ := roomHis_ok l _ a1
  unfold k'2h
  rw [List.map_cons, List.sum_cons]
  split
  ·omega
  ·exact ⟨b1, fun hh => by have c1 := b2 hh; have c2 := a2 (by omega); push_cast; omega⟩
theorem roomHis_lt {l : List Hi} {room M : Int} (h1 : -1 ≤ room) (h : room < M) (hM : 0 ≤ M) : k'2h l room < M := by
 obtain ⟨a, b⟩ := roomHis_ok l room h1
 rcases Int.lt_or_le (k'2h l room) 0 with g | g
 ·omega
 ·have := b g; omega
variable (B : Fr)
theorem RoomHi_calls (x : Hi) (xa : D) (room : Int) (h1 : x.ln) (h3 : x.R xa) (hr1 : -1 ≤ room) (hr2 : room < 9223372036854775000) : k'1 (cx B) 42 [.d xa, .d (.int .i64 room)] [] (.d (.int .i64 (roomHi x room))) [] := by
 obtain ⟨n_attrs, k_attrs, k_counts, k_bounds, n_exs, k_exs, k_u⟩ := h1
 obtain ⟨z_attrs, l_attrs, z_counts, z_bounds, z_exs, l_exs, rfl, r_attrs, r_exs⟩ := h3
 have c0 := k'b B (room) x.u.length hr1 hr2 k_u
 obtain ⟨g0, j0⟩ := k'11 (n := x.u.length) hr2
 have c1 := k'b B (k'18 (room) x.u.length) (8 * min x.counts.length 100000) g0 j0 (by omega)
 obtain ⟨g1, j1⟩ := k'11 (n := 8 * min x.counts.length 100000) j0
 have c2 := k'b B (k'18 (k'18 (room) x.u.length) (8 * min x.counts.length 100000)) (8 * min x.bounds.length 100000) g1 j1 (by omega)
 obtain ⟨g2, j2⟩ := k'11 (n := 8 * min x.bounds.length 100000) j1
 have c3 := k'1o B z_attrs (k'18 (k'18 (k'18 (room) x.u.length) (8 * min x.counts.length 100000)) (8 * min x.bounds.length 100000)) n_attrs k_attrs r_attrs g2 j2
 have g3 := (k'2x x.attrs 40 _ g2).1
 have j3 := roomK_lt (l := x.attrs) (deep := 40) g2 j2 (by omega)
 have c4 := k'46 B z_exs (roomK x.attrs 40 (k'18 (k'18 (k'18 (room) x.u.length) (8 * min x.counts.length 100000)) (8 * min x.bounds.length 100000))) n_exs k_exs r_exs g3 j3
 unfold roomHi
 refine k'2 (X := cx B) (fn := Tryz.f42) Tryz.func42 rfl rfl rfl rfl rfl 0 [] rfl rfl ?_
 refine Y ?_
 refine x_cw [] (c0) rfl rfl rfl ?_
 rw [minW x.counts]
 refine x_cw [] (c1) rfl rfl rfl ?_
 rw [minW x.bounds]
 refine x_cw [] (c2) rfl rfl rfl ?_
 refine x_cw [] (c3) rfl rfl rfl ?_
 refine k'17 [] (c4) rfl rfl rfl ?_
 exact Z
