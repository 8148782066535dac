/- Exp: how much room they take. -/
import Derived.Test.YtmnllpkbjkenfaaGreatDoorEV
import Derived.Test.YtmnllpkbjkenfaaGreatDoorQW
set_option linter.unusedSimpArgs false
set_option linter.unusedVariables false
set_option maxRecDepth 100000
namespace Go.Proofs.YtmnllpkbjkenfaaGreatDoor
open Go Go.Abs
theorem roomB_ok (b : Bk) {room : Int} (h : -1 ≤ room) : -1 ≤ roomB b.cs b.u room ∧ (0 ≤ roomB b.cs b.u room → (room ≤ 700000 → (b.sz : Int) ≤ 60 + 5 * (room - roomB b.cs b.u room) - 60) ∧ roomB b.cs b.u room + 20 ≤ room) := by
 unfold roomB Bk.sz
 obtain ⟨a0, b0⟩ := k'10 (n := b.u.length) h
 obtain ⟨a1, b1⟩ := k'10 (n := 8 * (if 100000 < b.cs.length then 100000 else b.cs.length)) a0
 refine ⟨a1, fun hh => ?_⟩
 have d1 := b1 hh
 have d0 := b0 (by omega)
 generalize k'18 (k'18 room b.u.length) (8 * (if 100000 < b.cs.length then 100000 else b.cs.length)) = r at *
 generalize k'18 room b.u.length = q at *
 split at d1 <;> omega
theorem roomB_ge {cs : List Nat} {u : List UInt8} {room : Int} (h : room < 9223372036854775000) : -1 ≤ roomB cs u room ∧ roomB cs u room < 9223372036854775000 := by
 unfold roomB
 exact k'11 (k'11 h).2
def Eh.ln (x : Eh) : Prop := Kv.lns x.attrs ∧ x.attrs.length ≤ 9223372036854775807 ∧ (x.pos.cs.length ≤ 9223372036854775807 ∧ x.pos.u.length ≤ 9223372036854775807) ∧ (x.neg.cs.length ≤ 9223372036854775807 ∧ x.neg.u.length ≤ 9223372036854775807) ∧ (∀ v ∈ x.exs, v.ln) ∧ x.exs.length ≤ 9223372036854775807 ∧ x.u.length ≤ 9223372036854775807
def roomEh (x : Eh) (room : Int) : Int := k'2a x.exs (roomK x.attrs 40 (roomB x.pos.cs x.pos.u (roomB x.neg.cs x.neg.u (k'18 room x.u.length))))
theorem roomEh_ok (x : Eh) (room : Int) (h : -1 ≤ room) : -1 ≤ roomEh x room ∧ (0 ≤ roomEh x room → (room ≤ 700000 → (x.sz : Int) ≤ 300 + 5 * (room - roomEh x room) - 5 * 0) ∧ roomEh x room + 20 ≤ room) := by
 unfold roomEh Eh.sz
 obtain ⟨a0, b0⟩ := k'10 (n := x.u.length) h
 obtain ⟨a1, b1⟩ := roomB_ok x.neg a0
 obtain ⟨a2, b2⟩ := roomB_ok x.pos a1
 obtain ⟨a3, b3⟩ := k'2x x.attrs 40 _ a2
 obtain ⟨a4, b4⟩ := roomEms_ok x.exs _ a3
 refine ⟨a4, fun hh => ?_⟩
 have d4 := b4 hh
 have d3 := b3 (by omega)
 have d2 := b2 (by omega)
 have d1 := b1 (by omega)
 have d0 := b0 (by omega)
 omega
theorem roomEh_lt {x : Eh} {room M : Int} (h1 : -1 ≤ room) (h : room < M) (hM : 0 ≤ M) : roomEh x room < M := by
 obtain ⟨a, b⟩ := roomEh_ok x room h1
 rcases Int.lt_or_le (roomEh x room) 0 with g | g
 ·omega
 ·have := b g; omega
def k'2i : List Eh → Int → Int
 | [], room => room
 | x :: l, room => if room < 0 then room else k'2i l (roomEh x room)
theorem roomEhs_neg {l : List Eh} {room : Int} (h : room < 0) : k'2i l room = room := by
 cases l with
 | nil => rfl
 | cons v l => unfold k'2i; rw [if_pos h]
theorem roomEhs_ok : ∀ (l : List Eh) (room : Int), -1 ≤ room → -1 ≤ k'2i l room ∧ (0 ≤ k'2i l room → (room ≤ 700000 → ((l.map Eh.sz).sum : Int) ≤ 20 * (room - k'2i l room)) ∧ k'2i l room ≤ room)
 | [], room, h => by unfold k'2i; simp; omega
 | x :: l, room, h => by
  obtain ⟨a1, a2⟩ := roomEh_ok x room h
  obtain ⟨b1, b2⟩ := roomEhs_ok l _ a1
  unfold k'2i
  rw [List.map_cons, List.sum_cons]
  split
  ·omega
  ·exact ⟨b1, fun hh => by have c1 := b2 hh; have c2 := a2 (by omega); push_cast; omega⟩
theorem roomEhs_lt {l : List Eh} {room M : Int} (h1 : -1 ≤ room) (h : room < M) (hM : 0 ≤ M) : k'2i l room < M := by
 obtain ⟨a, b⟩ := roomEhs_ok l room h1
 rcases Int.lt_or_le (k'2i l room) 0 with g | g
 ·omega
 ·have := b g; omega
variable (B : Fr)
theorem RoomEh_calls (x : Eh) (xa : D) (room : Int) (h1 : x.ln) (h3 : x.R xa) (hr1 : -1 ≤ room) (hr2 : room < 9223372036854775000) : k'1 (cx B) 43 [.d xa, .d (.int .i64 room)] [] (.d (.int .i64 (roomEh x room))) [] := by
 obtain ⟨n_attrs, k_attrs, k_pos, k_neg, n_exs, k_exs, k_u⟩ := h1
 obtain ⟨z_attrs, l_attrs, z_pos, z_neg, z_exs, l_exs, rfl, r_attrs, r_exs⟩ := h3
 have c0 := k'b B (room) x.u.length hr1 hr2 k_u
 obtain ⟨g0, j0⟩ := k'11 (n := x.u.length) hr2
 have c1 := RoomZ B z_neg x.neg.off x.neg.cs x.neg.u (k'18 (room) x.u.length) g0 j0 k_neg.2
 obtain ⟨g1, j1⟩ := roomB_ge (cs := x.neg.cs) (u := x.neg.u) j0
 have c2 := RoomZ B z_pos x.pos.off x.pos.cs x.pos.u (roomB x.neg.cs x.neg.u (k'18 (room) x.u.length)) g1 j1 k_pos.2
 obtain ⟨g2, j2⟩ := roomB_ge (cs := x.pos.cs) (u := x.pos.u) j1
 have c3 := k'1o B z_attrs (roomB x.pos.cs x.pos.u (roomB x.neg.cs x.neg.u (k'18 (room) x.u.length))) n_attrs k_attrs r_attrs g2 j2
 have g3 := (k'2x x.attrs 40 _ g2).1
 have j3 := roomK_lt (l := x.attrs) (deep := 40) g2 j2 (by omega)
 have c4 := k'46 B z_exs (roomK x.attrs 40 (roomB x.pos.cs x.pos.u (roomB x.neg.cs x.neg.u (k'18 (room) x.u.length)))) n_exs k_exs r_exs g3 j3
 unfold roomEh
 refine k'2 (X := cx B) (fn := Tryz.f43) Tryz.func43 rfl rfl rfl rfl rfl 0 [] rfl rfl ?_
 refine Y ?_
 refine x_cw [] (c0) rfl rfl rfl ?_
 refine x_cw [] (c1) rfl rfl rfl ?_
 refine x_cw [] (c2) rfl rfl rfl ?_
 refine x_cw [] (c3) rfl rfl rfl ?_
 refine k'17 [] (c4) rfl rfl rfl ?_
 exact Z
