/- Exp: how much room they take. -/
import Derived.Test.YtcinfkbdmjnjlaaGreatDoorEV
import Derived.Test.YtcinfkbdmjnjlaaGreatDoorQW
set_option linter.unusedSimpArgs false
set_option linter.unusedVariables false
set_option maxRecDepth 100000
namespace Go.Proofs.YtcinfkbdmjnjlaaGreatDoor
open Go Go.Abs
theorem roomB_ok (b : Bk) {room : Int} (h : -1 ≤ room) : -1 ≤ roomB b.cs b.u room ∧ (0 ≤ roomB b.cs b.u room → (room ≤ 700000 → (b.sz : Int) ≤ 60 + 5 * (room - roomB b.cs b.u room) - 60) ∧ roomB b.cs b.u room + 20 ≤ room) := by
  unfold roomB Bk.sz
  obtain ⟨a0, b0⟩ := takeR_ok (n := b.u.length) h
  obtain ⟨a1, b1⟩ := takeR_ok (n := 8 * (if 100000 < b.cs.length then 100000 else b.cs.length)) a0
  refine ⟨a1, fun hh => ?_⟩
  have d1 := b1 hh
  have d0 := b0 (by omega)
  generalize takeR (takeR room b.u.length) (8 * (if 100000 < b.cs.length then 100000 else b.cs.length)) = r at *
  generalize takeR room b.u.length = q at *
  split at d1 <;> omega
theorem roomB_ge {cs : List Nat} {u : List UInt8} {room : Int} (h : room < 9223372036854775000) : -1 ≤ roomB cs u room ∧ roomB cs u room < 9223372036854775000 := by
  unfold roomB
  exact takeR_ge (takeR_ge h).2
def Eh.ln (x : Eh) : Prop := Kv.lns x.attrs ∧ x.attrs.length ≤ 9223372036854775807 ∧ (x.pos.cs.length ≤ 9223372036854775807 ∧ x.pos.u.length ≤ 9223372036854775807) ∧ (x.neg.cs.length ≤ 9223372036854775807 ∧ x.neg.u.length ≤ 9223372036854775807) ∧ (∀ v ∈ x.exs, v.ln) ∧ x.exs.length ≤ 9223372036854775807 ∧ x.u.length ≤ 9223372036854775807
def roomEh (x : Eh) (room : Int) : Int := roomEms x.exs (roomK x.attrs 40 (roomB x.pos.cs x.pos.u (roomB x.neg.cs x.neg.u (takeR room x.u.length))))
theorem roomEh_ok (x : Eh) (room : Int) (h : -1 ≤ room) : -1 ≤ roomEh x room ∧ (0 ≤ roomEh x room → (room ≤ 700000 → (x.sz : Int) ≤ 300 + 5 * (room - roomEh x room) - 5 * 0) ∧ roomEh x room + 20 ≤ room) := by
  unfold roomEh Eh.sz
  obtain ⟨a0, b0⟩ := takeR_ok (n := x.u.length) h
  obtain ⟨a1, b1⟩ := roomB_ok x.neg a0
  obtain ⟨a2, b2⟩ := roomB_ok x.pos a1
  obtain ⟨a3, b3⟩ := roomK_ok x.attrs 40 _ a2
  obtain ⟨a4, b4⟩ := roomEms_ok x.exs _ a3
  refine ⟨a4, fun hh => ?_⟩
  have d4 := b4 hh
  have d3 := b3 (by omega)
  have d2 := b2 (by omega)
  have d1 := b1 (by omega)
  have d0 := b0 (by omega)
  omega
variable (B : Fr)
theorem RoomEh_calls (x : Eh) (xa : D) (room : Int) (h1 : x.ln) (h3 : x.R xa) (hr1 : -1 ≤ room) (hr2 : room < 9223372036854775000) : CallsA (cx B) 18 [.d xa, .d (.int .i64 room)] [] (.d (.int .i64 (roomEh x room))) [] := by
  obtain ⟨n_attrs, k_attrs, k_pos, k_neg, n_exs, k_exs, k_u⟩ := h1
  obtain ⟨z_attrs, l_attrs, z_pos, z_neg, z_exs, l_exs, rfl, r_attrs, r_exs⟩ := h3
  have c0 := take_calls B (room) x.u.length hr1 hr2 k_u
  obtain ⟨g0, j0⟩ := takeR_ge (n := x.u.length) hr2
  have c1 := RoomZ B z_neg x.neg.off x.neg.cs x.neg.u (takeR (room) x.u.length) g0 j0 k_neg.2
  obtain ⟨g1, j1⟩ := roomB_ge (cs := x.neg.cs) (u := x.neg.u) j0
  have c2 := RoomZ B z_pos x.pos.off x.pos.cs x.pos.u (roomB x.neg.cs x.neg.u (takeR (room) x.u.length)) g1 j1 k_pos.2
  obtain ⟨g2, j2⟩ := roomB_ge (cs := x.pos.cs) (u := x.pos.u) j1
  have c3 := RoomKeys_calls B z_attrs (roomB x.pos.cs x.pos.u (roomB x.neg.cs x.neg.u (takeR (room) x.u.length))) n_attrs k_attrs r_attrs g2 j2
  have g3 := (roomK_ok x.attrs 40 _ g2).1
  have j3 := roomK_lt (l := x.attrs) (deep := 40) g2 j2 (by omega)
  have c4 := RoomEms_calls B z_exs (roomK x.attrs 40 (roomB x.pos.cs x.pos.u (roomB x.neg.cs x.neg.u (takeR (room) x.u.length)))) n_exs k_exs r_exs g3 j3
  unfold roomEh
  refine l_body (X := cx B) (fn := Tryz.f18) Tryz.func18 rfl rfl rfl rfl rfl 0 [] rfl rfl ?_
  refine walk ?_
  refine x_call [] (c0) rfl rfl rfl rfl rfl rfl (by decide) rfl rfl rfl rfl rfl rfl ?_
  refine walk ?_
  refine x_call [] (c1) rfl rfl rfl rfl rfl rfl (by decide) rfl rfl rfl rfl rfl rfl ?_
  refine walk ?_
  refine x_call [] (c2) rfl rfl rfl rfl rfl rfl (by decide) rfl rfl rfl rfl rfl rfl ?_
  refine walk ?_
  refine x_call [] (c3) rfl rfl rfl rfl rfl rfl (by decide) rfl rfl rfl rfl rfl rfl ?_
  refine walk ?_
  refine x_call [] (c4) rfl rfl rfl rfl rfl rfl (by decide) rfl rfl rfl rfl rfl rfl ?_
  refine walk ?_
  exact l_end trivial (by decide) rfl rfl rfl rfl rfl
/-- What the law's room tells. -/
def rmEh (x : Eh) (room : Int) : Int := roomEh x room
theorem rmEh_sz {x : Eh} (h : ¬ rmEh x 12000 < 0) : x.sz < 1000000 := by
  unfold rmEh at h
  obtain ⟨a, b⟩ := roomEh_ok x 12000 (by omega)
  have := (b (by omega)).1 (by omega)
  omega
theorem RmEh_calls (x : Eh) (xa : D) (h1 : x.ln) (h3 : x.R xa) : CallsA (cx B) 18 [.d xa, .d (.int .i64 12000)] [] (.d (.int .i64 (rmEh x 12000))) [] := RoomEh_calls B x xa 12000 h1 h3 (by omega) (by omega)
end Go.Proofs.YtcinfkbdmjnjlaaGreatDoor
