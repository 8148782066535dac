/- Summaries: how much room they take. -/
import Derived.Test.YtmnllpkbjkenfaaGreatDoorRV
import Derived.Test.YtmnllpkbjkenfaaGreatDoorSW
set_option linter.unusedSimpArgs false
set_option linter.unusedVariables false
set_option maxRecDepth 100000
namespace Go.Proofs.YtmnllpkbjkenfaaGreatDoor
open Go Go.Abs
def Qu.ln (x : Qu) : Prop := x.u.length ≤ 9223372036854775807
def roomQu (x : Qu) (room : Int) : Int := k'18 room x.u.length
theorem roomQu_ok (x : Qu) (room : Int) (h : -1 ≤ room) : -1 ≤ roomQu x room ∧ (0 ≤ roomQu x room → ((x.sz : Int) ≤ 300 + 5 * (room - roomQu x room) - 5 * 0) ∧ roomQu x room + 20 ≤ room) := by
 unfold roomQu Qu.sz
 obtain ⟨a0, b0⟩ := k'10 (n := x.u.length) h
 refine ⟨a0, fun hh => ?_⟩
 have d0 := b0 hh
 omega
theorem roomQu_lt {x : Qu} {room M : Int} (h1 : -1 ≤ room) (h : room < M) (hM : 0 ≤ M) : roomQu x room < M := by
 obtain ⟨a, b⟩ := roomQu_ok x room h1
 rcases Int.lt_or_le (roomQu x room) 0 with g | g
 ·omega
 ·have := b g; omega
def k'2f : List Qu → Int → Int
 | [], room => room
 | x :: l, room => if room < 0 then room else k'2f l (roomQu x room)
theorem roomQus_neg {l : List Qu} {room : Int} (h : room < 0) : k'2f l room = room := by
 cases l with
 | nil => rfl
 | cons v l => unfold k'2f; rw [if_pos h]
theorem roomQus_ok : ∀ (l : List Qu) (room : Int), -1 ≤ room → -1 ≤ k'2f l room ∧ (0 ≤ k'2f l room → (((l.map Qu.sz).sum : Int) ≤ 20 * (room - k'2f l room)) ∧ k'2f l room ≤ room)
 | [], room, h => by unfold k'2f; simp; omega
 | x :: l, room, h => by
  obtain ⟨a1, a2⟩ := roomQu_ok x room h
  obtain ⟨b1, b2⟩ := roomQus_ok l _ a1
  unfold k'2f
  rw [List.map_cons, List.sum_cons]
  split
  ·omega
  ·exact ⟨b1, fun hh => by have c1 := b2 hh; have c2 := a2 (by omega); push_cast; omega⟩
theorem roomQus_lt {l : List Qu} {room M : Int} (h1 : -1 ≤ room) (h : room < M) (hM : 0 ≤ M) : k'2f l room < M := by
 obtain ⟨a, b⟩ := roomQus_ok l room h1
 rcases Int.lt_or_le (k'2f l room) 0 with g | g
 ·omega
 ·have := b g; omega
def Su.ln (x : Su) : Prop := Kv.lns x.attrs ∧ x.attrs.length ≤ 9223372036854775807 ∧ (∀ v ∈ x.qs, v.ln) ∧ x.qs.length ≤ 9223372036854775807 ∧ x.u.length ≤ 9223372036854775807
def roomSu (x : Su) (room : Int) : Int := roomK x.attrs 40 (k'2f x.qs (k'18 room x.u.length))
theorem roomSu_ok (x : Su) (room : Int) (h : -1 ≤ room) : -1 ≤ roomSu x room ∧ (0 ≤ roomSu x room → ((x.sz : Int) ≤ 300 + 20 * (room - roomSu x room)) ∧ roomSu x room + 20 ≤ room) := by
 unfold roomSu Su.sz
 obtain ⟨a0, b0⟩ := k'10 (n := x.u.length) h
 obtain ⟨a1, b1⟩ := roomQus_ok x.qs _ a0
 obtain ⟨a2, b2⟩ := k'2x x.attrs 40 _ a1
 refine ⟨a2, fun hh => ?_⟩
 have d2 := b2 hh
 have d1 := b1 (by omega)
 have d0 := b0 (by omega)
 omega
theorem roomSu_lt {x : Su} {room M : Int} (h1 : -1 ≤ room) (h : room < M) (hM : 0 ≤ M) : roomSu x room < M := by
 obtain ⟨a, b⟩ := roomSu_ok x room h1
 rcases Int.lt_or_le (roomSu x room) 0 with g | g
 ·omega
 ·have := b g; omega
def k'2e : List Su → Int → Int
 | [], room => room
 | x :: l, room => if room < 0 then room else k'2e l (roomSu x room)
theorem roomSus_neg {l : List Su} {room : Int} (h : room < 0) : k'2e l room = room := by
 cases l with
 | nil => rfl
 | cons v l => unfold k'2e; rw [if_pos h]
theorem roomSus_ok : ∀ (l : List Su) (room : Int), -1 ≤ room → -1 ≤ k'2e l room ∧ (0 ≤ k'2e l room → (((l.map Su.sz).sum : Int) ≤ 40 * (room - k'2e l room)) ∧ k'2e l room ≤ room)
 | [], room, h => by unfold k'2e; simp; omega
 | x :: l, room, h => by
  obtain ⟨a1, a2⟩ := roomSu_ok x room h
  obtain ⟨b1, b2⟩ := roomSus_ok l _ a1
  unfold k'2e
  rw [List.map_cons, List.sum_cons]
  split
  ·omega
  ·exact ⟨b1, fun hh => by have c1 := b2 hh; have c2 := a2 (by omega); push_cast; omega⟩
theorem roomSus_lt {l : List Su} {room M : Int} (h1 : -1 ≤ room) (h : room < M) (hM : 0 ≤ M) : k'2e l room < M := by
 obtain ⟨a, b⟩ := roomSus_ok l room h1
 rcases Int.lt_or_le (k'2e l room) 0 with g | g
 ·omega
 ·have := b g; omega
variable (B : Fr)
theorem RoomSu_calls (x : Su) (xa : D) (room : Int) (h1 : x.ln) (h3 : x.R xa) (hr1 : -1 ≤ room) (hr2 : room < 9223372036854775000) : k'1 (cx B) 44 [.d xa, .d (.int .i64 room)] [] (.d (.int .i64 (roomSu x room))) [] := by
 obtain ⟨n_attrs, k_attrs, n_qs, k_qs, k_u⟩ := h1
 obtain ⟨z_attrs, l_attrs, z_qs, l_qs, rfl, r_attrs, r_qs⟩ := h3
 have c0 := k'b B room x.u.length hr1 hr2 k_u
 obtain ⟨g0, j0⟩ := k'11 (n := x.u.length) hr2
 have hla := r_qs.1
 have g1 := (roomQus_ok x.qs _ g0).1
 have j1 := roomQus_lt (l := x.qs) g0 j0 (by omega)
 unfold roomSu
 generalize hRR : k'2f x.qs (k'18 room x.u.length) = RR at *
 have c2 := k'1o B z_attrs RR n_attrs k_attrs r_attrs g1 j1
 refine k'2 (X := cx B) (fn := Tryz.f44) Tryz.func44 rfl rfl rfl rfl rfl 0 [] rfl rfl ?_
 refine Y ?_
 refine l_cw [] (c0) rfl rfl rfl ?_
 refine k'12 (fun y : Nat × Int => l_qs.length - y.1) (fun y => [(1, .d (.int .i64 y.2)), (2, .ptr 0 0), (5, iT y.1)]) (fun _ => [.mu [.d (.sl z_attrs l_attrs), .d (.int .u64 x.start), .d (.int .u64 x.time), .d (.int .u64 x.count), .d (.int .u64 x.sum), .d (.sl z_qs l_qs), .d (.int .u32 x.flags), .d (.str x.u)]]) (fun y => y.1 ≤ l_qs.length ∧ k'2f (x.qs.drop y.1) y.2 = RR ∧ -1 ≤ y.2 ∧ y.2 < 9223372036854775000) (0, k'18 room x.u.length) ⟨by omega, hRR, g0, j0⟩ ⟨rfl, rfl, rfl, trivial⟩ rfl 1 rfl (fun _ => rfl) (fun _ => rfl) (fun _ => rfl) ?_
 rintro ⟨i, rm⟩ ⟨i1, i2, i3, i4⟩
 dsimp only at i1 i2 i3 i4 ⊢
 refine Y ?_
 have hcases : (i < l_qs.length ∧ rm ≥ 0) ∨ ((¬ i < l_qs.length) ∨ (i < l_qs.length ∧ ¬ rm ≥ 0)) := by omega
 rcases hcases with ⟨hlt, hr0⟩ | hcases
 ·rw [show decide ((i : Int) < l_qs.length) = true from decide_eq_true (by omega)]
  refine Y ?_
  rw [show decide (rm ≥ 0) = true from decide_eq_true hr0]
  obtain ⟨x', hxi⟩ : ∃ x, l_qs[i]? = some x := ⟨_, List.getElem?_eq_getElem hlt⟩
  obtain ⟨v, hv, hvr⟩ := r_qs.at hxi
  have hln := n_qs v (List.mem_of_getElem? hv)
  unfold Qu.ln at hln
  obtain rfl : x' = v.d := hvr
  rw [k'2s hv] at i2
  unfold k'2f at i2
  rw [if_neg (by omega)] at i2
  have hok := (roomQu_ok v rm i3).1
  have hlt2 := roomQu_lt (x := v) i3 i4 (by omega)
  have cc := k'b B rm v.u.length i3 i4 hln
  unfold roomQu at i2 hok hlt2
  refine Y ?_
  refine k'6 (.indexAddr (k := .i64) (n := i) (es := l_qs) rfl rfl rfl rfl (.inl ⟨_, rfl⟩) rfl (by omega) (by simpa using hxi) rfl (by decide)) rfl rfl ?_
  refine Y ?_
  refine l_cw [] (cc) rfl rfl rfl ?_
  rw [show IntKind.i64.wrap ((i : Int) + 1) = ((i + 1 : Nat) : Int) by rw [k'1m (by omega) (by omega)]; omega]
  exact ⟨(i + 1, _), by show l_qs.length - (i + 1) < _; omega, ⟨by show i + 1 ≤ _; omega, i2, hok, hlt2⟩, ⟨rfl, rfl, rfl, trivial⟩, rfl, k'1z rfl⟩
 ·have hrm : rm = RR := by
   rcases hcases with g | ⟨-, g⟩
   ·have e : i = x.qs.length := by omega
    rw [e, List.drop_length] at i2
    exact i2
   ·rw [roomQus_neg (by omega)] at i2
    exact i2
  subst hrm
  rcases hcases with hlt | ⟨hlt, hr0⟩
  ·rw [show decide ((i : Int) < l_qs.length) = false from decide_eq_false (by omega)]
   refine Y ?_
   refine k'3 [] (c2) rfl rfl rfl ?_
   exact Z
  ·rw [show decide ((i : Int) < l_qs.length) = true from decide_eq_true (by omega)]
   refine Y ?_
   rw [show decide (rm ≥ 0) = false from decide_eq_false hr0]
   refine Y ?_
   refine k'3 [] (c2) rfl rfl rfl ?_
   exact Z
