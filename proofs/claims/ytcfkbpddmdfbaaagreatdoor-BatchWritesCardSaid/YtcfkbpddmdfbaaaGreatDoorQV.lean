/- Summaries: how much room they take. -/
import Derived.Test.YtcfkbpddmdfbaaaGreatDoorRV
import Derived.Test.YtcfkbpddmdfbaaaGreatDoorCW
import Derived.Test.YtcfkbpddmdfbaaaGreatDoorNW
import Derived.Test.YtcfkbpddmdfbaaaGreatDoorSD
import Derived.Test.YtcfkbpddmdfbaaaGreatDoorQW
set_option linter.unusedSimpArgs false
set_option linter.unusedVariables false
set_option maxRecDepth 100000
namespace Go.Proofs.YtcfkbpddmdfbaaaGreatDoor
open Go Go.Abs
variable (B : Fr)
section
def Qu.ln (x : Qu) : Prop := x.u.length ≤ 9223372036854775807
def roomQu (x : Qu) (room : Int) : Int := k'n room x.u.length
theorem roomQu_ok (x : Qu) (room : Int) (h : -1 ≤ room) : -1 ≤ roomQu x room ∧ (0 ≤ roomQu x room → ((x.sz : Int) ≤ 300 + 5 * (room - roomQu x room) - 5 * 0) ∧ roomQu x room + 20 ≤ room) := by
 unfold roomQu Qu.sz
 obtain ⟨a0, b0⟩ := k'k (n := x.u.length) h
 refine ⟨a0, fun hh => ?_⟩
 have d0 := b0 hh
 omega
theorem roomQu_lt {x : Qu} {room M : Int} (h1 : -1 ≤ room) (h : room < M) (hM : 0 ≤ M) : roomQu x room < M := by
 obtain ⟨a, b⟩ := roomQu_ok x room h1
 rcases Int.lt_or_le (roomQu x room) 0 with g | g
 ·omega
 ·have := b g; omega
def k'2q : List Qu → Int → Int
 | [], room => room
 | x :: l, room => if room < 0 then room else k'2q l (roomQu x room)
theorem roomQus_neg {l : List Qu} {room : Int} (h : room < 0) : k'2q l room = room := by
 cases l with
 | nil => rfl
 | cons v l => unfold k'2q; rw [if_pos h]
theorem roomQus_ok : ∀ (l : List Qu) (room : Int), -1 ≤ room → -1 ≤ k'2q l room ∧ (0 ≤ k'2q l room → (((l.map Qu.sz).sum : Int) ≤ 20 * (room - k'2q l room)) ∧ k'2q l room ≤ room)
 | [], room, h => by unfold k'2q; simp; omega
 | x :: l, room, h => by
  obtain ⟨a1, a2⟩ := roomQu_ok x room h
  obtain ⟨b1, b2⟩ := roomQus_ok l _ a1
  unfold k'2q
  rw [List.map_cons, List.sum_cons]
  split
  ·omega
  ·exact ⟨b1, fun hh => by have c1 := b2 hh; have c2 := a2 (by omega); push_cast; omega⟩
theorem roomQus_lt {l : List Qu} {room M : Int} (h1 : -1 ≤ room) (h : room < M) (hM : 0 ≤ M) : k'2q l room < M := by
 obtain ⟨a, b⟩ := roomQus_ok l room h1
 rcases Int.lt_or_le (k'2q l room) 0 with g | g
 ·omega
 ·have := b g; omega
def Su.ln (x : Su) : Prop := Kv.lns x.attrs ∧ x.attrs.length ≤ 9223372036854775807 ∧ (∀ v ∈ x.qs, v.ln) ∧ x.qs.length ≤ 9223372036854775807 ∧ x.u.length ≤ 9223372036854775807
def roomSu (x : Su) (room : Int) : Int := roomK x.attrs 40 (k'2q x.qs (k'n room x.u.length))
theorem roomSu_ok (x : Su) (room : Int) (h : -1 ≤ room) : -1 ≤ roomSu x room ∧ (0 ≤ roomSu x room → ((x.sz : Int) ≤ 300 + 20 * (room - roomSu x room)) ∧ roomSu x room + 20 ≤ room) := by
 unfold roomSu Su.sz
 obtain ⟨a0, b0⟩ := k'k (n := x.u.length) h
 obtain ⟨a1, b1⟩ := roomQus_ok x.qs _ a0
 obtain ⟨a2, b2⟩ := k'2f x.attrs 40 _ a1
 refine ⟨a2, fun hh => ?_⟩
 have d2 := b2 hh
 have d1 := b1 (by omega)
 have d0 := b0 (by omega)
 omega
theorem roomSu_lt {x : Su} {room M : Int} (h1 : -1 ≤ room) (h : room < M) (hM : 0 ≤ M) : roomSu x room < M := by
 obtain ⟨a, b⟩ := roomSu_ok x room h1
 rcases Int.lt_or_le (roomSu x room) 0 with g | g
 ·omega
 ·have := b g; omega
def k'2p : List Su → Int → Int
 | [], room => room
 | x :: l, room => if room < 0 then room else k'2p l (roomSu x room)
theorem roomSus_neg {l : List Su} {room : Int} (h : room < 0) : k'2p l room = room := by
 cases l with
 | nil => rfl
 | cons v l => unfold k'2p; rw [if_pos h]
theorem roomSus_ok : ∀ (l : List Su) (room : Int), -1 ≤ room → -1 ≤ k'2p l room ∧ (0 ≤ k'2p l room → (((l.map Su.sz).sum : Int) ≤ 40 * (room - k'2p l room)) ∧ k'2p l room ≤ room)
 | [], room, h => by unfold k'2p; simp; omega
 | x :: l, room, h => by
  obtain ⟨a1, a2⟩ := roomSu_ok x room h
  obtain ⟨b1, b2⟩ := roomSus_ok l _ a1
  unfold k'2p
  rw [List.map_cons, List.sum_cons]
  split
  ·omega
  ·exact ⟨b1, fun hh => by have c1 := b2 hh; have c2 := a2 (by omega); push_cast; omega⟩
theorem roomSus_lt {l : List Su} {room M : Int} (h1 : -1 ≤ room) (h : room < M) (hM : 0 ≤ M) : k'2p l room < M := by
 obtain ⟨a, b⟩ := roomSus_ok l room h1
 rcases Int.lt_or_le (k'2p l room) 0 with g | g
 ·omega
 ·have := b g; omega
theorem RoomSu_calls (x : Su) (xa : D) (room : Int) (h1 : x.ln) (h3 : x.R xa) (hr1 : -1 ≤ room) (hr2 : room < 9223372036854775000) : k'0 (cx B) 125 [.d xa, .d (.int .i64 room)] [] (.d (.int .i64 (roomSu x room))) [] := by
 obtain ⟨n_attrs, k_attrs, n_qs, k_qs, k_u⟩ := h1
 obtain ⟨z_attrs, l_attrs, z_qs, l_qs, rfl, r_attrs, r_qs⟩ := h3
 have c0 := k'9 B room x.u.length hr1 hr2 k_u
 obtain ⟨g0, j0⟩ := k'h (n := x.u.length) hr2
 have hla := r_qs.1
 have g1 := (roomQus_ok x.qs _ g0).1
 have j1 := roomQus_lt (l := x.qs) g0 j0 (by omega)
 unfold roomSu
 generalize hRR : k'2q x.qs (k'n room x.u.length) = RR at *
 have c2 := k'16 B z_attrs RR n_attrs k_attrs r_attrs g1 j1
 refine l_bw Tryz.func125 0 [] ?_
 refine l_cw [] (c0) rfl rfl rfl ?_
 refine k'8 (fun y : Nat × Int => l_qs.length - y.1) (fun y => [(1, .d (.int .i64 y.2)), (2, .ptr 0 0), (5, iT y.1)]) (fun _ => [.mu [.d (.sl z_attrs l_attrs), .d (.int .u64 x.start), .d (.int .u64 x.time), .d (.int .u64 x.count), .d (.int .u64 x.sum), .d (.sl z_qs l_qs), .d (.int .u32 x.flags), .d (.str x.u)]]) (fun y => y.1 ≤ l_qs.length ∧ k'2q (x.qs.drop y.1) y.2 = RR ∧ -1 ≤ y.2 ∧ y.2 < 9223372036854775000) (0, k'n room x.u.length) ⟨by omega, hRR, g0, j0⟩ ⟨rfl, rfl, rfl, trivial⟩ rfl 1 rfl (fun _ => rfl) (fun _ => rfl) (fun _ => rfl) ?_
 rintro ⟨i, rm⟩ ⟨i1, i2, i3, i4⟩
 dsimp only at i1 i2 i3 i4 ⊢
 refine Y ?_
 have hcases : (i < l_qs.length ∧ rm ≥ 0) ∨ ((¬ i < l_qs.length) ∨ (i < l_qs.length ∧ ¬ rm ≥ 0)) := by omega
 rcases hcases with ⟨hlt, hr0⟩ | hcases
 ·rw [show decide ((i : Int) < l_qs.length) = true from decide_eq_true (by omega)]
  refine Y ?_
  rw [show decide (rm ≥ 0) = true from decide_eq_true hr0]
  obtain ⟨x', hxi⟩ : ∃ x, l_qs[i]? = some x := ⟨_, List.getElem?_eq_getElem hlt⟩
  obtain ⟨v, hv, hvr⟩ := r_qs.at hxi
  have hln := n_qs v (List.mem_of_getElem? hv)
  unfold Qu.ln at hln
  obtain rfl : x' = v.d := hvr
  rw [k'2m hv] at i2
  unfold k'2q at i2
  rw [if_neg (by omega)] at i2
  have hok := (roomQu_ok v rm i3).1
  have hlt2 := roomQu_lt (x := v) i3 i4 (by omega)
  have cc := k'9 B rm v.u.length i3 i4 hln
  unfold roomQu at i2 hok hlt2
  refine Y ?_
  refine k'1 (.indexAddr (k := .i64) (n := i) (es := l_qs) rfl rfl rfl rfl (.inl ⟨_, rfl⟩) rfl (by omega) (by simpa using hxi) rfl (by decide)) rfl rfl ?_
  refine Y ?_
  refine l_cw [] (cc) rfl rfl rfl ?_
  rw [wS i (by omega)]
  exact ⟨(i + 1, _), by show l_qs.length - (i + 1) < _; omega, ⟨by show i + 1 ≤ _; omega, i2, hok, hlt2⟩, ⟨rfl, rfl, rfl, trivial⟩, rfl, k'z rfl⟩
 ·have hrm : rm = RR := by
   rcases hcases with g | ⟨-, g⟩
   ·have e : i = x.qs.length := by omega
    rw [e, List.drop_length] at i2
    exact i2
   ·rw [roomQus_neg (by omega)] at i2
    exact i2
  subst hrm
  rcases hcases with hlt | ⟨hlt, hr0⟩
  ·rw [show decide ((i : Int) < l_qs.length) = false from decide_eq_false (by omega)]
   refine Y ?_
   refine k'2 [] (c2) rfl rfl rfl ?_
   exact Z
  ·rw [show decide ((i : Int) < l_qs.length) = true from decide_eq_true (by omega)]
   refine Y ?_
   rw [show decide (rm ≥ 0) = false from decide_eq_false hr0]
   refine Y ?_
   refine k'2 [] (c2) rfl rfl rfl ?_
   exact Z
end
section
def Em.ln (x : Em) : Prop := Kv.lns x.attrs ∧ x.attrs.length ≤ 9223372036854775807 ∧ x.span.length ≤ 9223372036854775807 ∧ x.trace.length ≤ 9223372036854775807 ∧ x.u.length ≤ 9223372036854775807
def roomEm (x : Em) (room : Int) : Int := roomK x.attrs 40 (k'n (k'n (k'n room x.span.length) x.trace.length) x.u.length)
theorem roomEm_ok (x : Em) (room : Int) (h : -1 ≤ room) : -1 ≤ roomEm x room ∧ (0 ≤ roomEm x room → ((x.sz : Int) ≤ 300 + 5 * (room - roomEm x room) - 5 * 60) ∧ roomEm x room + 20 ≤ room) := by
 unfold roomEm Em.sz
 obtain ⟨a0, b0⟩ := k'k (n := x.span.length) h
 obtain ⟨a1, b1⟩ := k'k (n := x.trace.length) a0
 obtain ⟨a2, b2⟩ := k'k (n := x.u.length) a1
 obtain ⟨a3, b3⟩ := k'2f x.attrs 40 _ a2
 refine ⟨a3, fun hh => ?_⟩
 have d3 := b3 hh
 have d2 := b2 (by omega)
 have d1 := b1 (by omega)
 have d0 := b0 (by omega)
 omega
theorem roomEm_lt {x : Em} {room M : Int} (h1 : -1 ≤ room) (h : room < M) (hM : 0 ≤ M) : roomEm x room < M := by
 obtain ⟨a, b⟩ := roomEm_ok x room h1
 rcases Int.lt_or_le (roomEm x room) 0 with g | g
 ·omega
 ·have := b g; omega
def k'2i : List Em → Int → Int
 | [], room => room
 | x :: l, room => if room < 0 then room else k'2i l (roomEm x room)
theorem roomEms_neg {l : List Em} {room : Int} (h : room < 0) : k'2i l room = room := by
 cases l with
 | nil => rfl
 | cons v l => unfold k'2i; rw [if_pos h]
theorem roomEms_ok : ∀ (l : List Em) (room : Int), -1 ≤ room → -1 ≤ k'2i l room ∧ (0 ≤ k'2i l room → (((l.map Em.sz).sum : Int) ≤ 5 * (room - k'2i l room)) ∧ k'2i l room ≤ room)
 | [], room, h => by unfold k'2i; simp; omega
 | x :: l, room, h => by
  obtain ⟨a1, a2⟩ := roomEm_ok x room h
  obtain ⟨b1, b2⟩ := roomEms_ok l _ a1
  unfold k'2i
  rw [List.map_cons, List.sum_cons]
  split
  ·omega
  ·exact ⟨b1, fun hh => by have c1 := b2 hh; have c2 := a2 (by omega); push_cast; omega⟩
theorem k'42 {l : List Em} {xs : List D} (z : Bool) (room : Int) (h1 : ∀ v ∈ l, v.ln) (h2 : l.length ≤ 9223372036854775807) (h3 : RsOf Em.R l xs) (hr1 : -1 ≤ room) (hr2 : room < 9223372036854775000) : k'0 (cx B) 177 [.d (.sl z xs), .d (.int .i64 room)] [] (.d (.int .i64 (k'2i l room))) [] := by
 have hla := h3.1
 generalize hRR : k'2i l room = RR
 refine l_bw Tryz.func177 0 [] ?_
 refine k'8 (fun y : Nat × Int => xs.length - y.1) (fun y => [(0, .d (.sl z xs)), (1, .d (.int .i64 y.2)), (5, iT y.1)]) (fun _ => []) (fun y => y.1 ≤ xs.length ∧ k'2i (l.drop y.1) y.2 = RR ∧ -1 ≤ y.2 ∧ y.2 < 9223372036854775000) (0, room) ⟨by omega, hRR, hr1, hr2⟩ ⟨rfl, rfl, rfl, trivial⟩ rfl 0 rfl (fun _ => rfl) (fun _ => rfl) (fun _ => rfl) ?_
 rintro ⟨i, rm⟩ ⟨i1, i2, i3, i4⟩
 dsimp only at i1 i2 i3 i4 ⊢
 refine Y ?_
 by_cases hlt : i < xs.length
 ·rw [show decide ((i : Int) < xs.length) = true from decide_eq_true (by omega)]
  refine Y ?_
  by_cases hr0 : rm ≥ 0
  ·rw [show decide (rm ≥ 0) = true from decide_eq_true hr0]
   obtain ⟨x', hxi⟩ : ∃ x, xs[i]? = some x := ⟨_, List.getElem?_eq_getElem hlt⟩
   obtain ⟨x, hv, hvr⟩ := h3.at hxi
   obtain ⟨n_attrs, k_attrs, k_span, k_trace, k_u⟩ := h1 x (List.mem_of_getElem? hv)
   obtain ⟨z_attrs, l_attrs, rfl, r_attrs⟩ := hvr
   rw [k'2m hv] at i2
   unfold k'2i at i2
   rw [if_neg (by omega)] at i2
   have hok := roomEm_ok x rm i3
   have hlt2 := roomEm_lt (x := x) i3 i4 (by omega)
   unfold roomEm at i2 hok hlt2
   have c0 := k'9 B (rm) x.span.length i3 i4 k_span
   obtain ⟨g0, j0⟩ := k'h (n := x.span.length) i4
   have c1 := k'9 B (k'n (rm) x.span.length) x.trace.length g0 j0 k_trace
   obtain ⟨g1, j1⟩ := k'h (n := x.trace.length) j0
   have c2 := k'9 B (k'n (k'n (rm) x.span.length) x.trace.length) x.u.length g1 j1 k_u
   obtain ⟨g2, j2⟩ := k'h (n := x.u.length) j1
   have c3 := k'16 B z_attrs (k'n (k'n (k'n (rm) x.span.length) x.trace.length) x.u.length) n_attrs k_attrs r_attrs g2 j2
   refine Y ?_
   refine k'1 (.indexAddr (k := .i64) (n := i) (es := xs) rfl rfl rfl rfl (.inl ⟨_, rfl⟩) rfl (by omega) (by simpa using hxi) rfl (by decide)) rfl rfl ?_
   refine Y ?_
   refine x_cw [] (c0) rfl rfl rfl ?_
   refine x_cw [] (c1) rfl rfl rfl ?_
   refine x_cw [] (c2) rfl rfl rfl ?_
   refine l_cw [] (c3) rfl rfl rfl ?_
   rw [wS i (by omega)]
   exact ⟨(i + 1, _), by show xs.length - (i + 1) < _; omega, ⟨by show i + 1 ≤ _; omega, i2, hok.1, hlt2⟩, ⟨rfl, rfl, rfl, trivial⟩, rfl, k'z rfl⟩
  ·rw [show decide (rm ≥ 0) = false from decide_eq_false hr0]
   rw [roomEms_neg (by omega)] at i2
   subst i2
   exact Z
 ·rw [show decide ((i : Int) < xs.length) = false from decide_eq_false (by omega)]
  have e : i = l.length := by omega
  rw [e, List.drop_length] at i2
  have i2 : rm = RR := i2
  subst i2
  exact Z
end
section
def Nb.ln (x : Nb) : Prop := Kv.lns x.attrs ∧ x.attrs.length ≤ 9223372036854775807 ∧ (∀ v ∈ x.exs, v.ln) ∧ x.exs.length ≤ 9223372036854775807 ∧ x.u.length ≤ 9223372036854775807
def roomNb (x : Nb) (room : Int) : Int := k'2i x.exs (roomK x.attrs 40 (k'n room x.u.length))
theorem roomNb_ok (x : Nb) (room : Int) (h : -1 ≤ room) : -1 ≤ roomNb x room ∧ (0 ≤ roomNb x room → ((x.sz : Int) ≤ 300 + 5 * (room - roomNb x room) - 5 * 0) ∧ roomNb x room + 20 ≤ room) := by
 unfold roomNb Nb.sz
 obtain ⟨a0, b0⟩ := k'k (n := x.u.length) h
 obtain ⟨a1, b1⟩ := k'2f x.attrs 40 _ a0
 obtain ⟨a2, b2⟩ := roomEms_ok x.exs _ a1
 refine ⟨a2, fun hh => ?_⟩
 have d2 := b2 hh
 have d1 := b1 (by omega)
 have d0 := b0 (by omega)
 omega
theorem roomNb_lt {x : Nb} {room M : Int} (h1 : -1 ≤ room) (h : room < M) (hM : 0 ≤ M) : roomNb x room < M := by
 obtain ⟨a, b⟩ := roomNb_ok x room h1
 rcases Int.lt_or_le (roomNb x room) 0 with g | g
 ·omega
 ·have := b g; omega
def k'2r : List Nb → Int → Int
 | [], room => room
 | x :: l, room => if room < 0 then room else k'2r l (roomNb x room)
theorem roomNbs_neg {l : List Nb} {room : Int} (h : room < 0) : k'2r l room = room := by
 cases l with
 | nil => rfl
 | cons v l => unfold k'2r; rw [if_pos h]
theorem roomNbs_ok : ∀ (l : List Nb) (room : Int), -1 ≤ room → -1 ≤ k'2r l room ∧ (0 ≤ k'2r l room → (((l.map Nb.sz).sum : Int) ≤ 20 * (room - k'2r l room)) ∧ k'2r l room ≤ room)
 | [], room, h => by unfold k'2r; simp; omega
 | x :: l, room, h => by
  obtain ⟨a1, a2⟩ := roomNb_ok x room h
  obtain ⟨b1, b2⟩ := roomNbs_ok l _ a1
  unfold k'2r
  rw [List.map_cons, List.sum_cons]
  split
  ·omega
  ·exact ⟨b1, fun hh => by have c1 := b2 hh; have c2 := a2 (by omega); push_cast; omega⟩
theorem roomNbs_lt {l : List Nb} {room M : Int} (h1 : -1 ≤ room) (h : room < M) (hM : 0 ≤ M) : k'2r l room < M := by
 obtain ⟨a, b⟩ := roomNbs_ok l room h1
 rcases Int.lt_or_le (k'2r l room) 0 with g | g
 ·omega
 ·have := b g; omega
theorem RoomNb_calls (x : Nb) (xa : D) (room : Int) (h1 : x.ln) (h3 : x.R xa) (hr1 : -1 ≤ room) (hr2 : room < 9223372036854775000) : k'0 (cx B) 122 [.d xa, .d (.int .i64 room)] [] (.d (.int .i64 (roomNb x room))) [] := by
 obtain ⟨n_attrs, k_attrs, n_exs, k_exs, k_u⟩ := h1
 obtain ⟨z_attrs, l_attrs, z_exs, l_exs, rfl, r_attrs, r_exs⟩ := h3
 have c0 := k'9 B (room) x.u.length hr1 hr2 k_u
 obtain ⟨g0, j0⟩ := k'h (n := x.u.length) hr2
 have c1 := k'16 B z_attrs (k'n (room) x.u.length) n_attrs k_attrs r_attrs g0 j0
 have g1 := (k'2f x.attrs 40 _ g0).1
 have j1 := roomK_lt (l := x.attrs) (deep := 40) g0 j0 (by omega)
 have c2 := k'42 B z_exs (roomK x.attrs 40 (k'n (room) x.u.length)) n_exs k_exs r_exs g1 j1
 unfold roomNb
 refine l_bw Tryz.func122 0 [] ?_
 refine x_cw [] (c0) rfl rfl rfl ?_
 refine x_cw [] (c1) rfl rfl rfl ?_
 refine k'3 [] (c2) rfl rfl rfl ?_
 exact Z
end
section
theorem minW (a : List Nat) : IntKind.i64.wrap (8 * (if (100000 : Int) < ((a.map uD).length : Int) then 100000 else ((a.map uD).length : Int))) = ((8 * min a.length 100000 : Nat) : Int) := by
 rw [List.length_map]
 by_cases h : 100000 < a.length
 ·rw [if_pos (by omega), show 8 * min a.length 100000 = 800000 by omega]; rfl
 ·rw [if_neg (by omega), k'10 (by omega) (by omega)]; omega
def Hi.ln (x : Hi) : Prop := Kv.lns x.attrs ∧ x.attrs.length ≤ 9223372036854775807 ∧ x.counts.length ≤ 9223372036854775807 ∧ x.bounds.length ≤ 9223372036854775807 ∧ (∀ v ∈ x.exs, v.ln) ∧ x.exs.length ≤ 9223372036854775807 ∧ x.u.length ≤ 9223372036854775807
def roomHi (x : Hi) (room : Int) : Int := k'2i x.exs (roomK x.attrs 40 (k'n (k'n (k'n room x.u.length) (8 * min x.counts.length 100000)) (8 * min x.bounds.length 100000)))
theorem roomHi_ok (x : Hi) (room : Int) (h : -1 ≤ room) : -1 ≤ roomHi x room ∧ (0 ≤ roomHi x room → (room ≤ 700000 → (x.sz : Int) ≤ 300 + 5 * (room - roomHi x room) - 5 * 0) ∧ roomHi x room + 20 ≤ room) := by
 unfold roomHi Hi.sz
 obtain ⟨a0, b0⟩ := k'k (n := x.u.length) h
 obtain ⟨a1, b1⟩ := k'k (n := 8 * min x.counts.length 100000) a0
 obtain ⟨a2, b2⟩ := k'k (n := 8 * min x.bounds.length 100000) a1
 obtain ⟨a3, b3⟩ := k'2f x.attrs 40 _ a2
 obtain ⟨a4, b4⟩ := roomEms_ok x.exs _ a3
 refine ⟨a4, fun hh => ?_⟩
 have d4 := b4 hh
 have d3 := b3 (by omega)
 have d2 := b2 (by omega)
 have d1 := b1 (by omega)
 have d0 := b0 (by omega)
 omega
theorem roomHi_lt {x : Hi} {room M : Int} (h1 : -1 ≤ room) (h : room < M) (hM : 0 ≤ M) : roomHi x room < M := by
 obtain ⟨a, b⟩ := roomHi_ok x room h1
 rcases Int.lt_or_le (roomHi x room) 0 with g | g
 ·omega
 ·have := b g; omega
def k'2s : List Hi → Int → Int
 | [], room => room
 | x :: l, room => if room < 0 then room else k'2s l (roomHi x room)
theorem roomHis_neg {l : List Hi} {room : Int} (h : room < 0) : k'2s l room = room := by
 cases l with
 | nil => rfl
 | cons v l => unfold k'2s; rw [if_pos h]
theorem roomHis_ok : ∀ (l : List Hi) (room : Int), -1 ≤ room → -1 ≤ k'2s l room ∧ (0 ≤ k'2s l room → (room ≤ 700000 → ((l.map Hi.sz).sum : Int) ≤ 20 * (room - k'2s l room)) ∧ k'2s l room ≤ room)
 | [], room, h => by unfold k'2s; simp; omega
 | x :: l, room, h => by
  obtain ⟨a1, a2⟩ := roomHi_ok x room h
  obtain ⟨b1, b2⟩ := roomHis_ok l _ a1
  unfold k'2s
  rw [List.map_cons, List.sum_cons]
  split
  ·omega
  ·exact ⟨b1, fun hh => by have c1 := b2 hh; have c2 := a2 (by omega); push_cast; omega⟩
theorem roomHis_lt {l : List Hi} {room M : Int} (h1 : -1 ≤ room) (h : room < M) (hM : 0 ≤ M) : k'2s l room < M := by
 obtain ⟨a, b⟩ := roomHis_ok l room h1
 rcases Int.lt_or_le (k'2s l room) 0 with g | g
 ·omega
 ·have := b g; omega
theorem RoomHi_calls (x : Hi) (xa : D) (room : Int) (h1 : x.ln) (h3 : x.R xa) (hr1 : -1 ≤ room) (hr2 : room < 9223372036854775000) : k'0 (cx B) 123 [.d xa, .d (.int .i64 room)] [] (.d (.int .i64 (roomHi x room))) [] := by
 obtain ⟨n_attrs, k_attrs, k_counts, k_bounds, n_exs, k_exs, k_u⟩ := h1
 obtain ⟨z_attrs, l_attrs, z_counts, z_bounds, z_exs, l_exs, rfl, r_attrs, r_exs⟩ := h3
 have c0 := k'9 B (room) x.u.length hr1 hr2 k_u
 obtain ⟨g0, j0⟩ := k'h (n := x.u.length) hr2
 have c1 := k'9 B (k'n (room) x.u.length) (8 * min x.counts.length 100000) g0 j0 (by omega)
 obtain ⟨g1, j1⟩ := k'h (n := 8 * min x.counts.length 100000) j0
 have c2 := k'9 B (k'n (k'n (room) x.u.length) (8 * min x.counts.length 100000)) (8 * min x.bounds.length 100000) g1 j1 (by omega)
 obtain ⟨g2, j2⟩ := k'h (n := 8 * min x.bounds.length 100000) j1
 have c3 := k'16 B z_attrs (k'n (k'n (k'n (room) x.u.length) (8 * min x.counts.length 100000)) (8 * min x.bounds.length 100000)) n_attrs k_attrs r_attrs g2 j2
 have g3 := (k'2f x.attrs 40 _ g2).1
 have j3 := roomK_lt (l := x.attrs) (deep := 40) g2 j2 (by omega)
 have c4 := k'42 B z_exs (roomK x.attrs 40 (k'n (k'n (k'n (room) x.u.length) (8 * min x.counts.length 100000)) (8 * min x.bounds.length 100000))) n_exs k_exs r_exs g3 j3
 unfold roomHi
 refine l_bw Tryz.func123 0 [] ?_
 refine x_cw [] (c0) rfl rfl rfl ?_
 rw [minW x.counts]
 refine x_cw [] (c1) rfl rfl rfl ?_
 rw [minW x.bounds]
 refine x_cw [] (c2) rfl rfl rfl ?_
 refine x_cw [] (c3) rfl rfl rfl ?_
 refine k'3 [] (c4) rfl rfl rfl ?_
 exact Z
end
section
theorem roomB_ok (b : Bk) {room : Int} (h : -1 ≤ room) : -1 ≤ roomB b.cs b.u room ∧ (0 ≤ roomB b.cs b.u room → (room ≤ 700000 → (b.sz : Int) ≤ 60 + 5 * (room - roomB b.cs b.u room) - 60) ∧ roomB b.cs b.u room + 20 ≤ room) := by
 unfold roomB Bk.sz
 obtain ⟨a0, b0⟩ := k'k (n := b.u.length) h
 obtain ⟨a1, b1⟩ := k'k (n := 8 * (if 100000 < b.cs.length then 100000 else b.cs.length)) a0
 refine ⟨a1, fun hh => ?_⟩
 have d1 := b1 hh
 have d0 := b0 (by omega)
 generalize k'n (k'n room b.u.length) (8 * (if 100000 < b.cs.length then 100000 else b.cs.length)) = r at *
 generalize k'n room b.u.length = q at *
 split at d1 <;> omega
theorem roomB_ge {cs : List Nat} {u : List UInt8} {room : Int} (h : room < 9223372036854775000) : -1 ≤ roomB cs u room ∧ roomB cs u room < 9223372036854775000 := by
 unfold roomB
 exact k'h (k'h h).2
def Eh.ln (x : Eh) : Prop := Kv.lns x.attrs ∧ x.attrs.length ≤ 9223372036854775807 ∧ (x.pos.cs.length ≤ 9223372036854775807 ∧ x.pos.u.length ≤ 9223372036854775807) ∧ (x.neg.cs.length ≤ 9223372036854775807 ∧ x.neg.u.length ≤ 9223372036854775807) ∧ (∀ v ∈ x.exs, v.ln) ∧ x.exs.length ≤ 9223372036854775807 ∧ x.u.length ≤ 9223372036854775807
def roomEh (x : Eh) (room : Int) : Int := k'2i x.exs (roomK x.attrs 40 (roomB x.pos.cs x.pos.u (roomB x.neg.cs x.neg.u (k'n room x.u.length))))
theorem roomEh_ok (x : Eh) (room : Int) (h : -1 ≤ room) : -1 ≤ roomEh x room ∧ (0 ≤ roomEh x room → (room ≤ 700000 → (x.sz : Int) ≤ 300 + 5 * (room - roomEh x room) - 5 * 0) ∧ roomEh x room + 20 ≤ room) := by
 unfold roomEh Eh.sz
 obtain ⟨a0, b0⟩ := k'k (n := x.u.length) h
 obtain ⟨a1, b1⟩ := roomB_ok x.neg a0
 obtain ⟨a2, b2⟩ := roomB_ok x.pos a1
 obtain ⟨a3, b3⟩ := k'2f x.attrs 40 _ a2
 obtain ⟨a4, b4⟩ := roomEms_ok x.exs _ a3
 refine ⟨a4, fun hh => ?_⟩
 have d4 := b4 hh
 have d3 := b3 (by omega)
 have d2 := b2 (by omega)
 have d1 := b1 (by omega)
 have d0 := b0 (by omega)
 omega
theorem roomEh_lt {x : Eh} {room M : Int} (h1 : -1 ≤ room) (h : room < M) (hM : 0 ≤ M) : roomEh x room < M := by
 obtain ⟨a, b⟩ := roomEh_ok x room h1
 rcases Int.lt_or_le (roomEh x room) 0 with g | g
 ·omega
 ·have := b g; omega
def k'2t : List Eh → Int → Int
 | [], room => room
 | x :: l, room => if room < 0 then room else k'2t l (roomEh x room)
theorem roomEhs_neg {l : List Eh} {room : Int} (h : room < 0) : k'2t l room = room := by
 cases l with
 | nil => rfl
 | cons v l => unfold k'2t; rw [if_pos h]
theorem roomEhs_ok : ∀ (l : List Eh) (room : Int), -1 ≤ room → -1 ≤ k'2t l room ∧ (0 ≤ k'2t l room → (room ≤ 700000 → ((l.map Eh.sz).sum : Int) ≤ 20 * (room - k'2t l room)) ∧ k'2t l room ≤ room)
 | [], room, h => by unfold k'2t; simp; omega
 | x :: l, room, h => by
  obtain ⟨a1, a2⟩ := roomEh_ok x room h
  obtain ⟨b1, b2⟩ := roomEhs_ok l _ a1
  unfold k'2t
  rw [List.map_cons, List.sum_cons]
  split
  ·omega
  ·exact ⟨b1, fun hh => by have c1 := b2 hh; have c2 := a2 (by omega); push_cast; omega⟩
theorem roomEhs_lt {l : List Eh} {room M : Int} (h1 : -1 ≤ room) (h : room < M) (hM : 0 ≤ M) : k'2t l room < M := by
 obtain ⟨a, b⟩ := roomEhs_ok l room h1
 rcases Int.lt_or_le (k'2t l room) 0 with g | g
 ·omega
 ·have := b g; omega
theorem RoomEh_calls (x : Eh) (xa : D) (room : Int) (h1 : x.ln) (h3 : x.R xa) (hr1 : -1 ≤ room) (hr2 : room < 9223372036854775000) : k'0 (cx B) 124 [.d xa, .d (.int .i64 room)] [] (.d (.int .i64 (roomEh x room))) [] := by
 obtain ⟨n_attrs, k_attrs, k_pos, k_neg, n_exs, k_exs, k_u⟩ := h1
 obtain ⟨z_attrs, l_attrs, z_pos, z_neg, z_exs, l_exs, rfl, r_attrs, r_exs⟩ := h3
 have c0 := k'9 B (room) x.u.length hr1 hr2 k_u
 obtain ⟨g0, j0⟩ := k'h (n := x.u.length) hr2
 have c1 := RoomZ B z_neg x.neg.off x.neg.cs x.neg.u (k'n (room) x.u.length) g0 j0 k_neg.2
 obtain ⟨g1, j1⟩ := roomB_ge (cs := x.neg.cs) (u := x.neg.u) j0
 have c2 := RoomZ B z_pos x.pos.off x.pos.cs x.pos.u (roomB x.neg.cs x.neg.u (k'n (room) x.u.length)) g1 j1 k_pos.2
 obtain ⟨g2, j2⟩ := roomB_ge (cs := x.pos.cs) (u := x.pos.u) j1
 have c3 := k'16 B z_attrs (roomB x.pos.cs x.pos.u (roomB x.neg.cs x.neg.u (k'n (room) x.u.length))) n_attrs k_attrs r_attrs g2 j2
 have g3 := (k'2f x.attrs 40 _ g2).1
 have j3 := roomK_lt (l := x.attrs) (deep := 40) g2 j2 (by omega)
 have c4 := k'42 B z_exs (roomK x.attrs 40 (roomB x.pos.cs x.pos.u (roomB x.neg.cs x.neg.u (k'n (room) x.u.length)))) n_exs k_exs r_exs g3 j3
 unfold roomEh
 refine l_bw Tryz.func124 0 [] ?_
 refine x_cw [] (c0) rfl rfl rfl ?_
 refine x_cw [] (c1) rfl rfl rfl ?_
 refine x_cw [] (c2) rfl rfl rfl ?_
 refine x_cw [] (c3) rfl rfl rfl ?_
 refine k'3 [] (c4) rfl rfl rfl ?_
 exact Z
end
