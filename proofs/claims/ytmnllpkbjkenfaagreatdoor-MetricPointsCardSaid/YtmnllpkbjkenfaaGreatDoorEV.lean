/- Exemplar: how much room they take. -/
import Derived.Test.YtmnllpkbjkenfaaGreatDoorRV
import Derived.Test.YtmnllpkbjkenfaaGreatDoorEW
set_option linter.unusedSimpArgs false
set_option linter.unusedVariables false
set_option maxRecDepth 100000
namespace Go.Proofs.YtmnllpkbjkenfaaGreatDoor
open Go Go.Abs
def Em.ln (x : Em) : Prop := Kv.lns x.attrs ∧ x.attrs.length ≤ 9223372036854775807 ∧ x.span.length ≤ 9223372036854775807 ∧ x.trace.length ≤ 9223372036854775807 ∧ x.u.length ≤ 9223372036854775807
def roomEm (x : Em) (room : Int) : Int := roomK x.attrs 40 (k'18 (k'18 (k'18 room x.span.length) x.trace.length) x.u.length)
theorem roomEm_ok (x : Em) (room : Int) (h : -1 ≤ room) : -1 ≤ roomEm x room ∧ (0 ≤ roomEm x room → ((x.sz : Int) ≤ 300 + 5 * (room - roomEm x room) - 5 * 60) ∧ roomEm x room + 20 ≤ room) := by
 unfold roomEm Em.sz
 obtain ⟨a0, b0⟩ := k'10 (n := x.span.length) h
 obtain ⟨a1, b1⟩ := k'10 (n := x.trace.length) a0
 obtain ⟨a2, b2⟩ := k'10 (n := x.u.length) a1
 obtain ⟨a3, b3⟩ := k'2x x.attrs 40 _ a2
 refine ⟨a3, fun hh => ?_⟩
 have d3 := b3 hh
 have d2 := b2 (by omega)
 have d1 := b1 (by omega)
 have d0 := b0 (by omega)
 omega
theorem roomEm_lt {x : Em} {room M : Int} (h1 : -1 ≤ room) (h : room < M) (hM : 0 ≤ M) : roomEm x room < M := by
 obtain ⟨a, b⟩ := roomEm_ok x room h1
 rcases Int.lt_or_le (roomEm x room) 0 with g | g
 ·omega
 ·have := b g; omega
def k'2a : List Em → Int → Int
 | [], room => room
 | x :: l, room => if room < 0 then room else k'2a l (roomEm x room)
theorem roomEms_neg {l : List Em} {room : Int} (h : room < 0) : k'2a l room = room := by
 cases l with
 | nil => rfl
 | cons v l => unfold k'2a; rw [if_pos h]
theorem roomEms_ok : ∀ (l : List Em) (room : Int), -1 ≤ room → -1 ≤ k'2a l room ∧ (0 ≤ k'2a l room → (((l.map Em.sz).sum : Int) ≤ 5 * (room - k'2a l room)) ∧ k'2a l room ≤ room)
 | [], room, h => by unfold k'2a; simp; omega
 | x :: l, room, h => by
  obtain ⟨a1, a2⟩ := roomEm_ok x room h
  obtain ⟨b1, b2⟩ := roomEms_ok l _ a1
  unfold k'2a
  rw [List.map_cons, List.sum_cons]
  split
  ·omega
  ·exact ⟨b1, fun hh => by have c1 := b2 hh; have c2 := a2 (by omega); push_cast; omega⟩
variable (B : Fr)
theorem k'46 {l : List Em} {xs : List D} (z : Bool) (room : Int) (h1 : ∀ v ∈ l, v.ln) (h2 : l.length ≤ 9223372036854775807) (h3 : RsOf Em.R l xs) (hr1 : -1 ≤ room) (hr2 : room < 9223372036854775000) : k'1 (cx B) 121 [.d (.sl z xs), .d (.int .i64 room)] [] (.d (.int .i64 (k'2a l room))) [] := by
 have hla := h3.1
 generalize hRR : k'2a l room = RR
 refine k'2 (X := cx B) (fn := Tryz.f121) Tryz.func121 rfl rfl rfl rfl rfl 0 [] rfl rfl ?_
 refine Y ?_
 refine k'12 (fun y : Nat × Int => xs.length - y.1) (fun y => [(0, .d (.sl z xs)), (1, .d (.int .i64 y.2)), (5, iT y.1)]) (fun _ => []) (fun y => y.1 ≤ xs.length ∧ k'2a (l.drop y.1) y.2 = RR ∧ -1 ≤ y.2 ∧ y.2 < 9223372036854775000) (0, room) ⟨by omega, hRR, hr1, hr2⟩ ⟨rfl, rfl, rfl, trivial⟩ rfl 0 rfl (fun _ => rfl) (fun _ => rfl) (fun _ => rfl) ?_
 rintro ⟨i, rm⟩ ⟨i1, i2, i3, i4⟩
 dsimp only at i1 i2 i3 i4 ⊢
 refine Y ?_
 by_cases hlt : i < xs.length
 ·rw [show decide ((i : Int) < xs.length) = true from decide_eq_true (by omega)]
  refine Y ?_
  by_cases hr0 : rm ≥ 0
  ·rw [show decide (rm ≥ 0) = true from decide_eq_true hr0]
   obtain ⟨x', hxi⟩ : ∃ x, xs[i]? = some x := ⟨_, List.getElem?_eq_getElem hlt⟩
   obtain ⟨x, hv, hvr⟩ := h3.at hxi
   obtain ⟨n_attrs, k_attrs, k_span, k_trace, k_u⟩ := h1 x (List.mem_of_getElem? hv)
   obtain ⟨z_attrs, l_attrs, rfl, r_attrs⟩ := hvr
   rw [k'2s hv] at i2
   unfold k'2a at i2
   rw [if_neg (by omega)] at i2
   have hok := roomEm_ok x rm i3
   have hlt2 := roomEm_lt (x := x) i3 i4 (by omega)
   unfold roomEm at i2 hok hlt2
   have c0 := k'b B (rm) x.span.length i3 i4 k_span
   obtain ⟨g0, j0⟩ := k'11 (n := x.span.length) i4
   have c1 := k'b B (k'18 (rm) x.span.length) x.trace.length g0 j0 k_trace
   obtain ⟨g1, j1⟩ := k'11 (n := x.trace.length) j0
   have c2 := k'b B (k'18 (k'18 (rm) x.span.length) x.trace.length) x.u.length g1 j1 k_u
   obtain ⟨g2, j2⟩ := k'11 (n := x.u.length) j1
   have c3 := k'1o B z_attrs (k'18 (k'18 (k'18 (rm) x.span.length) x.trace.length) x.u.length) n_attrs k_attrs r_attrs g2 j2
   refine Y ?_
   refine k'6 (.indexAddr (k := .i64) (n := i) (es := xs) rfl rfl rfl rfl (.inl ⟨_, rfl⟩) rfl (by omega) (by simpa using hxi) rfl (by decide)) rfl rfl ?_
   refine Y ?_
   refine x_cw [] (c0) rfl rfl rfl ?_
   refine x_cw [] (c1) rfl rfl rfl ?_
   refine x_cw [] (c2) rfl rfl rfl ?_
   refine l_cw [] (c3) rfl rfl rfl ?_
   rw [show IntKind.i64.wrap ((i : Int) + 1) = ((i + 1 : Nat) : Int) by rw [k'1m (by omega) (by omega)]; omega]
   exact ⟨(i + 1, _), by show xs.length - (i + 1) < _; omega, ⟨by show i + 1 ≤ _; omega, i2, hok.1, hlt2⟩, ⟨rfl, rfl, rfl, trivial⟩, rfl, k'1z rfl⟩
  ·rw [show decide (rm ≥ 0) = false from decide_eq_false hr0]
   rw [roomEms_neg (by omega)] at i2
   subst i2
   exact Z
 ·rw [show decide ((i : Int) < xs.length) = false from decide_eq_false (by omega)]
  have e : i = l.length := by omega
  rw [e, List.drop_length] at i2
  have i2 : rm = RR := i2
  subst i2
  exact Z
