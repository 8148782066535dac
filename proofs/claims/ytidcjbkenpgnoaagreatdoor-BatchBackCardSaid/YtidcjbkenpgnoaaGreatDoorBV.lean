/- Metrics: how much room they take. -/
import Derived.Test.YtidcjbkenpgnoaaGreatDoorQV
import Derived.Test.YtidcjbkenpgnoaaGreatDoorMU
import Derived.Test.YtidcjbkenpgnoaaGreatDoorBB
set_option linter.unusedSimpArgs false
set_option linter.unusedVariables false
set_option maxRecDepth 100000
namespace Go.Proofs.YtidcjbkenpgnoaaGreatDoor
open Go Go.Abs
variable (B : Fr)
section
def In.ln (x : In) : Prop := (∀ v ∈ x.nbs, v.ln) ∧ x.nbs.length ≤ 9223372036854775807 ∧ (∀ v ∈ x.his, v.ln) ∧ x.his.length ≤ 9223372036854775807 ∧ (∀ v ∈ x.ehs, v.ln) ∧ x.ehs.length ≤ 9223372036854775807 ∧ (∀ v ∈ x.sus, v.ln) ∧ x.sus.length ≤ 9223372036854775807 ∧ x.u.length ≤ 9223372036854775807
def Me.ln (x : Me) : Prop := x.name.length ≤ 9223372036854775807 ∧ x.desc.length ≤ 9223372036854775807 ∧ x.unit.length ≤ 9223372036854775807 ∧ x.dat.ln ∧ Kv.lns x.mets ∧ x.mets.length ≤ 9223372036854775807 ∧ x.u.length ≤ 9223372036854775807
def k'4f (x : Me) (room : Int) : Int := k'2n x.dat.sus (k'2r x.dat.ehs (k'2q x.dat.his (k'2p x.dat.nbs (roomK x.mets 40 (k'h (k'h (k'h (k'h (k'h room x.name.length) x.desc.length) x.unit.length) x.dat.u.length) x.u.length)))))
theorem roomMe_ok (x : Me) (room : Int) (h : -1 ≤ room) : -1 ≤ k'4f x room ∧ (0 ≤ k'4f x room → (room ≤ 700000 → (x.sz : Int) ≤ 600 + 40 * (room - k'4f x room)) ∧ k'4f x room + 20 ≤ room) := by
 unfold k'4f Me.sz In.sz
 obtain ⟨a0, b0⟩ := k'7 (n := x.name.length) h
 obtain ⟨a1, b1⟩ := k'7 (n := x.desc.length) a0
 obtain ⟨a2, b2⟩ := k'7 (n := x.unit.length) a1
 obtain ⟨a3, b3⟩ := k'7 (n := x.dat.u.length) a2
 obtain ⟨a4, b4⟩ := k'7 (n := x.u.length) a3
 obtain ⟨a5, b5⟩ := k'1d x.mets 40 _ a4
 obtain ⟨a6, b6⟩ := roomNbs_ok x.dat.nbs _ a5
 obtain ⟨a7, b7⟩ := roomHis_ok x.dat.his _ a6
 obtain ⟨a8, b8⟩ := roomEhs_ok x.dat.ehs _ a7
 obtain ⟨a9, b9⟩ := roomSus_ok x.dat.sus _ a8
 refine ⟨a9, fun hh => ?_⟩
 have d9 := b9 hh
 have d8 := b8 (by omega)
 have d7 := b7 (by omega)
 have d6 := b6 (by omega)
 have d5 := b5 (by omega)
 have d4 := b4 (by omega)
 have d3 := b3 (by omega)
 have d2 := b2 (by omega)
 have d1 := b1 (by omega)
 have d0 := b0 (by omega)
 refine ⟨fun hcap => ?_, by omega⟩
 have e6 := d6.1
 have e7 := d7.1 (by omega)
 have e8 := d8.1 (by omega)
 have e9 := d9.1
 omega
set_option maxHeartbeats 8000000 in
theorem RoomMe_calls (x : Me) (xa : D) (room : Int) (h1 : x.ln) (h3 : x.R xa) (hr1 : -1 ≤ room) (hr2 : room < 9223372036854775000) : k'0 (cx B) 78 [.d xa, .d (.int .i64 room)] [] (.d (.int .i64 (k'4f x room))) [] := by
 obtain ⟨k_name, k_desc, k_unit, ⟨n_nbs, k_nbs, n_his, k_his, n_ehs, k_ehs, n_sus, k_sus, k_du⟩, n_mets, k_mets, k_u⟩ := h1
 obtain ⟨z_nbs, l_nbs, z_his, l_his, z_ehs, l_ehs, z_sus, l_sus, z_mets, l_mets, rfl, r_nbs, r_his, r_ehs, r_sus, r_mets⟩ := h3
 unfold k'4f
 have c0 := k'a B (room) x.name.length hr1 hr2 k_name
 obtain ⟨g0, j0⟩ := k'i (n := x.name.length) hr2
 have c1 := k'a B (k'h room x.name.length) x.desc.length g0 j0 k_desc
 obtain ⟨g1, j1⟩ := k'i (n := x.desc.length) j0
 have c2 := k'a B (k'h (k'h room x.name.length) x.desc.length) x.unit.length g1 j1 k_unit
 obtain ⟨g2, j2⟩ := k'i (n := x.unit.length) j1
 have c3 := k'a B (k'h (k'h (k'h room x.name.length) x.desc.length) x.unit.length) x.dat.u.length g2 j2 k_du
 obtain ⟨g3, j3⟩ := k'i (n := x.dat.u.length) j2
 have c4 := k'a B (k'h (k'h (k'h (k'h room x.name.length) x.desc.length) x.unit.length) x.dat.u.length) x.u.length g3 j3 k_u
 obtain ⟨g4, j4⟩ := k'i (n := x.u.length) j3
 have c5 := k'1b B z_mets (k'h (k'h (k'h (k'h (k'h room x.name.length) x.desc.length) x.unit.length) x.dat.u.length) x.u.length) n_mets k_mets r_mets g4 j4
 have g5 := (k'1d x.mets 40 _ g4).1
 have j5 := roomK_lt (l := x.mets) (deep := 40) g4 j4 (by omega)
 generalize hR0 : roomK x.mets 40 (k'h (k'h (k'h (k'h (k'h room x.name.length) x.desc.length) x.unit.length) x.dat.u.length) x.u.length) = R0 at *
 have hla_nbs := r_nbs.1
 have g6 := (roomNbs_ok x.dat.nbs _ g5).1
 have j6 := roomNbs_lt (l := x.dat.nbs) g5 j5 (by omega)
 generalize hR1 : k'2p x.dat.nbs R0 = R1 at *
 have hla_his := r_his.1
 have g7 := (roomHis_ok x.dat.his _ g6).1
 have j7 := roomHis_lt (l := x.dat.his) g6 j6 (by omega)
 generalize hR2 : k'2q x.dat.his R1 = R2 at *
 have hla_ehs := r_ehs.1
 have g8 := (roomEhs_ok x.dat.ehs _ g7).1
 have j8 := roomEhs_lt (l := x.dat.ehs) g7 j7 (by omega)
 generalize hR3 : k'2r x.dat.ehs R2 = R3 at *
 have hla_sus := r_sus.1
 have g9 := (roomSus_ok x.dat.sus _ g8).1
 have j9 := roomSus_lt (l := x.dat.sus) g8 j8 (by omega)
 generalize hR4 : k'2n x.dat.sus R3 = R4 at *
 refine l_bw Tryz.func78 0 [] ?_
 refine x_cw [] (c0) rfl rfl rfl ?_
 refine x_cw [] (c1) rfl rfl rfl ?_
 refine x_cw [] (c2) rfl rfl rfl ?_
 refine x_cw [] (c3) rfl rfl rfl ?_
 refine x_cw [] (c4) rfl rfl rfl ?_
 refine l_cw [] (c5) rfl rfl rfl ?_
 refine k'14 (fun y : Nat × Int => l_nbs.length - y.1) (fun y => [(1, .d (.int .i64 y.2)), (2, .ptr 0 0), (5, iT y.1)]) (fun _ => [.mu [.d (.str x.name), .d (.str x.desc), .d (.str x.unit), .d (.int .i64 x.kind), .d (.int .i32 x.dat.temp), .d (.bool x.dat.mono), .d (.sl z_nbs l_nbs), .d (.sl z_his l_his), .d (.sl z_ehs l_ehs), .d (.sl z_sus l_sus), .d (.sl z_mets l_mets), .d (.str x.dat.u), .d (.str x.u)]]) (fun y => y.1 ≤ l_nbs.length ∧ k'2p (x.dat.nbs.drop y.1) y.2 = R1 ∧ -1 ≤ y.2 ∧ y.2 < 9223372036854775000) (0, R0) ⟨by omega, hR1, g5, j5⟩ ⟨rfl, rfl, rfl, trivial⟩ rfl 1 rfl (fun _ => rfl) (fun _ => rfl) (fun _ => rfl) ?_
 rintro ⟨i, rm⟩ ⟨i1, i2, i3, i4⟩
 dsimp only at i1 i2 i3 i4 ⊢
 refine Y ?_
 have hcases : (i < l_nbs.length ∧ rm ≥ 0) ∨ ((¬ i < l_nbs.length) ∨ (i < l_nbs.length ∧ ¬ rm ≥ 0)) := by omega
 rcases hcases with ⟨hlt, hr0⟩ | hcases
 ·rw [show decide ((i : Int) < l_nbs.length) = true from decide_eq_true (by omega)]
  refine Y ?_
  rw [show decide (rm ≥ 0) = true from decide_eq_true hr0]
  obtain ⟨x', hxi⟩ : ∃ x, l_nbs[i]? = some x := ⟨_, List.getElem?_eq_getElem hlt⟩
  obtain ⟨v, hv, hvr⟩ := r_nbs.at hxi
  have hln := n_nbs v (List.mem_of_getElem? hv)
  rw [k'33 hv] at i2
  unfold k'2p at i2
  rw [if_neg (by omega)] at i2
  have hok := (roomNb_ok v rm i3).1
  have hlt2 := roomNb_lt (x := v) i3 i4 (by omega)
  have cc := RoomNb_calls B v x' rm hln hvr i3 i4
  obtain ⟨a0, a1, a2, a3, a4, a5, a6, a7, a8, a9, rfl⟩ := Nb.R_sh hvr
  refine Y ?_
  refine k'4 (.indexAddr (k := .i64) (n := i) (es := l_nbs) rfl rfl rfl rfl (.inl ⟨_, rfl⟩) rfl (by omega) (by simpa using hxi) rfl (by decide)) rfl rfl ?_
  refine Y ?_
  refine l_cw [] (cc) rfl rfl rfl ?_
  rw [wS i (by omega)]
  exact ⟨(i + 1, _), by show l_nbs.length - (i + 1) < _; omega, ⟨by show i + 1 ≤ _; omega, i2, hok, hlt2⟩, ⟨rfl, rfl, rfl, trivial⟩, rfl, k'28 rfl⟩
 have hrm : R1 = rm := by
  symm
  rcases hcases with g | ⟨-, g⟩
  ·have e : i = x.dat.nbs.length := by omega
   rw [e, List.drop_length] at i2
   exact i2
  ·rw [roomNbs_neg (by omega)] at i2
   exact i2
 clear i2
 subst hrm
 rcases hcases with hlt | ⟨hlt, hr0⟩
 all_goals
  first
  | rw [show decide ((i : Int) < l_nbs.length) = false from decide_eq_false (by omega)]
  | rw [show decide ((i : Int) < l_nbs.length) = true from decide_eq_true (by omega)]
  refine Y ?_
  try rw [show decide (R1 ≥ 0) = false from decide_eq_false (by omega)]
  try refine Y ?_
  refine k'14 (fun y : Nat × Int => l_his.length - y.1) (fun y => [(1, .d (.int .i64 y.2)), (2, .ptr 0 0), (6, iT y.1)]) (fun _ => [.mu [.d (.str x.name), .d (.str x.desc), .d (.str x.unit), .d (.int .i64 x.kind), .d (.int .i32 x.dat.temp), .d (.bool x.dat.mono), .d (.sl z_nbs l_nbs), .d (.sl z_his l_his), .d (.sl z_ehs l_ehs), .d (.sl z_sus l_sus), .d (.sl z_mets l_mets), .d (.str x.dat.u), .d (.str x.u)]]) (fun y => y.1 ≤ l_his.length ∧ k'2q (x.dat.his.drop y.1) y.2 = R2 ∧ -1 ≤ y.2 ∧ y.2 < 9223372036854775000) (0, R1) ⟨by omega, hR2, g6, j6⟩ ⟨rfl, rfl, rfl, trivial⟩ rfl 1 rfl (fun _ => rfl) (fun _ => rfl) (fun _ => rfl) ?_
  rintro ⟨i, rm⟩ ⟨i1, i2, i3, i4⟩
  dsimp only at i1 i2 i3 i4 ⊢
  refine Y ?_
  have hcases : (i < l_his.length ∧ rm ≥ 0) ∨ ((¬ i < l_his.length) ∨ (i < l_his.length ∧ ¬ rm ≥ 0)) := by omega
  rcases hcases with ⟨hlt, hr0⟩ | hcases
  ·rw [show decide ((i : Int) < l_his.length) = true from decide_eq_true (by omega)]
   refine Y ?_
   rw [show decide (rm ≥ 0) = true from decide_eq_true hr0]
   obtain ⟨x', hxi⟩ : ∃ x, l_his[i]? = some x := ⟨_, List.getElem?_eq_getElem hlt⟩
   obtain ⟨v, hv, hvr⟩ := r_his.at hxi
   have hln := n_his v (List.mem_of_getElem? hv)
   rw [k'33 hv] at i2
   unfold k'2q at i2
   rw [if_neg (by omega)] at i2
   have hok := (roomHi_ok v rm i3).1
   have hlt2 := roomHi_lt (x := v) i3 i4 (by omega)
   have cc := RoomHi_calls B v x' rm hln hvr i3 i4
   obtain ⟨a0, a1, a2, a3, a4, a5, a6, a7, a8, a9, a10, a11, a12, a13, a14, a15, a16, a17, a18, rfl⟩ := Hi.R_sh hvr
   refine Y ?_
   refine k'4 (.indexAddr (k := .i64) (n := i) (es := l_his) rfl rfl rfl rfl (.inl ⟨_, rfl⟩) rfl (by omega) (by simpa using hxi) rfl (by decide)) rfl rfl ?_
   refine Y ?_
   refine l_cw [] (cc) rfl rfl rfl ?_
   rw [wS i (by omega)]
   exact ⟨(i + 1, _), by show l_his.length - (i + 1) < _; omega, ⟨by show i + 1 ≤ _; omega, i2, hok, hlt2⟩, ⟨rfl, rfl, rfl, trivial⟩, rfl, k'28 rfl⟩
  have hrm : R2 = rm := by
   symm
   rcases hcases with g | ⟨-, g⟩
   ·have e : i = x.dat.his.length := by omega
    rw [e, List.drop_length] at i2
    exact i2
   ·rw [roomHis_neg (by omega)] at i2
    exact i2
  clear i2
  subst hrm
  rcases hcases with hlt | ⟨hlt, hr0⟩
  all_goals
   first
   | rw [show decide ((i : Int) < l_his.length) = false from decide_eq_false (by omega)]
   | rw [show decide ((i : Int) < l_his.length) = true from decide_eq_true (by omega)]
   refine Y ?_
   try rw [show decide (R2 ≥ 0) = false from decide_eq_false (by omega)]
   try refine Y ?_
   refine k'14 (fun y : Nat × Int => l_ehs.length - y.1) (fun y => [(1, .d (.int .i64 y.2)), (2, .ptr 0 0), (7, iT y.1)]) (fun _ => [.mu [.d (.str x.name), .d (.str x.desc), .d (.str x.unit), .d (.int .i64 x.kind), .d (.int .i32 x.dat.temp), .d (.bool x.dat.mono), .d (.sl z_nbs l_nbs), .d (.sl z_his l_his), .d (.sl z_ehs l_ehs), .d (.sl z_sus l_sus), .d (.sl z_mets l_mets), .d (.str x.dat.u), .d (.str x.u)]]) (fun y => y.1 ≤ l_ehs.length ∧ k'2r (x.dat.ehs.drop y.1) y.2 = R3 ∧ -1 ≤ y.2 ∧ y.2 < 9223372036854775000) (0, R2) ⟨by omega, hR3, g7, j7⟩ ⟨rfl, rfl, rfl, trivial⟩ rfl 1 rfl (fun _ => rfl) (fun _ => rfl) (fun _ => rfl) ?_
   rintro ⟨i, rm⟩ ⟨i1, i2, i3, i4⟩
   dsimp only at i1 i2 i3 i4 ⊢
   refine Y ?_
   have hcases : (i < l_ehs.length ∧ rm ≥ 0) ∨ ((¬ i < l_ehs.length) ∨ (i < l_ehs.length ∧ ¬ rm ≥ 0)) := by omega
   rcases hcases with ⟨hlt, hr0⟩ | hcases
   ·rw [show decide ((i : Int) < l_ehs.length) = true from decide_eq_true (by omega)]
    refine Y ?_
    rw [show decide (rm ≥ 0) = true from decide_eq_true hr0]
    obtain ⟨x', hxi⟩ : ∃ x, l_ehs[i]? = some x := ⟨_, List.getElem?_eq_getElem hlt⟩
    obtain ⟨v, hv, hvr⟩ := r_ehs.at hxi
    have hln := n_ehs v (List.mem_of_getElem? hv)
    rw [k'33 hv] at i2
    unfold k'2r at i2
    rw [if_neg (by omega)] at i2
    have hok := (roomEh_ok v rm i3).1
    have hlt2 := roomEh_lt (x := v) i3 i4 (by omega)
    have cc := RoomEh_calls B v x' rm hln hvr i3 i4
    obtain ⟨a0, a1, a2, a3, a4, a5, a6, a7, a8, a9, a10, a11, a12, a13, a14, a15, a16, a17, a18, a19, a20, a21, a22, a23, a24, a25, a26, a27, rfl⟩ := Eh.R_sh hvr
    refine Y ?_
    refine k'4 (.indexAddr (k := .i64) (n := i) (es := l_ehs) rfl rfl rfl rfl (.inl ⟨_, rfl⟩) rfl (by omega) (by simpa using hxi) rfl (by decide)) rfl rfl ?_
    refine Y ?_
    refine l_cw [] (cc) rfl rfl rfl ?_
    rw [wS i (by omega)]
    exact ⟨(i + 1, _), by show l_ehs.length - (i + 1) < _; omega, ⟨by show i + 1 ≤ _; omega, i2, hok, hlt2⟩, ⟨rfl, rfl, rfl, trivial⟩, rfl, k'28 rfl⟩
   have hrm : R3 = rm := by
    symm
    rcases hcases with g | ⟨-, g⟩
    ·have e : i = x.dat.ehs.length := by omega
     rw [e, List.drop_length] at i2
     exact i2
    ·rw [roomEhs_neg (by omega)] at i2
     exact i2
   clear i2
   subst hrm
   rcases hcases with hlt | ⟨hlt, hr0⟩
   all_goals
    first
    | rw [show decide ((i : Int) < l_ehs.length) = false from decide_eq_false (by omega)]
    | rw [show decide ((i : Int) < l_ehs.length) = true from decide_eq_true (by omega)]
    refine Y ?_
    try rw [show decide (R3 ≥ 0) = false from decide_eq_false (by omega)]
    try refine Y ?_
    refine k'14 (fun y : Nat × Int => l_sus.length - y.1) (fun y => [(1, .d (.int .i64 y.2)), (2, .ptr 0 0), (8, iT y.1)]) (fun _ => [.mu [.d (.str x.name), .d (.str x.desc), .d (.str x.unit), .d (.int .i64 x.kind), .d (.int .i32 x.dat.temp), .d (.bool x.dat.mono), .d (.sl z_nbs l_nbs), .d (.sl z_his l_his), .d (.sl z_ehs l_ehs), .d (.sl z_sus l_sus), .d (.sl z_mets l_mets), .d (.str x.dat.u), .d (.str x.u)]]) (fun y => y.1 ≤ l_sus.length ∧ k'2n (x.dat.sus.drop y.1) y.2 = R4 ∧ -1 ≤ y.2 ∧ y.2 < 9223372036854775000) (0, R3) ⟨by omega, hR4, g8, j8⟩ ⟨rfl, rfl, rfl, trivial⟩ rfl 1 rfl (fun _ => rfl) (fun _ => rfl) (fun _ => rfl) ?_
    rintro ⟨i, rm⟩ ⟨i1, i2, i3, i4⟩
    dsimp only at i1 i2 i3 i4 ⊢
    refine Y ?_
    have hcases : (i < l_sus.length ∧ rm ≥ 0) ∨ ((¬ i < l_sus.length) ∨ (i < l_sus.length ∧ ¬ rm ≥ 0)) := by omega
    rcases hcases with ⟨hlt, hr0⟩ | hcases
    ·rw [show decide ((i : Int) < l_sus.length) = true from decide_eq_true (by omega)]
     refine Y ?_
     rw [show decide (rm ≥ 0) = true from decide_eq_true hr0]
     obtain ⟨x', hxi⟩ : ∃ x, l_sus[i]? = some x := ⟨_, List.getElem?_eq_getElem hlt⟩
     obtain ⟨v, hv, hvr⟩ := r_sus.at hxi
     have hln := n_sus v (List.mem_of_getElem? hv)
     rw [k'33 hv] at i2
     unfold k'2n at i2
     rw [if_neg (by omega)] at i2
     have hok := (roomSu_ok v rm i3).1
     have hlt2 := roomSu_lt (x := v) i3 i4 (by omega)
     have cc := RoomSu_calls B v x' rm hln hvr i3 i4
     obtain ⟨a0, a1, a2, a3, a4, a5, a6, a7, a8, a9, rfl⟩ := Su.R_sh hvr
     refine Y ?_
     refine k'4 (.indexAddr (k := .i64) (n := i) (es := l_sus) rfl rfl rfl rfl (.inl ⟨_, rfl⟩) rfl (by omega) (by simpa using hxi) rfl (by decide)) rfl rfl ?_
     refine Y ?_
     refine l_cw [] (cc) rfl rfl rfl ?_
     rw [wS i (by omega)]
     exact ⟨(i + 1, _), by show l_sus.length - (i + 1) < _; omega, ⟨by show i + 1 ≤ _; omega, i2, hok, hlt2⟩, ⟨rfl, rfl, rfl, trivial⟩, rfl, k'28 rfl⟩
    have hrm : R4 = rm := by
     symm
     rcases hcases with g | ⟨-, g⟩
     ·have e : i = x.dat.sus.length := by omega
      rw [e, List.drop_length] at i2
      exact i2
     ·rw [roomSus_neg (by omega)] at i2
      exact i2
    clear i2
    subst hrm
    rcases hcases with hlt | ⟨hlt, hr0⟩
    all_goals
     first
     | rw [show decide ((i : Int) < l_sus.length) = false from decide_eq_false (by omega)]
     | rw [show decide ((i : Int) < l_sus.length) = true from decide_eq_true (by omega)]
     refine Y ?_
     try rw [show decide (R4 ≥ 0) = false from decide_eq_false (by omega)]
     try exact Z
end
section
def Sc.ln (x : Sc) : Prop := x.name.length ≤ 9223372036854775807 ∧ x.version.length ≤ 9223372036854775807 ∧ Kv.lns x.attrs ∧ x.attrs.length ≤ 9223372036854775807 ∧ x.u.length ≤ 9223372036854775807
def Rs.ln (x : Rs) : Prop := Kv.lns x.attrs ∧ x.attrs.length ≤ 9223372036854775807 ∧ x.u.length ≤ 9223372036854775807
def Sm.ln (x : Sm) : Prop := Sc.ln x.p ∧ (∀ v ∈ x.qs, v.ln) ∧ x.qs.length ≤ 9223372036854775807 ∧ x.sch.length ≤ 9223372036854775807 ∧ x.u.length ≤ 9223372036854775807
def Rm.ln (x : Rm) : Prop := Rs.ln x.p ∧ (∀ v ∈ x.qs, Sm.ln v) ∧ x.qs.length ≤ 9223372036854775807 ∧ x.sch.length ≤ 9223372036854775807 ∧ x.u.length ≤ 9223372036854775807
def Bt.ln (x : Bt) : Prop := (∀ v ∈ x.rs, Rm.ln v) ∧ x.rs.length ≤ 9223372036854775807 ∧ x.u.length ≤ 9223372036854775807
def roomSc (x : Sc) (room : Int) : Int := roomK x.attrs 40 (k'h (k'h (k'h room x.name.length) x.version.length) x.u.length)
def roomRs (x : Rs) (room : Int) : Int := roomK x.attrs 40 (k'h room x.u.length)
def k'2y {α : Type} (f : α → Int → Int) : List α → Int → Int
 | [], room => room
 | x :: l, room => if room < 0 then room else k'2y f l (f x room)
theorem roomL_neg {α : Type} {f : α → Int → Int} {l : List α} {room : Int} (h : room < 0) : k'2y f l room = room := by
 cases l with
 | nil => rfl
 | cons v l => unfold k'2y; rw [if_pos h]
def RoomP {α : Type} (f : α → Int → Int) (sz : α → Nat) (c : Int) : Prop := ∀ (x : α) (room : Int), -1 ≤ room → -1 ≤ f x room ∧ (0 ≤ f x room → (room ≤ 700000 → (sz x : Int) ≤ c * (room - f x room)) ∧ f x room + 20 ≤ room)
theorem RoomP.list {α : Type} {f : α → Int → Int} {sz : α → Nat} {c : Int} (h : RoomP f sz c) : ∀ (l : List α) (room : Int), -1 ≤ room → -1 ≤ k'2y f l room ∧ (0 ≤ k'2y f l room → (room ≤ 700000 → ((l.map sz).sum : Int) ≤ c * (room - k'2y f l room)) ∧ k'2y f l room ≤ room)
 | [], room, hr => by unfold k'2y; simp; omega
 | x :: l, room, hr => by
  obtain ⟨a1, a2⟩ := h x room hr
  obtain ⟨b1, b2⟩ := RoomP.list h l _ a1
  unfold k'2y
  rw [List.map_cons, List.sum_cons]
  split
  ·omega
  ·refine ⟨b1, fun hh => ?_⟩
   have c1 := b2 hh
   have c2 := a2 (by omega)
   refine ⟨fun h7 => ?_, by omega⟩
   have d1 := c1.1 (by omega)
   have d2 := c2.1 h7
   have e : c * (room - k'2y f l (f x room)) = c * (room - f x room) + c * (f x room - k'2y f l (f x room)) := by rw [← Int.mul_add]; congr 1; omega
   rw [e]
   push_cast
   omega
theorem RoomP.lt {α : Type} {f : α → Int → Int} {sz : α → Nat} {c : Int} (h : RoomP f sz c) {x : α} {room M : Int} (h1 : -1 ≤ room) (h2 : room < M) (hM : 0 ≤ M) : f x room < M := by
 obtain ⟨a, b⟩ := h x room h1
 rcases Int.lt_or_le (f x room) 0 with g | g
 ·omega
 ·have := b g; omega
def roomSm (x : Sm) (room : Int) : Int := k'2y k'4f x.qs (roomSc x.p (k'h (k'h room x.sch.length) x.u.length))
def roomRm (x : Rm) (room : Int) : Int := k'2y roomSm x.qs (roomRs x.p (k'h (k'h room x.sch.length) x.u.length))
def roomBt (x : Bt) (room : Int) : Int := k'2y roomRm x.rs (k'h room x.u.length)
theorem roomMe_P : RoomP k'4f Me.sz 70 := fun x room h => by
 obtain ⟨a, b⟩ := roomMe_ok x room h
 exact ⟨a, fun hh => ⟨fun h7 => by have c := b hh; have := c.1 h7; omega, (b hh).2⟩⟩
theorem roomSc_P : RoomP roomSc Sc.sz 70 := fun x room h => by
 unfold roomSc Sc.sz
 obtain ⟨a0, b0⟩ := k'7 (n := x.name.length) h
 obtain ⟨a1, b1⟩ := k'7 (n := x.version.length) a0
 obtain ⟨a2, b2⟩ := k'7 (n := x.u.length) a1
 obtain ⟨a3, b3⟩ := k'1d x.attrs 40 _ a2
 refine ⟨a3, fun hh => ?_⟩
 have d3 := b3 hh
 have d2 := b2 (by omega)
 have d1 := b1 (by omega)
 have d0 := b0 (by omega)
 omega
theorem roomRs_P : RoomP roomRs Rs.sz 70 := fun x room h => by
 unfold roomRs Rs.sz
 obtain ⟨a0, b0⟩ := k'7 (n := x.u.length) h
 obtain ⟨a3, b3⟩ := k'1d x.attrs 40 _ a0
 refine ⟨a3, fun hh => ?_⟩
 have d3 := b3 hh
 have d0 := b0 (by omega)
 omega
theorem roomTr {P Q : Type} (a : Ms P) (b : Ms Q) {f : P → Int → Int} {g : Q → Int → Int} (hf : RoomP f a.sz 70) (hg : RoomP g b.sz 70) : RoomP (fun (x : Tr P Q) room => k'2y g x.qs (f x.p (k'h (k'h room x.sch.length) x.u.length))) (trSz a b) 70 := fun x room h => by
 dsimp only
 unfold trSz
 obtain ⟨a0, b0⟩ := k'7 (n := x.sch.length) h
 obtain ⟨a1, b1⟩ := k'7 (n := x.u.length) a0
 obtain ⟨a2, b2⟩ := hf x.p _ a1
 obtain ⟨a3, b3⟩ := hg.list x.qs _ a2
 refine ⟨a3, fun hh => ?_⟩
 have d3 := b3 hh
 have d2 := b2 (by omega)
 have d1 := b1 (by omega)
 have d0 := b0 (by omega)
 refine ⟨fun h7 => ?_, by omega⟩
 have e3 := d3.1 (by omega)
 have e2 := d2.1 (by omega)
 push_cast
 omega
theorem roomSm_P : RoomP roomSm smM.sz 70 := roomTr scM meM roomSc_P roomMe_P
theorem roomRm_P : RoomP roomRm rmM.sz 70 := roomTr rsM smM roomRs_P roomSm_P
theorem roomBt_ok (x : Bt) (h : 0 ≤ roomBt x 20000) : x.sz < big := by
 unfold roomBt at h
 obtain ⟨a0, b0⟩ := k'7 (n := x.u.length) (show -1 ≤ (20000 : Int) by omega)
 obtain ⟨a1, b1⟩ := roomRm_P.list x.rs _ a0
 have d1 := b1 h
 have d0 := b0 (by omega)
 have e1 := d1.1 (by omega)
 unfold Bt.sz big
 omega
theorem RoomSc_calls (x : Sc) (xa : D) (room : Int) (h1 : x.ln) (h3 : x.R xa) (hr1 : -1 ≤ room) (hr2 : room < 9223372036854775000) : k'0 (cx B) 77 [.d xa, .d (.int .i64 room)] [] (.d (.int .i64 (roomSc x room))) [] := by
 obtain ⟨k0, k1, n_attrs, k_attrs, k2⟩ := h1
 obtain ⟨z, l, rfl, r⟩ := h3
 unfold roomSc
 have c0 := k'a B room x.name.length hr1 hr2 k0
 obtain ⟨g0, j0⟩ := k'i (n := x.name.length) hr2
 generalize k'h room x.name.length = R0 at *
 have c1 := k'a B R0 x.version.length g0 j0 k1
 obtain ⟨g1, j1⟩ := k'i (n := x.version.length) j0
 generalize k'h R0 x.version.length = R1 at *
 have c2 := k'a B R1 x.u.length g1 j1 k2
 obtain ⟨g2, j2⟩ := k'i (n := x.u.length) j1
 generalize k'h R1 x.u.length = R2 at *
 have c3 := k'1b B z R2 n_attrs k_attrs r g2 j2
 refine l_bw Tryz.func77 0 [] ?_
 refine x_cw [] (c0) rfl rfl rfl ?_
 refine x_cw [] (c1) rfl rfl rfl ?_
 refine x_cw [] (c2) rfl rfl rfl ?_
 refine k'1v [] (c3) rfl rfl rfl ?_
 exact Z
theorem RoomRs_calls (x : Rs) (xa : D) (room : Int) (h1 : x.ln) (h3 : x.R xa) (hr1 : -1 ≤ room) (hr2 : room < 9223372036854775000) : k'0 (cx B) 76 [.d xa, .d (.int .i64 room)] [] (.d (.int .i64 (roomRs x room))) [] := by
 obtain ⟨n_attrs, k_attrs, k2⟩ := h1
 obtain ⟨z, l, rfl, r⟩ := h3
 unfold roomRs
 have c2 := k'a B room x.u.length hr1 hr2 k2
 obtain ⟨g2, j2⟩ := k'i (n := x.u.length) hr2
 generalize k'h room x.u.length = R2 at *
 have c3 := k'1b B z R2 n_attrs k_attrs r g2 j2
 refine l_bw Tryz.func76 0 [] ?_
 refine x_cw [] (c2) rfl rfl rfl ?_
 refine k'1v [] (c3) rfl rfl rfl ?_
 exact Z
theorem roomL_go {α : Type} {f : α → Int → Int} {sz : α → Nat} {c : Int} (hP : RoomP f sz c) {l : List α} {i : Nat} {x : α} {rm RR : Int} (h : l[i]? = some x) (h0 : rm ≥ 0) (hr : k'2y f (l.drop i) rm = RR) (h1 : -1 ≤ rm) (h2 : rm < 9223372036854775000) : k'2y f (l.drop (i + 1)) (f x rm) = RR ∧ -1 ≤ f x rm ∧ f x rm < 9223372036854775000 := by
 rw [k'33 h] at hr
 unfold k'2y at hr
 rw [if_neg (by omega)] at hr
 exact ⟨hr, (hP x rm h1).1, hP.lt h1 h2 (by omega)⟩
theorem k'4y {α : Type} {f : α → Int → Int} {l : List α} {i n : Nat} {rm RR : Int} (hn : n = l.length) (hc : ¬ i < n ∨ ¬ rm ≥ 0) (hr : k'2y f (l.drop i) rm = RR) (hi : i ≤ n) : rm = RR := by
 rcases hc with h | h
 ·have e : i = l.length := by omega
  rw [e, List.drop_length] at hr
  exact hr
 ·rw [roomL_neg (by omega)] at hr
  exact hr
set_option maxHeartbeats 8000000 in
theorem RoomBt_calls (x : Bt) (xa : D) (room : Int) (hx1 : x.ln) (hx : x.R xa) (hr1 : -1 ≤ room) (hr2 : room < 9223372036854775000) : k'0 (cx B) 34 [.d xa, .d (.int .i64 room)] [] (.d (.int .i64 (roomBt x room))) [] := by
 obtain ⟨n1, k1, ku⟩ := hx1
 obtain ⟨z, l, rfl, r1⟩ := hx
 have hl := r1.1
 unfold roomBt
 have c0 := k'a B room x.u.length hr1 hr2 ku
 obtain ⟨g0, j0⟩ := k'i (n := x.u.length) hr2
 generalize k'h room x.u.length = R0 at *
 generalize hRR : k'2y roomRm x.rs R0 = RR
 refine l_bw Tryz.func34 0 [] ?_
 refine l_cw [] (c0) rfl rfl rfl ?_
 refine k'14 (fun y : Nat × Int => l.length - y.1) (fun y => [(1, .d (.int .i64 y.2)), (2, .ptr 0 0), (5, iT y.1)]) (fun _ => [.mu [.d (.sl z l), .d (.str x.u)]]) (fun y => y.1 ≤ l.length ∧ k'2y roomRm (x.rs.drop y.1) y.2 = RR ∧ -1 ≤ y.2 ∧ y.2 < 9223372036854775000) (0, R0) ⟨by omega, hRR, g0, j0⟩ ⟨rfl, rfl, rfl, trivial⟩ rfl 1 rfl (fun _ => rfl) (fun _ => rfl) (fun _ => rfl) ?_
 rintro ⟨i, rm⟩ ⟨i1, i2, i3, i4⟩
 dsimp only at i1 i2 i3 i4 ⊢
 refine Y ?_
 by_cases hlt : i < l.length
 rotate_left
 ·have hrm := k'4y hl (.inl hlt) i2 i1
  subst hrm
  rw [show decide ((i : Int) < l.length) = false from decide_eq_false (by omega)]
  exact Z
 rw [show decide ((i : Int) < l.length) = true from decide_eq_true (by omega)]
 refine Y ?_
 by_cases hr0 : rm ≥ 0
 rotate_left
 ·have hrm := k'4y hl (.inr hr0) i2 i1
  subst hrm
  rw [show decide (rm ≥ 0) = false from decide_eq_false hr0]
  exact Z
 rw [show decide (rm ≥ 0) = true from decide_eq_true hr0]
 obtain ⟨ya, hyi⟩ : ∃ y, l[i]? = some y := ⟨_, List.getElem?_eq_getElem hlt⟩
 obtain ⟨v, hv, hvr⟩ := r1.at hyi
 obtain ⟨q1, q2, q3⟩ := roomL_go roomRm_P hv hr0 i2 i3 i4
 obtain ⟨m1, m2, m3, m4, m5⟩ := n1 v (List.mem_of_getElem? hv)
 obtain ⟨zp, lp, z2, l2, rfl, rp, r2⟩ := hvr
 have hl2 := r2.1
 change k'2y roomRm _ (k'2y roomSm v.qs (roomRs v.p (k'h (k'h rm v.sch.length) v.u.length))) = RR at q1
 change -1 ≤ k'2y roomSm v.qs (roomRs v.p (k'h (k'h rm v.sch.length) v.u.length)) at q2
 change k'2y roomSm v.qs (roomRs v.p (k'h (k'h rm v.sch.length) v.u.length)) < _ at q3
 have c1 := k'a B rm v.sch.length i3 i4 m4
 obtain ⟨g1, j1⟩ := k'i (n := v.sch.length) i4
 generalize k'h rm v.sch.length = R1 at *
 have c2 := k'a B R1 v.u.length g1 j1 m5
 obtain ⟨g2, j2⟩ := k'i (n := v.u.length) j1
 generalize k'h R1 v.u.length = R2 at *
 have c3 := RoomRs_calls B v.p _ R2 m1 ⟨zp, lp, rfl, rp⟩ g2 j2
 have g3 := (roomRs_P v.p R2 g2).1
 have j3 : roomRs v.p R2 < 9223372036854775000 := roomRs_P.lt g2 j2 (by omega)
 generalize roomRs v.p R2 = R3 at *
 generalize hRR2 : k'2y roomSm v.qs R3 = RR2 at *
 refine Y ?_
 refine k'4 (.indexAddr (k := .i64) (n := i) (es := l) rfl rfl rfl rfl (.inl ⟨_, rfl⟩) rfl (by omega) (by simpa using hyi) rfl (by decide)) rfl rfl ?_
 refine Y ?_
 refine x_cw [] (c1) rfl rfl rfl ?_
 refine x_cw [] (c2) rfl rfl rfl ?_
 refine x_cw [] (c3) rfl rfl rfl ?_
 refine k'14 (fun y : Nat × Int => l2.length - y.1) (fun y => [(1, .d (.int .i64 y.2)), (2, .ptr 0 0), (5, iT i), (6, .ptr 1 0), (7, iT y.1)]) (fun _ => [.mu [.d (.sl z l), .d (.str x.u)], .mu [.d (.bool v.has), .d (.sl zp lp), .d (.int .u32 v.p.dropped), .d (.str v.p.u), .d (.sl z2 l2), .d (.str v.sch), .d (.str v.u)]]) (fun y => y.1 ≤ l2.length ∧ k'2y roomSm (v.qs.drop y.1) y.2 = RR2 ∧ -1 ≤ y.2 ∧ y.2 < 9223372036854775000) (0, R3) ⟨by omega, hRR2, g3, j3⟩ ⟨rfl, rfl, rfl, rfl, rfl, trivial⟩ rfl 2 rfl (fun _ => rfl) (fun _ => rfl) (fun _ => rfl) ?_
 rintro ⟨j, rm2⟩ ⟨y1, y2, y3, y4⟩
 dsimp only at y1 y2 y3 y4 ⊢
 refine Y ?_
 by_cases hlt2 : j < l2.length
 rotate_left
 ·have hrm := k'4y hl2 (.inl hlt2) y2 y1
  subst hrm
  rw [show decide ((j : Int) < l2.length) = false from decide_eq_false (by omega)]
  refine Y ?_
  rw [wS i (by omega)]
  exact ⟨(i + 1, rm2), by show l.length - (i + 1) < _; omega, ⟨by show i + 1 ≤ _; omega, q1, q2, q3⟩, ⟨rfl, rfl, rfl, trivial⟩, rfl, k'28 rfl⟩
 rw [show decide ((j : Int) < l2.length) = true from decide_eq_true (by omega)]
 refine Y ?_
 by_cases hr2 : rm2 ≥ 0
 rotate_left
 ·have hrm := k'4y hl2 (.inr hr2) y2 y1
  subst hrm
  rw [show decide (rm2 ≥ 0) = false from decide_eq_false hr2]
  refine Y ?_
  rw [wS i (by omega)]
  exact ⟨(i + 1, rm2), by show l.length - (i + 1) < _; omega, ⟨by show i + 1 ≤ _; omega, q1, q2, q3⟩, ⟨rfl, rfl, rfl, trivial⟩, rfl, k'28 rfl⟩
 rw [show decide (rm2 ≥ 0) = true from decide_eq_true hr2]
 obtain ⟨ya, hyj⟩ : ∃ y, l2[j]? = some y := ⟨_, List.getElem?_eq_getElem hlt2⟩
 obtain ⟨w, hw, hwr⟩ := r2.at hyj
 obtain ⟨s1, s2, s3⟩ := roomL_go roomSm_P hw hr2 y2 y3 y4
 obtain ⟨m6, m7, m8, m9, m10⟩ := m2 w (List.mem_of_getElem? hw)
 obtain ⟨zq, lq, z3, l3, rfl, rq, r3⟩ := hwr
 have hl3 := r3.1
 change k'2y roomSm _ (k'2y k'4f w.qs (roomSc w.p (k'h (k'h rm2 w.sch.length) w.u.length))) = RR2 at s1
 change -1 ≤ k'2y k'4f w.qs (roomSc w.p (k'h (k'h rm2 w.sch.length) w.u.length)) at s2
 change k'2y k'4f w.qs (roomSc w.p (k'h (k'h rm2 w.sch.length) w.u.length)) < _ at s3
 have c4 := k'a B rm2 w.sch.length y3 y4 m9
 obtain ⟨g4, j4⟩ := k'i (n := w.sch.length) y4
 generalize k'h rm2 w.sch.length = R4 at *
 have c5 := k'a B R4 w.u.length g4 j4 m10
 obtain ⟨g5, j5⟩ := k'i (n := w.u.length) j4
 generalize k'h R4 w.u.length = R5 at *
 have c6 := RoomSc_calls B w.p _ R5 m6 ⟨zq, lq, rfl, rq⟩ g5 j5
 have g6 := (roomSc_P w.p R5 g5).1
 have j6 : roomSc w.p R5 < 9223372036854775000 := roomSc_P.lt g5 j5 (by omega)
 generalize roomSc w.p R5 = R6 at *
 generalize hRR3 : k'2y k'4f w.qs R6 = RR3 at *
 refine Y ?_
 refine k'4 (.indexAddr (k := .i64) (n := j) (es := l2) rfl rfl rfl rfl (.inl ⟨_, rfl⟩) rfl (by omega) (by simpa using hyj) rfl (by decide)) rfl rfl ?_
 refine Y ?_
 refine x_cw [] (c4) rfl rfl rfl ?_
 refine x_cw [] (c5) rfl rfl rfl ?_
 refine x_cw [] (c6) rfl rfl rfl ?_
 refine k'14 (fun y : Nat × Int => l3.length - y.1) (fun y => [(1, .d (.int .i64 y.2)), (2, .ptr 0 0), (5, iT i), (6, .ptr 1 0), (7, iT j), (8, .ptr 2 0), (9, iT y.1)]) (fun _ => [.mu [.d (.sl z l), .d (.str x.u)], .mu [.d (.bool v.has), .d (.sl zp lp), .d (.int .u32 v.p.dropped), .d (.str v.p.u), .d (.sl z2 l2), .d (.str v.sch), .d (.str v.u)], .mu [.d (.bool w.has), .d (.str w.p.name), .d (.str w.p.version), .d (.sl zq lq), .d (.int .u32 w.p.dropped), .d (.str w.p.u), .d (.sl z3 l3), .d (.str w.sch), .d (.str w.u)]]) (fun y => y.1 ≤ l3.length ∧ k'2y k'4f (w.qs.drop y.1) y.2 = RR3 ∧ -1 ≤ y.2 ∧ y.2 < 9223372036854775000) (0, R6) ⟨by omega, hRR3, g6, j6⟩ ⟨rfl, rfl, rfl, rfl, rfl, rfl, rfl, trivial⟩ rfl 3 rfl (fun _ => rfl) (fun _ => rfl) (fun _ => rfl) ?_
 rintro ⟨k, rm3⟩ ⟨t1, t2, t3, t4⟩
 dsimp only at t1 t2 t3 t4 ⊢
 refine Y ?_
 by_cases hlt3 : k < l3.length
 rotate_left
 ·have hrm := k'4y hl3 (.inl hlt3) t2 t1
  subst hrm
  rw [show decide ((k : Int) < l3.length) = false from decide_eq_false (by omega)]
  refine Y ?_
  rw [wS j (by omega)]
  exact ⟨(j + 1, rm3), by show l2.length - (j + 1) < _; omega, ⟨by show j + 1 ≤ _; omega, s1, s2, s3⟩, ⟨rfl, rfl, rfl, rfl, rfl, trivial⟩, rfl, k'28 rfl⟩
 rw [show decide ((k : Int) < l3.length) = true from decide_eq_true (by omega)]
 refine Y ?_
 by_cases hr3 : rm3 ≥ 0
 rotate_left
 ·have hrm := k'4y hl3 (.inr hr3) t2 t1
  subst hrm
  rw [show decide (rm3 ≥ 0) = false from decide_eq_false hr3]
  refine Y ?_
  rw [wS j (by omega)]
  exact ⟨(j + 1, rm3), by show l2.length - (j + 1) < _; omega, ⟨by show j + 1 ≤ _; omega, s1, s2, s3⟩, ⟨rfl, rfl, rfl, rfl, rfl, trivial⟩, rfl, k'28 rfl⟩
 rw [show decide (rm3 ≥ 0) = true from decide_eq_true hr3]
 obtain ⟨ma, hmk⟩ : ∃ y, l3[k]? = some y := ⟨_, List.getElem?_eq_getElem hlt3⟩
 obtain ⟨m, hm, hmr⟩ := r3.at hmk
 obtain ⟨u1, u2, u3⟩ := roomL_go roomMe_P hm hr3 t2 t3 t4
 have c7 := RoomMe_calls B m ma rm3 (m7 m (List.mem_of_getElem? hm)) hmr t3 t4
 generalize k'4f m rm3 = R7 at *
 obtain ⟨a0, a1, a2, a3, a4, a5, a6, a7, a8, a9, a10, a11, a12, a13, a14, a15, a16, a17, rfl⟩ := Me.R_sh hmr
 refine Y ?_
 refine k'4 (.indexAddr (k := .i64) (n := k) (es := l3) rfl rfl rfl rfl (.inl ⟨_, rfl⟩) rfl (by omega) (by simpa using hmk) rfl (by decide)) rfl rfl ?_
 refine Y ?_
 refine l_cw [] (c7) rfl rfl rfl ?_
 rw [wS k (by omega)]
 exact ⟨(k + 1, R7), by show l3.length - (k + 1) < _; omega, ⟨by show k + 1 ≤ _; omega, u1, u2, u3⟩, ⟨rfl, rfl, rfl, rfl, rfl, rfl, rfl, trivial⟩, rfl, k'28 rfl⟩
theorem FewBt_calls (x : Bt) (xa : D) (hx1 : x.ln) (hx : x.R xa) : k'0 (cx B) 11 [.d xa] [] (.d (.bool (decide (roomBt x 20000 ≥ 0)))) [] := by
 have c := RoomBt_calls B x xa 20000 hx1 hx (by omega) (by omega)
 obtain ⟨z, l, rfl, r1⟩ := hx
 refine l_bw Tryz.func11 0 [] ?_
 refine k'1 [] (c) rfl rfl rfl ?_
 exact Z
end
