/- Metrics: how much room they take. -/
import Derived.Test.YtcfkbpddmdfbaaaGreatDoorQV
import Derived.Test.YtcfkbpddmdfbaaaGreatDoorBW
set_option linter.unusedSimpArgs false
set_option linter.unusedVariables false
set_option maxRecDepth 100000
namespace Go.Proofs.YtcfkbpddmdfbaaaGreatDoor
open Go Go.Abs
def In.ln (x : In) : Prop := (∀ v ∈ x.nbs, v.ln) ∧ x.nbs.length ≤ 9223372036854775807 ∧ (∀ v ∈ x.his, v.ln) ∧ x.his.length ≤ 9223372036854775807 ∧ (∀ v ∈ x.ehs, v.ln) ∧ x.ehs.length ≤ 9223372036854775807 ∧ (∀ v ∈ x.sus, v.ln) ∧ x.sus.length ≤ 9223372036854775807 ∧ x.u.length ≤ 9223372036854775807
def Me.ln (x : Me) : Prop := x.name.length ≤ 9223372036854775807 ∧ x.desc.length ≤ 9223372036854775807 ∧ x.unit.length ≤ 9223372036854775807 ∧ x.dat.ln ∧ Kv.lns x.mets ∧ x.mets.length ≤ 9223372036854775807 ∧ x.u.length ≤ 9223372036854775807
def k'4m (x : Me) (room : Int) : Int := k'2p x.dat.sus (k'2t x.dat.ehs (k'2s x.dat.his (k'2r x.dat.nbs (roomK x.mets 40 (k'n (k'n (k'n (k'n (k'n room x.name.length) x.desc.length) x.unit.length) x.dat.u.length) x.u.length)))))
theorem roomMe_ok (x : Me) (room : Int) (h : -1 ≤ room) : -1 ≤ k'4m x room ∧ (0 ≤ k'4m x room → (room ≤ 700000 → (x.sz : Int) ≤ 600 + 40 * (room - k'4m x room)) ∧ k'4m x room + 20 ≤ room) := by
 unfold k'4m Me.sz In.sz
 obtain ⟨a0, b0⟩ := k'k (n := x.name.length) h
 obtain ⟨a1, b1⟩ := k'k (n := x.desc.length) a0
 obtain ⟨a2, b2⟩ := k'k (n := x.unit.length) a1
 obtain ⟨a3, b3⟩ := k'k (n := x.dat.u.length) a2
 obtain ⟨a4, b4⟩ := k'k (n := x.u.length) a3
 obtain ⟨a5, b5⟩ := k'2f x.mets 40 _ a4
 obtain ⟨a6, b6⟩ := roomNbs_ok x.dat.nbs _ a5
 obtain ⟨a7, b7⟩ := roomHis_ok x.dat.his _ a6
 obtain ⟨a8, b8⟩ := roomEhs_ok x.dat.ehs _ a7
 obtain ⟨a9, b9⟩ := roomSus_ok x.dat.sus _ a8
 refine ⟨a9, fun hh => ?_⟩
 have d9 := b9 hh
 have d8 := b8 (by omega)
 have d7 := b7 (by omega)
 have d6 := b6 (by omega)
 have d5 := b5 (by omega)
 have d4 := b4 (by omega)
 have d3 := b3 (by omega)
 have d2 := b2 (by omega)
 have d1 := b1 (by omega)
 have d0 := b0 (by omega)
 refine ⟨fun hcap => ?_, by omega⟩
 have e6 := d6.1
 have e7 := d7.1 (by omega)
 have e8 := d8.1 (by omega)
 have e9 := d9.1
 omega
variable (B : Fr)
set_option maxHeartbeats 8000000 in
theorem RoomMe_calls (x : Me) (xa : D) (room : Int) (h1 : x.ln) (h3 : x.R xa) (hr1 : -1 ≤ room) (hr2 : room < 9223372036854775000) : k'0 (cx B) 76 [.d xa, .d (.int .i64 room)] [] (.d (.int .i64 (k'4m x room))) [] := by
 obtain ⟨k_name, k_desc, k_unit, ⟨n_nbs, k_nbs, n_his, k_his, n_ehs, k_ehs, n_sus, k_sus, k_du⟩, n_mets, k_mets, k_u⟩ := h1
 obtain ⟨z_nbs, l_nbs, z_his, l_his, z_ehs, l_ehs, z_sus, l_sus, z_mets, l_mets, rfl, r_nbs, r_his, r_ehs, r_sus, r_mets⟩ := h3
 unfold k'4m
 have c0 := k'9 B (room) x.name.length hr1 hr2 k_name
 obtain ⟨g0, j0⟩ := k'h (n := x.name.length) hr2
 have c1 := k'9 B (k'n room x.name.length) x.desc.length g0 j0 k_desc
 obtain ⟨g1, j1⟩ := k'h (n := x.desc.length) j0
 have c2 := k'9 B (k'n (k'n room x.name.length) x.desc.length) x.unit.length g1 j1 k_unit
 obtain ⟨g2, j2⟩ := k'h (n := x.unit.length) j1
 have c3 := k'9 B (k'n (k'n (k'n room x.name.length) x.desc.length) x.unit.length) x.dat.u.length g2 j2 k_du
 obtain ⟨g3, j3⟩ := k'h (n := x.dat.u.length) j2
 have c4 := k'9 B (k'n (k'n (k'n (k'n room x.name.length) x.desc.length) x.unit.length) x.dat.u.length) x.u.length g3 j3 k_u
 obtain ⟨g4, j4⟩ := k'h (n := x.u.length) j3
 have c5 := k'16 B z_mets (k'n (k'n (k'n (k'n (k'n room x.name.length) x.desc.length) x.unit.length) x.dat.u.length) x.u.length) n_mets k_mets r_mets g4 j4
 have g5 := (k'2f x.mets 40 _ g4).1
 have j5 := roomK_lt (l := x.mets) (deep := 40) g4 j4 (by omega)
 generalize hR0 : roomK x.mets 40 (k'n (k'n (k'n (k'n (k'n room x.name.length) x.desc.length) x.unit.length) x.dat.u.length) x.u.length) = R0 at *
 have hla_nbs := r_nbs.1
 have g6 := (roomNbs_ok x.dat.nbs _ g5).1
 have j6 := roomNbs_lt (l := x.dat.nbs) g5 j5 (by omega)
 generalize hR1 : k'2r x.dat.nbs R0 = R1 at *
 have hla_his := r_his.1
 have g7 := (roomHis_ok x.dat.his _ g6).1
 have j7 := roomHis_lt (l := x.dat.his) g6 j6 (by omega)
 generalize hR2 : k'2s x.dat.his R1 = R2 at *
 have hla_ehs := r_ehs.1
 have g8 := (roomEhs_ok x.dat.ehs _ g7).1
 have j8 := roomEhs_lt (l := x.dat.ehs) g7 j7 (by omega)
 generalize hR3 : k'2t x.dat.ehs R2 = R3 at *
 have hla_sus := r_sus.1
 have g9 := (roomSus_ok x.dat.sus _ g8).1
 have j9 := roomSus_lt (l := x.dat.sus) g8 j8 (by omega)
 generalize hR4 : k'2p x.dat.sus R3 = R4 at *
 refine l_bw Tryz.func76 0 [] ?_
 refine x_cw [] (c0) rfl rfl rfl ?_
 refine x_cw [] (c1) rfl rfl rfl ?_
 refine x_cw [] (c2) rfl rfl rfl ?_
 refine x_cw [] (c3) rfl rfl rfl ?_
 refine x_cw [] (c4) rfl rfl rfl ?_
 refine l_cw [] (c5) rfl rfl rfl ?_
 refine k'8 (fun y : Nat × Int => l_nbs.length - y.1) (fun y => [(1, .d (.int .i64 y.2)), (2, .ptr 0 0), (5, iT y.1)]) (fun _ => [.mu [.d (.str x.name), .d (.str x.desc), .d (.str x.unit), .d (.int .i64 x.kind), .d (.int .i32 x.dat.temp), .d (.bool x.dat.mono), .d (.sl z_nbs l_nbs), .d (.sl z_his l_his), .d (.sl z_ehs l_ehs), .d (.sl z_sus l_sus), .d (.sl z_mets l_mets), .d (.str x.dat.u), .d (.str x.u)]]) (fun y => y.1 ≤ l_nbs.length ∧ k'2r (x.dat.nbs.drop y.1) y.2 = R1 ∧ -1 ≤ y.2 ∧ y.2 < 9223372036854775000) (0, R0) ⟨by omega, hR1, g5, j5⟩ ⟨rfl, rfl, rfl, trivial⟩ rfl 1 rfl (fun _ => rfl) (fun _ => rfl) (fun _ => rfl) ?_
 rintro ⟨i, rm⟩ ⟨i1, i2, i3, i4⟩
 dsimp only at i1 i2 i3 i4 ⊢
 refine Y ?_
 have hcases : (i < l_nbs.length ∧ rm ≥ 0) ∨ ((¬ i < l_nbs.length) ∨ (i < l_nbs.length ∧ ¬ rm ≥ 0)) := by omega
 rcases hcases with ⟨hlt, hr0⟩ | hcases
 ·rw [show decide ((i : Int) < l_nbs.length) = true from decide_eq_true (by omega)]
  refine Y ?_
  rw [show decide (rm ≥ 0) = true from decide_eq_true hr0]
  obtain ⟨x', hxi⟩ : ∃ x, l_nbs[i]? = some x := ⟨_, List.getElem?_eq_getElem hlt⟩
  obtain ⟨v, hv, hvr⟩ := r_nbs.at hxi
  have hln := n_nbs v (List.mem_of_getElem? hv)
  rw [k'2m hv] at i2
  unfold k'2r at i2
  rw [if_neg (by omega)] at i2
  have hok := (roomNb_ok v rm i3).1
  have hlt2 := roomNb_lt (x := v) i3 i4 (by omega)
  have cc := RoomNb_calls B v x' rm hln hvr i3 i4
  obtain ⟨a0, a1, a2, a3, a4, a5, a6, a7, a8, a9, rfl⟩ := Nb.R_sh hvr
  refine Y ?_
  refine k'1 (.indexAddr (k := .i64) (n := i) (es := l_nbs) rfl rfl rfl rfl (.inl ⟨_, rfl⟩) rfl (by omega) (by simpa using hxi) rfl (by decide)) rfl rfl ?_
  refine Y ?_
  refine l_cw [] (cc) rfl rfl rfl ?_
  rw [wS i (by omega)]
  exact ⟨(i + 1, _), by show l_nbs.length - (i + 1) < _; omega, ⟨by show i + 1 ≤ _; omega, i2, hok, hlt2⟩, ⟨rfl, rfl, rfl, trivial⟩, rfl, k'z rfl⟩
 have hrm : R1 = rm := by
  symm
  rcases hcases with g | ⟨-, g⟩
  ·have e : i = x.dat.nbs.length := by omega
   rw [e, List.drop_length] at i2
   exact i2
  ·rw [roomNbs_neg (by omega)] at i2
   exact i2
 clear i2
 subst hrm
 rcases hcases with hlt | ⟨hlt, hr0⟩
 all_goals
  first
  | rw [show decide ((i : Int) < l_nbs.length) = false from decide_eq_false (by omega)]
  | rw [show decide ((i : Int) < l_nbs.length) = true from decide_eq_true (by omega)]
  refine Y ?_
  try rw [show decide (R1 ≥ 0) = false from decide_eq_false (by omega)]
  try refine Y ?_
  refine k'8 (fun y : Nat × Int => l_his.length - y.1) (fun y => [(1, .d (.int .i64 y.2)), (2, .ptr 0 0), (6, iT y.1)]) (fun _ => [.mu [.d (.str x.name), .d (.str x.desc), .d (.str x.unit), .d (.int .i64 x.kind), .d (.int .i32 x.dat.temp), .d (.bool x.dat.mono), .d (.sl z_nbs l_nbs), .d (.sl z_his l_his), .d (.sl z_ehs l_ehs), .d (.sl z_sus l_sus), .d (.sl z_mets l_mets), .d (.str x.dat.u), .d (.str x.u)]]) (fun y => y.1 ≤ l_his.length ∧ k'2s (x.dat.his.drop y.1) y.2 = R2 ∧ -1 ≤ y.2 ∧ y.2 < 9223372036854775000) (0, R1) ⟨by omega, hR2, g6, j6⟩ ⟨rfl, rfl, rfl, trivial⟩ rfl 1 rfl (fun _ => rfl) (fun _ => rfl) (fun _ => rfl) ?_
  rintro ⟨i, rm⟩ ⟨i1, i2, i3, i4⟩
  dsimp only at i1 i2 i3 i4 ⊢
  refine Y ?_
  have hcases : (i < l_his.length ∧ rm ≥ 0) ∨ ((¬ i < l_his.length) ∨ (i < l_his.length ∧ ¬ rm ≥ 0)) := by omega
  rcases hcases with ⟨hlt, hr0⟩ | hcases
  ·rw [show decide ((i : Int) < l_his.length) = true from decide_eq_true (by omega)]
   refine Y ?_
   rw [show decide (rm ≥ 0) = true from decide_eq_true hr0]
   obtain ⟨x', hxi⟩ : ∃ x, l_his[i]? = some x := ⟨_, List.getElem?_eq_getElem hlt⟩
   obtain ⟨v, hv, hvr⟩ := r_his.at hxi
   have hln := n_his v (List.mem_of_getElem? hv)
   rw [k'2m hv] at i2
   unfold k'2s at i2
   rw [if_neg (by omega)] at i2
   have hok := (roomHi_ok v rm i3).1
   have hlt2 := roomHi_lt (x := v) i3 i4 (by omega)
   have cc := RoomHi_calls B v x' rm hln hvr i3 i4
   obtain ⟨a0, a1, a2, a3, a4, a5, a6, a7, a8, a9, a10, a11, a12, a13, a14, a15, a16, a17, a18, rfl⟩ := Hi.R_sh hvr
   refine Y ?_
   refine k'1 (.indexAddr (k := .i64) (n := i) (es := l_his) rfl rfl rfl rfl (.inl ⟨_, rfl⟩) rfl (by omega) (by simpa using hxi) rfl (by decide)) rfl rfl ?_
   refine Y ?_
   refine l_cw [] (cc) rfl rfl rfl ?_
   rw [wS i (by omega)]
   exact ⟨(i + 1, _), by show l_his.length - (i + 1) < _; omega, ⟨by show i + 1 ≤ _; omega, i2, hok, hlt2⟩, ⟨rfl, rfl, rfl, trivial⟩, rfl, k'z rfl⟩
  have hrm : R2 = rm := by
   symm
   rcases hcases with g | ⟨-, g⟩
   ·have e : i = x.dat.his.length := by omega
    rw [e, List.drop_length] at i2
    exact i2
   ·rw [roomHis_neg (by omega)] at i2
    exact i2
  clear i2
  subst hrm
  rcases hcases with hlt | ⟨hlt, hr0⟩
  all_goals
   first
   | rw [show decide ((i : Int) < l_his.length) = false from decide_eq_false (by omega)]
   | rw [show decide ((i : Int) < l_his.length) = true from decide_eq_true (by omega)]
   refine Y ?_
   try rw [show decide (R2 ≥ 0) = false from decide_eq_false (by omega)]
   try refine Y ?_
   refine k'8 (fun y : Nat × Int => l_ehs.length - y.1) (fun y => [(1, .d (.int .i64 y.2)), (2, .ptr 0 0), (7, iT y.1)]) (fun _ => [.mu [.d (.str x.name), .d (.str x.desc), .d (.str x.unit), .d (.int .i64 x.kind), .d (.int .i32 x.dat.temp), .d (.bool x.dat.mono), .d (.sl z_nbs l_nbs), .d (.sl z_his l_his), .d (.sl z_ehs l_ehs), .d (.sl z_sus l_sus), .d (.sl z_mets l_mets), .d (.str x.dat.u), .d (.str x.u)]]) (fun y => y.1 ≤ l_ehs.length ∧ k'2t (x.dat.ehs.drop y.1) y.2 = R3 ∧ -1 ≤ y.2 ∧ y.2 < 9223372036854775000) (0, R2) ⟨by omega, hR3, g7, j7⟩ ⟨rfl, rfl, rfl, trivial⟩ rfl 1 rfl (fun _ => rfl) (fun _ => rfl) (fun _ => rfl) ?_
   rintro ⟨i, rm⟩ ⟨i1, i2, i3, i4⟩
   dsimp only at i1 i2 i3 i4 ⊢
   refine Y ?_
   have hcases : (i < l_ehs.length ∧ rm ≥ 0) ∨ ((¬ i < l_ehs.length) ∨ (i < l_ehs.length ∧ ¬ rm ≥ 0)) := by omega
   rcases hcases with ⟨hlt, hr0⟩ | hcases
   ·rw [show decide ((i : Int) < l_ehs.length) = true from decide_eq_true (by omega)]
    refine Y ?_
    rw [show decide (rm ≥ 0) = true from decide_eq_true hr0]
    obtain ⟨x', hxi⟩ : ∃ x, l_ehs[i]? = some x := ⟨_, List.getElem?_eq_getElem hlt⟩
    obtain ⟨v, hv, hvr⟩ := r_ehs.at hxi
    have hln := n_ehs v (List.mem_of_getElem? hv)
    rw [k'2m hv] at i2
    unfold k'2t at i2
    rw [if_neg (by omega)] at i2
    have hok := (roomEh_ok v rm i3).1
    have hlt2 := roomEh_lt (x := v) i3 i4 (by omega)
    have cc := RoomEh_calls B v x' rm hln hvr i3 i4
    obtain ⟨a0, a1, a2, a3, a4, a5, a6, a7, a8, a9, a10, a11, a12, a13, a14, a15, a16, a17, a18, a19, a20, a21, a22, a23, a24, a25, a26, a27, rfl⟩ := Eh.R_sh hvr
    refine Y ?_
    refine k'1 (.indexAddr (k := .i64) (n := i) (es := l_ehs) rfl rfl rfl rfl (.inl ⟨_, rfl⟩) rfl (by omega) (by simpa using hxi) rfl (by decide)) rfl rfl ?_
    refine Y ?_
    refine l_cw [] (cc) rfl rfl rfl ?_
    rw [wS i (by omega)]
    exact ⟨(i + 1, _), by show l_ehs.length - (i + 1) < _; omega, ⟨by show i + 1 ≤ _; omega, i2, hok, hlt2⟩, ⟨rfl, rfl, rfl, trivial⟩, rfl, k'z rfl⟩
   have hrm : R3 = rm := by
    symm
    rcases hcases with g | ⟨-, g⟩
    ·have e : i = x.dat.ehs.length := by omega
     rw [e, List.drop_length] at i2
     exact i2
    ·rw [roomEhs_neg (by omega)] at i2
     exact i2
   clear i2
   subst hrm
   rcases hcases with hlt | ⟨hlt, hr0⟩
   all_goals
    first
    | rw [show decide ((i : Int) < l_ehs.length) = false from decide_eq_false (by omega)]
    | rw [show decide ((i : Int) < l_ehs.length) = true from decide_eq_true (by omega)]
    refine Y ?_
    try rw [show decide (R3 ≥ 0) = false from decide_eq_false (by omega)]
    try refine Y ?_
    refine k'8 (fun y : Nat × Int => l_sus.length - y.1) (fun y => [(1, .d (.int .i64 y.2)), (2, .ptr 0 0), (8, iT y.1)]) (fun _ => [.mu [.d (.str x.name), .d (.str x.desc), .d (.str x.unit), .d (.int .i64 x.kind), .d (.int .i32 x.dat.temp), .d (.bool x.dat.mono), .d (.sl z_nbs l_nbs), .d (.sl z_his l_his), .d (.sl z_ehs l_ehs), .d (.sl z_sus l_sus), .d (.sl z_mets l_mets), .d (.str x.dat.u), .d (.str x.u)]]) (fun y => y.1 ≤ l_sus.length ∧ k'2p (x.dat.sus.drop y.1) y.2 = R4 ∧ -1 ≤ y.2 ∧ y.2 < 9223372036854775000) (0, R3) ⟨by omega, hR4, g8, j8⟩ ⟨rfl, rfl, rfl, trivial⟩ rfl 1 rfl (fun _ => rfl) (fun _ => rfl) (fun _ => rfl) ?_
    rintro ⟨i, rm⟩ ⟨i1, i2, i3, i4⟩
    dsimp only at i1 i2 i3 i4 ⊢
    refine Y ?_
    have hcases : (i < l_sus.length ∧ rm ≥ 0) ∨ ((¬ i < l_sus.length) ∨ (i < l_sus.length ∧ ¬ rm ≥ 0)) := by omega
    rcases hcases with ⟨hlt, hr0⟩ | hcases
    ·rw [show decide ((i : Int) < l_sus.length) = true from decide_eq_true (by omega)]
     refine Y ?_
     rw [show decide (rm ≥ 0) = true from decide_eq_true hr0]
     obtain ⟨x', hxi⟩ : ∃ x, l_sus[i]? = some x := ⟨_, List.getElem?_eq_getElem hlt⟩
     obtain ⟨v, hv, hvr⟩ := r_sus.at hxi
     have hln := n_sus v (List.mem_of_getElem? hv)
     rw [k'2m hv] at i2
     unfold k'2p at i2
     rw [if_neg (by omega)] at i2
     have hok := (roomSu_ok v rm i3).1
     have hlt2 := roomSu_lt (x := v) i3 i4 (by omega)
     have cc := RoomSu_calls B v x' rm hln hvr i3 i4
     obtain ⟨a0, a1, a2, a3, a4, a5, a6, a7, a8, a9, rfl⟩ := Su.R_sh hvr
     refine Y ?_
     refine k'1 (.indexAddr (k := .i64) (n := i) (es := l_sus) rfl rfl rfl rfl (.inl ⟨_, rfl⟩) rfl (by omega) (by simpa using hxi) rfl (by decide)) rfl rfl ?_
     refine Y ?_
     refine l_cw [] (cc) rfl rfl rfl ?_
     rw [wS i (by omega)]
     exact ⟨(i + 1, _), by show l_sus.length - (i + 1) < _; omega, ⟨by show i + 1 ≤ _; omega, i2, hok, hlt2⟩, ⟨rfl, rfl, rfl, trivial⟩, rfl, k'z rfl⟩
    have hrm : R4 = rm := by
     symm
     rcases hcases with g | ⟨-, g⟩
     ·have e : i = x.dat.sus.length := by omega
      rw [e, List.drop_length] at i2
      exact i2
     ·rw [roomSus_neg (by omega)] at i2
      exact i2
    clear i2
    subst hrm
    rcases hcases with hlt | ⟨hlt, hr0⟩
    all_goals
     first
     | rw [show decide ((i : Int) < l_sus.length) = false from decide_eq_false (by omega)]
     | rw [show decide ((i : Int) < l_sus.length) = true from decide_eq_true (by omega)]
     refine Y ?_
     try rw [show decide (R4 ≥ 0) = false from decide_eq_false (by omega)]
     try exact Z
