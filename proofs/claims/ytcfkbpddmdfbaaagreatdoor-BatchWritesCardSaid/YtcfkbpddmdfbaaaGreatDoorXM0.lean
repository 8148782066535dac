/- Batches: how much room they take. -/
import Derived.Test.YtcfkbpddmdfbaaaGreatDoorMV
import Derived.Test.YtcfkbpddmdfbaaaGreatDoorBB
import Derived.Test.YtcfkbpddmdfbaaaGreatDoorPG
import Derived.Test.YtcfkbpddmdfbaaaGreatDoorRows
import Derived.ChangeSame
import Derived.ChangeVars
import Derived.ChangeStays
import Derived.ChangeMaps5
import Derived.JoinedOf
import Derived.Handed
import Derived.RowKit
import Derived.RowKitTokens
import Derived.LaidLaws
import Derived.LaidHandle
import Derived.Stop.Joined
import Derived.Deep.Strs
import Derived.ChangeSlices
set_option linter.unusedSimpArgs false
set_option linter.unusedVariables false
set_option maxRecDepth 100000
namespace Go.Proofs.YtcfkbpddmdfbaaaGreatDoor
open Go Go.Abs
variable (B : Fr)
section
def Sc.ln (x : Sc) : Prop := x.name.length ≤ 9223372036854775807 ∧ x.version.length ≤ 9223372036854775807 ∧ Kv.lns x.attrs ∧ x.attrs.length ≤ 9223372036854775807 ∧ x.u.length ≤ 9223372036854775807
def Rs.ln (x : Rs) : Prop := Kv.lns x.attrs ∧ x.attrs.length ≤ 9223372036854775807 ∧ x.u.length ≤ 9223372036854775807
def Sm.ln (x : Sm) : Prop := Sc.ln x.p ∧ (∀ v ∈ x.qs, v.ln) ∧ x.qs.length ≤ 9223372036854775807 ∧ x.sch.length ≤ 9223372036854775807 ∧ x.u.length ≤ 9223372036854775807
def Rm.ln (x : Rm) : Prop := Rs.ln x.p ∧ (∀ v ∈ x.qs, Sm.ln v) ∧ x.qs.length ≤ 9223372036854775807 ∧ x.sch.length ≤ 9223372036854775807 ∧ x.u.length ≤ 9223372036854775807
def Bt.ln (x : Bt) : Prop := (∀ v ∈ x.rs, Rm.ln v) ∧ x.rs.length ≤ 9223372036854775807 ∧ x.u.length ≤ 9223372036854775807
def roomSc (x : Sc) (room : Int) : Int := roomK x.attrs 40 (k'n (k'n (k'n room x.name.length) x.version.length) x.u.length)
def roomRs (x : Rs) (room : Int) : Int := roomK x.attrs 40 (k'n room x.u.length)
def k'49 {α : Type} (f : α → Int → Int) : List α → Int → Int
 | [], room => room
 | x :: l, room => if room < 0 then room else k'49 f l (f x room)
theorem roomL_neg {α : Type} {f : α → Int → Int} {l : List α} {room : Int} (h : room < 0) : k'49 f l room = room := by
 cases l with
 | nil => rfl
 | cons v l => unfold k'49; rw [if_pos h]
def RoomP {α : Type} (f : α → Int → Int) (sz : α → Nat) (c : Int) : Prop := ∀ (x : α) (room : Int), -1 ≤ room → -1 ≤ f x room ∧ (0 ≤ f x room → (room ≤ 700000 → (sz x : Int) ≤ c * (room - f x room)) ∧ f x room + 20 ≤ room)
theorem RoomP.list {α : Type} {f : α → Int → Int} {sz : α → Nat} {c : Int} (h : RoomP f sz c) : ∀ (l : List α) (room : Int), -1 ≤ room → -1 ≤ k'49 f l room ∧ (0 ≤ k'49 f l room → (room ≤ 700000 → ((l.map sz).sum : Int) ≤ c * (room - k'49 f l room)) ∧ k'49 f l room ≤ room)
 | [], room, hr => by unfold k'49; simp; omega
 | x :: l, room, hr => by
  obtain ⟨a1, a2⟩ := h x room hr
  obtain ⟨b1, b2⟩ := RoomP.list h l _ a1
  unfold k'49
  rw [List.map_cons, List.sum_cons]
  split
  ·omega
  ·refine ⟨b1, fun hh => ?_⟩
   have c1 := b2 hh
   have c2 := a2 (by omega)
   refine ⟨fun h7 => ?_, by omega⟩
   have d1 := c1.1 (by omega)
   have d2 := c2.1 h7
   have e : c * (room - k'49 f l (f x room)) = c * (room - f x room) + c * (f x room - k'49 f l (f x room)) := by rw [← Int.mul_add]; congr 1; omega
   rw [e]
   push_cast
   omega
theorem RoomP.lt {α : Type} {f : α → Int → Int} {sz : α → Nat} {c : Int} (h : RoomP f sz c) {x : α} {room M : Int} (h1 : -1 ≤ room) (h2 : room < M) (hM : 0 ≤ M) : f x room < M := by
 obtain ⟨a, b⟩ := h x room h1
 rcases Int.lt_or_le (f x room) 0 with g | g
 ·omega
 ·have := b g; omega
def roomSm (x : Sm) (room : Int) : Int := k'49 k'4m x.qs (roomSc x.p (k'n (k'n room x.sch.length) x.u.length))
def roomRm (x : Rm) (room : Int) : Int := k'49 roomSm x.qs (roomRs x.p (k'n (k'n room x.sch.length) x.u.length))
def roomBt (x : Bt) (room : Int) : Int := k'49 roomRm x.rs (k'n room x.u.length)
theorem roomMe_P : RoomP k'4m Me.sz 70 := fun x room h => by
 obtain ⟨a, b⟩ := roomMe_ok x room h
 exact ⟨a, fun hh => ⟨fun h7 => by have c := b hh; have := c.1 h7; omega, (b hh).2⟩⟩
theorem roomSc_P : RoomP roomSc Sc.sz 70 := fun x room h => by
 unfold roomSc Sc.sz
 obtain ⟨a0, b0⟩ := k'k (n := x.name.length) h
 obtain ⟨a1, b1⟩ := k'k (n := x.version.length) a0
 obtain ⟨a2, b2⟩ := k'k (n := x.u.length) a1
 obtain ⟨a3, b3⟩ := k'2f x.attrs 40 _ a2
 refine ⟨a3, fun hh => ?_⟩
 have d3 := b3 hh
 have d2 := b2 (by omega)
 have d1 := b1 (by omega)
 have d0 := b0 (by omega)
 omega
theorem roomRs_P : RoomP roomRs Rs.sz 70 := fun x room h => by
 unfold roomRs Rs.sz
 obtain ⟨a0, b0⟩ := k'k (n := x.u.length) h
 obtain ⟨a3, b3⟩ := k'2f x.attrs 40 _ a0
 refine ⟨a3, fun hh => ?_⟩
 have d3 := b3 hh
 have d0 := b0 (by omega)
 omega
theorem roomTr {P Q : Type} (a : Ms P) (b : Ms Q) {f : P → Int → Int} {g : Q → Int → Int} (hf : RoomP f a.sz 70) (hg : RoomP g b.sz 70) : RoomP (fun (x : Tr P Q) room => k'49 g x.qs (f x.p (k'n (k'n room x.sch.length) x.u.length))) (trSz a b) 70 := fun x room h => by
 dsimp only
 unfold trSz
 obtain ⟨a0, b0⟩ := k'k (n := x.sch.length) h
 obtain ⟨a1, b1⟩ := k'k (n := x.u.length) a0
 obtain ⟨a2, b2⟩ := hf x.p _ a1
 obtain ⟨a3, b3⟩ := hg.list x.qs _ a2
 refine ⟨a3, fun hh => ?_⟩
 have d3 := b3 hh
 have d2 := b2 (by omega)
 have d1 := b1 (by omega)
 have d0 := b0 (by omega)
 refine ⟨fun h7 => ?_, by omega⟩
 have e3 := d3.1 (by omega)
 have e2 := d2.1 (by omega)
 push_cast
 omega
theorem roomSm_P : RoomP roomSm smM.sz 70 := roomTr scM meM roomSc_P roomMe_P
theorem roomRm_P : RoomP roomRm rmM.sz 70 := roomTr rsM smM roomRs_P roomSm_P
theorem roomBt_ok (x : Bt) (h : 0 ≤ roomBt x 20000) : x.sz < big := by
 unfold roomBt at h
 obtain ⟨a0, b0⟩ := k'k (n := x.u.length) (show -1 ≤ (20000 : Int) by omega)
 obtain ⟨a1, b1⟩ := roomRm_P.list x.rs _ a0
 have d1 := b1 h
 have d0 := b0 (by omega)
 have e1 := d1.1 (by omega)
 unfold Bt.sz big
 omega
theorem RoomSc_calls (x : Sc) (xa : D) (room : Int) (h1 : x.ln) (h3 : x.R xa) (hr1 : -1 ≤ room) (hr2 : room < 9223372036854775000) : k'0 (cx B) 75 [.d xa, .d (.int .i64 room)] [] (.d (.int .i64 (roomSc x room))) [] := by
 obtain ⟨k0, k1, n_attrs, k_attrs, k2⟩ := h1
 obtain ⟨z, l, rfl, r⟩ := h3
 unfold roomSc
 have c0 := k'9 B room x.name.length hr1 hr2 k0
 obtain ⟨g0, j0⟩ := k'h (n := x.name.length) hr2
 generalize k'n room x.name.length = R0 at *
 have c1 := k'9 B R0 x.version.length g0 j0 k1
 obtain ⟨g1, j1⟩ := k'h (n := x.version.length) j0
 generalize k'n R0 x.version.length = R1 at *
 have c2 := k'9 B R1 x.u.length g1 j1 k2
 obtain ⟨g2, j2⟩ := k'h (n := x.u.length) j1
 generalize k'n R1 x.u.length = R2 at *
 have c3 := k'16 B z R2 n_attrs k_attrs r g2 j2
 refine l_bw Tryz.func75 0 [] ?_
 refine x_cw [] (c0) rfl rfl rfl ?_
 refine x_cw [] (c1) rfl rfl rfl ?_
 refine x_cw [] (c2) rfl rfl rfl ?_
 refine k'3 [] (c3) rfl rfl rfl ?_
 exact Z
theorem RoomRs_calls (x : Rs) (xa : D) (room : Int) (h1 : x.ln) (h3 : x.R xa) (hr1 : -1 ≤ room) (hr2 : room < 9223372036854775000) : k'0 (cx B) 74 [.d xa, .d (.int .i64 room)] [] (.d (.int .i64 (roomRs x room))) [] := by
 obtain ⟨n_attrs, k_attrs, k2⟩ := h1
 obtain ⟨z, l, rfl, r⟩ := h3
 unfold roomRs
 have c2 := k'9 B room x.u.length hr1 hr2 k2
 obtain ⟨g2, j2⟩ := k'h (n := x.u.length) hr2
 generalize k'n room x.u.length = R2 at *
 have c3 := k'16 B z R2 n_attrs k_attrs r g2 j2
 refine l_bw Tryz.func74 0 [] ?_
 refine x_cw [] (c2) rfl rfl rfl ?_
 refine k'3 [] (c3) rfl rfl rfl ?_
 exact Z
theorem roomL_go {α : Type} {f : α → Int → Int} {sz : α → Nat} {c : Int} (hP : RoomP f sz c) {l : List α} {i : Nat} {x : α} {rm RR : Int} (h : l[i]? = some x) (h0 : rm ≥ 0) (hr : k'49 f (l.drop i) rm = RR) (h1 : -1 ≤ rm) (h2 : rm < 9223372036854775000) : k'49 f (l.drop (i + 1)) (f x rm) = RR ∧ -1 ≤ f x rm ∧ f x rm < 9223372036854775000 := by
 rw [k'2m h] at hr
 unfold k'49 at hr
 rw [if_neg (by omega)] at hr
 exact ⟨hr, (hP x rm h1).1, hP.lt h1 h2 (by omega)⟩
theorem k'46 {α : Type} {f : α → Int → Int} {l : List α} {i n : Nat} {rm RR : Int} (hn : n = l.length) (hc : ¬ i < n ∨ ¬ rm ≥ 0) (hr : k'49 f (l.drop i) rm = RR) (hi : i ≤ n) : rm = RR := by
 rcases hc with h | h
 ·have e : i = l.length := by omega
  rw [e, List.drop_length] at hr
  exact hr
 ·rw [roomL_neg (by omega)] at hr
  exact hr
set_option maxHeartbeats 8000000 in
theorem RoomBt_calls (x : Bt) (xa : D) (room : Int) (hx1 : x.ln) (hx : x.R xa) (hr1 : -1 ≤ room) (hr2 : room < 9223372036854775000) : k'0 (cx B) 32 [.d xa, .d (.int .i64 room)] [] (.d (.int .i64 (roomBt x room))) [] := by
 obtain ⟨n1, k1, ku⟩ := hx1
 obtain ⟨z, l, rfl, r1⟩ := hx
 have hl := r1.1
 unfold roomBt
 have c0 := k'9 B room x.u.length hr1 hr2 ku
 obtain ⟨g0, j0⟩ := k'h (n := x.u.length) hr2
 generalize k'n room x.u.length = R0 at *
 generalize hRR : k'49 roomRm x.rs R0 = RR
 refine l_bw Tryz.func32 0 [] ?_
 refine l_cw [] (c0) rfl rfl rfl ?_
 refine k'8 (fun y : Nat × Int => l.length - y.1) (fun y => [(1, .d (.int .i64 y.2)), (2, .ptr 0 0), (5, iT y.1)]) (fun _ => [.mu [.d (.sl z l), .d (.str x.u)]]) (fun y => y.1 ≤ l.length ∧ k'49 roomRm (x.rs.drop y.1) y.2 = RR ∧ -1 ≤ y.2 ∧ y.2 < 9223372036854775000) (0, R0) ⟨by omega, hRR, g0, j0⟩ ⟨rfl, rfl, rfl, trivial⟩ rfl 1 rfl (fun _ => rfl) (fun _ => rfl) (fun _ => rfl) ?_
 rintro ⟨i, rm⟩ ⟨i1, i2, i3, i4⟩
 dsimp only at i1 i2 i3 i4 ⊢
 refine Y ?_
 by_cases hlt : i < l.length
 rotate_left
 ·have hrm := k'46 hl (.inl hlt) i2 i1
  subst hrm
  rw [show decide ((i : Int) < l.length) = false from decide_eq_false (by omega)]
  exact Z
 rw [show decide ((i : Int) < l.length) = true from decide_eq_true (by omega)]
 refine Y ?_
 by_cases hr0 : rm ≥ 0
 rotate_left
 ·have hrm := k'46 hl (.inr hr0) i2 i1
  subst hrm
  rw [show decide (rm ≥ 0) = false from decide_eq_false hr0]
  exact Z
 rw [show decide (rm ≥ 0) = true from decide_eq_true hr0]
 obtain ⟨ya, hyi⟩ : ∃ y, l[i]? = some y := ⟨_, List.getElem?_eq_getElem hlt⟩
 obtain ⟨v, hv, hvr⟩ := r1.at hyi
 obtain ⟨q1, q2, q3⟩ := roomL_go roomRm_P hv hr0 i2 i3 i4
 obtain ⟨m1, m2, m3, m4, m5⟩ := n1 v (List.mem_of_getElem? hv)
 obtain ⟨zp, lp, z2, l2, rfl, rp, r2⟩ := hvr
 have hl2 := r2.1
 change k'49 roomRm _ (k'49 roomSm v.qs (roomRs v.p (k'n (k'n rm v.sch.length) v.u.length))) = RR at q1
 change -1 ≤ k'49 roomSm v.qs (roomRs v.p (k'n (k'n rm v.sch.length) v.u.length)) at q2
 change k'49 roomSm v.qs (roomRs v.p (k'n (k'n rm v.sch.length) v.u.length)) < _ at q3
 have c1 := k'9 B rm v.sch.length i3 i4 m4
 obtain ⟨g1, j1⟩ := k'h (n := v.sch.length) i4
 generalize k'n rm v.sch.length = R1 at *
 have c2 := k'9 B R1 v.u.length g1 j1 m5
 obtain ⟨g2, j2⟩ := k'h (n := v.u.length) j1
 generalize k'n R1 v.u.length = R2 at *
 have c3 := RoomRs_calls B v.p _ R2 m1 ⟨zp, lp, rfl, rp⟩ g2 j2
 have g3 := (roomRs_P v.p R2 g2).1
 have j3 : roomRs v.p R2 < 9223372036854775000 := roomRs_P.lt g2 j2 (by omega)
 generalize roomRs v.p R2 = R3 at *
 generalize hRR2 : k'49 roomSm v.qs R3 = RR2 at *
 refine Y ?_
 refine k'1 (.indexAddr (k := .i64) (n := i) (es := l) rfl rfl rfl rfl (.inl ⟨_, rfl⟩) rfl (by omega) (by simpa using hyi) rfl (by decide)) rfl rfl ?_
 refine Y ?_
 refine x_cw [] (c1) rfl rfl rfl ?_
 refine x_cw [] (c2) rfl rfl rfl ?_
 refine x_cw [] (c3) rfl rfl rfl ?_
 refine k'8 (fun y : Nat × Int => l2.length - y.1) (fun y => [(1, .d (.int .i64 y.2)), (2, .ptr 0 0), (5, iT i), (6, .ptr 1 0), (7, iT y.1)]) (fun _ => [.mu [.d (.sl z l), .d (.str x.u)], .mu [.d (.bool v.has), .d (.sl zp lp), .d (.int .u32 v.p.dropped), .d (.str v.p.u), .d (.sl z2 l2), .d (.str v.sch), .d (.str v.u)]]) (fun y => y.1 ≤ l2.length ∧ k'49 roomSm (v.qs.drop y.1) y.2 = RR2 ∧ -1 ≤ y.2 ∧ y.2 < 9223372036854775000) (0, R3) ⟨by omega, hRR2, g3, j3⟩ ⟨rfl, rfl, rfl, rfl, rfl, trivial⟩ rfl 2 rfl (fun _ => rfl) (fun _ => rfl) (fun _ => rfl) ?_
 rintro ⟨j, rm2⟩ ⟨y1, y2, y3, y4⟩
 dsimp only at y1 y2 y3 y4 ⊢
 refine Y ?_
 by_cases hlt2 : j < l2.length
 rotate_left
 ·have hrm := k'46 hl2 (.inl hlt2) y2 y1
  subst hrm
  rw [show decide ((j : Int) < l2.length) = false from decide_eq_false (by omega)]
  refine Y ?_
  rw [wS i (by omega)]
  exact ⟨(i + 1, rm2), by show l.length - (i + 1) < _; omega, ⟨by show i + 1 ≤ _; omega, q1, q2, q3⟩, ⟨rfl, rfl, rfl, trivial⟩, rfl, k'z rfl⟩
 rw [show decide ((j : Int) < l2.length) = true from decide_eq_true (by omega)]
 refine Y ?_
 by_cases hr2 : rm2 ≥ 0
 rotate_left
 ·have hrm := k'46 hl2 (.inr hr2) y2 y1
  subst hrm
  rw [show decide (rm2 ≥ 0) = false from decide_eq_false hr2]
  refine Y ?_
  rw [wS i (by omega)]
  exact ⟨(i + 1, rm2), by show l.length - (i + 1) < _; omega, ⟨by show i + 1 ≤ _; omega, q1, q2, q3⟩, ⟨rfl, rfl, rfl, trivial⟩, rfl, k'z rfl⟩
 rw [show decide (rm2 ≥ 0) = true from decide_eq_true hr2]
 obtain ⟨ya, hyj⟩ : ∃ y, l2[j]? = some y := ⟨_, List.getElem?_eq_getElem hlt2⟩
 obtain ⟨w, hw, hwr⟩ := r2.at hyj
 obtain ⟨s1, s2, s3⟩ := roomL_go roomSm_P hw hr2 y2 y3 y4
 obtain ⟨m6, m7, m8, m9, m10⟩ := m2 w (List.mem_of_getElem? hw)
 obtain ⟨zq, lq, z3, l3, rfl, rq, r3⟩ := hwr
 have hl3 := r3.1
 change k'49 roomSm _ (k'49 k'4m w.qs (roomSc w.p (k'n (k'n rm2 w.sch.length) w.u.length))) = RR2 at s1
 change -1 ≤ k'49 k'4m w.qs (roomSc w.p (k'n (k'n rm2 w.sch.length) w.u.length)) at s2
 change k'49 k'4m w.qs (roomSc w.p (k'n (k'n rm2 w.sch.length) w.u.length)) < _ at s3
 have c4 := k'9 B rm2 w.sch.length y3 y4 m9
 obtain ⟨g4, j4⟩ := k'h (n := w.sch.length) y4
 generalize k'n rm2 w.sch.length = R4 at *
 have c5 := k'9 B R4 w.u.length g4 j4 m10
 obtain ⟨g5, j5⟩ := k'h (n := w.u.length) j4
 generalize k'n R4 w.u.length = R5 at *
 have c6 := RoomSc_calls B w.p _ R5 m6 ⟨zq, lq, rfl, rq⟩ g5 j5
 have g6 := (roomSc_P w.p R5 g5).1
 have j6 : roomSc w.p R5 < 9223372036854775000 := roomSc_P.lt g5 j5 (by omega)
 generalize roomSc w.p R5 = R6 at *
 generalize hRR3 : k'49 k'4m w.qs R6 = RR3 at *
 refine Y ?_
 refine k'1 (.indexAddr (k := .i64) (n := j) (es := l2) rfl rfl rfl rfl (.inl ⟨_, rfl⟩) rfl (by omega) (by simpa using hyj) rfl (by decide)) rfl rfl ?_
 refine Y ?_
 refine x_cw [] (c4) rfl rfl rfl ?_
 refine x_cw [] (c5) rfl rfl rfl ?_
 refine x_cw [] (c6) rfl rfl rfl ?_
 refine k'8 (fun y : Nat × Int => l3.length - y.1) (fun y => [(1, .d (.int .i64 y.2)), (2, .ptr 0 0), (5, iT i), (6, .ptr 1 0), (7, iT j), (8, .ptr 2 0), (9, iT y.1)]) (fun _ => [.mu [.d (.sl z l), .d (.str x.u)], .mu [.d (.bool v.has), .d (.sl zp lp), .d (.int .u32 v.p.dropped), .d (.str v.p.u), .d (.sl z2 l2), .d (.str v.sch), .d (.str v.u)], .mu [.d (.bool w.has), .d (.str w.p.name), .d (.str w.p.version), .d (.sl zq lq), .d (.int .u32 w.p.dropped), .d (.str w.p.u), .d (.sl z3 l3), .d (.str w.sch), .d (.str w.u)]]) (fun y => y.1 ≤ l3.length ∧ k'49 k'4m (w.qs.drop y.1) y.2 = RR3 ∧ -1 ≤ y.2 ∧ y.2 < 9223372036854775000) (0, R6) ⟨by omega, hRR3, g6, j6⟩ ⟨rfl, rfl, rfl, rfl, rfl, rfl, rfl, trivial⟩ rfl 3 rfl (fun _ => rfl) (fun _ => rfl) (fun _ => rfl) ?_
 rintro ⟨k, rm3⟩ ⟨t1, t2, t3, t4⟩
 dsimp only at t1 t2 t3 t4 ⊢
 refine Y ?_
 by_cases hlt3 : k < l3.length
 rotate_left
 ·have hrm := k'46 hl3 (.inl hlt3) t2 t1
  subst hrm
  rw [show decide ((k : Int) < l3.length) = false from decide_eq_false (by omega)]
  refine Y ?_
  rw [wS j (by omega)]
  exact ⟨(j + 1, rm3), by show l2.length - (j + 1) < _; omega, ⟨by show j + 1 ≤ _; omega, s1, s2, s3⟩, ⟨rfl, rfl, rfl, rfl, rfl, trivial⟩, rfl, k'z rfl⟩
 rw [show decide ((k : Int) < l3.length) = true from decide_eq_true (by omega)]
 refine Y ?_
 by_cases hr3 : rm3 ≥ 0
 rotate_left
 ·have hrm := k'46 hl3 (.inr hr3) t2 t1
  subst hrm
  rw [show decide (rm3 ≥ 0) = false from decide_eq_false hr3]
  refine Y ?_
  rw [wS j (by omega)]
  exact ⟨(j + 1, rm3), by show l2.length - (j + 1) < _; omega, ⟨by show j + 1 ≤ _; omega, s1, s2, s3⟩, ⟨rfl, rfl, rfl, rfl, rfl, trivial⟩, rfl, k'z rfl⟩
 rw [show decide (rm3 ≥ 0) = true from decide_eq_true hr3]
 obtain ⟨ma, hmk⟩ : ∃ y, l3[k]? = some y := ⟨_, List.getElem?_eq_getElem hlt3⟩
 obtain ⟨m, hm, hmr⟩ := r3.at hmk
 obtain ⟨u1, u2, u3⟩ := roomL_go roomMe_P hm hr3 t2 t3 t4
 have c7 := RoomMe_calls B m ma rm3 (m7 m (List.mem_of_getElem? hm)) hmr t3 t4
 generalize k'4m m rm3 = R7 at *
 obtain ⟨a0, a1, a2, a3, a4, a5, a6, a7, a8, a9, a10, a11, a12, a13, a14, a15, a16, a17, rfl⟩ := Me.R_sh hmr
 refine Y ?_
 refine k'1 (.indexAddr (k := .i64) (n := k) (es := l3) rfl rfl rfl rfl (.inl ⟨_, rfl⟩) rfl (by omega) (by simpa using hmk) rfl (by decide)) rfl rfl ?_
 refine Y ?_
 refine l_cw [] (c7) rfl rfl rfl ?_
 rw [wS k (by omega)]
 exact ⟨(k + 1, R7), by show l3.length - (k + 1) < _; omega, ⟨by show k + 1 ≤ _; omega, u1, u2, u3⟩, ⟨rfl, rfl, rfl, rfl, rfl, rfl, rfl, trivial⟩, rfl, k'z rfl⟩
theorem FewBt_calls (x : Bt) (xa : D) (hx1 : x.ln) (hx : x.R xa) : k'0 (cx B) 9 [.d xa] [] (.d (.bool (decide (roomBt x 20000 ≥ 0)))) [] := by
 have c := RoomBt_calls B x xa 20000 hx1 hx (by omega) (by omega)
 obtain ⟨z, l, rfl, r1⟩ := hx
 refine l_bw Tryz.func9 0 [] ?_
 refine k'2 [] (c) rfl rfl rfl ?_
 exact Z
end
section
open Go Go.Abs Go.ChangeShapes Go.WideShapes Go.RowKit
theorem l_own : ownKnob Tryz.prog.godebug = none := by kernel_rfl
theorem l_et : Tryz.prog.globalNamed "errors.errorType" = some 0 := by kernel_rfl
theorem l_rt : (Tryz.prog.cutTypes.find? (·.1 == "internal/reflectlite.rtype")).map (·.2) = some 206 := by kernel_rfl
theorem l_size : Tryz.prog.types.size = 528 := by kernel_rfl
theorem l_oneRow : ((List.range 528).filter fun t => Tryz.prog.rowNamed t [101, 114, 114, 111, 114]) = [30] := by kernel_rfl
theorem l_laidOut : laidOutB Tryz.prog = true := by kernel_rfl
theorem l_handle {W : World} (h : laidMetH Tryz.prog [("errors.errorType", Rows.laid_errors_errorType)] W) : W.cell? ⟨0, 0, none⟩ = some (rty 30) := by
 have h' : laidMet Tryz.prog [] W ∧ handlesMet Tryz.prog [("errors.errorType", Rows.laid_errors_errorType)] W := h
 obtain ⟨name, u, ty, e1, e2, e3, e4, e5⟩ := h'.2 _ (List.mem_singleton.2 rfl)
 have en : name = [101, 114, 114, 111, 114] := (Option.some.inj e1).symm
 subst en
 obtain rfl := Option.some.inj (l_rt.symm.trans e2)
 have hm : ty ∈ (List.range 528).filter fun t => Tryz.prog.rowNamed t [101, 114, 114, 111, 114] := List.mem_filter.2 ⟨List.mem_range.2 (by rw [← l_size]; exact e3), e4⟩
 rw [l_oneRow] at hm
 obtain rfl := List.mem_singleton.1 hm
 have hh : typeHandle Tryz.prog 30 = hnd 30 := by kernel_rfl
 rw [hh] at e5
 simpa using World.var?_cell l_et e5 0
noncomputable def laidWorld (os : Os) : World :=
 let w0 := World.holding Tryz.prog os ⟨#[], #[], []⟩
 { w0 with heap := w0.heap.modify 0 fun
   | .cells _ t frozen => .cells #[rty 30] t frozen
   | o => o }
theorem laidWorld_met (os : Os) (args : Array Value) : laidMetH Tryz.prog [("errors.errorType", Rows.laid_errors_errorType)] ((laidWorld os).forCall (fun _ _ => 0) ⟨#[], args, []⟩).memory :=
 laidMetH_of_parts (laidMet_nil _ _) (by kernel_rfl)
theorem keptBut_of_heap {w w' : World} (ho : w'.os = w.os) (hu : w'.output = w.output) (h : ∀ b, b < w.heap.size → w'.heap[b]? = w.heap[b]?) (may : MemPlace → Prop) : w.keptBut w' may := by
 refine ⟨ho, hu, fun i hi => ?_⟩
 rw [h i hi]
 have := (World.keptBut_refl w may).2.2 i hi
 exact this
section
variable {H : Type} {enc : TypeId × Value → H}
theorem trod_keep {W W' : World} (h : ∀ b, b < W.heap.size → W'.heap[b]? = W.heap[b]?) {t : TypeId} (hr : Tryz.prog.readableRec t = true) (ht : t < Tryz.prog.types.size) {v : Value} {d : DataW H} {p : List MemPlace} (hT : DataW.Trod enc Tryz.prog W 0 (fun _ => true) true t v d p) (sp : Nat → Bool) (hs : ∀ q ∈ p, sp q.block = true) : DataW.Trod enc Tryz.prog W' 0 sp true t v d p := by
 obtain ⟨fuel, hf⟩ := hT
 refine ⟨fuel, DataW.trod_stays (kids_book l_laidOut hr) (book_sized hr) (fun h => by cases h) ⟨ht, book_self t⟩ hf (fun q hq => ?_) hs⟩
 have hl := DataW.trod_lt _ _ _ _ hf q hq
 cases q with
 | cell b off => show W'.cell? ⟨b, off, none⟩ = W.cell? ⟨b, off, none⟩; unfold World.cell?; rw [h b hl]
 | map b => exact h b hl
theorem trodAll_keep {W W' : World} (h : ∀ b, b < W.heap.size → W'.heap[b]? = W.heap[b]?) : ∀ {ts : List TypeId} {vs : List Value} {ds : List (DataW H)} {p : List MemPlace}, (∀ t ∈ ts, Tryz.prog.readableRec t = true ∧ t < Tryz.prog.types.size) → DataW.TrodAll enc Tryz.prog W 0 (fun _ => true) true ts vs ds p → ∀ sp : Nat → Bool, (∀ q ∈ p, sp q.block = true) → DataW.TrodAll enc Tryz.prog W' 0 sp true ts vs ds p
 | [], _, _, _, _, hT, sp, hs => by
  obtain ⟨rfl, rfl, rfl⟩ := trodAll_nil hT
  rfl
 | t :: ts, _, _, _, hr, hT, sp, hs => by
  obtain ⟨v, vs1, d, ds1, a, b, rfl, rfl, rfl, h1, h2⟩ := trodAll_cons hT
  exact ⟨a, b, trod_keep h (hr t (by simp)).1 (hr t (by simp)).2 h1 sp (fun q hq => hs q (by simp [hq])), trodAll_keep h (fun t ht => hr t (by simp [ht])) h2 sp (fun q hq => hs q (by simp [hq])), rfl⟩
theorem post_law {f : Func} {s : ChangeSpec} {apart fresh handsOn again : Bool} {W W' : World} {args : Array Value} {ds gs : List (DataW H)} {before : List MemPlace}
  (hW : DataW.Whole enc Tryz.prog f.params.toList s.vars apart W args.toList ds gs before) (hv : s.vars = []) (hr : f.resultTypes = #[4]) (hs : s.fn H ds = { results := [.lit (.bool true)], args := ds })
  (hread : ∀ t ∈ f.params.toList, Tryz.prog.readableRec t = true ∧ t < Tryz.prog.types.size) (h : ∀ b, b < W.heap.size → W'.heap[b]? = W.heap[b]?) (ho : W'.os = W.os) (hu : W'.output = W.output) :
  s.post enc Tryz.prog f apart fresh handsOn again W args (.bool true) W' := by
 have hW0 := hW
 obtain ⟨p, q, hA, hV, rfl, hfz, hnd⟩ := hW
 rw [hv] at hV
 obtain ⟨rfl, rfl⟩ : gs = [] ∧ q = [] := by
  cases gs with
  | nil => exact ⟨rfl, hV⟩
  | cons g r => exact absurd hV (by intro h; cases h)
 have hlt := hW0.lt
 have hold : ∀ x ∈ p, (fun b => decide (b < W.heap.size)) x.block = true := fun x hx => by simpa using hlt x (by simp [hx])
 have hres : ∀ (b : Nat) (sp : Nat → Bool) (hd : Bool), DataW.TrodAll enc Tryz.prog W' b sp hd f.resultTypes.toList ((Value.bool true).resultList f.resultTypes.size) (s.fn H (ds ++ [])).results [] := by
  intro b sp hd
  rw [List.append_nil, hs, hr]
  exact trodAll_mk1 (shut_bool (by kernel_rfl) true)
 have hargs : ∀ sp : Nat → Bool, (∀ x ∈ p, sp x.block = true) → DataW.TrodAll enc Tryz.prog W' 0 sp true f.params.toList args.toList (s.fn H (ds ++ [])).args p := by
  intro sp hsp
  rw [List.append_nil, hs]
  exact trodAll_keep h hread hA sp hsp
 have hvars : ∀ sp : Nat → Bool, DataW.TrodVars enc Tryz.prog W' sp s.vars (s.fn H (ds ++ [])).vars [] := by
  intro sp
  rw [List.append_nil, hs, hv]; rfl
 refine ⟨ds, [], p ++ [], [], p, [], hW0, hres _ _ _, hargs _ hold, hvars _, World.keptBut_mono (fun x hx => hx) (keptBut_of_heap ho hu h _), fun _ => ?_⟩
 refine ⟨?_, _, _, ([] ++ p) ++ [], ⟨[] ++ p, [], trodAll_append (hargs _ (fun _ _ => rfl)) (hres _ _ _), hvars _, rfl, ?_, ?_⟩, ?_⟩
 ·intro j t r h1 h2
  rw [hr] at h1 h2
  rcases j with _ | j
  ·simp [Value.resultList] at h1 h2
   subst h1; subst h2
   have hb : Tryz.prog.underlying 4 = some .bool := by kernel_rfl
   simp [Value.okWide, hb, Cell.okWide, Cell.ok]
  ·simp at h1
 ·intro b off hp
  have hp' : MemPlace.cell b off ∈ p := by simpa using hp
  have hb := hlt (.cell b off) (by simpa using hp')
  have := hfz b off (by simpa using hp')
  unfold World.frozen? at this ⊢
  rw [h b hb]; exact this
 ·intro ha
  have := hnd ha
  simpa using this
 ·intro x hx _
  simpa using hx
end
noncomputable def BL : Fr := fun b off => if b = 0 ∧ off = 0 then some (rty 30) else none
theorem BL_ok : BOk BL := by unfold BOk BL; simp
theorem law_calls {f : FuncId} {args : List T} {vs : List Value} {W : World} (hg : W.cell? ⟨0, 0, none⟩ = some (rty 30)) (h : k'0 (cx BL) f args [] (.d (.bool true)) [])
  (ha : TRs (fun b off => W.cell? ⟨b, off, none⟩) (fun _ => .free) W (.tmp 0) args vs) : Calls Tryz.prog f vs.toArray W fun e W' => e = .returned (.bool true) ∧ (∀ b, b < W.heap.size → W'.heap[b]? = W.heap[b]?) ∧ W'.os = W.os ∧ W'.output = W.output := by
 have hw : WR (fun b off => W.cell? ⟨b, off, none⟩) (fun _ => .free) W [] := ⟨fun _ _ _ e => e, fun b e => absurd rfl e, fun b i e => by simp at e, fun b c i e => by simp at e⟩
 refine (h.2 _ _ W vs hw ha (fun b t => by simp) (fun b off v e => ?_)).mono fun e W' hp => ?_
 ·show W.cell? ⟨b, off, none⟩ = some v
  have e' : BL b off = some v := e
  unfold BL at e'
  split at e'
  ·rename_i hc
   obtain ⟨rfl, rfl⟩ := hc
   rw [← e']; exact hg
  ·simp at e'
 ·obtain ⟨v, F', ρ', rfl, -, hv, hx, -⟩ := hp
  cases hv with
  | d hv => cases hv; exact ⟨rfl, fun b hb => (hx.free b hb rfl).2.1, hx.os, hx.output⟩
theorem k'20 {F : Fr} (a : ByteArray) : DR F (.str a.data.toList) (.string a) := by
 have := DR.str (F := F) a.data.toList
 simpa using this
theorem ba_len {a : ByteArray} (h : a.size ≤ maxLen) : a.data.toList.length ≤ 9223372036854775807 := by
 have e : a.data.toList.length = a.size := by rw [Array.length_toList]; rfl
 rw [e]
 exact Nat.le_trans h (by show 2 ^ 63 - 1 ≤ 9223372036854775807; omega)
theorem i64_wf {n : Int} (h : (Lit.int .i64 n).wf = true) : -9223372036854775808 ≤ n ∧ n < 9223372036854775808 := by
 simp only [Lit.wf, Bool.and_eq_true, decide_eq_true_eq] at h
 have h1 : IntKind.i64.min = -9223372036854775808 := by decide
 have h2 : IntKind.i64.max = 9223372036854775807 := by decide
 rw [h1, h2] at h
 omega
end
section
open Go Go.Abs Go.ChangeShapes Go.WideShapes Go.RowKit
def noField : Field := { name := "", type := 0, offset := 0, embedded := false, tag := "", pkgPath := "", byteOffset := 0 }
noncomputable def stF (t i : Nat) : Field :=
 match Tryz.prog.underlying t with
 | some (.struct fs) => (fs[i]?).getD noField
 | _ => noField
theorem u64_wf {n : Int} (h : (Lit.int .u64 n).wf = true) : 0 ≤ n ∧ n < 18446744073709551616 := by
 simp only [Lit.wf, Bool.and_eq_true, decide_eq_true_eq] at h
 have h1 : IntKind.u64.min = 0 := by decide
 have h2 : IntKind.u64.max = 18446744073709551615 := by decide
 rw [h1, h2] at h
 omega
theorem i32_wf {n : Int} (h : (Lit.int .i32 n).wf = true) : -2147483648 ≤ n ∧ n < 2147483648 := by
 simp only [Lit.wf, Bool.and_eq_true, decide_eq_true_eq] at h
 have h1 : IntKind.i32.min = -2147483648 := by decide
 have h2 : IntKind.i32.max = 2147483647 := by decide
 rw [h1, h2] at h
 omega
end
