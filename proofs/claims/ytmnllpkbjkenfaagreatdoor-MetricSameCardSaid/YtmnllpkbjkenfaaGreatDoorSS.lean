/- Summaries: the reference tells if two are alike. -/
import Derived.Test.YtmnllpkbjkenfaaGreatDoorRS
import Derived.Test.YtmnllpkbjkenfaaGreatDoorSW
set_option linter.unusedSimpArgs false
set_option linter.unusedVariables false
set_option maxRecDepth 100000
namespace Go.Proofs.YtmnllpkbjkenfaaGreatDoor
open Go Go.Abs
variable (B : Fr)
theorem refSu_calls (x y : Su) (xa ya : D) (hbig : x.sz < big) (hx : x.R xa) (hy : y.R ya) : k'1 (cx B) 64 [.d xa, .d ya] [] (.d (.bool (x.eq y))) [] := by
 obtain ⟨z_attrs, l_attrs, z_qs, l_qs, rfl, r_attrs, r_qs⟩ := hx
 obtain ⟨y_attrs, m_attrs, y_qs, m_qs, rfl, s_attrs, s_qs⟩ := hy
 unfold Su.sz at hbig
 have c_attrs := k'1r B (a := x.attrs) (b := y.attrs) z_attrs y_attrs (by omega) r_attrs s_attrs
 obtain rfl := Qu.Rs_map r_qs
 obtain rfl := Qu.Rs_map s_qs
 have hqs := sum_ge (sz := Qu.sz) (fun x => by unfold Qu.sz; omega) x.qs
 rw [show x.eq y = (Kv.eqs x.attrs y.attrs && ((x.start == y.start) && ((x.time == y.time) && ((x.count == y.count) && ((x.sum == y.sum) && ((x.qs.length == y.qs.length) && ((x.flags == y.flags) && ((x.u == y.u) && ((List.range x.qs.length).all (byI Qu.eq x.qs y.qs)))))))))) by unfold Su.eq; rw [Qu.eqs_by]; ac_rfl]
 have hrr : ∀ (i : Nat) (a b : Qu), x.qs[i]? = some a → y.qs[i]? = some b → byI Qu.eq x.qs y.qs i = a.eq b := fun i a b h1 h2 => by unfold byI; rw [h1, h2]
 generalize byI Qu.eq x.qs y.qs = r at *
 refine k'2 (X := cx B) (fn := Tryz.f64) Tryz.func64 rfl rfl rfl rfl rfl 0 [] rfl rfl ?_
 refine Y ?_
 refine l_cw [] (c_attrs) rfl rfl rfl ?_
 cases e0 : (Kv.eqs x.attrs y.attrs)
 ·exact Z
 refine Y ?_
 rw [show (((x.start : Nat) : Int) != ((y.start : Nat) : Int)) = !(x.start == y.start) by rw [bne, ibeq]]
 cases e1 : (x.start == y.start)
 ·exact Z
 refine Y ?_
 rw [show (((x.time : Nat) : Int) != ((y.time : Nat) : Int)) = !(x.time == y.time) by rw [bne, ibeq]]
 cases e2 : (x.time == y.time)
 ·exact Z
 refine Y ?_
 rw [show (((x.count : Nat) : Int) != ((y.count : Nat) : Int)) = !(x.count == y.count) by rw [bne, ibeq]]
 cases e3 : (x.count == y.count)
 ·exact Z
 refine Y ?_
 rw [show (((x.sum : Nat) : Int) != ((y.sum : Nat) : Int)) = !(x.sum == y.sum) by rw [bne, ibeq]]
 cases e4 : (x.sum == y.sum)
 ·exact Z
 refine Y ?_
 rw [show ((((x.qs.map Qu.d).length : Nat) : Int) != (((y.qs.map Qu.d).length : Nat) : Int)) = !(x.qs.length == y.qs.length) by rw [bne, ibeq, List.length_map, List.length_map]]
 cases e5 : (x.qs.length == y.qs.length)
 ·exact Z
 refine Y ?_
 rw [show (((x.flags : Nat) : Int) != ((y.flags : Nat) : Int)) = !(x.flags == y.flags) by rw [bne, ibeq]]
 cases e6 : (x.flags == y.flags)
 ·exact Z
 refine Y ?_
 cases e7 : (x.u == y.u)
 ·exact Z
 refine Y ?_
 have hlen : x.qs.length = y.qs.length := eq_of_beq e5
 have hq9 : x.qs.length < 4611686018427387904 := by unfold big at hbig; omega
 refine k'k (fun i : Nat => x.qs.length - i) (fun i => [(2, .ptr 0 0), (3, .ptr 1 0), (5, iT i)]) (fun _ => [.mu [.d (.sl z_attrs l_attrs), .d (.int .u64 x.start), .d (.int .u64 x.time), .d (.int .u64 x.count), .d (.int .u64 x.sum), .d (.sl z_qs (x.qs.map Qu.d)), .d (.int .u32 x.flags), .d (.str x.u)], .mu [.d (.sl y_attrs m_attrs), .d (.int .u64 y.start), .d (.int .u64 y.time), .d (.int .u64 y.count), .d (.int .u64 y.sum), .d (.sl y_qs (y.qs.map Qu.d)), .d (.int .u32 y.flags), .d (.str y.u)]]) (fun i => i ≤ x.qs.length ∧ (List.range i).all r = true) 0 ⟨by omega, rfl⟩ ⟨rfl, rfl, rfl, trivial⟩ rfl 2 rfl (fun _ => rfl) (fun _ => rfl) (fun _ => rfl) ?_
 rintro i ⟨i1, i2⟩
 refine Y ?_
 refine k'z rfl (fun hd => ?_) (fun hd => ?_)
 ·have hlt : i < x.qs.length := by have := of_decide_eq_true hd; simp at this; omega
  obtain ⟨a, hxi⟩ : ∃ a, x.qs[i]? = some a := ⟨_, List.getElem?_eq_getElem hlt⟩
  obtain ⟨b, hyi⟩ : ∃ b, y.qs[i]? = some b := ⟨_, List.getElem?_eq_getElem (by omega)⟩
  have hin : (List.range x.qs.length).all r = true → r i = true := fun h => List.all_eq_true.1 h i (List.mem_range.2 hlt)
  have hri := hrr i a b hxi hyi
  unfold Qu.eq at hri
  refine Y ?_
  refine k'4b (i0 := 11) (z := 13) (t0 := 7) rfl (by decide) rfl rfl rfl rfl rfl rfl rfl rfl rfl rfl ?_
  (repeat ((with_reducible refine k'15 ?_); first | refine k'26 rfl rfl ?_ | refine k'1o rfl rfl rfl ?_ | refine k'1z rfl rfl rfl rfl rfl rfl ?_))
  refine k'4l (.indexAddr (k := .i64) (n := i) (es := x.qs.map Qu.d) (u := a.d) rfl rfl rfl rfl (.inl ⟨_, rfl⟩) rfl (by omega) (by simp [hxi]) rfl (by decide)) rfl rfl rfl ?_
  (repeat ((with_reducible refine k'15 ?_); first | refine k'26 rfl rfl ?_ | refine k'1o rfl rfl rfl ?_ | refine k'1z rfl rfl rfl rfl rfl rfl ?_))
  refine k'4l (.indexAddr (k := .i64) (n := i) (es := y.qs.map Qu.d) (u := b.d) rfl rfl rfl rfl (.inl ⟨_, rfl⟩) rfl (by omega) (by simp [hyi]) rfl (by decide)) rfl rfl rfl ?_
  refine Y ?_
  have hno : r i = false → (List.range x.qs.length).all r = false := fun hr => by cases hh : (List.range x.qs.length).all r with | false => rfl | true => rw [hin hh] at hr; simp at hr
  rw [show (((a.q : Nat) : Int) != ((b.q : Nat) : Int)) = !(a.q == b.q) by rw [bne, ibeq]]
  cases q0 : (a.q == b.q)
  ·rw [hno (by rw [hri, q0]; rfl)]
   exact Z
  refine Y ?_
  rw [show (((a.v : Nat) : Int) != ((b.v : Nat) : Int)) = !(a.v == b.v) by rw [bne, ibeq]]
  cases q1 : (a.v == b.v)
  ·rw [hno (by rw [hri, q0, q1]; rfl)]
   exact Z
  refine Y ?_
  cases q2 : (a.u == b.u)
  ·rw [hno (by rw [hri, q0, q1, q2]; rfl)]
   exact Z
  refine Y ?_
  rw [show IntKind.i64.wrap ((i : Int) + 1) = ((i + 1 : Nat) : Int) by rw [k'1a (by omega) (by omega)]; omega]
  exact ⟨i + 1, by omega, ⟨by omega, by rw [List.range_succ, List.all_append, i2]; simp [hri, q0, q1, q2]⟩, ⟨rfl, rfl, rfl, trivial⟩, rfl, k'1m rfl⟩
 ·have hge : i = x.qs.length := by have := of_decide_eq_false hd; simp at this; omega
  subst hge
  rw [i2]
  exact Z
