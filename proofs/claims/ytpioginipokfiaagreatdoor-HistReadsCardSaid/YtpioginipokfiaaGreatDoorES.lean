/- Exemplar: the reference tells if two are alike. -/
import Derived.Test.YtpioginipokfiaaGreatDoorRS
import Derived.Test.YtpioginipokfiaaGreatDoorEW
set_option linter.unusedSimpArgs false
set_option linter.unusedVariables false
set_option maxRecDepth 100000
namespace Go.Proofs.YtpioginipokfiaaGreatDoor
open Go Go.Abs
variable (B : Fr)
theorem refEm_calls (x y : Em) (xa ya : D) (hbig : x.sz < big) (hx : x.R xa) (hy : y.R ya) : k'1 (cx B) 80 [.d xa, .d ya] [] (.d (.bool (x.eq y))) [] := by
 obtain ⟨z_attrs, l_attrs, rfl, r_attrs⟩ := hx
 obtain ⟨y_attrs, m_attrs, rfl, s_attrs⟩ := hy
 unfold Em.sz at hbig
 have c_attrs := refKeys_calls B (a := x.attrs) (b := y.attrs) z_attrs y_attrs (by omega) r_attrs s_attrs
 rw [show x.eq y = ((Kv.eqs x.attrs y.attrs) && (x.time == y.time) && (x.kind == y.kind) && (x.n == y.n) && (x.span == y.span) && (x.trace == y.trace) && (x.u == y.u)) by unfold Em.eq; ac_rfl]
 refine l_bw Tryz.func80 0 [] ?_
 refine l_cw [] (c_attrs) rfl rfl rfl ?_
 cases e0 : (Kv.eqs x.attrs y.attrs)
 ·exact Z
 refine Y ?_
 rw [ibeq x.time y.time]
 cases e1 : (x.time == y.time)
 ·exact Z
 refine Y ?_
 cases e2 : (x.kind == y.kind)
 ·exact Z
 refine Y ?_
 rw [ibeq x.n y.n]
 cases e3 : (x.n == y.n)
 ·exact Z
 refine Y ?_
 cases e4 : (x.span == y.span)
 ·exact Z
 refine Y ?_
 cases e5 : (x.trace == y.trace)
 ·exact Z
 exact Z
theorem refEm_L (z w : Bool) (xs ys : List D) (r : Nat → Bool) (hl : xs.length < 9223372036854775807) (hx : ∀ x ∈ xs, EmSh x) (hy : ∀ x ∈ ys, EmSh x)
  (hf : ∀ (i : Nat) x y, xs[i]? = some x → ys[i]? = some y → k'1 (cx B) 80 [.d x, .d y] [] (.d (.bool (r i))) []) :
  k'1 (cx B) 42 [.d (.sl z xs), .d (.sl w ys)] [] (.d (.bool (xs.length == ys.length && (List.range xs.length).all r))) [] := by
 refine l_bw Tryz.func42 0 [] ?_
 rw [nbeq]
 cases hlen : (xs.length == ys.length)
 ·exact Z
 have hlen := eq_of_beq hlen
 refine Y ?_
 refine k'k (fun i : Nat => xs.length - i) (fun i => [(0, .d (.sl z xs)), (1, .d (.sl w ys)), (5, iT i)]) (fun _ => []) (fun i => i ≤ xs.length ∧ (List.range i).all r = true) 0 ⟨by omega, rfl⟩ ⟨rfl, rfl, rfl, trivial⟩ rfl 0 rfl (fun _ => rfl) (fun _ => rfl) (fun _ => rfl) ?_
 rintro i ⟨i1, i2⟩
 refine Y ?_
 refine k'y rfl (fun hd => ?_) (fun hd => ?_)
 ·have hlt : i < xs.length := by have := of_decide_eq_true hd; omega
  obtain ⟨x, hxi⟩ : ∃ x, xs[i]? = some x := ⟨_, List.getElem?_eq_getElem hlt⟩
  obtain ⟨y, hyi⟩ : ∃ y, ys[i]? = some y := ⟨_, List.getElem?_eq_getElem (by omega)⟩
  have hc := hf i x y hxi hyi
  obtain ⟨a0, a1, a2, a3, a4, a5, a6, a7, rfl⟩ := hx x (List.mem_of_getElem? hxi)
  obtain ⟨b0, b1, b2, b3, b4, b5, b6, b7, rfl⟩ := hy y (List.mem_of_getElem? hyi)
  have hin : (List.range xs.length).all r = true → r i = true := fun h => List.all_eq_true.1 h i (List.mem_range.2 hlt)
  refine Y ?_
  refine x_mob (.indexAddr (k := .i64) (n := i) (es := xs) rfl rfl rfl rfl (.inl ⟨_, rfl⟩) rfl (by omega) (by simpa using hxi) rfl (by decide)) rfl rfl rfl ?_
  refine Y ?_
  refine x_mob (.indexAddr (k := .i64) (n := i) (es := ys) rfl rfl rfl rfl (.inl ⟨_, rfl⟩) rfl (by omega) (by simpa using hyi) rfl (by decide)) rfl rfl rfl ?_
  refine Y ?_
  refine x_cw [] (hc) rfl rfl rfl ?_
  cases hr : r i
  ·rw [show (List.range xs.length).all r = false by cases hh : (List.range xs.length).all r with | false => rfl | true => rw [hin hh] at hr; simp at hr]
   exact Z
  refine Y ?_
  rw [wS i (by omega)]
  exact ⟨i + 1, by omega, ⟨by omega, by rw [List.range_succ, List.all_append, i2]; simp [hr]⟩, ⟨rfl, rfl, rfl, trivial⟩, rfl, k'i rfl⟩
 ·have hge : i = xs.length := by have := of_decide_eq_false hd; omega
  subst hge
  rw [i2]
  exact Z
theorem refEms_calls {a b : List Em} {xs ys : List D} (z w : Bool) (hb : (a.map Em.sz).sum < big) (h1 : RsOf Em.R a xs) (h2 : RsOf Em.R b ys) : k'1 (cx B) 42 [.d (.sl z xs), .d (.sl w ys)] [] (.d (.bool (Em.eqs a b))) [] := by
 have hla := sum_ge (sz := Em.sz) (fun x => by unfold Em.sz; omega) a
 have h := refEm_L B z w xs ys (byI Em.eq a b) (by rw [h1.1]; unfold big at hb; omega) (Em.Rs_sh h1) (Em.Rs_sh h2) (fun i x y hx hy => by
  obtain ⟨v, hv, r1⟩ := h1.at hx
  obtain ⟨u, hu, r2⟩ := h2.at hy
  have hm := sum_mem (sz := Em.sz) (List.mem_of_getElem? hv)
  have e : byI Em.eq a b i = v.eq u := by unfold byI; rw [hv, hu]
  rw [e]
  exact refEm_calls B v u x y (by omega) r1 r2)
 rw [h1.1, h2.1, ← Em.eqs_by] at h
 exact h
