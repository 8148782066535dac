/- Exp: alike, may they be, written, read. -/
import Derived.Test.YtmnllpkbjkenfaaGreatDoorQP
set_option linter.unusedSimpArgs false
set_option linter.unusedVariables false
set_option maxRecDepth 100000
namespace Go.Proofs.YtmnllpkbjkenfaaGreatDoor
open Go Go.Abs
variable (B : Fr)
def Eh.d (x : Eh) : D := .agg [slD (Kv.ds x.attrs), .int .u64 x.start, .int .u64 x.time, .int .u64 x.count, .bool x.sumH, .int .u64 x.sum, .bool x.minH, .int .u64 x.min, .bool x.maxH, .int .u64 x.max, .int .i32 x.scale, .int .u64 x.zero, .bool x.posH, .int .i32 x.pos.off, slD (x.pos.cs.map uD), .str x.pos.u, .bool x.negH, .int .i32 x.neg.off, slD (x.neg.cs.map uD), .str x.neg.u, slD (x.exs.map Em.d), .int .u32 x.flags, .int .u64 x.thr, .str x.u]
def Eh.R (x : Eh) (a : D) : Prop := ∃ (z_attrs : Bool) (l_attrs : List D) (z_pos : Bool) (z_neg : Bool) (z_exs : Bool) (l_exs : List D), a = .agg [.sl z_attrs l_attrs, .int .u64 x.start, .int .u64 x.time, .int .u64 x.count, .bool x.sumH, .int .u64 x.sum, .bool x.minH, .int .u64 x.min, .bool x.maxH, .int .u64 x.max, .int .i32 x.scale, .int .u64 x.zero, .bool x.posH, .int .i32 x.pos.off, .sl z_pos (x.pos.cs.map uD), .str x.pos.u, .bool x.negH, .int .i32 x.neg.off, .sl z_neg (x.neg.cs.map uD), .str x.neg.u, .sl z_exs l_exs, .int .u32 x.flags, .int .u64 x.thr, .str x.u] ∧ Kv.Rs x.attrs l_attrs ∧ RsOf Em.R x.exs l_exs
def EhSh (x : D) : Prop := ∃ (a0 : Bool) (a1 : List D) (a2 : Nat) (a3 : Nat) (a4 : Nat) (a5 : Bool) (a6 : Nat) (a7 : Bool) (a8 : Nat) (a9 : Bool) (a10 : Nat) (a11 : Int) (a12 : Nat) (a13 : Bool) (a14 : Int) (a15 : Bool) (a16 : List D) (a17 : List UInt8) (a18 : Bool) (a19 : Int) (a20 : Bool) (a21 : List D) (a22 : List UInt8) (a23 : Bool) (a24 : List D) (a25 : Nat) (a26 : Nat) (a27 : List UInt8), x = .agg [.sl a0 a1, .int .u64 a2, .int .u64 a3, .int .u64 a4, .bool a5, .int .u64 a6, .bool a7, .int .u64 a8, .bool a9, .int .u64 a10, .int .i32 a11, .int .u64 a12, .bool a13, .int .i32 a14, .sl a15 a16, .str a17, .bool a18, .int .i32 a19, .sl a20 a21, .str a22, .sl a23 a24, .int .u32 a25, .int .u64 a26, .str a27]
theorem Eh.R_sh {x : Eh} {a : D} (h : x.R a) : EhSh a := by
 obtain ⟨z_attrs, l_attrs, z_pos, z_neg, z_exs, l_exs, h, -⟩ := h
 exact ⟨_, _, _, _, _, _, _, _, _, _, _, _, _, _, _, _, _, _, _, _, _, _, _, _, _, _, _, _, h⟩
theorem Eh.d_R (x : Eh) : x.R x.d := ⟨_, _, _, _, _, _, rfl, Kv.ds_R _, RsOf.map Em.d_R _⟩
theorem Eh.Rs_sh {l : List Eh} {xs : List D} (h : RsOf Eh.R l xs) : ∀ x ∈ xs, EhSh x := fun x hx => by
 obtain ⟨v, -, r⟩ := h.mem hx
 exact Eh.R_sh r
theorem Eh_sides_calls (x y : Eh) (xa ya : D) (hbig : x.sz < big) (hx : x.R xa) (hy : y.R ya) : CallsA (cx B) 186 [.d xa, .d ya] [] (.d (.bool (x.posH == y.posH && x.negH == y.negH && x.pos.eq y.pos && x.neg.eq y.neg))) [] := by
 obtain ⟨z_attrs, l_attrs, z_pos, z_neg, z_exs, l_exs, rfl, r_attrs, r_exs⟩ := hx
 obtain ⟨y_attrs, m_attrs, y_pos, y_neg, y_exs, m_exs, rfl, s_attrs, s_exs⟩ := hy
 unfold Eh.sz at hbig
 have c_pos := SameZ B z_pos y_pos x.pos.off x.pos.cs x.pos.u y.pos.off y.pos.cs y.pos.u (by unfold Bk.sz big at hbig; omega)
 rw [show (x.pos.off == y.pos.off && x.pos.u == y.pos.u && x.pos.cs == y.pos.cs) = x.pos.eq y.pos from rfl] at c_pos
 have c_neg := SameZ B z_neg y_neg x.neg.off x.neg.cs x.neg.u y.neg.off y.neg.cs y.neg.u (by unfold Bk.sz big at hbig; omega)
 rw [show (x.neg.off == y.neg.off && x.neg.u == y.neg.u && x.neg.cs == y.neg.cs) = x.neg.eq y.neg from rfl] at c_neg
 refine k'2 (X := cx B) (fn := Tryz.f186) Tryz.func186 rfl rfl rfl rfl rfl 0 [] rfl rfl ?_
 refine walk ?_
 cases e0 : (x.posH == y.posH) with
 | false =>
  refine walk ?_
  exact k'3 trivial (by decide) rfl rfl rfl rfl rfl
 | true =>
  refine walk ?_
  cases e1 : (x.negH == y.negH) with
  | false =>
   refine walk ?_
   exact k'3 trivial (by decide) rfl rfl rfl rfl rfl
  | true =>
   refine walk ?_
   refine k'6 [] (c_pos) rfl rfl rfl rfl rfl rfl rfl rfl rfl (by decide) rfl rfl rfl rfl rfl ?_
   refine walk ?_
   cases e2 : (x.pos.eq y.pos) with
   | false =>
    refine walk ?_
    exact k'3 trivial (by decide) rfl rfl rfl rfl rfl
   | true =>
    refine walk ?_
    refine k'6 [] (c_neg) rfl rfl rfl rfl rfl rfl rfl rfl rfl (by decide) rfl rfl rfl rfl rfl ?_
    refine walk ?_
    exact k'3 trivial (by decide) rfl rfl rfl rfl rfl
theorem Eh_Same_calls (x y : Eh) (xa ya : D) (hbig : x.sz < big) (hx : x.R xa) (hy : y.R ya) : CallsA (cx B) 90 [.d xa, .d ya] [] (.d (.bool (x.eq y))) [] := by
 have c_sides := Eh_sides_calls B x y xa ya hbig hx hy
 obtain ⟨z_attrs, l_attrs, z_pos, z_neg, z_exs, l_exs, rfl, r_attrs, r_exs⟩ := hx
 obtain ⟨y_attrs, m_attrs, y_pos, y_neg, y_exs, m_exs, rfl, s_attrs, s_exs⟩ := hy
 unfold Eh.sz at hbig
 have c_attrs := k'16 B (a := x.attrs) (b := y.attrs) z_attrs y_attrs (by omega) r_attrs s_attrs
 have c_exs := EqF_Em_R B (a := x.exs) (b := y.exs) z_exs y_exs (by omega) r_exs s_exs
 rw [show x.eq y = ((x.start == y.start) && (x.time == y.time) && (x.count == y.count) && (x.sumH == y.sumH && x.sum == y.sum) && (x.minH == y.minH && x.min == y.min) && (x.maxH == y.maxH && x.max == y.max) && (x.scale == y.scale) && (x.zero == y.zero) && (x.flags == y.flags) && (x.thr == y.thr) && (x.u == y.u) && (x.posH == y.posH && x.negH == y.negH && x.pos.eq y.pos && x.neg.eq y.neg) && (Em.eqs x.exs y.exs) && (Kv.eqs x.attrs y.attrs)) by unfold Eh.eq; ac_rfl]
 refine k'2 (X := cx B) (fn := Tryz.f90) Tryz.func90 rfl rfl rfl rfl rfl 0 [] rfl rfl ?_
 refine walk ?_
 rw [ibeq x.start y.start]
 cases e0 : (x.start == y.start) with
 | false =>
  refine walk ?_
  exact k'3 trivial (by decide) rfl rfl rfl rfl rfl
 | true =>
  refine walk ?_
  rw [ibeq x.time y.time]
  cases e1 : (x.time == y.time) with
  | false =>
   refine walk ?_
   exact k'3 trivial (by decide) rfl rfl rfl rfl rfl
  | true =>
   refine walk ?_
   rw [ibeq x.count y.count]
   cases e2 : (x.count == y.count) with
   | false =>
    refine walk ?_
    exact k'3 trivial (by decide) rfl rfl rfl rfl rfl
   | true =>
    refine walk ?_
    (first | refine k'1f (StepE.eqOpt rfl rfl rfl (opt_ok B)) rfl rfl rfl rfl ?_ | refine k'4 (StepE.eqOpt rfl rfl rfl (opt_ok B)) rfl rfl ?_)
    refine walk ?_
    cases e3 : (x.sumH == y.sumH && x.sum == y.sum) with
    | false =>
     refine walk ?_
     exact k'3 trivial (by decide) rfl rfl rfl rfl rfl
    | true =>
     refine walk ?_
     (first | refine k'1f (StepE.eqOpt rfl rfl rfl (opt_ok B)) rfl rfl rfl rfl ?_ | refine k'4 (StepE.eqOpt rfl rfl rfl (opt_ok B)) rfl rfl ?_)
     refine walk ?_
     cases e4 : (x.minH == y.minH && x.min == y.min) with
     | false =>
      refine walk ?_
      exact k'3 trivial (by decide) rfl rfl rfl rfl rfl
     | true =>
      refine walk ?_
      (first | refine k'1f (StepE.eqOpt rfl rfl rfl (opt_ok B)) rfl rfl rfl rfl ?_ | refine k'4 (StepE.eqOpt rfl rfl rfl (opt_ok B)) rfl rfl ?_)
      refine walk ?_
      cases e5 : (x.maxH == y.maxH && x.max == y.max) with
      | false =>
       refine walk ?_
       exact k'3 trivial (by decide) rfl rfl rfl rfl rfl
      | true =>
       refine walk ?_
       cases e6 : (x.scale == y.scale) with
       | false =>
        refine walk ?_
        exact k'3 trivial (by decide) rfl rfl rfl rfl rfl
       | true =>
        refine walk ?_
        rw [ibeq x.zero y.zero]
        cases e7 : (x.zero == y.zero) with
        | false =>
         refine walk ?_
         exact k'3 trivial (by decide) rfl rfl rfl rfl rfl
        | true =>
         refine walk ?_
         rw [ibeq x.flags y.flags]
         cases e8 : (x.flags == y.flags) with
         | false =>
          refine walk ?_
          exact k'3 trivial (by decide) rfl rfl rfl rfl rfl
         | true =>
          refine walk ?_
          rw [ibeq x.thr y.thr]
          cases e9 : (x.thr == y.thr) with
          | false =>
           refine walk ?_
           exact k'3 trivial (by decide) rfl rfl rfl rfl rfl
          | true =>
           refine walk ?_
           cases e10 : (x.u == y.u) with
           | false =>
            refine walk ?_
            exact k'3 trivial (by decide) rfl rfl rfl rfl rfl
           | true =>
            refine walk ?_
            refine k'6 [] (c_sides) rfl rfl rfl rfl rfl rfl rfl rfl rfl (by decide) rfl rfl rfl rfl rfl ?_
            refine walk ?_
            cases e11 : (x.posH == y.posH && x.negH == y.negH && x.pos.eq y.pos && x.neg.eq y.neg) with
            | false =>
             refine walk ?_
             exact k'3 trivial (by decide) rfl rfl rfl rfl rfl
            | true =>
             refine walk ?_
             refine k'6 [] (c_exs) rfl rfl rfl rfl rfl rfl rfl rfl rfl (by decide) rfl rfl rfl rfl rfl ?_
             refine walk ?_
             cases e12 : (Em.eqs x.exs y.exs) with
             | false =>
              refine walk ?_
              exact k'3 trivial (by decide) rfl rfl rfl rfl rfl
             | true =>
              refine walk ?_
              refine k'6 [] (c_attrs) rfl rfl rfl rfl rfl rfl rfl rfl rfl (by decide) rfl rfl rfl rfl rfl ?_
              refine walk ?_
              exact k'3 trivial (by decide) rfl rfl rfl rfl rfl
theorem EqF_Eh_calls (f : Nat) (z w : Bool) (xs ys : List D) (r : Nat → Bool) (hl : xs.length < 9223372036854775807) (hx : ∀ x ∈ xs, EhSh x) (hy : ∀ x ∈ ys, EhSh x)
  (hf : ∀ (i : Nat) x y, xs[i]? = some x → ys[i]? = some y → CallsA (cx B) f [.d x, .d y] [] (.d (.bool (r i))) []) :
  CallsA (cx B) 89 [.d (.sl z xs), .d (.sl w ys), .d (.fn f [])] [] (.d (.bool (xs.length == ys.length && (List.range xs.length).all r))) [] := by
 refine k'2 (X := cx B) (fn := Tryz.f89) Tryz.func89 rfl rfl rfl rfl rfl 0 [] rfl rfl ?_
 refine walk ?_
 by_cases hlen : xs.length = ys.length
 ·rw [show ((xs.length : Int) != (ys.length : Int)) = false by rw [hlen]; simp, show (xs.length == ys.length) = true by simp [hlen]]
  simp only [Bool.true_and]
  refine walk ?_
  refine k'c (fun i : Nat => xs.length - i) (fun i => [(1, .d (.sl w ys)), (2, .d (.fn f [])), (15, .d (.sl z xs)), (16, iT xs.length), (17, iT i)]) (fun _ => []) (fun i => i ≤ xs.length ∧ (List.range i).all r = true) 0 ⟨by omega, rfl⟩ ⟨rfl, rfl, rfl, rfl, rfl, trivial⟩ rfl 0 rfl (fun _ => rfl) (fun _ => rfl) (fun _ => rfl) ?_
  rintro i ⟨i1, i2⟩
  refine walk ?_
  refine k'f rfl (fun hd => ?_) (fun hd => ?_)
  ·have hlt : i < xs.length := by have := of_decide_eq_true hd; omega
   obtain ⟨x, hxi⟩ : ∃ x, xs[i]? = some x := ⟨_, List.getElem?_eq_getElem hlt⟩
   obtain ⟨y, hyi⟩ : ∃ y, ys[i]? = some y := ⟨_, List.getElem?_eq_getElem (by omega)⟩
   have hc := hf i x y hxi hyi
   obtain ⟨a0, a1, a2, a3, a4, a5, a6, a7, a8, a9, a10, a11, a12, a13, a14, a15, a16, a17, a18, a19, a20, a21, a22, a23, a24, a25, a26, a27, rfl⟩ := hx x (List.mem_of_getElem? hxi)
   obtain ⟨b0, b1, b2, b3, b4, b5, b6, b7, b8, b9, b10, b11, b12, b13, b14, b15, b16, b17, b18, b19, b20, b21, b22, b23, b24, b25, b26, b27, rfl⟩ := hy y (List.mem_of_getElem? hyi)
   have hin : (List.range xs.length).all r = true → r i = true := fun h => List.all_eq_true.1 h i (List.mem_range.2 hlt)
   refine walk ?_
   refine k'4 (.indexAddr (k := .i64) (n := i) (es := xs) rfl rfl rfl rfl (.inl ⟨_, rfl⟩) rfl (by omega) (by simpa using hxi) rfl (by decide)) rfl rfl ?_
   refine walk ?_
   refine k'4 (.indexAddr (k := .i64) (n := i) (es := ys) rfl rfl rfl rfl (.inl ⟨_, rfl⟩) rfl (by omega) (by simpa using hyi) rfl (by decide)) rfl rfl ?_
   refine walk ?_
   refine k'1 [] (hc) rfl rfl rfl rfl rfl rfl rfl (by decide) rfl rfl rfl rfl rfl ?_
   refine walk ?_
   cases hr : r i with
   | false =>
    rw [show (List.range xs.length).all r = false by cases hh : (List.range xs.length).all r with | false => rfl | true => rw [hin hh] at hr; simp at hr]
    refine walk ?_
    exact k'3 trivial (by decide) rfl rfl rfl rfl rfl
   | true =>
    refine walk ?_
    rw [show IntKind.i64.wrap ((i : Int) + 1) = ((i + 1 : Nat) : Int) by rw [wrapI (by omega) (by omega)]; omega]
    exact ⟨i + 1, by omega, ⟨by omega, by rw [List.range_succ, List.all_append, i2]; simp [hr]⟩, ⟨rfl, rfl, rfl, rfl, rfl, trivial⟩, rfl, k's rfl⟩
  ·have hge : i = xs.length := by have := of_decide_eq_false hd; omega
   subst hge
   rw [i2]
   refine walk ?_
   exact k'3 trivial (by decide) rfl rfl rfl rfl rfl
 ·rw [show ((xs.length : Int) != (ys.length : Int)) = true by simp; omega, show (xs.length == ys.length) = false by simp [hlen]]
  refine walk ?_
  exact k'3 trivial (by decide) rfl rfl rfl rfl rfl
theorem EqF_Eh_R {a b : List Eh} {xs ys : List D} (z w : Bool) (hb : (a.map Eh.sz).sum < big) (h1 : RsOf Eh.R a xs) (h2 : RsOf Eh.R b ys) : CallsA (cx B) 89 [.d (.sl z xs), .d (.sl w ys), .d (.fn 90 [])] [] (.d (.bool (Eh.eqs a b))) [] := by
 have hla := sum_ge (sz := Eh.sz) (fun x => by unfold Eh.sz; omega) a
 have h := EqF_Eh_calls B 90 z w xs ys (byI Eh.eq a b) (by rw [h1.1]; unfold big at hb; omega) (Eh.Rs_sh h1) (Eh.Rs_sh h2) (fun i x y hx hy => by
  obtain ⟨v, hv, r1⟩ := h1.at hx
  obtain ⟨u, hu, r2⟩ := h2.at hy
  have hm := k'y (sz := Eh.sz) (List.mem_of_getElem? hv)
  have e : byI Eh.eq a b i = v.eq u := by unfold byI; rw [hv, hu]
  rw [e]
  exact Eh_Same_calls B v u x y (by omega) r1 r2)
 rw [h1.1, h2.1, ← Eh.eqs_by] at h
 exact h
theorem Eh_May_calls (x : Eh) (xa : D) (d : Int) (hbig : x.sz < big) (hx : x.R xa) (hd1 : -9223372036854775808 ≤ d) (hd2 : d < 9223372036854775808) : CallsA (cx B) 169 [.d xa, .d (.int .i64 d)] [] (.d (.bool (x.may d))) [] := by
 obtain ⟨z_attrs, l_attrs, z_pos, z_neg, z_exs, l_exs, rfl, r_attrs, r_exs⟩ := hx
 unfold Eh.sz at hbig
 unfold Eh.may
 by_cases hd0 : 0 ≤ d
 rotate_left
 ·rw [show decide (0 ≤ d) = false from decide_eq_false hd0]
  refine k'2 (X := cx B) (fn := Tryz.f169) Tryz.func169 rfl rfl rfl rfl rfl 0 [] rfl rfl ?_
  refine walk ?_
  rw [show decide (d ≥ 0) = false from decide_eq_false hd0]
  refine walk ?_
  exact k'3 trivial (by decide) rfl rfl rfl rfl rfl
 have c_u := k'13 B 205 tbQ (tbQ_calls B) x.u d (by omega) (by omega) hd2
 have c_opts := MayOpt3_calls B x.sumH x.sum x.minH x.min x.maxH x.max
 have c_pos := maySide_calls B z_pos x.posH x.pos (d - 1) (by omega) (by omega) (by omega)
 have c_neg := maySide_calls B z_neg x.negH x.neg (d - 1) (by omega) (by omega) (by omega)
 have c_exs := All_Em_R B (a := x.exs) z_exs d (by omega) hd0 hd2 r_exs
 have c_attrs := k'1d B (a := x.attrs) z_attrs (d - 1) (by omega) (by omega) (by omega) r_attrs
 refine k'2 (X := cx B) (fn := Tryz.f169) Tryz.func169 rfl rfl rfl rfl rfl 0 [] rfl rfl ?_
 refine walk ?_
 rw [show decide (d ≥ 0) = decide (0 ≤ d) from rfl]
 cases e0 : (decide (0 ≤ d)) with
 | false =>
  refine walk ?_
  exact k'3 trivial (by decide) rfl rfl rfl rfl rfl
 | true =>
  refine walk ?_
  (first | refine k'1f (.buildSlice (es := [.agg [.bool x.sumH, .int .u64 x.sum], .agg [.bool x.minH, .int .u64 x.min], .agg [.bool x.maxH, .int .u64 x.max]]) rfl rfl rfl rfl rfl rfl (by intro x hx; simp at hx; rcases hx with rfl | rfl | rfl <;> rfl) (by simp) (by decide) (by decide)) rfl rfl rfl rfl ?_ | refine k'4 (.buildSlice (es := [.agg [.bool x.sumH, .int .u64 x.sum], .agg [.bool x.minH, .int .u64 x.min], .agg [.bool x.maxH, .int .u64 x.max]]) rfl rfl rfl rfl rfl rfl (by intro x hx; simp at hx; rcases hx with rfl | rfl | rfl <;> rfl) (by simp) (by decide) (by decide)) rfl rfl ?_)
  refine walk ?_
  refine k'6 [] (c_opts) rfl rfl rfl rfl rfl rfl rfl rfl rfl (by decide) rfl rfl rfl rfl rfl ?_
  refine walk ?_
  cases e1 : (mayOpt x.sumH x.sum && mayOpt x.minH x.min && mayOpt x.maxH x.max) with
  | false =>
   refine walk ?_
   exact k'3 trivial (by decide) rfl rfl rfl rfl rfl
  | true =>
   refine walk ?_
   rw [k'd 1 (by omega) (by omega) (by omega) hd2]
   refine k'6 [] (c_pos) rfl rfl rfl rfl rfl rfl rfl rfl rfl (by decide) rfl rfl rfl rfl rfl ?_
   refine walk ?_
   cases e2 : (maySd x.posH x.pos (d - 1)) with
   | false =>
    refine walk ?_
    exact k'3 trivial (by decide) rfl rfl rfl rfl rfl
   | true =>
    refine walk ?_
    rw [k'd 1 (by omega) (by omega) (by omega) hd2]
    refine k'6 [] (c_neg) rfl rfl rfl rfl rfl rfl rfl rfl rfl (by decide) rfl rfl rfl rfl rfl ?_
    refine walk ?_
    cases e3 : (maySd x.negH x.neg (d - 1)) with
    | false =>
     refine walk ?_
     exact k'3 trivial (by decide) rfl rfl rfl rfl rfl
    | true =>
     refine walk ?_
     refine k'6 [] (c_exs) rfl rfl rfl rfl rfl rfl rfl rfl rfl (by decide) rfl rfl rfl rfl rfl ?_
     refine walk ?_
     cases e4 : (x.exs.all fun k => k.may (d - 1)) with
     | false =>
      refine walk ?_
      exact k'3 trivial (by decide) rfl rfl rfl rfl rfl
     | true =>
      refine walk ?_
      rw [k'd 1 (by omega) (by omega) (by omega) hd2]
      refine k'6 [] (c_attrs) rfl rfl rfl rfl rfl rfl rfl rfl rfl (by decide) rfl rfl rfl rfl rfl ?_
      refine walk ?_
      cases e5 : (x.attrs.all fun k => k.may (d - 1)) with
      | false =>
       refine walk ?_
       exact k'3 trivial (by decide) rfl rfl rfl rfl rfl
      | true =>
       refine walk ?_
       refine k'6 [] (c_u) rfl rfl rfl rfl rfl rfl rfl rfl rfl (by decide) rfl rfl rfl rfl rfl ?_
       refine walk ?_
       exact k'3 trivial (by decide) rfl rfl rfl rfl rfl
theorem IndexF_Eh_calls (f : Nat) (cap : List D) (z : Bool) (xs : List D) (q : Nat → Bool) (hl : xs.length < 9223372036854775807) (hx : ∀ x ∈ xs, EhSh x)
  (hf : ∀ (i : Nat) x, xs[i]? = some x → CallsA (cx B) f ([.d x] ++ cap.map T.d) [] (.d (.bool (q i))) []) :
  CallsA (cx B) 323 [.d (.sl z xs), .d (.fn f cap)] [] (.d (.int .i64 (idxF q xs.length))) [] := by
 refine k'2 (X := cx B) (fn := Tryz.f323) Tryz.func323 rfl rfl rfl rfl rfl 0 [] rfl rfl ?_
 refine walk ?_
 refine k'c (fun i : Nat => xs.length - i) (fun i => [(0, .d (.sl z xs)), (1, .d (.fn f cap)), (7, iT xs.length), (8, iT i)]) (fun _ => []) (fun i => i ≤ xs.length ∧ ∀ j < i, q j = false) 0 ⟨by omega, fun j hj => by omega⟩ ⟨rfl, rfl, rfl, rfl, trivial⟩ rfl 0 rfl (fun _ => rfl) (fun _ => rfl) (fun _ => rfl) ?_
 rintro i ⟨i1, i2⟩
 refine walk ?_
 refine k'f rfl (fun hd => ?_) (fun hd => ?_)
 ·have hlt : i < xs.length := by have := of_decide_eq_true hd; omega
  obtain ⟨x, hxi⟩ : ∃ x, xs[i]? = some x := ⟨_, List.getElem?_eq_getElem hlt⟩
  have hc := hf i x hxi
  obtain ⟨a0, a1, a2, a3, a4, a5, a6, a7, a8, a9, a10, a11, a12, a13, a14, a15, a16, a17, a18, a19, a20, a21, a22, a23, a24, a25, a26, a27, rfl⟩ := hx x (List.mem_of_getElem? hxi)
  refine walk ?_
  refine k'4 (.indexAddr (k := .i64) (n := i) (es := xs) rfl rfl rfl rfl (.inl ⟨_, rfl⟩) rfl (by omega) (by simpa using hxi) rfl (by decide)) rfl rfl ?_
  refine walk ?_
  refine k'1 [] (hc) rfl rfl rfl rfl rfl rfl rfl (by decide) rfl rfl rfl rfl rfl ?_
  refine walk ?_
  cases hr : q i with
  | true =>
   rw [idx_hit hlt hr i2]
   refine walk ?_
   exact k'3 trivial (by decide) rfl rfl rfl rfl rfl
  | false =>
   refine walk ?_
   rw [show IntKind.i64.wrap ((i : Int) + 1) = ((i + 1 : Nat) : Int) by rw [wrapI (by omega) (by omega)]; omega]
   exact ⟨i + 1, by omega, ⟨by omega, fun j hj => by
    rcases Nat.lt_or_ge j i with h | h
    ·exact i2 j h
    ·rw [show j = i by omega]; exact hr⟩, ⟨rfl, rfl, rfl, rfl, trivial⟩, rfl, k's rfl⟩
 ·have hge : i = xs.length := by have := of_decide_eq_false hd; omega
  subst hge
  rw [k'3f i2]
  refine walk ?_
  exact k'3 trivial (by decide) rfl rfl rfl rfl rfl
theorem All_Eh_calls (f : Nat) (z : Bool) (xs : List D) (d : Int) (r : Nat → Bool) (hl : xs.length < 9223372036854775807) (hd1 : -9223372036854775000 ≤ d) (hd2 : d < 9223372036854775808) (hx : ∀ x ∈ xs, EhSh x)
  (hf : ∀ (i : Nat) x, xs[i]? = some x → CallsA (cx B) f [.d x, .d (.int .i64 (d - 1))] [] (.d (.bool (r i))) []) :
  CallsA (cx B) 168 [.d (.sl z xs), .d (.int .i64 d), .d (.fn f [])] [] (.d (.bool ((List.range xs.length).all r))) [] := by
 have h0 : ∀ (i : Nat) x, xs[i]? = some x → CallsA (cx B) 262 ([.d x] ++ [.box [.fn f []], .box [.int .i64 d]].map T.d) [] (.d (.bool (!r i))) [] := fun i x hxi => by
  have hc := hf i x hxi
  obtain ⟨a0, a1, a2, a3, a4, a5, a6, a7, a8, a9, a10, a11, a12, a13, a14, a15, a16, a17, a18, a19, a20, a21, a22, a23, a24, a25, a26, a27, rfl⟩ := hx x (List.mem_of_getElem? hxi)
  refine k'2 (X := cx B) (fn := Tryz.f262) Tryz.func262 rfl rfl rfl rfl rfl 0 [] rfl rfl ?_
  refine walk ?_
  rw [k'd 1 (by omega) (by omega) hd1 hd2]
  refine k'1 [] (hc) rfl rfl rfl rfl rfl rfl rfl (by decide) rfl rfl rfl rfl rfl ?_
  refine walk ?_
  exact k'3 trivial (by decide) rfl rfl rfl rfl rfl
 have h1 := IndexF_Eh_calls B 262 [.box [.fn f []], .box [.int .i64 d]] z xs (fun i => !r i) hl hx h0
 have h2 : CallsA (cx B) 261 [.d (.sl z xs), .d (.fn 262 [.box [.fn f []], .box [.int .i64 d]])] [] (.d (.bool (!(List.range xs.length).all r))) [] := by
  refine k'2 (X := cx B) (fn := Tryz.f261) Tryz.func261 rfl rfl rfl rfl rfl 0 [] rfl rfl ?_
  refine walk ?_
  refine k'1 [] (h1) rfl rfl rfl rfl rfl rfl rfl (by decide) rfl rfl rfl rfl rfl ?_
  refine walk ?_
  rw [idx_all]
  exact k'3 trivial (by decide) rfl rfl rfl rfl rfl
 refine k'2 (X := cx B) (fn := Tryz.f168) Tryz.func168 rfl rfl rfl rfl rfl 0 [] rfl rfl ?_
 refine walk ?_
 refine k'4 (closure2 rfl rfl rfl (by simp) rfl rfl rfl rfl) rfl rfl ?_
 refine k'1 [] (h2) rfl rfl rfl rfl rfl rfl rfl (by decide) rfl rfl rfl rfl rfl ?_
 refine walk ?_
 rw [Bool.not_not]
 exact k'3 trivial (by decide) rfl rfl rfl rfl rfl
theorem All_Eh_R {a : List Eh} {xs : List D} (z : Bool) (d : Int) (hb : (a.map Eh.sz).sum < big) (hd1 : 0 ≤ d) (hd2 : d < 9223372036854775808) (h1 : RsOf Eh.R a xs) : CallsA (cx B) 168 [.d (.sl z xs), .d (.int .i64 d), .d (.fn 169 [])] [] (.d (.bool (a.all fun k => k.may (d - 1)))) [] := by
 have hla := sum_ge (sz := Eh.sz) (fun x => by unfold Eh.sz; omega) a
 have h := All_Eh_calls B 169 z xs d (atB (fun k => k.may (d - 1)) a) (by rw [h1.1]; unfold big at hb; omega) (by omega) hd2 (Eh.Rs_sh h1) (fun i x hx => by
  obtain ⟨v, hv, r1⟩ := h1.at hx
  have hm := k'y (sz := Eh.sz) (List.mem_of_getElem? hv)
  have e : atB (fun k : Eh => k.may (d - 1)) a i = v.may (d - 1) := by unfold atB; rw [hv]
  rw [e]
  exact Eh_May_calls B v x (d - 1) (by omega) r1 (by omega) (by omega))
 rw [h1.1, ← atB_all] at h
 exact h
theorem Eh_Marshal_calls (x : Eh) (xa : D) (d : Int) (hbig : x.sz < big) (hwf : x.wf) (hx : x.R xa) (hd1 : -9223372036854775808 ≤ d) (hd2 : d < 9223372036854775808) : CallsA (cx B) 129 [.d xa, .d (.int .i64 d)] [] (if x.may d then .tup [sT x.mar, .d .nili] else .tup [sT [], .d (Er.code 8).d]) [] := by
 have hm := Eh_May_calls B x xa d hbig hx hd1 hd2
 have hlen := Eh.mar_len x
 have hlen : x.mar.length < big := by omega
 obtain ⟨z_attrs, l_attrs, z_pos, z_neg, z_exs, l_exs, rfl, r_attrs, r_exs⟩ := hx
 unfold Eh.sz at hbig
 cases hc : x.may d with
 | false =>
  rw [hc] at hm
  refine k'2 (X := cx B) (fn := Tryz.f129) Tryz.func129 rfl rfl rfl rfl rfl 0 [] rfl rfl ?_
  refine walk ?_
  refine k'1 [] (hm) rfl rfl rfl rfl rfl rfl rfl (by decide) rfl rfl rfl rfl rfl ?_
  refine walk ?_
  exact k'3 trivial (by decide) rfl rfl rfl rfl rfl
 | true =>
  rw [hc] at hm
  have hc' := hc
  unfold Eh.may at hc'
  simp only [Bool.and_eq_true, decide_eq_true_eq] at hc'
  obtain ⟨⟨⟨⟨⟨⟨hd, ⟨⟨m_sum, m_min⟩, m_max⟩⟩, m_pos⟩, m_neg⟩, m_exs⟩, m_attrs⟩, hu⟩ := hc'
  obtain ⟨w_attrs, w_start, w_time, w_count, w_sum, w_min, w_max, w_scale, w_zero, w_pos, w_neg, w_exs, w_flags, w_thr⟩ := hwf
  unfold Eh.mar Eh.hb at hlen ⊢
  obtain ⟨a0, ha0, c0⟩ := k'2i B 1 (by omega) (by omega) z_attrs d (by omega) w_attrs m_attrs hd hd2 r_attrs (.nw 102 2) [] k'2d (by simp only [List.length_append, List.length_nil] at hlen ⊢; omega)
  rw [List.nil_append] at c0
  obtain ⟨a1, ha1, c1⟩ := k'z B 2 x.start (by omega) (by omega) (a0) (psV 1 (Kv.mars x.attrs)) ha0 (by simp only [List.length_append, List.length_nil] at hlen ⊢; omega)
  obtain ⟨a2, ha2, c2⟩ := k'z B 3 x.time (by omega) (by omega) (a1) (psV 1 (Kv.mars x.attrs) ++ fxV 2 x.start) ha1 (by simp only [List.length_append, List.length_nil] at hlen ⊢; omega)
  obtain ⟨a3, ha3, c3⟩ := k'z B 4 x.count (by omega) (by omega) (a2) (psV 1 (Kv.mars x.attrs) ++ fxV 2 x.start ++ fxV 3 x.time) ha2 (by simp only [List.length_append, List.length_nil] at hlen ⊢; omega)
  obtain ⟨a4, ha4, c4⟩ := wr_opt B x.sumH 5 x.sum (by omega) (by omega) (a3) (psV 1 (Kv.mars x.attrs) ++ fxV 2 x.start ++ fxV 3 x.time ++ fxV 4 x.count) ha3 (by simp only [List.length_append, List.length_nil] at hlen ⊢; omega)
  obtain ⟨a5, ha5, c5⟩ := wr_var B 6 (zig32 x.scale) (by omega) (by omega) (zig32_lt _ w_scale.1 w_scale.2) (a4) (psV 1 (Kv.mars x.attrs) ++ fxV 2 x.start ++ fxV 3 x.time ++ fxV 4 x.count ++ opV 5 x.sumH x.sum) ha4 (by simp only [List.length_append, List.length_nil] at hlen ⊢; omega)
  obtain ⟨a6, ha6, c6⟩ := k'z B 7 x.zero (by omega) (by omega) (a5) (psV 1 (Kv.mars x.attrs) ++ fxV 2 x.start ++ fxV 3 x.time ++ fxV 4 x.count ++ opV 5 x.sumH x.sum ++ vrV 6 (zig32 x.scale)) ha5 (by simp only [List.length_append, List.length_nil] at hlen ⊢; omega)
  obtain ⟨a7, ha7, c7⟩ := wr_side B z_pos x.posH x.pos 8 (d - 1) (by omega) (by omega) (by omega) w_pos m_pos (by omega) (by omega) (a6) (psV 1 (Kv.mars x.attrs) ++ fxV 2 x.start ++ fxV 3 x.time ++ fxV 4 x.count ++ opV 5 x.sumH x.sum ++ vrV 6 (zig32 x.scale) ++ fxV 7 x.zero) ha6 (by simp only [List.length_append, List.length_nil] at hlen ⊢; omega)
  obtain ⟨a8, ha8, c8⟩ := wr_side B z_neg x.negH x.neg 9 (d - 1) (by omega) (by omega) (by omega) w_neg m_neg (by omega) (by omega) (a7) (psV 1 (Kv.mars x.attrs) ++ fxV 2 x.start ++ fxV 3 x.time ++ fxV 4 x.count ++ opV 5 x.sumH x.sum ++ vrV 6 (zig32 x.scale) ++ fxV 7 x.zero ++ sdV 8 x.posH x.pos) ha7 (by simp only [List.length_append, List.length_nil] at hlen ⊢; omega)
  obtain ⟨a9, ha9, c9⟩ := wr_var B 10 x.flags (by omega) (by omega) (by omega) (a8) (psV 1 (Kv.mars x.attrs) ++ fxV 2 x.start ++ fxV 3 x.time ++ fxV 4 x.count ++ opV 5 x.sumH x.sum ++ vrV 6 (zig32 x.scale) ++ fxV 7 x.zero ++ sdV 8 x.posH x.pos ++ sdV 9 x.negH x.neg) ha8 (by simp only [List.length_append, List.length_nil] at hlen ⊢; omega)
  obtain ⟨a10, ha10, c10⟩ := Parts_Em_R B 11 (by omega) (by omega) z_exs d (by omega) w_exs m_exs hd hd2 r_exs (a9) (psV 1 (Kv.mars x.attrs) ++ fxV 2 x.start ++ fxV 3 x.time ++ fxV 4 x.count ++ opV 5 x.sumH x.sum ++ vrV 6 (zig32 x.scale) ++ fxV 7 x.zero ++ sdV 8 x.posH x.pos ++ sdV 9 x.negH x.neg ++ vrV 10 x.flags) ha9 (by simp only [List.length_append, List.length_nil] at hlen ⊢; omega)
  obtain ⟨a11, ha11, c11⟩ := wr_opt B x.minH 12 x.min (by omega) (by omega) (a10) (psV 1 (Kv.mars x.attrs) ++ fxV 2 x.start ++ fxV 3 x.time ++ fxV 4 x.count ++ opV 5 x.sumH x.sum ++ vrV 6 (zig32 x.scale) ++ fxV 7 x.zero ++ sdV 8 x.posH x.pos ++ sdV 9 x.negH x.neg ++ vrV 10 x.flags ++ psV 11 (x.exs.map Em.mar)) ha10 (by simp only [List.length_append, List.length_nil] at hlen ⊢; omega)
  obtain ⟨a12, ha12, c12⟩ := wr_opt B x.maxH 13 x.max (by omega) (by omega) (a11) (psV 1 (Kv.mars x.attrs) ++ fxV 2 x.start ++ fxV 3 x.time ++ fxV 4 x.count ++ opV 5 x.sumH x.sum ++ vrV 6 (zig32 x.scale) ++ fxV 7 x.zero ++ sdV 8 x.posH x.pos ++ sdV 9 x.negH x.neg ++ vrV 10 x.flags ++ psV 11 (x.exs.map Em.mar) ++ opV 12 x.minH x.min) ha11 (by simp only [List.length_append, List.length_nil] at hlen ⊢; omega)
  obtain ⟨a13, ha13, c13⟩ := k'z B 14 x.thr (by omega) (by omega) (a12) (psV 1 (Kv.mars x.attrs) ++ fxV 2 x.start ++ fxV 3 x.time ++ fxV 4 x.count ++ opV 5 x.sumH x.sum ++ vrV 6 (zig32 x.scale) ++ fxV 7 x.zero ++ sdV 8 x.posH x.pos ++ sdV 9 x.negH x.neg ++ vrV 10 x.flags ++ psV 11 (x.exs.map Em.mar) ++ opV 12 x.minH x.min ++ opV 13 x.maxH x.max) ha12 (by simp only [List.length_append, List.length_nil] at hlen ⊢; omega)
  obtain ⟨cu, cs⟩ := k'29 B (s := x.u) ha13 (l := psV 1 (Kv.mars x.attrs) ++ fxV 2 x.start ++ fxV 3 x.time ++ fxV 4 x.count ++ opV 5 x.sumH x.sum ++ vrV 6 (zig32 x.scale) ++ fxV 7 x.zero ++ sdV 8 x.posH x.pos ++ sdV 9 x.negH x.neg ++ vrV 10 x.flags ++ psV 11 (x.exs.map Em.mar) ++ opV 12 x.minH x.min ++ opV 13 x.maxH x.max ++ fxV 14 x.thr) (by simp only [List.length_append] at hlen ⊢; omega)
  generalize psV 1 (Kv.mars x.attrs) ++ fxV 2 x.start ++ fxV 3 x.time ++ fxV 4 x.count ++ opV 5 x.sumH x.sum ++ vrV 6 (zig32 x.scale) ++ fxV 7 x.zero ++ sdV 8 x.posH x.pos ++ sdV 9 x.negH x.neg ++ vrV 10 x.flags ++ psV 11 (x.exs.map Em.mar) ++ opV 12 x.minH x.min ++ opV 13 x.maxH x.max ++ fxV 14 x.thr = o13 at c13 cu cs ⊢
  generalize psV 1 (Kv.mars x.attrs) ++ fxV 2 x.start ++ fxV 3 x.time ++ fxV 4 x.count ++ opV 5 x.sumH x.sum ++ vrV 6 (zig32 x.scale) ++ fxV 7 x.zero ++ sdV 8 x.posH x.pos ++ sdV 9 x.negH x.neg ++ vrV 10 x.flags ++ psV 11 (x.exs.map Em.mar) ++ opV 12 x.minH x.min ++ opV 13 x.maxH x.max = o12 at c12 c13
  generalize psV 1 (Kv.mars x.attrs) ++ fxV 2 x.start ++ fxV 3 x.time ++ fxV 4 x.count ++ opV 5 x.sumH x.sum ++ vrV 6 (zig32 x.scale) ++ fxV 7 x.zero ++ sdV 8 x.posH x.pos ++ sdV 9 x.negH x.neg ++ vrV 10 x.flags ++ psV 11 (x.exs.map Em.mar) ++ opV 12 x.minH x.min = o11 at c11 c12
  generalize psV 1 (Kv.mars x.attrs) ++ fxV 2 x.start ++ fxV 3 x.time ++ fxV 4 x.count ++ opV 5 x.sumH x.sum ++ vrV 6 (zig32 x.scale) ++ fxV 7 x.zero ++ sdV 8 x.posH x.pos ++ sdV 9 x.negH x.neg ++ vrV 10 x.flags ++ psV 11 (x.exs.map Em.mar) = o10 at c10 c11
  generalize psV 1 (Kv.mars x.attrs) ++ fxV 2 x.start ++ fxV 3 x.time ++ fxV 4 x.count ++ opV 5 x.sumH x.sum ++ vrV 6 (zig32 x.scale) ++ fxV 7 x.zero ++ sdV 8 x.posH x.pos ++ sdV 9 x.negH x.neg ++ vrV 10 x.flags = o9 at c9 c10
  generalize psV 1 (Kv.mars x.attrs) ++ fxV 2 x.start ++ fxV 3 x.time ++ fxV 4 x.count ++ opV 5 x.sumH x.sum ++ vrV 6 (zig32 x.scale) ++ fxV 7 x.zero ++ sdV 8 x.posH x.pos ++ sdV 9 x.negH x.neg = o8 at c8 c9
  generalize psV 1 (Kv.mars x.attrs) ++ fxV 2 x.start ++ fxV 3 x.time ++ fxV 4 x.count ++ opV 5 x.sumH x.sum ++ vrV 6 (zig32 x.scale) ++ fxV 7 x.zero ++ sdV 8 x.posH x.pos = o7 at c7 c8
  generalize psV 1 (Kv.mars x.attrs) ++ fxV 2 x.start ++ fxV 3 x.time ++ fxV 4 x.count ++ opV 5 x.sumH x.sum ++ vrV 6 (zig32 x.scale) ++ fxV 7 x.zero = o6 at c6 c7
  generalize psV 1 (Kv.mars x.attrs) ++ fxV 2 x.start ++ fxV 3 x.time ++ fxV 4 x.count ++ opV 5 x.sumH x.sum ++ vrV 6 (zig32 x.scale) = o5 at c5 c6
  generalize psV 1 (Kv.mars x.attrs) ++ fxV 2 x.start ++ fxV 3 x.time ++ fxV 4 x.count ++ opV 5 x.sumH x.sum = o4 at c4 c5
  generalize psV 1 (Kv.mars x.attrs) ++ fxV 2 x.start ++ fxV 3 x.time ++ fxV 4 x.count = o3 at c3 c4
  generalize psV 1 (Kv.mars x.attrs) ++ fxV 2 x.start ++ fxV 3 x.time = o2 at c2 c3
  generalize psV 1 (Kv.mars x.attrs) ++ fxV 2 x.start = o1 at c1 c2
  generalize psV 1 (Kv.mars x.attrs) = o0 at c0 c1
  refine k'2 (X := cx B) (fn := Tryz.f129) Tryz.func129 rfl rfl rfl rfl rfl 0 [] rfl rfl ?_
  refine walk ?_
  refine k'1 [] (hm) rfl rfl rfl rfl rfl rfl rfl (by decide) rfl rfl rfl rfl rfl ?_
  refine walk ?_
  refine k'1 [1] (c0) rfl rfl rfl rfl rfl rfl rfl (by decide) (by simp [k'0 k'2d]) (by simp [k'0 ha0]) rfl rfl rfl ?_
  refine walk ?_
  refine k'1 [1] (c1) rfl rfl rfl rfl rfl rfl rfl (by decide) (by simp [k'0 ha0]) (by simp [k'0 ha1]) rfl rfl rfl ?_
  refine walk ?_
  refine k'1 [1] (c2) rfl rfl rfl rfl rfl rfl rfl (by decide) (by simp [k'0 ha1]) (by simp [k'0 ha2]) rfl rfl rfl ?_
  refine walk ?_
  refine k'1 [1] (c3) rfl rfl rfl rfl rfl rfl rfl (by decide) (by simp [k'0 ha2]) (by simp [k'0 ha3]) rfl rfl rfl ?_
  refine walk ?_
  refine k'1 [1] (c4) rfl rfl rfl rfl rfl rfl rfl (by decide) (by simp [k'0 ha3]) (by simp [k'0 ha4]) rfl rfl rfl ?_
  refine walk ?_
  refine k'1 [] (Zig32_calls B x.scale w_scale.1 w_scale.2) rfl rfl rfl rfl rfl rfl rfl (by decide) rfl rfl rfl rfl rfl ?_
  refine walk ?_
  refine k'1 [1] (c5) rfl rfl rfl rfl rfl rfl rfl (by decide) (by simp [k'0 ha4]) (by simp [k'0 ha5]) rfl rfl rfl ?_
  refine walk ?_
  refine k'1 [1] (c6) rfl rfl rfl rfl rfl rfl rfl (by decide) (by simp [k'0 ha5]) (by simp [k'0 ha6]) rfl rfl rfl ?_
  refine walk ?_
  rw [k'd 1 (by omega) (by omega) (by omega) hd2]
  refine k'1 [1] (c7) rfl rfl rfl rfl rfl rfl rfl (by decide) (by simp [k'0 ha6]) (by simp [k'0 ha7]) rfl rfl rfl ?_
  refine walk ?_
  rw [k'd 1 (by omega) (by omega) (by omega) hd2]
  refine k'1 [1] (c8) rfl rfl rfl rfl rfl rfl rfl (by decide) (by simp [k'0 ha7]) (by simp [k'0 ha8]) rfl rfl rfl ?_
  refine walk ?_
  rw [show IntKind.u64.wrap (x.flags : Int) = (x.flags : Int) by rw [IntKind.wrap_u64]; omega]
  refine k'1 [1] (c9) rfl rfl rfl rfl rfl rfl rfl (by decide) (by simp [k'0 ha8]) (by simp [k'0 ha9]) rfl rfl rfl ?_
  refine walk ?_
  refine k'1 [1] (c10) rfl rfl rfl rfl rfl rfl rfl (by decide) (by simp [k'0 ha9]) (by simp [k'0 ha10]) rfl rfl rfl ?_
  refine walk ?_
  refine k'1 [1] (c11) rfl rfl rfl rfl rfl rfl rfl (by decide) (by simp [k'0 ha10]) (by simp [k'0 ha11]) rfl rfl rfl ?_
  refine walk ?_
  refine k'1 [1] (c12) rfl rfl rfl rfl rfl rfl rfl (by decide) (by simp [k'0 ha11]) (by simp [k'0 ha12]) rfl rfl rfl ?_
  refine walk ?_
  refine k'1 [1] (c13) rfl rfl rfl rfl rfl rfl rfl (by decide) (by simp [k'0 ha12]) (by simp [k'0 ha13]) rfl rfl rfl ?_
  refine walk ?_
  refine k'1 [1] (cu) rfl rfl rfl rfl rfl rfl rfl (by decide) (by simp [k'0 ha13]) (by simp [k'0 (.inl rfl)]) rfl rfl rfl ?_
  refine walk ?_
  refine k'1 [1] (cs) rfl rfl rfl rfl rfl rfl rfl (by decide) (by simp [k'0 (.inl rfl)]) rfl rfl rfl rfl ?_
  refine walk ?_
  exact k'3 trivial (by decide) rfl rfl rfl rfl rfl
theorem Parts_Eh_wr (n : Nat) (h1 : 1 ≤ n) (h2 : n ≤ 536870911) (d : Int) (hd1 : -9223372036854775000 ≤ d) (hd2 : d < 9223372036854775808) (f : Nat) (z : Bool) (xs : List D) (ms : List (List UInt8)) (hlen : ms.length = xs.length) (hx : ∀ x ∈ xs, EhSh x)
  (hf : ∀ (i : Nat) x s, xs[i]? = some x → ms[i]? = some s → CallsA (cx B) f [.d x, .d (.int .i64 (d - 1))] [] (.tup [sT s, .d .nili]) []) :
  Wr B 128 [iT n, .d (.sl z xs), .d (.int .i64 d), .d (.fn f [])] (psV n ms) := by
 intro a l ha hl
 have hpl := k'1j n ms
 have hb : ms.length < 34359738368 := by unfold big at hl; omega
 refine ⟨if ms.length = 0 then a else .me, ad_if ha, ?_⟩
 refine k'2 (X := cx B) (fn := Tryz.f128) Tryz.func128 rfl rfl rfl rfl rfl 1 [] rfl rfl ?_
 refine walk ?_
 refine k'c (fun i : Nat => xs.length - i) (fun i => [(0, .ptr 0 0), (1, iT n), (3, .d (.int .i64 d)), (4, .d (.fn f [])), (14, .d (.sl z xs)), (15, iT xs.length), (16, iT i)]) (fun i => [.mu [if i = 0 then a else .me, bT (l ++ psV n (ms.take i))]]) (fun i => i ≤ xs.length) 0 (by omega) ⟨rfl, rfl, rfl, rfl, rfl, rfl, rfl, trivial⟩ (by simp [psV]) 1 rfl (fun _ => rfl) (fun i => by
  have : adOk (if i = 0 then a else .me) := ad_if ha
  simp [k'0 this]) (fun _ => rfl) ?_
 intro i i1
 have ha2 : adOk (if i = 0 then a else .me) := ad_if ha
 refine walk ?_
 refine k'f rfl (fun hd => ?_) (fun hd => ?_)
 ·have hlt : i < xs.length := by have := of_decide_eq_true hd; omega
  obtain ⟨x, hxi⟩ : ∃ x, xs[i]? = some x := ⟨_, List.getElem?_eq_getElem hlt⟩
  obtain ⟨s, hsi⟩ : ∃ s, ms[i]? = some s := ⟨_, List.getElem?_eq_getElem (by omega)⟩
  have hc := hf i x s hxi hsi
  obtain ⟨a0, a1, a2, a3, a4, a5, a6, a7, a8, a9, a10, a11, a12, a13, a14, a15, a16, a17, a18, a19, a20, a21, a22, a23, a24, a25, a26, a27, rfl⟩ := hx x (List.mem_of_getElem? hxi)
  have hsp := k'2f n hsi
  have h3 := k'14 B _ (l ++ psV n (ms.take i)) n s ha2 h1 h2 (by simp; omega)
  rw [List.append_assoc, show psV n (ms.take i) ++ (tagV n 2 ++ (putV s.length ++ s)) = psV n (ms.take (i + 1)) by rw [List.take_add_one, hsi]; simp [psV, paV]] at h3
  refine walk ?_
  refine k'4 (.indexAddr (k := .i64) (n := i) (es := xs) rfl rfl rfl rfl (.inl ⟨_, rfl⟩) rfl (by omega) (by simpa using hxi) rfl (by decide)) rfl rfl ?_
  refine walk ?_
  rw [k'd 1 (by omega) (by omega) hd1 hd2]
  refine k'1 [] (hc) rfl rfl rfl rfl rfl rfl rfl (by decide) rfl rfl rfl rfl rfl ?_
  refine walk ?_
  refine k'1 [0] (h3) rfl rfl rfl rfl rfl rfl rfl (by decide) (by simp [k'0 ha2]) (by simp [k'0 (.inl rfl)]) rfl rfl rfl ?_
  refine walk ?_
  rw [show IntKind.i64.wrap ((i : Int) + 1) = ((i + 1 : Nat) : Int) by rw [wrapI (by omega) (by omega)]; omega]
  exact ⟨i + 1, by omega, by omega, ⟨rfl, rfl, rfl, rfl, rfl, rfl, rfl, trivial⟩, by simp [k'0 (.inl rfl)], k's (by simp)⟩
 ·have hge : i = xs.length := by have := of_decide_eq_false hd; omega
  subst hge
  rw [show ms.take xs.length = ms by rw [← hlen, List.take_length], hlen]
  generalize (if xs.length = 0 then a else .me) = aa at ha2 ⊢
  refine walk ?_
  exact k'3 trivial (by decide) rfl rfl rfl rfl (by simp [k'0 ha2])
theorem Parts_Eh_R {a : List Eh} {xs : List D} (n : Nat) (h1 : 1 ≤ n) (h2 : n ≤ 536870911) (z : Bool) (d : Int) (hb : (a.map Eh.sz).sum < big) (hw : ∀ k ∈ a, k.wf) (hm : (a.all fun k => k.may (d - 1)) = true) (hd1 : 0 ≤ d) (hd2 : d < 9223372036854775808) (hR : RsOf Eh.R a xs) :
  Wr B 128 [iT n, .d (.sl z xs), .d (.int .i64 d), .d (.fn 129 [])] (psV n (a.map Eh.mar)) :=
 Parts_Eh_wr B n h1 h2 d (by omega) hd2 129 z xs (a.map Eh.mar) (by rw [List.length_map, hR.1]) (Eh.Rs_sh hR) fun i x s hx hs => by
  obtain ⟨v, hv, r⟩ := hR.at hx
  rw [List.getElem?_map, hv] at hs
  injection hs with hs; subst hs
  have hmem := List.mem_of_getElem? hv
  have := k'y (sz := Eh.sz) hmem
  have h3 := Eh_Marshal_calls B v x (d - 1) (by omega) (hw v hmem) r (by omega) (by omega)
  rw [if_pos (List.all_eq_true.1 hm v hmem)] at h3
  exact h3
theorem Eh_fits (l : List Eh) : ∀ a ∈ l.map Eh.d, a.fits 24 = true := by
 intro a ha
 obtain ⟨c, -, rfl⟩ := List.mem_map.1 ha
 rfl
theorem part_Eh_calls (hB : BOk B) (f : Nat) (cap : List D) (x : Eh) (er : Option Er) (s : List UInt8) (e : Option Er) (u : List UInt8) (d n : Int) (l : List Fld) (num : Nat) (hd1 : -9223372036854775808 < d) (hd2 : d < 9223372036854775808)
  (hf : CallsA (cx B) f ([sT s, .d (.int .i64 (d - 1))] ++ cap.map T.d) [] (.tup [.d x.d, .d (eD er)]) []) :
  CallsA (cx B) 204 [.ptr 0 0, iT num, sT s, .d (.fn f cap)] [rO e u d n l] (.d x.d) [rO (failE n num e er) u d n l] := by
 have h2 := k'9 B hB e u d n l num er
 refine k'2 (X := cx B) (fn := Tryz.f204) Tryz.func204 rfl rfl rfl rfl rfl 1 [] rfl rfl ?_
 refine walk ?_
 rw [show IntKind.i64.wrap (d - 1) = d - 1 from wrapI (by omega) (by omega)]
 refine k'1 [] (hf) rfl rfl rfl rfl rfl rfl rfl (by decide) rfl rfl rfl rfl rfl ?_
 refine walk ?_
 refine k'1 [0] (h2) rfl rfl rfl rfl rfl rfl rfl (by decide) rfl rfl rfl rfl rfl ?_
 refine walk ?_
 exact k'3 trivial (by decide) rfl rfl rfl rfl rfl
theorem List_Eh_calls (hB : BOk B) (f : Nat) (cap : List D) (rd : List UInt8 → Eh × Option Er) (e : Option Er) (u : List UInt8) (d n : Int) (l : List Fld) (num : Nat) (hl : LOk l) (hd1 : anyL l num = true → -9223372036854775808 < d) (hd2 : d < 9223372036854775808)
  (hf : ∀ x ∈ l, x.num = num → CallsA (cx B) f ([sT x.s, .d (.int .i64 (d - 1))] ++ cap.map T.d) [] (.tup [.d (rd x.s).1.d, .d (eD (rd x.s).2)]) []) :
  CallsA (cx B) 110 [.ptr 0 0, iT num, .d (.fn f cap)] [rO e u d n l] (.d (slD ((listF rd n num l e).1.map Eh.d))) [rO (listF rd n num l e).2 u d n l] := by
 have hlen : (l.map Fld.d).length = l.length := by simp
 have hlb := hl.lenb
 unfold big at hlb
 refine k'2 (X := cx B) (fn := Tryz.f110) Tryz.func110 rfl rfl rfl rfl rfl 1 [] rfl rfl ?_
 refine walk ?_
 rw [hlen]
 refine k'c (fun i : Nat => l.length - i) (fun i => [(0, .ptr 0 0), (1, iT num), (2, .d (.fn f cap)), (7, owT ((listF rd n num (l.take i) e).1.map Eh.d)), (13, .d (slD (l.map Fld.d))), (14, iT l.length), (15, iT i)])
  (fun i => [rO (listF rd n num (l.take i) e).2 u d n l]) (fun i => i ≤ l.length) 0 (by omega) ⟨rfl, rfl, rfl, rfl, rfl, rfl, rfl, trivial⟩ rfl 1 rfl (fun _ => rfl) (fun _ => rfl) (fun _ => rfl) ?_
 intro i i1
 refine walk ?_
 refine k'f rfl (fun hc => ?_) (fun hc => ?_)
 ·have hlt : i < l.length := by have := of_decide_eq_true hc; omega
  obtain ⟨x, hx⟩ : ∃ x, l[i]? = some x := ⟨_, List.getElem?_eq_getElem hlt⟩
  have hdx : (l.map Fld.d)[i]? = some x.d := by rw [List.getElem?_map, hx]; rfl
  have htk : l.take (i + 1) = l.take i ++ [x] := by rw [List.take_add_one, hx]; rfl
  have hpl := k'21 rd n num (l.take i) e
  have hwi : IntKind.i64.wrap ((i : Int) + 1) = ((i + 1 : Nat) : Int) := by rw [wrapI (by omega) (by omega)]; omega
  have hst : listF rd n num (l.take (i + 1)) e = listStep rd n num (listF rd n num (l.take i) e) x := by rw [htk, k'1k]
  refine walk ?_
  refine k'4 (.indexAddr (k := .i64) (n := i) (es := l.map Fld.d) (u := x.d) rfl rfl rfl rfl (.inl ⟨_, rfl⟩) rfl (by omega) (by simpa using hdx) rfl (by decide)) rfl rfl ?_
  refine walk ?_
  generalize hP : listF rd n num (l.take i) e = st at *
  obtain ⟨a, e'⟩ := st
  dsimp only at *
  by_cases hn : x.num = num
  ·rw [show ((x.num : Int) == num) = true by rw [hn]; simp]
   have hs2 : listStep rd n num (a, e') x = (a ++ [(rd x.s).1], failE n num e' (rd x.s).2) := by unfold listStep; rw [if_pos hn]
   rw [hs2] at hst
   have h5 := part_Eh_calls B hB f cap (rd x.s).1 (rd x.s).2 x.s e' u d n l num (hd1 (List.any_eq_true.2 ⟨x, List.mem_of_getElem? hx, by simpa using hn⟩)) hd2 (hf x (List.mem_of_getElem? hx) hn)
   generalize (rd x.s).1 = y at *
   generalize (rd x.s).2 = er at *
   refine adm ?_
   (try refine k'19 rfl ?_)
   refine k'4 (.assignOwn (.inr rfl) rfl) rfl rfl ?_
   refine walk ?_
   refine k'1 [0] (h5) rfl rfl rfl rfl rfl rfl rfl (by decide) rfl rfl rfl rfl rfl ?_
   refine k'4 (.buildSlice (es := [y.d]) rfl rfl rfl rfl rfl rfl (by intro x hx; simp at hx; subst hx; rfl) (by simp) (by decide) (by decide)) rfl rfl ?_
   have hm : (a.map Eh.d).length + [y.d].length ≤ most := by simp [most] at *; omega
   refine k'4 (.append' rfl rfl rfl rfl ⟨_, _, rfl, rfl, by intro q; simp⟩ rfl rfl rfl rfl rfl (by rw [show [y.d] = [y].map Eh.d from rfl, ← List.map_append]; exact Eh_fits _) (by decide) rfl hm rfl) rfl rfl ?_
   refine k'4 (.assignOwn (.inl rfl) rfl) rfl rfl ?_
   refine walk ?_
   rw [hwi]
   refine ⟨i + 1, by omega, by omega, ?_, rfl, ?_⟩
   ·rw [hst]; exact ⟨rfl, rfl, rfl, by show T.own _ _ = owT _; rw [List.map_append]; rfl, rfl, rfl, rfl, trivial⟩
   ·rw [hst]; exact k's rfl
  ·rw [show ((x.num : Int) == num) = false by simp; omega]
   have hs2 : listStep rd n num (a, e') x = (a, e') := by unfold listStep; rw [if_neg hn]
   rw [hs2] at hst
   refine walk ?_
   rw [hwi]
   refine ⟨i + 1, by omega, by omega, ?_, rfl, ?_⟩
   ·rw [hst]; exact ⟨rfl, rfl, rfl, rfl, rfl, rfl, rfl, trivial⟩
   ·rw [hst]; exact k's rfl
 ·have hge : i = l.length := by have := of_decide_eq_false hc; omega
  subst hge
  rw [List.take_length]
  refine adm ?_
  (try refine k'19 rfl ?_)
  refine k'4 (.moveShare rfl rfl) rfl rfl ?_
  refine walk ?_
  exact k'3 trivial (by decide) rfl rfl rfl rfl rfl
theorem List_Eh_tells (hB : BOk B) {α : Type} (ok : List UInt8 → Option α) (sh : α → Eh) (z : Eh) (f : Nat) (cap : List D) (e : Option Er) (u : List UInt8) (d : Int) (n : Nat) (l : List Fld) (num : Nat) (hl : LOk l) (hd1 : anyL l num = true → -9223372036854775808 < d) (hd2 : d < 9223372036854775808)
  (h : ∀ x ∈ l, x.num = num → RdAt B f cap Eh.d sh (ok x.s) x.s (d - 1)) :
  ∃ vs e', CallsA (cx B) 110 [.ptr 0 0, iT num, .d (.fn f cap)] [rO e u d n l] (.d (slD (vs.map Eh.d))) [rO e' u d n l] ∧ Tells n e (partsO ok num l) (List.map sh) vs e' := by
 obtain ⟨rd, h1, h2⟩ := k'1z B z h
 exact ⟨_, _, List_Eh_calls B hB f cap rd e u d n l num hl hd1 hd2 h1, k'1c n num e h2⟩
theorem okEh_rd (s : List UInt8) (d : Int) : okEh s d = (match readE s d, partsO (fun s => okK s (d - 1)) 1 (knB tbQ s d), partO (fun s => okB s (d - 1)) noBk 8 (knB tbQ s d), partO (fun s => okB s (d - 1)) noBk 9 (knB tbQ s d), partsO (fun s => okEm s (d - 1)) 11 (knB tbQ s d) with
 | none, some attrs, some pos, some neg, some exs => some ⟨attrs, (lastF (knB tbQ s d) 2).n, (lastF (knB tbQ s d) 3).n, (lastF (knB tbQ s d) 4).n, (hasL (knB tbQ s d) 5), (lastF (knB tbQ s d) 5).n, (hasL (knB tbQ s d) 12), (lastF (knB tbQ s d) 12).n, (hasL (knB tbQ s d) 13), (lastF (knB tbQ s d) 13).n, zag32 (lastF (knB tbQ s d) 6).n, (lastF (knB tbQ s d) 7).n, pos.1, pos.2, neg.1, neg.2, exs, (lastF (knB tbQ s d) 10).n % 4294967296, (lastF (knB tbQ s d) 14).n, unB tbQ s d⟩
 | _, _, _, _, _ => none) := by
 unfold okEh
 rw [okG_rd]
 cases readE s d with
 | some e => rfl
 | none =>
  unfold tellEh
  simp only
  cases partsO (fun s => okK s (d - 1)) 1 (knB tbQ s d) with
  | none => rfl
  | some attrs =>
   cases partO (fun s => okB s (d - 1)) noBk 8 (knB tbQ s d) with
   | none => rfl
   | some pos =>
    cases partO (fun s => okB s (d - 1)) noBk 9 (knB tbQ s d) with
    | none => rfl
    | some neg =>
     cases partsO (fun s => okEm s (d - 1)) 11 (knB tbQ s d) with
     | none => rfl
     | some exs =>
      rfl
theorem Eh_read (hB : BOk B) (s : List UInt8) (d : Int) (hl : s.length < big) (hd1 : -9223372036854775808 ≤ d) (hd2 : d < 9223372036854775808) :
  RdZ B 111 Eh.d noEh (okEh s d) s d ∧ (∀ e0, readE s d = some e0 → CallsA (cx B) 111 [sT s, .d (.int .i64 d)] [] (.tup [.d noEh.d, .d e0.d]) []) := by
 have h1 := k'u B hB 205 tbQ (tbQ_calls B) s d hl hd1 hd2
 have hk : LOk (knB tbQ s d) := k'i tbQ s d hl
 have hm := k'28 hk
 obtain ⟨vs_attrs, e1, c_attrs, t1⟩ := k't B hB (fun s => okK s (d - 1)) Kv.sh noKV 38 [] (readE s d) (unB tbQ s d) d s.length (knB tbQ s d) 1 hk (fun h => by have := k'1m h; omega) hd2 (fun x hx hn => k'v B hB x.s (d - 1) (lok_s hk hx) (by have := k'1t hx; omega) (by omega))
 obtain ⟨vs_exs, e2, c_exs, t2⟩ := k'31 B hB (fun s => okEm s (d - 1)) id noEm 198 [] e1 (unB tbQ s d) d s.length (knB tbQ s d) 11 hk (fun h => by have := k'1m h; omega) hd2 (fun x hx hn => (Em_read B hB x.s (d - 1) (lok_s hk hx) (by have := k'1t hx; omega) (by omega)).1.at)
 obtain ⟨vs_pos, e3, c_pos, t3⟩ := Part_Bk_tells B hB (fun s => okB s (d - 1)) id noBk rfl 208 [] e2 (unB tbQ s d) d s.length (knB tbQ s d) 8 hk (fun h => by have := k'1m h; omega) hd2 (fun h => UB_rd B hB _ (d - 1) (bytes_big hk 8) (by have := k'1m h; omega) (by omega))
 obtain ⟨vs_neg, e4, c_neg, t4⟩ := Part_Bk_tells B hB (fun s => okB s (d - 1)) id noBk rfl 208 [] e3 (unB tbQ s d) d s.length (knB tbQ s d) 9 hk (fun h => by have := k'1m h; omega) hd2 (fun h => UB_rd B hB _ (d - 1) (bytes_big hk 9) (by have := k'1m h; omega) (by omega))
 have hein : ∀ x, e4 = some x → EIn s.length x := t4.ein (t3.ein (t2.ein (t1.ein (fun x hx => k'r hx))))
 have main : CallsA (cx B) 111 [sT s, .d (.int .i64 d)] [] (.tup [.d (orD e4 (.agg [slD (vs_attrs.map KVs.d), .int .u64 (lastF (knB tbQ s d) 2).n, .int .u64 (lastF (knB tbQ s d) 3).n, .int .u64 (lastF (knB tbQ s d) 4).n, .bool (hasL (knB tbQ s d) 5), .int .u64 (lastF (knB tbQ s d) 5).n, .bool (hasL (knB tbQ s d) 12), .int .u64 (lastF (knB tbQ s d) 12).n, .bool (hasL (knB tbQ s d) 13), .int .u64 (lastF (knB tbQ s d) 13).n, .int .i32 (zag32 (lastF (knB tbQ s d) 6).n), .int .u64 (lastF (knB tbQ s d) 7).n, .bool vs_pos.1, .int .i32 vs_pos.2.off, slD (vs_pos.2.cs.map uD), .str vs_pos.2.u, .bool vs_neg.1, .int .i32 vs_neg.2.off, slD (vs_neg.2.cs.map uD), .str vs_neg.2.u, slD (vs_exs.map Em.d), .int .u32 ((lastF (knB tbQ s d) 10).n % 4294967296 : Nat), .int .u64 (lastF (knB tbQ s d) 14).n, .str (unB tbQ s d)]) noEh.d), .d (eD e4)]) [] := by
  clear hein t1 t2 t3 t4
  refine k'2 (X := cx B) (fn := Tryz.f111) Tryz.func111 rfl rfl rfl rfl rfl 0 [] rfl rfl ?_
  refine walk ?_
  refine k'1 [] (h1) rfl rfl rfl rfl rfl rfl rfl (by decide) rfl rfl rfl rfl rfl ?_
  refine walk ?_
  refine x_tail (i0 := 31) (z := 32) (t0 := 7) rfl (by decide) rfl rfl rfl rfl rfl rfl rfl rfl rfl rfl ?_
  refine walk ?_
  refine k'8 [1] (c_attrs) rfl rfl rfl rfl rfl rfl (by decide) rfl rfl rfl rfl rfl rfl ?_
  refine walk ?_
  refine k'8 [1] (k'7 B e1 (unB tbQ s d) d s.length (knB tbQ s d) 2 hm) rfl rfl rfl rfl rfl rfl (by decide) rfl rfl rfl rfl rfl rfl ?_
  refine walk ?_
  refine k'8 [1] (k'7 B e1 (unB tbQ s d) d s.length (knB tbQ s d) 3 hm) rfl rfl rfl rfl rfl rfl (by decide) rfl rfl rfl rfl rfl rfl ?_
  refine walk ?_
  refine k'8 [1] (k'7 B e1 (unB tbQ s d) d s.length (knB tbQ s d) 4 hm) rfl rfl rfl rfl rfl rfl (by decide) rfl rfl rfl rfl rfl rfl ?_
  refine walk ?_
  refine k'8 [1] (k'34 B e1 (unB tbQ s d) d s.length (knB tbQ s d) 5 hm) rfl rfl rfl rfl rfl rfl (by decide) rfl rfl rfl rfl rfl rfl ?_
  refine walk ?_
  refine k'8 [1] (k'34 B e1 (unB tbQ s d) d s.length (knB tbQ s d) 12 hm) rfl rfl rfl rfl rfl rfl (by decide) rfl rfl rfl rfl rfl rfl ?_
  refine walk ?_
  refine k'8 [1] (k'34 B e1 (unB tbQ s d) d s.length (knB tbQ s d) 13 hm) rfl rfl rfl rfl rfl rfl (by decide) rfl rfl rfl rfl rfl rfl ?_
  refine walk ?_
  refine k'8 [1] (k'7 B e1 (unB tbQ s d) d s.length (knB tbQ s d) 6 hm) rfl rfl rfl rfl rfl rfl (by decide) rfl rfl rfl rfl rfl rfl ?_
  refine walk ?_
  refine k'8 [] (Zag32_calls B (lastF (knB tbQ s d) 6).n (lastF_n hk 6)) rfl rfl rfl rfl rfl rfl (by decide) rfl rfl rfl rfl rfl rfl ?_
  refine walk ?_
  refine k'8 [1] (k'7 B e1 (unB tbQ s d) d s.length (knB tbQ s d) 7 hm) rfl rfl rfl rfl rfl rfl (by decide) rfl rfl rfl rfl rfl rfl ?_
  refine walk ?_
  refine k'8 [1] (c_exs) rfl rfl rfl rfl rfl rfl (by decide) rfl rfl rfl rfl rfl rfl ?_
  refine walk ?_
  refine k'8 [1] (k'7 B e2 (unB tbQ s d) d s.length (knB tbQ s d) 10 hm) rfl rfl rfl rfl rfl rfl (by decide) rfl rfl rfl rfl rfl rfl ?_
  refine walk ?_
  rw [u32w]
  refine k'8 [1] (k'7 B e2 (unB tbQ s d) d s.length (knB tbQ s d) 14 hm) rfl rfl rfl rfl rfl rfl (by decide) rfl rfl rfl rfl rfl rfl ?_
  refine walk ?_
  refine k'1 [1] (c_pos) rfl rfl rfl rfl rfl rfl rfl (by decide) rfl rfl rfl rfl rfl ?_
  refine walk ?_
  refine k'1 [1] (c_neg) rfl rfl rfl rfl rfl rfl rfl (by decide) rfl rfl rfl rfl rfl ?_
  refine walk ?_
  cases e4 with
  | none =>
   refine walk ?_
   exact k'3 trivial (by decide) rfl rfl rfl rfl rfl
  | some er =>
   cases er <;> (
   refine walk ?_
   exact k'3 trivial (by decide) rfl rfl rfl rfl rfl)
 constructor
 ·rw [okEh_rd]
  cases e4 with
  | none =>
   obtain ⟨k3, a_neg, g_neg, v_neg⟩ := t4.ok
   subst k3
   obtain ⟨k2, a_pos, g_pos, v_pos⟩ := t3.ok
   subst k2
   obtain ⟨k1, a_exs, g_exs, v_exs⟩ := t2.ok
   subst k1
   obtain ⟨k0, a_attrs, g_attrs, v_attrs⟩ := t1.ok
   rw [k0, g_attrs, g_pos, g_neg, g_exs]
   subst v_attrs
   simp only [id_eq] at v_pos
   subst v_pos
   simp only [id_eq] at v_neg
   subst v_neg
   rw [List.map_id] at v_exs
   subst v_exs
   rw [ks_map a_attrs] at main
   exact main
  | some er =>
   have hno : (match readE s d, partsO (fun s => okK s (d - 1)) 1 (knB tbQ s d), partO (fun s => okB s (d - 1)) noBk 8 (knB tbQ s d), partO (fun s => okB s (d - 1)) noBk 9 (knB tbQ s d), partsO (fun s => okEm s (d - 1)) 11 (knB tbQ s d) with
    | none, some attrs, some pos, some neg, some exs => some (⟨attrs, (lastF (knB tbQ s d) 2).n, (lastF (knB tbQ s d) 3).n, (lastF (knB tbQ s d) 4).n, (hasL (knB tbQ s d) 5), (lastF (knB tbQ s d) 5).n, (hasL (knB tbQ s d) 12), (lastF (knB tbQ s d) 12).n, (hasL (knB tbQ s d) 13), (lastF (knB tbQ s d) 13).n, zag32 (lastF (knB tbQ s d) 6).n, (lastF (knB tbQ s d) 7).n, pos.1, pos.2, neg.1, neg.2, exs, (lastF (knB tbQ s d) 10).n % 4294967296, (lastF (knB tbQ s d) 14).n, unB tbQ s d⟩ : Eh)
    | _, _, _, _, _ => none) = none := by
    cases hr : readE s d with
    | some x => rfl
    | none =>
     rw [hr] at t1
     cases hp0 : partsO (fun s => okK s (d - 1)) 1 (knB tbQ s d) with
     | none => rfl
     | some a0 =>
      rw [hp0] at t1
      obtain ⟨-, q0⟩ := t1.get
      subst q0
      cases hp1 : partsO (fun s => okEm s (d - 1)) 11 (knB tbQ s d) with
      | none => split <;> simp_all
      | some a1 =>
       rw [hp1] at t2
       obtain ⟨-, q1⟩ := t2.get
       subst q1
       cases hp2 : partO (fun s => okB s (d - 1)) noBk 8 (knB tbQ s d) with
       | none => split <;> simp_all
       | some a2 =>
        rw [hp2] at t3
        obtain ⟨-, q2⟩ := t3.get
        subst q2
        cases hp3 : partO (fun s => okB s (d - 1)) noBk 9 (knB tbQ s d) with
        | none => split <;> simp_all
        | some a3 =>
         rw [hp3] at t4
         have := t4.get.2; simp at this
   rw [hno]
   exact ⟨er, hein er rfl, main⟩
 ·intro e0 he
  rw [he] at t1
  have k1 := t1.keep
  subst k1
  have k2 := t2.keep
  subst k2
  have k3 := t3.keep
  subst k3
  have k4 := t4.keep
  subst k4
  exact main
end Go.Proofs.YtmnllpkbjkenfaaGreatDoor
