/- Hist: alike, may they be, written, read. -/
import Derived.Test.YtmnllpkbjkenfaaGreatDoorHP
set_option linter.unusedSimpArgs false
set_option linter.unusedVariables false
set_option maxRecDepth 100000
namespace Go.Proofs.YtmnllpkbjkenfaaGreatDoor
open Go Go.Abs
variable (B : Fr)
def Hi.d (x : Hi) : D := .agg [slD (Kv.ds x.attrs), .int .u64 x.start, .int .u64 x.time, .int .u64 x.count, .bool x.sumH, .int .u64 x.sum, .bool x.minH, .int .u64 x.min, .bool x.maxH, .int .u64 x.max, slD (x.counts.map uD), slD (x.bounds.map uD), slD (x.exs.map Em.d), .int .u32 x.flags, .str x.u]
def Hi.R (x : Hi) (a : D) : Prop := ∃ (z_attrs : Bool) (l_attrs : List D) (z_counts : Bool) (z_bounds : Bool) (z_exs : Bool) (l_exs : List D), a = .agg [.sl z_attrs l_attrs, .int .u64 x.start, .int .u64 x.time, .int .u64 x.count, .bool x.sumH, .int .u64 x.sum, .bool x.minH, .int .u64 x.min, .bool x.maxH, .int .u64 x.max, .sl z_counts (x.counts.map uD), .sl z_bounds (x.bounds.map uD), .sl z_exs l_exs, .int .u32 x.flags, .str x.u] ∧ Kv.Rs x.attrs l_attrs ∧ RsOf Em.R x.exs l_exs
def HiSh (x : D) : Prop := ∃ (a0 : Bool) (a1 : List D) (a2 : Nat) (a3 : Nat) (a4 : Nat) (a5 : Bool) (a6 : Nat) (a7 : Bool) (a8 : Nat) (a9 : Bool) (a10 : Nat) (a11 : Bool) (a12 : List D) (a13 : Bool) (a14 : List D) (a15 : Bool) (a16 : List D) (a17 : Nat) (a18 : List UInt8), x = .agg [.sl a0 a1, .int .u64 a2, .int .u64 a3, .int .u64 a4, .bool a5, .int .u64 a6, .bool a7, .int .u64 a8, .bool a9, .int .u64 a10, .sl a11 a12, .sl a13 a14, .sl a15 a16, .int .u32 a17, .str a18]
theorem Hi.R_sh {x : Hi} {a : D} (h : x.R a) : HiSh a := by
 obtain ⟨z_attrs, l_attrs, z_counts, z_bounds, z_exs, l_exs, h, -⟩ := h
 exact ⟨_, _, _, _, _, _, _, _, _, _, _, _, _, _, _, _, _, _, _, h⟩
theorem Hi.d_R (x : Hi) : x.R x.d := ⟨_, _, _, _, _, _, rfl, Kv.ds_R _, RsOf.map Em.d_R _⟩
theorem Hi.Rs_sh {l : List Hi} {xs : List D} (h : RsOf Hi.R l xs) : ∀ x ∈ xs, HiSh x := fun x hx => by
 obtain ⟨v, -, r⟩ := h.mem hx
 exact Hi.R_sh r
theorem Hi_Same_calls (x y : Hi) (xa ya : D) (hbig : x.sz < big) (hx : x.R xa) (hy : y.R ya) : CallsA (cx B) 88 [.d xa, .d ya] [] (.d (.bool (x.eq y))) [] := by
 obtain ⟨z_attrs, l_attrs, z_counts, z_bounds, z_exs, l_exs, rfl, r_attrs, r_exs⟩ := hx
 obtain ⟨y_attrs, m_attrs, y_counts, y_bounds, y_exs, m_exs, rfl, s_attrs, s_exs⟩ := hy
 unfold Hi.sz at hbig
 have c_attrs := k'16 B (a := x.attrs) (b := y.attrs) z_attrs y_attrs (by omega) r_attrs s_attrs
 have c_exs := EqF_Em_R B (a := x.exs) (b := y.exs) z_exs y_exs (by omega) r_exs s_exs
 have c_counts := EqualZ B z_counts y_counts x.counts y.counts (by unfold big at hbig; omega)
 have c_bounds := EqualZ B z_bounds y_bounds x.bounds y.bounds (by unfold big at hbig; omega)
 rw [show x.eq y = ((x.start == y.start) && (x.time == y.time) && (x.count == y.count) && (x.sumH == y.sumH && x.sum == y.sum) && (x.minH == y.minH && x.min == y.min) && (x.maxH == y.maxH && x.max == y.max) && (x.flags == y.flags) && (x.u == y.u) && (x.counts == y.counts) && (x.bounds == y.bounds) && (Em.eqs x.exs y.exs) && (Kv.eqs x.attrs y.attrs)) by unfold Hi.eq; ac_rfl]
 refine k'2 (X := cx B) (fn := Tryz.f88) Tryz.func88 rfl rfl rfl rfl rfl 0 [] rfl rfl ?_
 refine walk ?_
 rw [ibeq x.start y.start]
 cases e0 : (x.start == y.start) with
 | false =>
  refine walk ?_
  exact k'3 trivial (by decide) rfl rfl rfl rfl rfl
 | true =>
  refine walk ?_
  rw [ibeq x.time y.time]
  cases e1 : (x.time == y.time) with
  | false =>
   refine walk ?_
   exact k'3 trivial (by decide) rfl rfl rfl rfl rfl
  | true =>
   refine walk ?_
   rw [ibeq x.count y.count]
   cases e2 : (x.count == y.count) with
   | false =>
    refine walk ?_
    exact k'3 trivial (by decide) rfl rfl rfl rfl rfl
   | true =>
    refine walk ?_
    (first | refine k'1f (StepE.eqOpt rfl rfl rfl (opt_ok B)) rfl rfl rfl rfl ?_ | refine k'4 (StepE.eqOpt rfl rfl rfl (opt_ok B)) rfl rfl ?_)
    refine walk ?_
    cases e3 : (x.sumH == y.sumH && x.sum == y.sum) with
    | false =>
     refine walk ?_
     exact k'3 trivial (by decide) rfl rfl rfl rfl rfl
    | true =>
     refine walk ?_
     (first | refine k'1f (StepE.eqOpt rfl rfl rfl (opt_ok B)) rfl rfl rfl rfl ?_ | refine k'4 (StepE.eqOpt rfl rfl rfl (opt_ok B)) rfl rfl ?_)
     refine walk ?_
     cases e4 : (x.minH == y.minH && x.min == y.min) with
     | false =>
      refine walk ?_
      exact k'3 trivial (by decide) rfl rfl rfl rfl rfl
     | true =>
      refine walk ?_
      (first | refine k'1f (StepE.eqOpt rfl rfl rfl (opt_ok B)) rfl rfl rfl rfl ?_ | refine k'4 (StepE.eqOpt rfl rfl rfl (opt_ok B)) rfl rfl ?_)
      refine walk ?_
      cases e5 : (x.maxH == y.maxH && x.max == y.max) with
      | false =>
       refine walk ?_
       exact k'3 trivial (by decide) rfl rfl rfl rfl rfl
      | true =>
       refine walk ?_
       rw [ibeq x.flags y.flags]
       cases e6 : (x.flags == y.flags) with
       | false =>
        refine walk ?_
        exact k'3 trivial (by decide) rfl rfl rfl rfl rfl
       | true =>
        refine walk ?_
        cases e7 : (x.u == y.u) with
        | false =>
         refine walk ?_
         exact k'3 trivial (by decide) rfl rfl rfl rfl rfl
        | true =>
         refine walk ?_
         refine k'6 [] (c_counts) rfl rfl rfl rfl rfl rfl rfl rfl rfl (by decide) rfl rfl rfl rfl rfl ?_
         refine walk ?_
         cases e8 : (x.counts == y.counts) with
         | false =>
          refine walk ?_
          exact k'3 trivial (by decide) rfl rfl rfl rfl rfl
         | true =>
          refine walk ?_
          refine k'6 [] (c_bounds) rfl rfl rfl rfl rfl rfl rfl rfl rfl (by decide) rfl rfl rfl rfl rfl ?_
          refine walk ?_
          cases e9 : (x.bounds == y.bounds) with
          | false =>
           refine walk ?_
           exact k'3 trivial (by decide) rfl rfl rfl rfl rfl
          | true =>
           refine walk ?_
           refine k'6 [] (c_exs) rfl rfl rfl rfl rfl rfl rfl rfl rfl (by decide) rfl rfl rfl rfl rfl ?_
           refine walk ?_
           cases e10 : (Em.eqs x.exs y.exs) with
           | false =>
            refine walk ?_
            exact k'3 trivial (by decide) rfl rfl rfl rfl rfl
           | true =>
            refine walk ?_
            refine k'6 [] (c_attrs) rfl rfl rfl rfl rfl rfl rfl rfl rfl (by decide) rfl rfl rfl rfl rfl ?_
            refine walk ?_
            exact k'3 trivial (by decide) rfl rfl rfl rfl rfl
theorem EqF_Hi_calls (f : Nat) (z w : Bool) (xs ys : List D) (r : Nat → Bool) (hl : xs.length < 9223372036854775807) (hx : ∀ x ∈ xs, HiSh x) (hy : ∀ x ∈ ys, HiSh x)
  (hf : ∀ (i : Nat) x y, xs[i]? = some x → ys[i]? = some y → CallsA (cx B) f [.d x, .d y] [] (.d (.bool (r i))) []) :
  CallsA (cx B) 87 [.d (.sl z xs), .d (.sl w ys), .d (.fn f [])] [] (.d (.bool (xs.length == ys.length && (List.range xs.length).all r))) [] := by
 refine k'2 (X := cx B) (fn := Tryz.f87) Tryz.func87 rfl rfl rfl rfl rfl 0 [] rfl rfl ?_
 refine walk ?_
 by_cases hlen : xs.length = ys.length
 ·rw [show ((xs.length : Int) != (ys.length : Int)) = false by rw [hlen]; simp, show (xs.length == ys.length) = true by simp [hlen]]
  simp only [Bool.true_and]
  refine walk ?_
  refine k'c (fun i : Nat => xs.length - i) (fun i => [(1, .d (.sl w ys)), (2, .d (.fn f [])), (15, .d (.sl z xs)), (16, iT xs.length), (17, iT i)]) (fun _ => []) (fun i => i ≤ xs.length ∧ (List.range i).all r = true) 0 ⟨by omega, rfl⟩ ⟨rfl, rfl, rfl, rfl, rfl, trivial⟩ rfl 0 rfl (fun _ => rfl) (fun _ => rfl) (fun _ => rfl) ?_
  rintro i ⟨i1, i2⟩
  refine walk ?_
  refine k'f rfl (fun hd => ?_) (fun hd => ?_)
  ·have hlt : i < xs.length := by have := of_decide_eq_true hd; omega
   obtain ⟨x, hxi⟩ : ∃ x, xs[i]? = some x := ⟨_, List.getElem?_eq_getElem hlt⟩
   obtain ⟨y, hyi⟩ : ∃ y, ys[i]? = some y := ⟨_, List.getElem?_eq_getElem (by omega)⟩
   have hc := hf i x y hxi hyi
   obtain ⟨a0, a1, a2, a3, a4, a5, a6, a7, a8, a9, a10, a11, a12, a13, a14, a15, a16, a17, a18, rfl⟩ := hx x (List.mem_of_getElem? hxi)
   obtain ⟨b0, b1, b2, b3, b4, b5, b6, b7, b8, b9, b10, b11, b12, b13, b14, b15, b16, b17, b18, rfl⟩ := hy y (List.mem_of_getElem? hyi)
   have hin : (List.range xs.length).all r = true → r i = true := fun h => List.all_eq_true.1 h i (List.mem_range.2 hlt)
   refine walk ?_
   refine k'4 (.indexAddr (k := .i64) (n := i) (es := xs) rfl rfl rfl rfl (.inl ⟨_, rfl⟩) rfl (by omega) (by simpa using hxi) rfl (by decide)) rfl rfl ?_
   refine walk ?_
   refine k'4 (.indexAddr (k := .i64) (n := i) (es := ys) rfl rfl rfl rfl (.inl ⟨_, rfl⟩) rfl (by omega) (by simpa using hyi) rfl (by decide)) rfl rfl ?_
   refine walk ?_
   refine k'1 [] (hc) rfl rfl rfl rfl rfl rfl rfl (by decide) rfl rfl rfl rfl rfl ?_
   refine walk ?_
   cases hr : r i with
   | false =>
    rw [show (List.range xs.length).all r = false by cases hh : (List.range xs.length).all r with | false => rfl | true => rw [hin hh] at hr; simp at hr]
    refine walk ?_
    exact k'3 trivial (by decide) rfl rfl rfl rfl rfl
   | true =>
    refine walk ?_
    rw [show IntKind.i64.wrap ((i : Int) + 1) = ((i + 1 : Nat) : Int) by rw [wrapI (by omega) (by omega)]; omega]
    exact ⟨i + 1, by omega, ⟨by omega, by rw [List.range_succ, List.all_append, i2]; simp [hr]⟩, ⟨rfl, rfl, rfl, rfl, rfl, trivial⟩, rfl, k's rfl⟩
  ·have hge : i = xs.length := by have := of_decide_eq_false hd; omega
   subst hge
   rw [i2]
   refine walk ?_
   exact k'3 trivial (by decide) rfl rfl rfl rfl rfl
 ·rw [show ((xs.length : Int) != (ys.length : Int)) = true by simp; omega, show (xs.length == ys.length) = false by simp [hlen]]
  refine walk ?_
  exact k'3 trivial (by decide) rfl rfl rfl rfl rfl
theorem EqF_Hi_R {a b : List Hi} {xs ys : List D} (z w : Bool) (hb : (a.map Hi.sz).sum < big) (h1 : RsOf Hi.R a xs) (h2 : RsOf Hi.R b ys) : CallsA (cx B) 87 [.d (.sl z xs), .d (.sl w ys), .d (.fn 88 [])] [] (.d (.bool (Hi.eqs a b))) [] := by
 have hla := sum_ge (sz := Hi.sz) (fun x => by unfold Hi.sz; omega) a
 have h := EqF_Hi_calls B 88 z w xs ys (byI Hi.eq a b) (by rw [h1.1]; unfold big at hb; omega) (Hi.Rs_sh h1) (Hi.Rs_sh h2) (fun i x y hx hy => by
  obtain ⟨v, hv, r1⟩ := h1.at hx
  obtain ⟨u, hu, r2⟩ := h2.at hy
  have hm := k'y (sz := Hi.sz) (List.mem_of_getElem? hv)
  have e : byI Hi.eq a b i = v.eq u := by unfold byI; rw [hv, hu]
  rw [e]
  exact Hi_Same_calls B v u x y (by omega) r1 r2)
 rw [h1.1, h2.1, ← Hi.eqs_by] at h
 exact h
theorem Hi_May_calls (x : Hi) (xa : D) (d : Int) (hbig : x.sz < big) (hx : x.R xa) (hd1 : -9223372036854775808 ≤ d) (hd2 : d < 9223372036854775808) : CallsA (cx B) 167 [.d xa, .d (.int .i64 d)] [] (.d (.bool (x.may d))) [] := by
 obtain ⟨z_attrs, l_attrs, z_counts, z_bounds, z_exs, l_exs, rfl, r_attrs, r_exs⟩ := hx
 unfold Hi.sz at hbig
 unfold Hi.may
 by_cases hd0 : 0 ≤ d
 rotate_left
 ·rw [show decide (0 ≤ d) = false from decide_eq_false hd0]
  refine k'2 (X := cx B) (fn := Tryz.f167) Tryz.func167 rfl rfl rfl rfl rfl 0 [] rfl rfl ?_
  refine walk ?_
  rw [show decide (d ≥ 0) = false from decide_eq_false hd0]
  refine walk ?_
  exact k'3 trivial (by decide) rfl rfl rfl rfl rfl
 have c_u := k'13 B 201 tbH (tbH_calls B) x.u d (by omega) (by omega) hd2
 have c_opts := MayOpt3_calls B x.sumH x.sum x.minH x.min x.maxH x.max
 have c_exs := All_Em_R B (a := x.exs) z_exs d (by omega) hd0 hd2 r_exs
 have c_attrs := k'1d B (a := x.attrs) z_attrs (d - 1) (by omega) (by omega) (by omega) r_attrs
 refine k'2 (X := cx B) (fn := Tryz.f167) Tryz.func167 rfl rfl rfl rfl rfl 0 [] rfl rfl ?_
 refine walk ?_
 rw [show decide (d ≥ 0) = decide (0 ≤ d) from rfl]
 cases e0 : (decide (0 ≤ d)) with
 | false =>
  refine walk ?_
  exact k'3 trivial (by decide) rfl rfl rfl rfl rfl
 | true =>
  refine walk ?_
  (first | refine k'1f (.buildSlice (es := [.agg [.bool x.sumH, .int .u64 x.sum], .agg [.bool x.minH, .int .u64 x.min], .agg [.bool x.maxH, .int .u64 x.max]]) rfl rfl rfl rfl rfl rfl (by intro x hx; simp at hx; rcases hx with rfl | rfl | rfl <;> rfl) (by simp) (by decide) (by decide)) rfl rfl rfl rfl ?_ | refine k'4 (.buildSlice (es := [.agg [.bool x.sumH, .int .u64 x.sum], .agg [.bool x.minH, .int .u64 x.min], .agg [.bool x.maxH, .int .u64 x.max]]) rfl rfl rfl rfl rfl rfl (by intro x hx; simp at hx; rcases hx with rfl | rfl | rfl <;> rfl) (by simp) (by decide) (by decide)) rfl rfl ?_)
  refine walk ?_
  refine k'6 [] (c_opts) rfl rfl rfl rfl rfl rfl rfl rfl rfl (by decide) rfl rfl rfl rfl rfl ?_
  refine walk ?_
  cases e1 : (mayOpt x.sumH x.sum && mayOpt x.minH x.min && mayOpt x.maxH x.max) with
  | false =>
   refine walk ?_
   exact k'3 trivial (by decide) rfl rfl rfl rfl rfl
  | true =>
   refine walk ?_
   refine k'6 [] (c_exs) rfl rfl rfl rfl rfl rfl rfl rfl rfl (by decide) rfl rfl rfl rfl rfl ?_
   refine walk ?_
   cases e2 : (x.exs.all fun k => k.may (d - 1)) with
   | false =>
    refine walk ?_
    exact k'3 trivial (by decide) rfl rfl rfl rfl rfl
   | true =>
    refine walk ?_
    rw [k'd 1 (by omega) (by omega) (by omega) hd2]
    refine k'6 [] (c_attrs) rfl rfl rfl rfl rfl rfl rfl rfl rfl (by decide) rfl rfl rfl rfl rfl ?_
    refine walk ?_
    cases e3 : (x.attrs.all fun k => k.may (d - 1)) with
    | false =>
     refine walk ?_
     exact k'3 trivial (by decide) rfl rfl rfl rfl rfl
    | true =>
     refine walk ?_
     refine k'6 [] (c_u) rfl rfl rfl rfl rfl rfl rfl rfl rfl (by decide) rfl rfl rfl rfl rfl ?_
     refine walk ?_
     exact k'3 trivial (by decide) rfl rfl rfl rfl rfl
theorem IndexF_Hi_calls (f : Nat) (cap : List D) (z : Bool) (xs : List D) (q : Nat → Bool) (hl : xs.length < 9223372036854775807) (hx : ∀ x ∈ xs, HiSh x)
  (hf : ∀ (i : Nat) x, xs[i]? = some x → CallsA (cx B) f ([.d x] ++ cap.map T.d) [] (.d (.bool (q i))) []) :
  CallsA (cx B) 320 [.d (.sl z xs), .d (.fn f cap)] [] (.d (.int .i64 (idxF q xs.length))) [] := by
 refine k'2 (X := cx B) (fn := Tryz.f320) Tryz.func320 rfl rfl rfl rfl rfl 0 [] rfl rfl ?_
 refine walk ?_
 refine k'c (fun i : Nat => xs.length - i) (fun i => [(0, .d (.sl z xs)), (1, .d (.fn f cap)), (7, iT xs.length), (8, iT i)]) (fun _ => []) (fun i => i ≤ xs.length ∧ ∀ j < i, q j = false) 0 ⟨by omega, fun j hj => by omega⟩ ⟨rfl, rfl, rfl, rfl, trivial⟩ rfl 0 rfl (fun _ => rfl) (fun _ => rfl) (fun _ => rfl) ?_
 rintro i ⟨i1, i2⟩
 refine walk ?_
 refine k'f rfl (fun hd => ?_) (fun hd => ?_)
 ·have hlt : i < xs.length := by have := of_decide_eq_true hd; omega
  obtain ⟨x, hxi⟩ : ∃ x, xs[i]? = some x := ⟨_, List.getElem?_eq_getElem hlt⟩
  have hc := hf i x hxi
  obtain ⟨a0, a1, a2, a3, a4, a5, a6, a7, a8, a9, a10, a11, a12, a13, a14, a15, a16, a17, a18, rfl⟩ := hx x (List.mem_of_getElem? hxi)
  refine walk ?_
  refine k'4 (.indexAddr (k := .i64) (n := i) (es := xs) rfl rfl rfl rfl (.inl ⟨_, rfl⟩) rfl (by omega) (by simpa using hxi) rfl (by decide)) rfl rfl ?_
  refine walk ?_
  refine k'1 [] (hc) rfl rfl rfl rfl rfl rfl rfl (by decide) rfl rfl rfl rfl rfl ?_
  refine walk ?_
  cases hr : q i with
  | true =>
   rw [idx_hit hlt hr i2]
   refine walk ?_
   exact k'3 trivial (by decide) rfl rfl rfl rfl rfl
  | false =>
   refine walk ?_
   rw [show IntKind.i64.wrap ((i : Int) + 1) = ((i + 1 : Nat) : Int) by rw [wrapI (by omega) (by omega)]; omega]
   exact ⟨i + 1, by omega, ⟨by omega, fun j hj => by
    rcases Nat.lt_or_ge j i with h | h
    ·exact i2 j h
    ·rw [show j = i by omega]; exact hr⟩, ⟨rfl, rfl, rfl, rfl, trivial⟩, rfl, k's rfl⟩
 ·have hge : i = xs.length := by have := of_decide_eq_false hd; omega
  subst hge
  rw [k'3f i2]
  refine walk ?_
  exact k'3 trivial (by decide) rfl rfl rfl rfl rfl
theorem All_Hi_calls (f : Nat) (z : Bool) (xs : List D) (d : Int) (r : Nat → Bool) (hl : xs.length < 9223372036854775807) (hd1 : -9223372036854775000 ≤ d) (hd2 : d < 9223372036854775808) (hx : ∀ x ∈ xs, HiSh x)
  (hf : ∀ (i : Nat) x, xs[i]? = some x → CallsA (cx B) f [.d x, .d (.int .i64 (d - 1))] [] (.d (.bool (r i))) []) :
  CallsA (cx B) 166 [.d (.sl z xs), .d (.int .i64 d), .d (.fn f [])] [] (.d (.bool ((List.range xs.length).all r))) [] := by
 have h0 : ∀ (i : Nat) x, xs[i]? = some x → CallsA (cx B) 259 ([.d x] ++ [.box [.fn f []], .box [.int .i64 d]].map T.d) [] (.d (.bool (!r i))) [] := fun i x hxi => by
  have hc := hf i x hxi
  obtain ⟨a0, a1, a2, a3, a4, a5, a6, a7, a8, a9, a10, a11, a12, a13, a14, a15, a16, a17, a18, rfl⟩ := hx x (List.mem_of_getElem? hxi)
  refine k'2 (X := cx B) (fn := Tryz.f259) Tryz.func259 rfl rfl rfl rfl rfl 0 [] rfl rfl ?_
  refine walk ?_
  rw [k'd 1 (by omega) (by omega) hd1 hd2]
  refine k'1 [] (hc) rfl rfl rfl rfl rfl rfl rfl (by decide) rfl rfl rfl rfl rfl ?_
  refine walk ?_
  exact k'3 trivial (by decide) rfl rfl rfl rfl rfl
 have h1 := IndexF_Hi_calls B 259 [.box [.fn f []], .box [.int .i64 d]] z xs (fun i => !r i) hl hx h0
 have h2 : CallsA (cx B) 258 [.d (.sl z xs), .d (.fn 259 [.box [.fn f []], .box [.int .i64 d]])] [] (.d (.bool (!(List.range xs.length).all r))) [] := by
  refine k'2 (X := cx B) (fn := Tryz.f258) Tryz.func258 rfl rfl rfl rfl rfl 0 [] rfl rfl ?_
  refine walk ?_
  refine k'1 [] (h1) rfl rfl rfl rfl rfl rfl rfl (by decide) rfl rfl rfl rfl rfl ?_
  refine walk ?_
  rw [idx_all]
  exact k'3 trivial (by decide) rfl rfl rfl rfl rfl
 refine k'2 (X := cx B) (fn := Tryz.f166) Tryz.func166 rfl rfl rfl rfl rfl 0 [] rfl rfl ?_
 refine walk ?_
 refine k'4 (closure2 rfl rfl rfl (by simp) rfl rfl rfl rfl) rfl rfl ?_
 refine k'1 [] (h2) rfl rfl rfl rfl rfl rfl rfl (by decide) rfl rfl rfl rfl rfl ?_
 refine walk ?_
 rw [Bool.not_not]
 exact k'3 trivial (by decide) rfl rfl rfl rfl rfl
theorem All_Hi_R {a : List Hi} {xs : List D} (z : Bool) (d : Int) (hb : (a.map Hi.sz).sum < big) (hd1 : 0 ≤ d) (hd2 : d < 9223372036854775808) (h1 : RsOf Hi.R a xs) : CallsA (cx B) 166 [.d (.sl z xs), .d (.int .i64 d), .d (.fn 167 [])] [] (.d (.bool (a.all fun k => k.may (d - 1)))) [] := by
 have hla := sum_ge (sz := Hi.sz) (fun x => by unfold Hi.sz; omega) a
 have h := All_Hi_calls B 167 z xs d (atB (fun k => k.may (d - 1)) a) (by rw [h1.1]; unfold big at hb; omega) (by omega) hd2 (Hi.Rs_sh h1) (fun i x hx => by
  obtain ⟨v, hv, r1⟩ := h1.at hx
  have hm := k'y (sz := Hi.sz) (List.mem_of_getElem? hv)
  have e : atB (fun k : Hi => k.may (d - 1)) a i = v.may (d - 1) := by unfold atB; rw [hv]
  rw [e]
  exact Hi_May_calls B v x (d - 1) (by omega) r1 (by omega) (by omega))
 rw [h1.1, ← atB_all] at h
 exact h
theorem Hi_Marshal_calls (x : Hi) (xa : D) (d : Int) (hbig : x.sz < big) (hwf : x.wf) (hx : x.R xa) (hd1 : -9223372036854775808 ≤ d) (hd2 : d < 9223372036854775808) : CallsA (cx B) 127 [.d xa, .d (.int .i64 d)] [] (if x.may d then .tup [sT x.mar, .d .nili] else .tup [sT [], .d (Er.code 8).d]) [] := by
 have hm := Hi_May_calls B x xa d hbig hx hd1 hd2
 have hlen := Hi.mar_len x
 have hlen : x.mar.length < big := by omega
 obtain ⟨z_attrs, l_attrs, z_counts, z_bounds, z_exs, l_exs, rfl, r_attrs, r_exs⟩ := hx
 unfold Hi.sz at hbig
 cases hc : x.may d with
 | false =>
  rw [hc] at hm
  refine k'2 (X := cx B) (fn := Tryz.f127) Tryz.func127 rfl rfl rfl rfl rfl 0 [] rfl rfl ?_
  refine walk ?_
  refine k'1 [] (hm) rfl rfl rfl rfl rfl rfl rfl (by decide) rfl rfl rfl rfl rfl ?_
  refine walk ?_
  exact k'3 trivial (by decide) rfl rfl rfl rfl rfl
 | true =>
  rw [hc] at hm
  have hc' := hc
  unfold Hi.may at hc'
  simp only [Bool.and_eq_true, decide_eq_true_eq] at hc'
  obtain ⟨⟨⟨⟨hd, ⟨⟨m_sum, m_min⟩, m_max⟩⟩, m_exs⟩, m_attrs⟩, hu⟩ := hc'
  obtain ⟨w_attrs, w_start, w_time, w_count, w_sum, w_min, w_max, w_counts, w_bounds, w_exs, w_flags⟩ := hwf
  unfold Hi.mar Hi.hb at hlen ⊢
  obtain ⟨a0, ha0, c0⟩ := k'z B 2 x.start (by omega) (by omega) (.nw 102 2) [] k'2d (by simp only [List.length_append, List.length_nil] at hlen ⊢; omega)
  rw [List.nil_append] at c0
  obtain ⟨a1, ha1, c1⟩ := k'z B 3 x.time (by omega) (by omega) (a0) (fxV 2 x.start) ha0 (by simp only [List.length_append, List.length_nil] at hlen ⊢; omega)
  obtain ⟨a2, ha2, c2⟩ := k'z B 4 x.count (by omega) (by omega) (a1) (fxV 2 x.start ++ fxV 3 x.time) ha1 (by simp only [List.length_append, List.length_nil] at hlen ⊢; omega)
  obtain ⟨a3, ha3, c3⟩ := wr_opt B x.sumH 5 x.sum (by omega) (by omega) (a2) (fxV 2 x.start ++ fxV 3 x.time ++ fxV 4 x.count) ha2 (by simp only [List.length_append, List.length_nil] at hlen ⊢; omega)
  obtain ⟨a4, ha4, c4⟩ := wr_fixeds B z_counts 6 x.counts (by omega) (by omega) (by unfold big at hbig; omega) (a3) (fxV 2 x.start ++ fxV 3 x.time ++ fxV 4 x.count ++ opV 5 x.sumH x.sum) ha3 (by simp only [List.length_append, List.length_nil] at hlen ⊢; omega)
  obtain ⟨a5, ha5, c5⟩ := wr_fixeds B z_bounds 7 x.bounds (by omega) (by omega) (by unfold big at hbig; omega) (a4) (fxV 2 x.start ++ fxV 3 x.time ++ fxV 4 x.count ++ opV 5 x.sumH x.sum ++ pwV 6 x.counts) ha4 (by simp only [List.length_append, List.length_nil] at hlen ⊢; omega)
  obtain ⟨a6, ha6, c6⟩ := Parts_Em_R B 8 (by omega) (by omega) z_exs d (by omega) w_exs m_exs hd hd2 r_exs (a5) (fxV 2 x.start ++ fxV 3 x.time ++ fxV 4 x.count ++ opV 5 x.sumH x.sum ++ pwV 6 x.counts ++ pwV 7 x.bounds) ha5 (by simp only [List.length_append, List.length_nil] at hlen ⊢; omega)
  obtain ⟨a7, ha7, c7⟩ := k'2i B 9 (by omega) (by omega) z_attrs d (by omega) w_attrs m_attrs hd hd2 r_attrs (a6) (fxV 2 x.start ++ fxV 3 x.time ++ fxV 4 x.count ++ opV 5 x.sumH x.sum ++ pwV 6 x.counts ++ pwV 7 x.bounds ++ psV 8 (x.exs.map Em.mar)) ha6 (by simp only [List.length_append, List.length_nil] at hlen ⊢; omega)
  obtain ⟨a8, ha8, c8⟩ := wr_var B 10 x.flags (by omega) (by omega) (by omega) (a7) (fxV 2 x.start ++ fxV 3 x.time ++ fxV 4 x.count ++ opV 5 x.sumH x.sum ++ pwV 6 x.counts ++ pwV 7 x.bounds ++ psV 8 (x.exs.map Em.mar) ++ psV 9 (Kv.mars x.attrs)) ha7 (by simp only [List.length_append, List.length_nil] at hlen ⊢; omega)
  obtain ⟨a9, ha9, c9⟩ := wr_opt B x.minH 11 x.min (by omega) (by omega) (a8) (fxV 2 x.start ++ fxV 3 x.time ++ fxV 4 x.count ++ opV 5 x.sumH x.sum ++ pwV 6 x.counts ++ pwV 7 x.bounds ++ psV 8 (x.exs.map Em.mar) ++ psV 9 (Kv.mars x.attrs) ++ vrV 10 x.flags) ha8 (by simp only [List.length_append, List.length_nil] at hlen ⊢; omega)
  obtain ⟨a10, ha10, c10⟩ := wr_opt B x.maxH 12 x.max (by omega) (by omega) (a9) (fxV 2 x.start ++ fxV 3 x.time ++ fxV 4 x.count ++ opV 5 x.sumH x.sum ++ pwV 6 x.counts ++ pwV 7 x.bounds ++ psV 8 (x.exs.map Em.mar) ++ psV 9 (Kv.mars x.attrs) ++ vrV 10 x.flags ++ opV 11 x.minH x.min) ha9 (by simp only [List.length_append, List.length_nil] at hlen ⊢; omega)
  obtain ⟨cu, cs⟩ := k'29 B (s := x.u) ha10 (l := fxV 2 x.start ++ fxV 3 x.time ++ fxV 4 x.count ++ opV 5 x.sumH x.sum ++ pwV 6 x.counts ++ pwV 7 x.bounds ++ psV 8 (x.exs.map Em.mar) ++ psV 9 (Kv.mars x.attrs) ++ vrV 10 x.flags ++ opV 11 x.minH x.min ++ opV 12 x.maxH x.max) (by simp only [List.length_append] at hlen ⊢; omega)
  generalize fxV 2 x.start ++ fxV 3 x.time ++ fxV 4 x.count ++ opV 5 x.sumH x.sum ++ pwV 6 x.counts ++ pwV 7 x.bounds ++ psV 8 (x.exs.map Em.mar) ++ psV 9 (Kv.mars x.attrs) ++ vrV 10 x.flags ++ opV 11 x.minH x.min ++ opV 12 x.maxH x.max = o10 at c10 cu cs ⊢
  generalize fxV 2 x.start ++ fxV 3 x.time ++ fxV 4 x.count ++ opV 5 x.sumH x.sum ++ pwV 6 x.counts ++ pwV 7 x.bounds ++ psV 8 (x.exs.map Em.mar) ++ psV 9 (Kv.mars x.attrs) ++ vrV 10 x.flags ++ opV 11 x.minH x.min = o9 at c9 c10
  generalize fxV 2 x.start ++ fxV 3 x.time ++ fxV 4 x.count ++ opV 5 x.sumH x.sum ++ pwV 6 x.counts ++ pwV 7 x.bounds ++ psV 8 (x.exs.map Em.mar) ++ psV 9 (Kv.mars x.attrs) ++ vrV 10 x.flags = o8 at c8 c9
  generalize fxV 2 x.start ++ fxV 3 x.time ++ fxV 4 x.count ++ opV 5 x.sumH x.sum ++ pwV 6 x.counts ++ pwV 7 x.bounds ++ psV 8 (x.exs.map Em.mar) ++ psV 9 (Kv.mars x.attrs) = o7 at c7 c8
  generalize fxV 2 x.start ++ fxV 3 x.time ++ fxV 4 x.count ++ opV 5 x.sumH x.sum ++ pwV 6 x.counts ++ pwV 7 x.bounds ++ psV 8 (x.exs.map Em.mar) = o6 at c6 c7
  generalize fxV 2 x.start ++ fxV 3 x.time ++ fxV 4 x.count ++ opV 5 x.sumH x.sum ++ pwV 6 x.counts ++ pwV 7 x.bounds = o5 at c5 c6
  generalize fxV 2 x.start ++ fxV 3 x.time ++ fxV 4 x.count ++ opV 5 x.sumH x.sum ++ pwV 6 x.counts = o4 at c4 c5
  generalize fxV 2 x.start ++ fxV 3 x.time ++ fxV 4 x.count ++ opV 5 x.sumH x.sum = o3 at c3 c4
  generalize fxV 2 x.start ++ fxV 3 x.time ++ fxV 4 x.count = o2 at c2 c3
  generalize fxV 2 x.start ++ fxV 3 x.time = o1 at c1 c2
  generalize fxV 2 x.start = o0 at c0 c1
  refine k'2 (X := cx B) (fn := Tryz.f127) Tryz.func127 rfl rfl rfl rfl rfl 0 [] rfl rfl ?_
  refine walk ?_
  refine k'1 [] (hm) rfl rfl rfl rfl rfl rfl rfl (by decide) rfl rfl rfl rfl rfl ?_
  refine walk ?_
  refine k'1 [1] (c0) rfl rfl rfl rfl rfl rfl rfl (by decide) (by simp [k'0 k'2d]) (by simp [k'0 ha0]) rfl rfl rfl ?_
  refine walk ?_
  refine k'1 [1] (c1) rfl rfl rfl rfl rfl rfl rfl (by decide) (by simp [k'0 ha0]) (by simp [k'0 ha1]) rfl rfl rfl ?_
  refine walk ?_
  refine k'1 [1] (c2) rfl rfl rfl rfl rfl rfl rfl (by decide) (by simp [k'0 ha1]) (by simp [k'0 ha2]) rfl rfl rfl ?_
  refine walk ?_
  refine k'1 [1] (c3) rfl rfl rfl rfl rfl rfl rfl (by decide) (by simp [k'0 ha2]) (by simp [k'0 ha3]) rfl rfl rfl ?_
  refine walk ?_
  refine k'1 [1] (c4) rfl rfl rfl rfl rfl rfl rfl (by decide) (by simp [k'0 ha3]) (by simp [k'0 ha4]) rfl rfl rfl ?_
  refine walk ?_
  refine k'1 [1] (c5) rfl rfl rfl rfl rfl rfl rfl (by decide) (by simp [k'0 ha4]) (by simp [k'0 ha5]) rfl rfl rfl ?_
  refine walk ?_
  refine k'1 [1] (c6) rfl rfl rfl rfl rfl rfl rfl (by decide) (by simp [k'0 ha5]) (by simp [k'0 ha6]) rfl rfl rfl ?_
  refine walk ?_
  refine k'1 [1] (c7) rfl rfl rfl rfl rfl rfl rfl (by decide) (by simp [k'0 ha6]) (by simp [k'0 ha7]) rfl rfl rfl ?_
  refine walk ?_
  rw [show IntKind.u64.wrap (x.flags : Int) = (x.flags : Int) by rw [IntKind.wrap_u64]; omega]
  refine k'1 [1] (c8) rfl rfl rfl rfl rfl rfl rfl (by decide) (by simp [k'0 ha7]) (by simp [k'0 ha8]) rfl rfl rfl ?_
  refine walk ?_
  refine k'1 [1] (c9) rfl rfl rfl rfl rfl rfl rfl (by decide) (by simp [k'0 ha8]) (by simp [k'0 ha9]) rfl rfl rfl ?_
  refine walk ?_
  refine k'1 [1] (c10) rfl rfl rfl rfl rfl rfl rfl (by decide) (by simp [k'0 ha9]) (by simp [k'0 ha10]) rfl rfl rfl ?_
  refine walk ?_
  refine k'1 [1] (cu) rfl rfl rfl rfl rfl rfl rfl (by decide) (by simp [k'0 ha10]) (by simp [k'0 (.inl rfl)]) rfl rfl rfl ?_
  refine walk ?_
  refine k'1 [1] (cs) rfl rfl rfl rfl rfl rfl rfl (by decide) (by simp [k'0 (.inl rfl)]) rfl rfl rfl rfl ?_
  refine walk ?_
  exact k'3 trivial (by decide) rfl rfl rfl rfl rfl
theorem Parts_Hi_wr (n : Nat) (h1 : 1 ≤ n) (h2 : n ≤ 536870911) (d : Int) (hd1 : -9223372036854775000 ≤ d) (hd2 : d < 9223372036854775808) (f : Nat) (z : Bool) (xs : List D) (ms : List (List UInt8)) (hlen : ms.length = xs.length) (hx : ∀ x ∈ xs, HiSh x)
  (hf : ∀ (i : Nat) x s, xs[i]? = some x → ms[i]? = some s → CallsA (cx B) f [.d x, .d (.int .i64 (d - 1))] [] (.tup [sT s, .d .nili]) []) :
  Wr B 126 [iT n, .d (.sl z xs), .d (.int .i64 d), .d (.fn f [])] (psV n ms) := by
 intro a l ha hl
 have hpl := k'1j n ms
 have hb : ms.length < 34359738368 := by unfold big at hl; omega
 refine ⟨if ms.length = 0 then a else .me, ad_if ha, ?_⟩
 refine k'2 (X := cx B) (fn := Tryz.f126) Tryz.func126 rfl rfl rfl rfl rfl 1 [] rfl rfl ?_
 refine walk ?_
 refine k'c (fun i : Nat => xs.length - i) (fun i => [(0, .ptr 0 0), (1, iT n), (3, .d (.int .i64 d)), (4, .d (.fn f [])), (14, .d (.sl z xs)), (15, iT xs.length), (16, iT i)]) (fun i => [.mu [if i = 0 then a else .me, bT (l ++ psV n (ms.take i))]]) (fun i => i ≤ xs.length) 0 (by omega) ⟨rfl, rfl, rfl, rfl, rfl, rfl, rfl, trivial⟩ (by simp [psV]) 1 rfl (fun _ => rfl) (fun i => by
  have : adOk (if i = 0 then a else .me) := ad_if ha
  simp [k'0 this]) (fun _ => rfl) ?_
 intro i i1
 have ha2 : adOk (if i = 0 then a else .me) := ad_if ha
 refine walk ?_
 refine k'f rfl (fun hd => ?_) (fun hd => ?_)
 ·have hlt : i < xs.length := by have := of_decide_eq_true hd; omega
  obtain ⟨x, hxi⟩ : ∃ x, xs[i]? = some x := ⟨_, List.getElem?_eq_getElem hlt⟩
  obtain ⟨s, hsi⟩ : ∃ s, ms[i]? = some s := ⟨_, List.getElem?_eq_getElem (by omega)⟩
  have hc := hf i x s hxi hsi
  obtain ⟨a0, a1, a2, a3, a4, a5, a6, a7, a8, a9, a10, a11, a12, a13, a14, a15, a16, a17, a18, rfl⟩ := hx x (List.mem_of_getElem? hxi)
  have hsp := k'2f n hsi
  have h3 := k'14 B _ (l ++ psV n (ms.take i)) n s ha2 h1 h2 (by simp; omega)
  rw [List.append_assoc, show psV n (ms.take i) ++ (tagV n 2 ++ (putV s.length ++ s)) = psV n (ms.take (i + 1)) by rw [List.take_add_one, hsi]; simp [psV, paV]] at h3
  refine walk ?_
  refine k'4 (.indexAddr (k := .i64) (n := i) (es := xs) rfl rfl rfl rfl (.inl ⟨_, rfl⟩) rfl (by omega) (by simpa using hxi) rfl (by decide)) rfl rfl ?_
  refine walk ?_
  rw [k'd 1 (by omega) (by omega) hd1 hd2]
  refine k'1 [] (hc) rfl rfl rfl rfl rfl rfl rfl (by decide) rfl rfl rfl rfl rfl ?_
  refine walk ?_
  refine k'1 [0] (h3) rfl rfl rfl rfl rfl rfl rfl (by decide) (by simp [k'0 ha2]) (by simp [k'0 (.inl rfl)]) rfl rfl rfl ?_
  refine walk ?_
  rw [show IntKind.i64.wrap ((i : Int) + 1) = ((i + 1 : Nat) : Int) by rw [wrapI (by omega) (by omega)]; omega]
  exact ⟨i + 1, by omega, by omega, ⟨rfl, rfl, rfl, rfl, rfl, rfl, rfl, trivial⟩, by simp [k'0 (.inl rfl)], k's (by simp)⟩
 ·have hge : i = xs.length := by have := of_decide_eq_false hd; omega
  subst hge
  rw [show ms.take xs.length = ms by rw [← hlen, List.take_length], hlen]
  generalize (if xs.length = 0 then a else .me) = aa at ha2 ⊢
  refine walk ?_
  exact k'3 trivial (by decide) rfl rfl rfl rfl (by simp [k'0 ha2])
theorem Parts_Hi_R {a : List Hi} {xs : List D} (n : Nat) (h1 : 1 ≤ n) (h2 : n ≤ 536870911) (z : Bool) (d : Int) (hb : (a.map Hi.sz).sum < big) (hw : ∀ k ∈ a, k.wf) (hm : (a.all fun k => k.may (d - 1)) = true) (hd1 : 0 ≤ d) (hd2 : d < 9223372036854775808) (hR : RsOf Hi.R a xs) :
  Wr B 126 [iT n, .d (.sl z xs), .d (.int .i64 d), .d (.fn 127 [])] (psV n (a.map Hi.mar)) :=
 Parts_Hi_wr B n h1 h2 d (by omega) hd2 127 z xs (a.map Hi.mar) (by rw [List.length_map, hR.1]) (Hi.Rs_sh hR) fun i x s hx hs => by
  obtain ⟨v, hv, r⟩ := hR.at hx
  rw [List.getElem?_map, hv] at hs
  injection hs with hs; subst hs
  have hmem := List.mem_of_getElem? hv
  have := k'y (sz := Hi.sz) hmem
  have h3 := Hi_Marshal_calls B v x (d - 1) (by omega) (hw v hmem) r (by omega) (by omega)
  rw [if_pos (List.all_eq_true.1 hm v hmem)] at h3
  exact h3
theorem Hi_fits (l : List Hi) : ∀ a ∈ l.map Hi.d, a.fits 15 = true := by
 intro a ha
 obtain ⟨c, -, rfl⟩ := List.mem_map.1 ha
 rfl
theorem part_Hi_calls (hB : BOk B) (f : Nat) (cap : List D) (x : Hi) (er : Option Er) (s : List UInt8) (e : Option Er) (u : List UInt8) (d n : Int) (l : List Fld) (num : Nat) (hd1 : -9223372036854775808 < d) (hd2 : d < 9223372036854775808)
  (hf : CallsA (cx B) f ([sT s, .d (.int .i64 (d - 1))] ++ cap.map T.d) [] (.tup [.d x.d, .d (eD er)]) []) :
  CallsA (cx B) 200 [.ptr 0 0, iT num, sT s, .d (.fn f cap)] [rO e u d n l] (.d x.d) [rO (failE n num e er) u d n l] := by
 have h2 := k'9 B hB e u d n l num er
 refine k'2 (X := cx B) (fn := Tryz.f200) Tryz.func200 rfl rfl rfl rfl rfl 1 [] rfl rfl ?_
 refine walk ?_
 rw [show IntKind.i64.wrap (d - 1) = d - 1 from wrapI (by omega) (by omega)]
 refine k'1 [] (hf) rfl rfl rfl rfl rfl rfl rfl (by decide) rfl rfl rfl rfl rfl ?_
 refine walk ?_
 refine k'1 [0] (h2) rfl rfl rfl rfl rfl rfl rfl (by decide) rfl rfl rfl rfl rfl ?_
 refine walk ?_
 exact k'3 trivial (by decide) rfl rfl rfl rfl rfl
theorem List_Hi_calls (hB : BOk B) (f : Nat) (cap : List D) (rd : List UInt8 → Hi × Option Er) (e : Option Er) (u : List UInt8) (d n : Int) (l : List Fld) (num : Nat) (hl : LOk l) (hd1 : anyL l num = true → -9223372036854775808 < d) (hd2 : d < 9223372036854775808)
  (hf : ∀ x ∈ l, x.num = num → CallsA (cx B) f ([sT x.s, .d (.int .i64 (d - 1))] ++ cap.map T.d) [] (.tup [.d (rd x.s).1.d, .d (eD (rd x.s).2)]) []) :
  CallsA (cx B) 108 [.ptr 0 0, iT num, .d (.fn f cap)] [rO e u d n l] (.d (slD ((listF rd n num l e).1.map Hi.d))) [rO (listF rd n num l e).2 u d n l] := by
 have hlen : (l.map Fld.d).length = l.length := by simp
 have hlb := hl.lenb
 unfold big at hlb
 refine k'2 (X := cx B) (fn := Tryz.f108) Tryz.func108 rfl rfl rfl rfl rfl 1 [] rfl rfl ?_
 refine walk ?_
 rw [hlen]
 refine k'c (fun i : Nat => l.length - i) (fun i => [(0, .ptr 0 0), (1, iT num), (2, .d (.fn f cap)), (7, owT ((listF rd n num (l.take i) e).1.map Hi.d)), (13, .d (slD (l.map Fld.d))), (14, iT l.length), (15, iT i)])
  (fun i => [rO (listF rd n num (l.take i) e).2 u d n l]) (fun i => i ≤ l.length) 0 (by omega) ⟨rfl, rfl, rfl, rfl, rfl, rfl, rfl, trivial⟩ rfl 1 rfl (fun _ => rfl) (fun _ => rfl) (fun _ => rfl) ?_
 intro i i1
 refine walk ?_
 refine k'f rfl (fun hc => ?_) (fun hc => ?_)
 ·have hlt : i < l.length := by have := of_decide_eq_true hc; omega
  obtain ⟨x, hx⟩ : ∃ x, l[i]? = some x := ⟨_, List.getElem?_eq_getElem hlt⟩
  have hdx : (l.map Fld.d)[i]? = some x.d := by rw [List.getElem?_map, hx]; rfl
  have htk : l.take (i + 1) = l.take i ++ [x] := by rw [List.take_add_one, hx]; rfl
  have hpl := k'21 rd n num (l.take i) e
  have hwi : IntKind.i64.wrap ((i : Int) + 1) = ((i + 1 : Nat) : Int) := by rw [wrapI (by omega) (by omega)]; omega
  have hst : listF rd n num (l.take (i + 1)) e = listStep rd n num (listF rd n num (l.take i) e) x := by rw [htk, k'1k]
  refine walk ?_
  refine k'4 (.indexAddr (k := .i64) (n := i) (es := l.map Fld.d) (u := x.d) rfl rfl rfl rfl (.inl ⟨_, rfl⟩) rfl (by omega) (by simpa using hdx) rfl (by decide)) rfl rfl ?_
  refine walk ?_
  generalize hP : listF rd n num (l.take i) e = st at *
  obtain ⟨a, e'⟩ := st
  dsimp only at *
  by_cases hn : x.num = num
  ·rw [show ((x.num : Int) == num) = true by rw [hn]; simp]
   have hs2 : listStep rd n num (a, e') x = (a ++ [(rd x.s).1], failE n num e' (rd x.s).2) := by unfold listStep; rw [if_pos hn]
   rw [hs2] at hst
   have h5 := part_Hi_calls B hB f cap (rd x.s).1 (rd x.s).2 x.s e' u d n l num (hd1 (List.any_eq_true.2 ⟨x, List.mem_of_getElem? hx, by simpa using hn⟩)) hd2 (hf x (List.mem_of_getElem? hx) hn)
   generalize (rd x.s).1 = y at *
   generalize (rd x.s).2 = er at *
   refine adm ?_
   (try refine k'19 rfl ?_)
   refine k'4 (.assignOwn (.inr rfl) rfl) rfl rfl ?_
   refine walk ?_
   refine k'1 [0] (h5) rfl rfl rfl rfl rfl rfl rfl (by decide) rfl rfl rfl rfl rfl ?_
   refine k'4 (.buildSlice (es := [y.d]) rfl rfl rfl rfl rfl rfl (by intro x hx; simp at hx; subst hx; rfl) (by simp) (by decide) (by decide)) rfl rfl ?_
   have hm : (a.map Hi.d).length + [y.d].length ≤ most := by simp [most] at *; omega
   refine k'4 (.append' rfl rfl rfl rfl ⟨_, _, rfl, rfl, by intro q; simp⟩ rfl rfl rfl rfl rfl (by rw [show [y.d] = [y].map Hi.d from rfl, ← List.map_append]; exact Hi_fits _) (by decide) rfl hm rfl) rfl rfl ?_
   refine k'4 (.assignOwn (.inl rfl) rfl) rfl rfl ?_
   refine walk ?_
   rw [hwi]
   refine ⟨i + 1, by omega, by omega, ?_, rfl, ?_⟩
   ·rw [hst]; exact ⟨rfl, rfl, rfl, by show T.own _ _ = owT _; rw [List.map_append]; rfl, rfl, rfl, rfl, trivial⟩
   ·rw [hst]; exact k's rfl
  ·rw [show ((x.num : Int) == num) = false by simp; omega]
   have hs2 : listStep rd n num (a, e') x = (a, e') := by unfold listStep; rw [if_neg hn]
   rw [hs2] at hst
   refine walk ?_
   rw [hwi]
   refine ⟨i + 1, by omega, by omega, ?_, rfl, ?_⟩
   ·rw [hst]; exact ⟨rfl, rfl, rfl, rfl, rfl, rfl, rfl, trivial⟩
   ·rw [hst]; exact k's rfl
 ·have hge : i = l.length := by have := of_decide_eq_false hc; omega
  subst hge
  rw [List.take_length]
  refine adm ?_
  (try refine k'19 rfl ?_)
  refine k'4 (.moveShare rfl rfl) rfl rfl ?_
  refine walk ?_
  exact k'3 trivial (by decide) rfl rfl rfl rfl rfl
theorem List_Hi_tells (hB : BOk B) {α : Type} (ok : List UInt8 → Option α) (sh : α → Hi) (z : Hi) (f : Nat) (cap : List D) (e : Option Er) (u : List UInt8) (d : Int) (n : Nat) (l : List Fld) (num : Nat) (hl : LOk l) (hd1 : anyL l num = true → -9223372036854775808 < d) (hd2 : d < 9223372036854775808)
  (h : ∀ x ∈ l, x.num = num → RdAt B f cap Hi.d sh (ok x.s) x.s (d - 1)) :
  ∃ vs e', CallsA (cx B) 108 [.ptr 0 0, iT num, .d (.fn f cap)] [rO e u d n l] (.d (slD (vs.map Hi.d))) [rO e' u d n l] ∧ Tells n e (partsO ok num l) (List.map sh) vs e' := by
 obtain ⟨rd, h1, h2⟩ := k'1z B z h
 exact ⟨_, _, List_Hi_calls B hB f cap rd e u d n l num hl hd1 hd2 h1, k'1c n num e h2⟩
theorem okHi_rd (s : List UInt8) (d : Int) : okHi s d = (match readE s d, partsO (fun s => okK s (d - 1)) 9 (knB tbH s d), packO fixs 6 (knB tbH s d), packO fixs 7 (knB tbH s d), partsO (fun s => okEm s (d - 1)) 8 (knB tbH s d) with
 | none, some attrs, some counts, some bounds, some exs => some ⟨attrs, (lastF (knB tbH s d) 2).n, (lastF (knB tbH s d) 3).n, (lastF (knB tbH s d) 4).n, (hasL (knB tbH s d) 5), (lastF (knB tbH s d) 5).n, (hasL (knB tbH s d) 11), (lastF (knB tbH s d) 11).n, (hasL (knB tbH s d) 12), (lastF (knB tbH s d) 12).n, counts, bounds, exs, (lastF (knB tbH s d) 10).n % 4294967296, unB tbH s d⟩
 | _, _, _, _, _ => none) := by
 unfold okHi
 rw [okG_rd]
 cases readE s d with
 | some e => rfl
 | none =>
  unfold tellHi
  simp only
  cases partsO (fun s => okK s (d - 1)) 9 (knB tbH s d) with
  | none => rfl
  | some attrs =>
   cases packO fixs 6 (knB tbH s d) with
   | none => rfl
   | some counts =>
    cases packO fixs 7 (knB tbH s d) with
    | none => rfl
    | some bounds =>
     cases partsO (fun s => okEm s (d - 1)) 8 (knB tbH s d) with
     | none => rfl
     | some exs =>
      rfl
theorem Hi_read (hB : BOk B) (s : List UInt8) (d : Int) (hl : s.length < big) (hd1 : -9223372036854775808 ≤ d) (hd2 : d < 9223372036854775808) :
  RdZ B 109 Hi.d noHi (okHi s d) s d ∧ (∀ e0, readE s d = some e0 → CallsA (cx B) 109 [sT s, .d (.int .i64 d)] [] (.tup [.d noHi.d, .d e0.d]) []) := by
 have h1 := k'u B hB 201 tbH (tbH_calls B) s d hl hd1 hd2
 have hk : LOk (knB tbH s d) := k'i tbH s d hl
 have hm := k'28 hk
 obtain ⟨vs_attrs, e1, c_attrs, t1⟩ := k't B hB (fun s => okK s (d - 1)) Kv.sh noKV 38 [] (readE s d) (unB tbH s d) d s.length (knB tbH s d) 9 hk (fun h => by have := k'1m h; omega) hd2 (fun x hx hn => k'v B hB x.s (d - 1) (lok_s hk hx) (by have := k'1t hx; omega) (by omega))
 obtain ⟨vs_counts, e2, c_counts, t2⟩ := rFixeds_tells B hB e1 (unB tbH s d) d s.length (knB tbH s d) 6 hk
 obtain ⟨vs_bounds, e3, c_bounds, t3⟩ := rFixeds_tells B hB e2 (unB tbH s d) d s.length (knB tbH s d) 7 hk
 obtain ⟨vs_exs, e4, c_exs, t4⟩ := k'31 B hB (fun s => okEm s (d - 1)) id noEm 198 [] e3 (unB tbH s d) d s.length (knB tbH s d) 8 hk (fun h => by have := k'1m h; omega) hd2 (fun x hx hn => (Em_read B hB x.s (d - 1) (lok_s hk hx) (by have := k'1t hx; omega) (by omega)).1.at)
 have hein : ∀ x, e4 = some x → EIn s.length x := t4.ein (t3.ein (t2.ein (t1.ein (fun x hx => k'r hx))))
 have main : CallsA (cx B) 109 [sT s, .d (.int .i64 d)] [] (.tup [.d (orD e4 (.agg [slD (vs_attrs.map KVs.d), .int .u64 (lastF (knB tbH s d) 2).n, .int .u64 (lastF (knB tbH s d) 3).n, .int .u64 (lastF (knB tbH s d) 4).n, .bool (hasL (knB tbH s d) 5), .int .u64 (lastF (knB tbH s d) 5).n, .bool (hasL (knB tbH s d) 11), .int .u64 (lastF (knB tbH s d) 11).n, .bool (hasL (knB tbH s d) 12), .int .u64 (lastF (knB tbH s d) 12).n, slD (vs_counts.map uD), slD (vs_bounds.map uD), slD (vs_exs.map Em.d), .int .u32 ((lastF (knB tbH s d) 10).n % 4294967296 : Nat), .str (unB tbH s d)]) noHi.d), .d (eD e4)]) [] := by
  clear hein t1 t2 t3 t4
  refine k'2 (X := cx B) (fn := Tryz.f109) Tryz.func109 rfl rfl rfl rfl rfl 0 [] rfl rfl ?_
  refine walk ?_
  refine k'1 [] (h1) rfl rfl rfl rfl rfl rfl rfl (by decide) rfl rfl rfl rfl rfl ?_
  refine walk ?_
  refine x_tail (i0 := 28) (z := 29) (t0 := 7) rfl (by decide) rfl rfl rfl rfl rfl rfl rfl rfl rfl rfl ?_
  refine walk ?_
  refine k'8 [1] (c_attrs) rfl rfl rfl rfl rfl rfl (by decide) rfl rfl rfl rfl rfl rfl ?_
  refine walk ?_
  refine k'8 [1] (k'7 B e1 (unB tbH s d) d s.length (knB tbH s d) 2 hm) rfl rfl rfl rfl rfl rfl (by decide) rfl rfl rfl rfl rfl rfl ?_
  refine walk ?_
  refine k'8 [1] (k'7 B e1 (unB tbH s d) d s.length (knB tbH s d) 3 hm) rfl rfl rfl rfl rfl rfl (by decide) rfl rfl rfl rfl rfl rfl ?_
  refine walk ?_
  refine k'8 [1] (k'7 B e1 (unB tbH s d) d s.length (knB tbH s d) 4 hm) rfl rfl rfl rfl rfl rfl (by decide) rfl rfl rfl rfl rfl rfl ?_
  refine walk ?_
  refine k'8 [1] (k'34 B e1 (unB tbH s d) d s.length (knB tbH s d) 5 hm) rfl rfl rfl rfl rfl rfl (by decide) rfl rfl rfl rfl rfl rfl ?_
  refine walk ?_
  refine k'8 [1] (k'34 B e1 (unB tbH s d) d s.length (knB tbH s d) 11 hm) rfl rfl rfl rfl rfl rfl (by decide) rfl rfl rfl rfl rfl rfl ?_
  refine walk ?_
  refine k'8 [1] (k'34 B e1 (unB tbH s d) d s.length (knB tbH s d) 12 hm) rfl rfl rfl rfl rfl rfl (by decide) rfl rfl rfl rfl rfl rfl ?_
  refine walk ?_
  refine k'8 [1] (c_counts) rfl rfl rfl rfl rfl rfl (by decide) rfl rfl rfl rfl rfl rfl ?_
  refine walk ?_
  refine k'8 [1] (c_bounds) rfl rfl rfl rfl rfl rfl (by decide) rfl rfl rfl rfl rfl rfl ?_
  refine walk ?_
  refine k'8 [1] (c_exs) rfl rfl rfl rfl rfl rfl (by decide) rfl rfl rfl rfl rfl rfl ?_
  refine walk ?_
  refine k'8 [1] (k'7 B e4 (unB tbH s d) d s.length (knB tbH s d) 10 hm) rfl rfl rfl rfl rfl rfl (by decide) rfl rfl rfl rfl rfl rfl ?_
  refine walk ?_
  rw [u32w]
  cases e4 with
  | none =>
   refine walk ?_
   exact k'3 trivial (by decide) rfl rfl rfl rfl rfl
  | some er =>
   cases er <;> (
   refine walk ?_
   exact k'3 trivial (by decide) rfl rfl rfl rfl rfl)
 constructor
 ·rw [okHi_rd]
  cases e4 with
  | none =>
   obtain ⟨k3, a_exs, g_exs, v_exs⟩ := t4.ok
   subst k3
   obtain ⟨k2, a_bounds, g_bounds, v_bounds⟩ := t3.ok
   subst k2
   obtain ⟨k1, a_counts, g_counts, v_counts⟩ := t2.ok
   subst k1
   obtain ⟨k0, a_attrs, g_attrs, v_attrs⟩ := t1.ok
   rw [k0, g_attrs, g_counts, g_bounds, g_exs]
   subst v_attrs
   simp only [id_eq] at v_counts
   subst v_counts
   simp only [id_eq] at v_bounds
   subst v_bounds
   rw [List.map_id] at v_exs
   subst v_exs
   rw [ks_map a_attrs] at main
   exact main
  | some er =>
   have hno : (match readE s d, partsO (fun s => okK s (d - 1)) 9 (knB tbH s d), packO fixs 6 (knB tbH s d), packO fixs 7 (knB tbH s d), partsO (fun s => okEm s (d - 1)) 8 (knB tbH s d) with
    | none, some attrs, some counts, some bounds, some exs => some (⟨attrs, (lastF (knB tbH s d) 2).n, (lastF (knB tbH s d) 3).n, (lastF (knB tbH s d) 4).n, (hasL (knB tbH s d) 5), (lastF (knB tbH s d) 5).n, (hasL (knB tbH s d) 11), (lastF (knB tbH s d) 11).n, (hasL (knB tbH s d) 12), (lastF (knB tbH s d) 12).n, counts, bounds, exs, (lastF (knB tbH s d) 10).n % 4294967296, unB tbH s d⟩ : Hi)
    | _, _, _, _, _ => none) = none := by
    cases hr : readE s d with
    | some x => rfl
    | none =>
     rw [hr] at t1
     cases hp0 : partsO (fun s => okK s (d - 1)) 9 (knB tbH s d) with
     | none => rfl
     | some a0 =>
      rw [hp0] at t1
      obtain ⟨-, q0⟩ := t1.get
      subst q0
      cases hp1 : packO fixs 6 (knB tbH s d) with
      | none => split <;> simp_all
      | some a1 =>
       rw [hp1] at t2
       obtain ⟨-, q1⟩ := t2.get
       subst q1
       cases hp2 : packO fixs 7 (knB tbH s d) with
       | none => split <;> simp_all
       | some a2 =>
        rw [hp2] at t3
        obtain ⟨-, q2⟩ := t3.get
        subst q2
        cases hp3 : partsO (fun s => okEm s (d - 1)) 8 (knB tbH s d) with
        | none => split <;> simp_all
        | some a3 =>
         rw [hp3] at t4
         have := t4.get.2; simp at this
   rw [hno]
   exact ⟨er, hein er rfl, main⟩
 ·intro e0 he
  rw [he] at t1
  have k1 := t1.keep
  subst k1
  have k2 := t2.keep
  subst k2
  have k3 := t3.keep
  subst k3
  have k4 := t4.keep
  subst k4
  exact main
end Go.Proofs.YtmnllpkbjkenfaaGreatDoor
