/- Quantile: may they be, written, read. -/
import Derived.Test.YtmnllpkbjkenfaaGreatDoorGP
import Derived.Test.YtmnllpkbjkenfaaGreatDoorWF
set_option linter.unusedSimpArgs false
set_option linter.unusedVariables false
set_option maxRecDepth 100000
namespace Go.Proofs.YtmnllpkbjkenfaaGreatDoor
open Go Go.Abs
variable (B : Fr)
def Qu.d (x : Qu) : D := .agg [.int .u64 x.q, .int .u64 x.v, .str x.u]
def Qu.R (x : Qu) (a : D) : Prop := a = x.d
def QuSh (x : D) : Prop := ∃ (a0 : Nat) (a1 : Nat) (a2 : List UInt8), x = .agg [.int .u64 a0, .int .u64 a1, .str a2]
theorem Qu.R_sh {x : Qu} {a : D} (h : x.R a) : QuSh a := ⟨_, _, _, h⟩
theorem Qu.d_R (x : Qu) : x.R x.d := rfl
theorem Qu.Rs_sh {l : List Qu} {xs : List D} (h : RsOf Qu.R l xs) : ∀ x ∈ xs, QuSh x := fun x hx => by
 obtain ⟨v, -, r⟩ := h.mem hx
 exact Qu.R_sh r
theorem Qu.Rs_map {l : List Qu} {xs : List D} (h : RsOf Qu.R l xs) : xs = l.map Qu.d := by
 refine List.ext_getElem? fun i => ?_
 rw [List.getElem?_map]
 cases hv : l[i]? with
 | none =>
  have := List.getElem?_eq_none_iff.1 hv
  exact List.getElem?_eq_none_iff.2 (by rw [h.1]; exact this)
 | some v =>
  obtain ⟨x, hx, r⟩ := h.2 i v hv
  rw [hx, show x = v.d from r]; rfl
structure QuTy (P : Program) (t : TypeId) : Prop where
 ut : P.underlying t = some (.struct (P.fieldsOf t))
 hp : P.stoodInHeld t = false
 hm : P.eqGuardType P.depth t = false
 fs : ∃ f g h, (P.fieldsOf t).toList = [f, g, h] ∧ (f.name == "_") = false ∧ (g.name == "_") = false ∧ (h.name == "_") = false ∧ f.offset = 0 ∧ g.offset = 1 ∧ h.offset = 2 ∧ P.underlying f.type = some (.int .u64) ∧ P.underlying g.type = some (.int .u64) ∧ P.underlying h.type = some .string ∧ P.plainKey f.type = true ∧ P.plainKey g.type = true ∧ P.plainKey h.type = true
theorem qu_run {P : Program} {t : TypeId} (h : QuTy P t) (xo yo : Operand) (a b m n : Nat) (k l : List UInt8) (w : World) : (do eqGuard .neq t xo yo (.agg #[.int .u64 a, .int .u64 m, .string ⟨k.toArray⟩]) (.agg #[.int .u64 b, .int .u64 n, .string ⟨l.toArray⟩]); binOp .neq t (.agg #[.int .u64 a, .int .u64 m, .string ⟨k.toArray⟩]) (.agg #[.int .u64 b, .int .u64 n, .string ⟨l.toArray⟩])).run P w = .ok (.bool (!(a == b && m == n && k == l))) w := by
 obtain ⟨f, g, e, hf, m1, m2, m3, o1, o2, o3, u1, u2, u3, p1, p2, p3⟩ := h.fs
 have n1 : f.name ≠ "_" := ne_of_beq_false m1
 have n2 : g.name ≠ "_" := ne_of_beq_false m2
 have n3 : e.name ≠ "_" := ne_of_beq_false m3
 rw [Sem.run_bind, run_eqGuard_agg w _ t xo yo _ _ h.hm]
 simp only [Result.andThen_ok]
 rw [run_neq_struct, run_equalIn_agg w 9999 t _ _ h.ut h.hp, hf]
 simp only [Op.eqFields, if_pos n1, if_pos n2, if_pos n3, o1, o2, o3, Sem.run_bind, Sem.run_ite]
 rw [run_part_plain (v := .int .u64 a) w p1 rfl]
 simp only [Result.andThen_ok]
 rw [run_part_plain (v := .int .u64 b) w p1 rfl]
 simp only [Result.andThen_ok]
 rw [run_equalIn_int w _ _ _ _ _ _ u1]
 simp only [Result.andThen_ok]
 rw [ibeq]
 cases a == b with
 | false => simp
 | true =>
  simp only [Bool.not_true, Bool.false_eq_true, if_false, Sem.run_bind]
  rw [run_part_plain (v := .int .u64 m) w p2 rfl]
  simp only [Result.andThen_ok]
  rw [run_part_plain (v := .int .u64 n) w p2 rfl]
  simp only [Result.andThen_ok]
  rw [run_equalIn_int w _ _ _ _ _ _ u2]
  simp only [Result.andThen_ok, Sem.run_ite]
  rw [ibeq]
  cases m == n with
  | false => simp
  | true =>
   simp only [Bool.not_true, Bool.false_eq_true, if_false, Sem.run_bind]
   rw [run_part_plain (v := .string ⟨k.toArray⟩) w p3 rfl]
   simp only [Result.andThen_ok]
   rw [run_part_plain (v := .string ⟨l.toArray⟩) w p3 rfl]
   simp only [Result.andThen_ok]
   rw [run_equalIn_string w _ _ _ _ u3, toList_str, toList_str]
   simp only [Result.andThen_ok, Sem.run_ite, Sem.run_pure]
   cases k == l <;> simp
theorem _root_.Go.Abs.StepE.neqQu {X : Ctx} {o : Oper} {v : Operand → T} {H : List Ob} {t t' : TypeId} {x y : Operand} {a b m n : Nat} {k l : List UInt8} (ho : o.op = .binOp .neq t x y t') (hx : v x = .d (.agg [.int .u64 a, .int .u64 m, .str k])) (hy : v y = .d (.agg [.int .u64 b, .int .u64 n, .str l])) (h : QuTy X.P t) : StepE X o v H ⟨.d (.bool (!(a == b && m == n && k == l))), none, H⟩ :=
 .psem (k'1e ho (by simp)) fun s hs N F ρ ac w next Q hd hr kk => by
  have ex := hs x (by rw [ho]; simp [Op.operands])
  have ey := hs y (by rw [ho]; simp [Op.operands])
  obtain ⟨lx, hx'⟩ := hr.val x
  obtain ⟨ly, hy'⟩ := hr.val y
  rw [ex, hx] at hx'
  rw [ey, hy] at hy'
  have inv : ∀ {l0 : Lc} {q : Value} {a m : Nat} {k : List UInt8}, TR F ρ w l0 (.d (.agg [.int .u64 a, .int .u64 m, .str k])) q → q = .agg #[.int .u64 a, .int .u64 m, .string ⟨k.toArray⟩] := fun h => by
   cases h with | d h => cases h with | agg h => cases h with | cons h1 h2 => cases h1; cases h2 with | cons h3 h4 => cases h3; cases h4 with | cons h5 h6 => cases h5; cases h6; rfl
  have e1 := inv hx'
  have e2 := inv hy'
  have hrun := qu_run h x y a b m n k l w
  refine k'g (v := .bool (!(a == b && m == n && k == l))) (w' := w) ?_ (kk F ρ _ w ?_ (Ext.refl F ρ w))
  ·rw [Sem.run_bind] at hrun
   simp only [execOp, ho, e1, e2, Sem.run_bind]
   revert hrun
   generalize (eqGuard BinOp.neq t x y (.agg #[.int .u64 a, .int .u64 m, .string ⟨k.toArray⟩]) (.agg #[.int .u64 b, .int .u64 n, .string ⟨l.toArray⟩])).run X.P w = g
   intro hrun
   cases g with
   | ok u w1 =>
    simp only [Result.andThen_ok] at hrun ⊢
    rw [hrun]
    rfl
   | halt x w1 => simp [Result.andThen] at hrun
  ·exact hr.put hd fun d _ => .d (.bool _)
theorem qu_ok : QuTy (cx B).P 180 where
 ut := by kernel_rfl
 hp := by kernel_rfl
 hm := by kernel_rfl
 fs := ⟨(Tryz.prog.fieldsOf 180)[0]'(of_decide_eq_true (by kernel_rfl)), (Tryz.prog.fieldsOf 180)[1]'(of_decide_eq_true (by kernel_rfl)), (Tryz.prog.fieldsOf 180)[2]'(of_decide_eq_true (by kernel_rfl)), by kernel_rfl, by kernel_rfl, by kernel_rfl, by kernel_rfl, by kernel_rfl, by kernel_rfl, by kernel_rfl, by kernel_rfl, by kernel_rfl, by kernel_rfl, by kernel_rfl, by kernel_rfl, by kernel_rfl⟩
theorem EqS_Qu_R {a b : List Qu} {xs ys : List D} (z w : Bool) (hb : (a.map Qu.sz).sum < big) (h1 : RsOf Qu.R a xs) (h2 : RsOf Qu.R b ys) : CallsA (cx B) 187 [.d (.sl z xs), .d (.sl w ys)] [] (.d (.bool (Qu.eqs a b))) [] := by
 have hla := sum_ge (sz := Qu.sz) (fun x => by unfold Qu.sz; omega) a
 have l1 := h1.1
 have l2 := h2.1
 obtain rfl := Qu.Rs_map h1
 obtain rfl := Qu.Rs_map h2
 unfold big at hb
 rw [Qu.eqs_by]
 refine k'2 (X := cx B) (fn := Tryz.f187) Tryz.func187 rfl rfl rfl rfl rfl 0 [] rfl rfl ?_
 refine walk ?_
 rw [l1, l2]
 by_cases hlen : a.length = b.length
 ·rw [show ((a.length : Int) != (b.length : Int)) = false by rw [hlen]; simp, show (a.length == b.length) = true by simp [hlen]]
  simp only [Bool.true_and]
  refine walk ?_
  rw [l1]
  refine k'c (fun i : Nat => a.length - i) (fun i => [(0, .d (.sl z (a.map Qu.d))), (1, .d (.sl w (b.map Qu.d))), (12, iT a.length), (13, iT i)]) (fun _ => []) (fun i => i ≤ a.length ∧ (List.range i).all (byI Qu.eq a b) = true) 0 ⟨by omega, rfl⟩ ⟨rfl, rfl, rfl, rfl, trivial⟩ rfl 0 rfl (fun _ => rfl) (fun _ => rfl) (fun _ => rfl) ?_
  rintro i ⟨i1, i2⟩
  refine walk ?_
  by_cases hlt : i < a.length
  ·rw [show decide ((i : Int) < a.length) = true from decide_eq_true (by omega)]
   obtain ⟨x, hx⟩ : ∃ x, a[i]? = some x := ⟨_, List.getElem?_eq_getElem hlt⟩
   obtain ⟨y, hy⟩ : ∃ y, b[i]? = some y := ⟨_, List.getElem?_eq_getElem (by omega)⟩
   have hxd : (a.map Qu.d)[i]? = some x.d := by rw [List.getElem?_map, hx]; rfl
   have hyd : (b.map Qu.d)[i]? = some y.d := by rw [List.getElem?_map, hy]; rfl
   have hby : byI Qu.eq a b i = (x.q == y.q && x.v == y.v && x.u == y.u) := by unfold byI; rw [hx, hy]; rfl
   have hin : (List.range a.length).all (byI Qu.eq a b) = true → byI Qu.eq a b i = true := fun h => List.all_eq_true.1 h i (List.mem_range.2 hlt)
   rw [hby] at hin
   unfold Qu.d at hxd hyd
   refine walk ?_
   refine x_mob (.indexAddr (k := .i64) (n := i) (es := a.map Qu.d) rfl rfl rfl rfl (.inl ⟨_, rfl⟩) rfl (by omega) hxd rfl (by decide)) rfl rfl rfl ?_
   refine walk ?_
   refine x_mob (.indexAddr (k := .i64) (n := i) (es := b.map Qu.d) rfl rfl rfl rfl (.inl ⟨_, rfl⟩) rfl (by omega) hyd rfl (by decide)) rfl rfl rfl ?_
   refine walk ?_
   refine x_mob (StepE.neqQu rfl rfl rfl (qu_ok B)) rfl rfl rfl ?_
   cases hr : (x.q == y.q && x.v == y.v && x.u == y.u) with
   | false =>
    rw [show (List.range a.length).all (byI Qu.eq a b) = false by cases hh : (List.range a.length).all (byI Qu.eq a b) with | false => rfl | true => rw [hin hh] at hr; simp at hr]
    refine walk ?_
    exact k'3 trivial (by decide) rfl rfl rfl rfl rfl
   | true =>
    refine walk ?_
    rw [show IntKind.i64.wrap ((i : Int) + 1) = ((i + 1 : Nat) : Int) by rw [wrapI (by omega) (by omega)]; omega]
    exact ⟨i + 1, by omega, ⟨by omega, by rw [List.range_succ, List.all_append, i2]; simp [hby, hr]⟩, ⟨rfl, rfl, rfl, rfl, trivial⟩, rfl, k's rfl⟩
  ·have hge : i = a.length := by omega
   subst hge
   rw [i2, show decide ((a.length : Int) < a.length) = false from decide_eq_false (by omega)]
   refine walk ?_
   exact k'3 trivial (by decide) rfl rfl rfl rfl rfl
 ·rw [show ((a.length : Int) != (b.length : Int)) = true by simp; omega, show (a.length == b.length) = false by simp [hlen]]
  refine walk ?_
  exact k'3 trivial (by decide) rfl rfl rfl rfl rfl
theorem Qu_May_calls (x : Qu) (xa : D) (d : Int) (hbig : x.sz < big) (hx : x.R xa) (hd1 : -9223372036854775808 ≤ d) (hd2 : d < 9223372036854775808) : CallsA (cx B) 267 [.d xa, .d (.int .i64 d)] [] (.d (.bool (x.may d))) [] := by
 obtain rfl := hx
 unfold Qu.sz at hbig
 unfold Qu.may Qu.d
 by_cases hd0 : 0 ≤ d
 rotate_left
 ·rw [show decide (0 ≤ d) = false from decide_eq_false hd0]
  refine k'2 (X := cx B) (fn := Tryz.f267) Tryz.func267 rfl rfl rfl rfl rfl 0 [] rfl rfl ?_
  refine walk ?_
  rw [show decide (d ≥ 0) = false from decide_eq_false hd0]
  refine walk ?_
  exact k'3 trivial (by decide) rfl rfl rfl rfl rfl
 have c_u := k'13 B 295 tbG (tbG_calls B) x.u d (by omega) (by omega) hd2
 refine k'2 (X := cx B) (fn := Tryz.f267) Tryz.func267 rfl rfl rfl rfl rfl 0 [] rfl rfl ?_
 refine walk ?_
 rw [show decide (d ≥ 0) = decide (0 ≤ d) from rfl]
 cases e0 : (decide (0 ≤ d)) with
 | false =>
  refine walk ?_
  exact k'3 trivial (by decide) rfl rfl rfl rfl rfl
 | true =>
  refine walk ?_
  refine k'6 [] (c_u) rfl rfl rfl rfl rfl rfl rfl rfl rfl (by decide) rfl rfl rfl rfl rfl ?_
  refine walk ?_
  exact k'3 trivial (by decide) rfl rfl rfl rfl rfl
theorem IndexF_Qu_calls (f : Nat) (cap : List D) (z : Bool) (xs : List D) (q : Nat → Bool) (hl : xs.length < 9223372036854775807) (hx : ∀ x ∈ xs, QuSh x)
  (hf : ∀ (i : Nat) x, xs[i]? = some x → CallsA (cx B) f ([.d x] ++ cap.map T.d) [] (.d (.bool (q i))) []) :
  CallsA (cx B) 346 [.d (.sl z xs), .d (.fn f cap)] [] (.d (.int .i64 (idxF q xs.length))) [] := by
 refine k'2 (X := cx B) (fn := Tryz.f346) Tryz.func346 rfl rfl rfl rfl rfl 0 [] rfl rfl ?_
 refine walk ?_
 refine k'c (fun i : Nat => xs.length - i) (fun i => [(0, .d (.sl z xs)), (1, .d (.fn f cap)), (7, iT xs.length), (8, iT i)]) (fun _ => []) (fun i => i ≤ xs.length ∧ ∀ j < i, q j = false) 0 ⟨by omega, fun j hj => by omega⟩ ⟨rfl, rfl, rfl, rfl, trivial⟩ rfl 0 rfl (fun _ => rfl) (fun _ => rfl) (fun _ => rfl) ?_
 rintro i ⟨i1, i2⟩
 refine walk ?_
 refine k'f rfl (fun hd => ?_) (fun hd => ?_)
 ·have hlt : i < xs.length := by have := of_decide_eq_true hd; omega
  obtain ⟨x, hxi⟩ : ∃ x, xs[i]? = some x := ⟨_, List.getElem?_eq_getElem hlt⟩
  have hc := hf i x hxi
  obtain ⟨a0, a1, a2, rfl⟩ := hx x (List.mem_of_getElem? hxi)
  refine walk ?_
  refine k'4 (.indexAddr (k := .i64) (n := i) (es := xs) rfl rfl rfl rfl (.inl ⟨_, rfl⟩) rfl (by omega) (by simpa using hxi) rfl (by decide)) rfl rfl ?_
  refine walk ?_
  refine k'1 [] (hc) rfl rfl rfl rfl rfl rfl rfl (by decide) rfl rfl rfl rfl rfl ?_
  refine walk ?_
  cases hr : q i with
  | true =>
   rw [idx_hit hlt hr i2]
   refine walk ?_
   exact k'3 trivial (by decide) rfl rfl rfl rfl rfl
  | false =>
   refine walk ?_
   rw [show IntKind.i64.wrap ((i : Int) + 1) = ((i + 1 : Nat) : Int) by rw [wrapI (by omega) (by omega)]; omega]
   exact ⟨i + 1, by omega, ⟨by omega, fun j hj => by
    rcases Nat.lt_or_ge j i with h | h
    ·exact i2 j h
    ·rw [show j = i by omega]; exact hr⟩, ⟨rfl, rfl, rfl, rfl, trivial⟩, rfl, k's rfl⟩
 ·have hge : i = xs.length := by have := of_decide_eq_false hd; omega
  subst hge
  rw [k'3f i2]
  refine walk ?_
  exact k'3 trivial (by decide) rfl rfl rfl rfl rfl
theorem All_Qu_calls (f : Nat) (z : Bool) (xs : List D) (d : Int) (r : Nat → Bool) (hl : xs.length < 9223372036854775807) (hd1 : -9223372036854775000 ≤ d) (hd2 : d < 9223372036854775808) (hx : ∀ x ∈ xs, QuSh x)
  (hf : ∀ (i : Nat) x, xs[i]? = some x → CallsA (cx B) f [.d x, .d (.int .i64 (d - 1))] [] (.d (.bool (r i))) []) :
  CallsA (cx B) 266 [.d (.sl z xs), .d (.int .i64 d), .d (.fn f [])] [] (.d (.bool ((List.range xs.length).all r))) [] := by
 have h0 : ∀ (i : Nat) x, xs[i]? = some x → CallsA (cx B) 327 ([.d x] ++ [.box [.fn f []], .box [.int .i64 d]].map T.d) [] (.d (.bool (!r i))) [] := fun i x hxi => by
  have hc := hf i x hxi
  obtain ⟨a0, a1, a2, rfl⟩ := hx x (List.mem_of_getElem? hxi)
  refine k'2 (X := cx B) (fn := Tryz.f327) Tryz.func327 rfl rfl rfl rfl rfl 0 [] rfl rfl ?_
  refine walk ?_
  rw [k'd 1 (by omega) (by omega) hd1 hd2]
  refine k'1 [] (hc) rfl rfl rfl rfl rfl rfl rfl (by decide) rfl rfl rfl rfl rfl ?_
  refine walk ?_
  exact k'3 trivial (by decide) rfl rfl rfl rfl rfl
 have h1 := IndexF_Qu_calls B 327 [.box [.fn f []], .box [.int .i64 d]] z xs (fun i => !r i) hl hx h0
 have h2 : CallsA (cx B) 326 [.d (.sl z xs), .d (.fn 327 [.box [.fn f []], .box [.int .i64 d]])] [] (.d (.bool (!(List.range xs.length).all r))) [] := by
  refine k'2 (X := cx B) (fn := Tryz.f326) Tryz.func326 rfl rfl rfl rfl rfl 0 [] rfl rfl ?_
  refine walk ?_
  refine k'1 [] (h1) rfl rfl rfl rfl rfl rfl rfl (by decide) rfl rfl rfl rfl rfl ?_
  refine walk ?_
  rw [idx_all]
  exact k'3 trivial (by decide) rfl rfl rfl rfl rfl
 refine k'2 (X := cx B) (fn := Tryz.f266) Tryz.func266 rfl rfl rfl rfl rfl 0 [] rfl rfl ?_
 refine walk ?_
 refine k'4 (closure2 rfl rfl rfl (by simp) rfl rfl rfl rfl) rfl rfl ?_
 refine k'1 [] (h2) rfl rfl rfl rfl rfl rfl rfl (by decide) rfl rfl rfl rfl rfl ?_
 refine walk ?_
 rw [Bool.not_not]
 exact k'3 trivial (by decide) rfl rfl rfl rfl rfl
theorem All_Qu_R {a : List Qu} {xs : List D} (z : Bool) (d : Int) (hb : (a.map Qu.sz).sum < big) (hd1 : 0 ≤ d) (hd2 : d < 9223372036854775808) (h1 : RsOf Qu.R a xs) : CallsA (cx B) 266 [.d (.sl z xs), .d (.int .i64 d), .d (.fn 267 [])] [] (.d (.bool (a.all fun k => k.may (d - 1)))) [] := by
 have hla := sum_ge (sz := Qu.sz) (fun x => by unfold Qu.sz; omega) a
 have h := All_Qu_calls B 267 z xs d (atB (fun k => k.may (d - 1)) a) (by rw [h1.1]; unfold big at hb; omega) (by omega) hd2 (Qu.Rs_sh h1) (fun i x hx => by
  obtain ⟨v, hv, r1⟩ := h1.at hx
  have hm := k'y (sz := Qu.sz) (List.mem_of_getElem? hv)
  have e : atB (fun k : Qu => k.may (d - 1)) a i = v.may (d - 1) := by unfold atB; rw [hv]
  rw [e]
  exact Qu_May_calls B v x (d - 1) (by omega) r1 (by omega) (by omega))
 rw [h1.1, ← atB_all] at h
 exact h
theorem Qu_Marshal_calls (x : Qu) (xa : D) (d : Int) (hbig : x.sz < big) (hwf : x.wf) (hx : x.R xa) : CallsA (cx B) 229 [.d xa, .d (.int .i64 d)] [] (.tup [sT x.mar, .d .nili]) [] := by
 have hlen := Qu.mar_len x
 have hlen : x.mar.length < big := by omega
 obtain rfl := hx
 unfold Qu.sz at hbig
 obtain ⟨w_q, w_v⟩ := hwf
 unfold Qu.mar Qu.hb at hlen ⊢
 unfold Qu.d
 obtain ⟨a0, ha0, c0⟩ := k'z B 1 x.q (by omega) (by omega) (.nw 102 2) [] k'2d (by simp only [List.length_append, List.length_nil] at hlen ⊢; omega)
 rw [List.nil_append] at c0
 obtain ⟨a1, ha1, c1⟩ := k'z B 2 x.v (by omega) (by omega) a0 (fxV 1 x.q) ha0 (by simp only [List.length_append] at hlen ⊢; omega)
 obtain ⟨cu, cs⟩ := k'29 B (s := x.u) ha1 (l := fxV 1 x.q ++ fxV 2 x.v) (by simp only [List.length_append] at hlen ⊢; omega)
 generalize fxV 1 x.q ++ fxV 2 x.v = o1 at c1 cu cs ⊢
 generalize fxV 1 x.q = o0 at c0 c1
 refine k'2 (X := cx B) (fn := Tryz.f229) Tryz.func229 rfl rfl rfl rfl rfl 0 [] rfl rfl ?_
 refine walk ?_
 refine k'1 [1] (c0) rfl rfl rfl rfl rfl rfl rfl (by decide) (by simp [k'0 k'2d]) (by simp [k'0 ha0]) rfl rfl rfl ?_
 refine walk ?_
 refine k'1 [1] (c1) rfl rfl rfl rfl rfl rfl rfl (by decide) (by simp [k'0 ha0]) (by simp [k'0 ha1]) rfl rfl rfl ?_
 refine walk ?_
 refine k'1 [1] (cu) rfl rfl rfl rfl rfl rfl rfl (by decide) (by simp [k'0 ha1]) (by simp [k'0 (.inl rfl)]) rfl rfl rfl ?_
 refine walk ?_
 refine k'1 [1] (cs) rfl rfl rfl rfl rfl rfl rfl (by decide) (by simp [k'0 (.inl rfl)]) rfl rfl rfl rfl ?_
 refine walk ?_
 exact k'3 trivial (by decide) rfl rfl rfl rfl rfl
theorem Parts_Qu_wr (n : Nat) (h1 : 1 ≤ n) (h2 : n ≤ 536870911) (d : Int) (hd1 : -9223372036854775000 ≤ d) (hd2 : d < 9223372036854775808) (f : Nat) (z : Bool) (xs : List D) (ms : List (List UInt8)) (hlen : ms.length = xs.length) (hx : ∀ x ∈ xs, QuSh x)
  (hf : ∀ (i : Nat) x s, xs[i]? = some x → ms[i]? = some s → CallsA (cx B) f [.d x, .d (.int .i64 (d - 1))] [] (.tup [sT s, .d .nili]) []) :
  Wr B 228 [iT n, .d (.sl z xs), .d (.int .i64 d), .d (.fn f [])] (psV n ms) := by
 intro a l ha hl
 have hpl := k'1j n ms
 have hb : ms.length < 34359738368 := by unfold big at hl; omega
 refine ⟨if ms.length = 0 then a else .me, ad_if ha, ?_⟩
 refine k'2 (X := cx B) (fn := Tryz.f228) Tryz.func228 rfl rfl rfl rfl rfl 1 [] rfl rfl ?_
 refine walk ?_
 refine k'c (fun i : Nat => xs.length - i) (fun i => [(0, .ptr 0 0), (1, iT n), (3, .d (.int .i64 d)), (4, .d (.fn f [])), (14, .d (.sl z xs)), (15, iT xs.length), (16, iT i)]) (fun i => [.mu [if i = 0 then a else .me, bT (l ++ psV n (ms.take i))]]) (fun i => i ≤ xs.length) 0 (by omega) ⟨rfl, rfl, rfl, rfl, rfl, rfl, rfl, trivial⟩ (by simp [psV]) 1 rfl (fun _ => rfl) (fun i => by
  have : adOk (if i = 0 then a else .me) := ad_if ha
  simp [k'0 this]) (fun _ => rfl) ?_
 intro i i1
 have ha2 : adOk (if i = 0 then a else .me) := ad_if ha
 refine walk ?_
 refine k'f rfl (fun hd => ?_) (fun hd => ?_)
 ·have hlt : i < xs.length := by have := of_decide_eq_true hd; omega
  obtain ⟨x, hxi⟩ : ∃ x, xs[i]? = some x := ⟨_, List.getElem?_eq_getElem hlt⟩
  obtain ⟨s, hsi⟩ : ∃ s, ms[i]? = some s := ⟨_, List.getElem?_eq_getElem (by omega)⟩
  have hc := hf i x s hxi hsi
  obtain ⟨a0, a1, a2, rfl⟩ := hx x (List.mem_of_getElem? hxi)
  have hsp := k'2f n hsi
  have h3 := k'14 B _ (l ++ psV n (ms.take i)) n s ha2 h1 h2 (by simp; omega)
  rw [List.append_assoc, show psV n (ms.take i) ++ (tagV n 2 ++ (putV s.length ++ s)) = psV n (ms.take (i + 1)) by rw [List.take_add_one, hsi]; simp [psV, paV]] at h3
  refine walk ?_
  refine k'4 (.indexAddr (k := .i64) (n := i) (es := xs) rfl rfl rfl rfl (.inl ⟨_, rfl⟩) rfl (by omega) (by simpa using hxi) rfl (by decide)) rfl rfl ?_
  refine walk ?_
  rw [k'd 1 (by omega) (by omega) hd1 hd2]
  refine k'1 [] (hc) rfl rfl rfl rfl rfl rfl rfl (by decide) rfl rfl rfl rfl rfl ?_
  refine walk ?_
  refine k'1 [0] (h3) rfl rfl rfl rfl rfl rfl rfl (by decide) (by simp [k'0 ha2]) (by simp [k'0 (.inl rfl)]) rfl rfl rfl ?_
  refine walk ?_
  rw [show IntKind.i64.wrap ((i : Int) + 1) = ((i + 1 : Nat) : Int) by rw [wrapI (by omega) (by omega)]; omega]
  exact ⟨i + 1, by omega, by omega, ⟨rfl, rfl, rfl, rfl, rfl, rfl, rfl, trivial⟩, by simp [k'0 (.inl rfl)], k's (by simp)⟩
 ·have hge : i = xs.length := by have := of_decide_eq_false hd; omega
  subst hge
  rw [show ms.take xs.length = ms by rw [← hlen, List.take_length], hlen]
  generalize (if xs.length = 0 then a else .me) = aa at ha2 ⊢
  refine walk ?_
  exact k'3 trivial (by decide) rfl rfl rfl rfl (by simp [k'0 ha2])
theorem Parts_Qu_R {a : List Qu} {xs : List D} (n : Nat) (h1 : 1 ≤ n) (h2 : n ≤ 536870911) (z : Bool) (d : Int) (hb : (a.map Qu.sz).sum < big) (hw : ∀ k ∈ a, k.wf) (hm : (a.all fun k => k.may (d - 1)) = true) (hd1 : 0 ≤ d) (hd2 : d < 9223372036854775808) (hR : RsOf Qu.R a xs) :
  Wr B 228 [iT n, .d (.sl z xs), .d (.int .i64 d), .d (.fn 229 [])] (psV n (a.map Qu.mar)) :=
 Parts_Qu_wr B n h1 h2 d (by omega) hd2 229 z xs (a.map Qu.mar) (by rw [List.length_map, hR.1]) (Qu.Rs_sh hR) fun i x s hx hs => by
  obtain ⟨v, hv, r⟩ := hR.at hx
  rw [List.getElem?_map, hv] at hs
  injection hs with hs; subst hs
  have hmem := List.mem_of_getElem? hv
  have := k'y (sz := Qu.sz) hmem
  exact Qu_Marshal_calls B v x (d - 1) (by omega) (hw v hmem) r
theorem Qu_fits (l : List Qu) : ∀ a ∈ l.map Qu.d, a.fits 3 = true := by
 intro a ha
 obtain ⟨c, -, rfl⟩ := List.mem_map.1 ha
 rfl
theorem part_Qu_calls (hB : BOk B) (f : Nat) (cap : List D) (x : Qu) (er : Option Er) (s : List UInt8) (e : Option Er) (u : List UInt8) (d n : Int) (l : List Fld) (num : Nat) (hd1 : -9223372036854775808 < d) (hd2 : d < 9223372036854775808)
  (hf : CallsA (cx B) f ([sT s, .d (.int .i64 (d - 1))] ++ cap.map T.d) [] (.tup [.d x.d, .d (eD er)]) []) :
  CallsA (cx B) 294 [.ptr 0 0, iT num, sT s, .d (.fn f cap)] [rO e u d n l] (.d x.d) [rO (failE n num e er) u d n l] := by
 have h2 := k'9 B hB e u d n l num er
 refine k'2 (X := cx B) (fn := Tryz.f294) Tryz.func294 rfl rfl rfl rfl rfl 1 [] rfl rfl ?_
 refine walk ?_
 rw [show IntKind.i64.wrap (d - 1) = d - 1 from wrapI (by omega) (by omega)]
 refine k'1 [] (hf) rfl rfl rfl rfl rfl rfl rfl (by decide) rfl rfl rfl rfl rfl ?_
 refine walk ?_
 refine k'1 [0] (h2) rfl rfl rfl rfl rfl rfl rfl (by decide) rfl rfl rfl rfl rfl ?_
 refine walk ?_
 exact k'3 trivial (by decide) rfl rfl rfl rfl rfl
theorem List_Qu_calls (hB : BOk B) (f : Nat) (cap : List D) (rd : List UInt8 → Qu × Option Er) (e : Option Er) (u : List UInt8) (d n : Int) (l : List Fld) (num : Nat) (hl : LOk l) (hd1 : anyL l num = true → -9223372036854775808 < d) (hd2 : d < 9223372036854775808)
  (hf : ∀ x ∈ l, x.num = num → CallsA (cx B) f ([sT x.s, .d (.int .i64 (d - 1))] ++ cap.map T.d) [] (.tup [.d (rd x.s).1.d, .d (eD (rd x.s).2)]) []) :
  CallsA (cx B) 211 [.ptr 0 0, iT num, .d (.fn f cap)] [rO e u d n l] (.d (slD ((listF rd n num l e).1.map Qu.d))) [rO (listF rd n num l e).2 u d n l] := by
 have hlen : (l.map Fld.d).length = l.length := by simp
 have hlb := hl.lenb
 unfold big at hlb
 refine k'2 (X := cx B) (fn := Tryz.f211) Tryz.func211 rfl rfl rfl rfl rfl 1 [] rfl rfl ?_
 refine walk ?_
 rw [hlen]
 refine k'c (fun i : Nat => l.length - i) (fun i => [(0, .ptr 0 0), (1, iT num), (2, .d (.fn f cap)), (7, owT ((listF rd n num (l.take i) e).1.map Qu.d)), (13, .d (slD (l.map Fld.d))), (14, iT l.length), (15, iT i)])
  (fun i => [rO (listF rd n num (l.take i) e).2 u d n l]) (fun i => i ≤ l.length) 0 (by omega) ⟨rfl, rfl, rfl, rfl, rfl, rfl, rfl, trivial⟩ rfl 1 rfl (fun _ => rfl) (fun _ => rfl) (fun _ => rfl) ?_
 intro i i1
 refine walk ?_
 refine k'f rfl (fun hc => ?_) (fun hc => ?_)
 ·have hlt : i < l.length := by have := of_decide_eq_true hc; omega
  obtain ⟨x, hx⟩ : ∃ x, l[i]? = some x := ⟨_, List.getElem?_eq_getElem hlt⟩
  have hdx : (l.map Fld.d)[i]? = some x.d := by rw [List.getElem?_map, hx]; rfl
  have htk : l.take (i + 1) = l.take i ++ [x] := by rw [List.take_add_one, hx]; rfl
  have hpl := k'21 rd n num (l.take i) e
  have hwi : IntKind.i64.wrap ((i : Int) + 1) = ((i + 1 : Nat) : Int) := by rw [wrapI (by omega) (by omega)]; omega
  have hst : listF rd n num (l.take (i + 1)) e = listStep rd n num (listF rd n num (l.take i) e) x := by rw [htk, k'1k]
  refine walk ?_
  refine k'4 (.indexAddr (k := .i64) (n := i) (es := l.map Fld.d) (u := x.d) rfl rfl rfl rfl (.inl ⟨_, rfl⟩) rfl (by omega) (by simpa using hdx) rfl (by decide)) rfl rfl ?_
  refine walk ?_
  generalize hP : listF rd n num (l.take i) e = st at *
  obtain ⟨a, e'⟩ := st
  dsimp only at *
  by_cases hn : x.num = num
  ·rw [show ((x.num : Int) == num) = true by rw [hn]; simp]
   have hs2 : listStep rd n num (a, e') x = (a ++ [(rd x.s).1], failE n num e' (rd x.s).2) := by unfold listStep; rw [if_pos hn]
   rw [hs2] at hst
   have h5 := part_Qu_calls B hB f cap (rd x.s).1 (rd x.s).2 x.s e' u d n l num (hd1 (List.any_eq_true.2 ⟨x, List.mem_of_getElem? hx, by simpa using hn⟩)) hd2 (hf x (List.mem_of_getElem? hx) hn)
   generalize (rd x.s).1 = y at *
   generalize (rd x.s).2 = er at *
   refine adm ?_
   (try refine k'19 rfl ?_)
   refine k'4 (.assignOwn (.inr rfl) rfl) rfl rfl ?_
   refine walk ?_
   refine k'1 [0] (h5) rfl rfl rfl rfl rfl rfl rfl (by decide) rfl rfl rfl rfl rfl ?_
   refine k'4 (.buildSlice (es := [y.d]) rfl rfl rfl rfl rfl rfl (by intro x hx; simp at hx; subst hx; rfl) (by simp) (by decide) (by decide)) rfl rfl ?_
   have hm : (a.map Qu.d).length + [y.d].length ≤ most := by simp [most] at *; omega
   refine k'4 (.append' rfl rfl rfl rfl ⟨_, _, rfl, rfl, by intro q; simp⟩ rfl rfl rfl rfl rfl (by rw [show [y.d] = [y].map Qu.d from rfl, ← List.map_append]; exact Qu_fits _) (by decide) rfl hm rfl) rfl rfl ?_
   refine k'4 (.assignOwn (.inl rfl) rfl) rfl rfl ?_
   refine walk ?_
   rw [hwi]
   refine ⟨i + 1, by omega, by omega, ?_, rfl, ?_⟩
   ·rw [hst]; exact ⟨rfl, rfl, rfl, by show T.own _ _ = owT _; rw [List.map_append]; rfl, rfl, rfl, rfl, trivial⟩
   ·rw [hst]; exact k's rfl
  ·rw [show ((x.num : Int) == num) = false by simp; omega]
   have hs2 : listStep rd n num (a, e') x = (a, e') := by unfold listStep; rw [if_neg hn]
   rw [hs2] at hst
   refine walk ?_
   rw [hwi]
   refine ⟨i + 1, by omega, by omega, ?_, rfl, ?_⟩
   ·rw [hst]; exact ⟨rfl, rfl, rfl, rfl, rfl, rfl, rfl, trivial⟩
   ·rw [hst]; exact k's rfl
 ·have hge : i = l.length := by have := of_decide_eq_false hc; omega
  subst hge
  rw [List.take_length]
  refine adm ?_
  (try refine k'19 rfl ?_)
  refine k'4 (.moveShare rfl rfl) rfl rfl ?_
  refine walk ?_
  exact k'3 trivial (by decide) rfl rfl rfl rfl rfl
theorem List_Qu_tells (hB : BOk B) {α : Type} (ok : List UInt8 → Option α) (sh : α → Qu) (z : Qu) (f : Nat) (cap : List D) (e : Option Er) (u : List UInt8) (d : Int) (n : Nat) (l : List Fld) (num : Nat) (hl : LOk l) (hd1 : anyL l num = true → -9223372036854775808 < d) (hd2 : d < 9223372036854775808)
  (h : ∀ x ∈ l, x.num = num → RdAt B f cap Qu.d sh (ok x.s) x.s (d - 1)) :
  ∃ vs e', CallsA (cx B) 211 [.ptr 0 0, iT num, .d (.fn f cap)] [rO e u d n l] (.d (slD (vs.map Qu.d))) [rO e' u d n l] ∧ Tells n e (partsO ok num l) (List.map sh) vs e' := by
 obtain ⟨rd, h1, h2⟩ := k'1z B z h
 exact ⟨_, _, List_Qu_calls B hB f cap rd e u d n l num hl hd1 hd2 h1, k'1c n num e h2⟩
theorem okQu_rd (s : List UInt8) (d : Int) : okQu s d = (match readE s d with
 | none => some ⟨(lastF (knB tbG s d) 1).n, (lastF (knB tbG s d) 2).n, unB tbG s d⟩
 | _ => none) := by
 unfold okQu
 rw [okG_rd]
 cases readE s d with
 | some e => rfl
 | none => rfl
theorem Qu_read (hB : BOk B) (s : List UInt8) (d : Int) (hl : s.length < big) (hd1 : -9223372036854775808 ≤ d) (hd2 : d < 9223372036854775808) : RdAt B 212 [] Qu.d id (okQu s d) s d := by
 have h1 := k'u B hB 295 tbG (tbG_calls B) s d hl hd1 hd2
 have hk : LOk (knB tbG s d) := k'i tbG s d hl
 have hm := k'28 hk
 have main : CallsA (cx B) 212 [sT s, .d (.int .i64 d)] [] (.tup [.d (Qu.d ⟨(lastF (knB tbG s d) 1).n, (lastF (knB tbG s d) 2).n, unB tbG s d⟩), .d (eD (readE s d))]) [] := by
  unfold Qu.d
  refine k'2 (X := cx B) (fn := Tryz.f212) Tryz.func212 rfl rfl rfl rfl rfl 0 [] rfl rfl ?_
  refine walk ?_
  refine k'1 [] (h1) rfl rfl rfl rfl rfl rfl rfl (by decide) rfl rfl rfl rfl rfl ?_
  refine walk ?_
  refine k'8 [1] (k'7 B (readE s d) (unB tbG s d) d s.length (knB tbG s d) 1 hm) rfl rfl rfl rfl rfl rfl (by decide) rfl rfl rfl rfl rfl rfl ?_
  refine walk ?_
  refine k'8 [1] (k'7 B (readE s d) (unB tbG s d) d s.length (knB tbG s d) 2 hm) rfl rfl rfl rfl rfl rfl (by decide) rfl rfl rfl rfl rfl rfl ?_
  refine walk ?_
  exact k'3 trivial (by decide) rfl rfl rfl rfl rfl
 rw [okQu_rd]
 unfold RdAt
 cases hr : readE s d with
 | none => rw [hr] at main; exact main
 | some er => rw [hr] at main; exact ⟨_, er, k'r hr, main⟩
end Go.Proofs.YtmnllpkbjkenfaaGreatDoor
