/- Quantile: may they be, written, read. -/
import Derived.Test.YtmnllpkbjkenfaaGreatDoorGP
import Derived.Test.YtmnllpkbjkenfaaGreatDoorWF
set_option linter.unusedSimpArgs false
set_option linter.unusedVariables false
set_option maxRecDepth 100000
namespace Go.Proofs.YtmnllpkbjkenfaaGreatDoor
open Go Go.Abs
variable (B : Fr)
def Qu.d (x : Qu) : D := .agg [.int .u64 x.q, .int .u64 x.v, .str x.u]
def Qu.R (x : Qu) (a : D) : Prop := a = x.d
def QuSh (x : D) : Prop := ∃ (a0 : Nat) (a1 : Nat) (a2 : List UInt8), x = .agg [.int .u64 a0, .int .u64 a1, .str a2]
theorem Qu.R_sh {x : Qu} {a : D} (h : x.R a) : QuSh a := ⟨_, _, _, h⟩
theorem Qu.d_R (x : Qu) : x.R x.d := rfl
theorem Qu.Rs_sh {l : List Qu} {xs : List D} (h : RsOf Qu.R l xs) : ∀ x ∈ xs, QuSh x := fun x hx => by
 obtain ⟨v, -, r⟩ := h.mem hx
 exact Qu.R_sh r
theorem Qu.Rs_map {l : List Qu} {xs : List D} (h : RsOf Qu.R l xs) : xs = l.map Qu.d := by
 refine List.ext_getElem? fun i => ?_
 rw [List.getElem?_map]
 cases hv : l[i]? with
 | none =>
  have := List.getElem?_eq_none_iff.1 hv
  exact List.getElem?_eq_none_iff.2 (by rw [h.1]; exact this)
 | some v =>
  obtain ⟨x, hx, r⟩ := h.2 i v hv
  rw [hx, show x = v.d from r]; rfl
structure QuTy (P : Program) (t : TypeId) : Prop where
 ut : P.underlying t = some (.struct (P.fieldsOf t))
 hp : P.stoodInHeld t = false
 hm : P.eqGuardType P.depth t = false
 fs : ∃ f g h, (P.fieldsOf t).toList = [f, g, h] ∧ (f.name == "_") = false ∧ (g.name == "_") = false ∧ (h.name == "_") = false ∧ f.offset = 0 ∧ g.offset = 1 ∧ h.offset = 2 ∧ P.underlying f.type = some (.int .u64) ∧ P.underlying g.type = some (.int .u64) ∧ P.underlying h.type = some .string ∧ P.plainKey f.type = true ∧ P.plainKey g.type = true ∧ P.plainKey h.type = true
theorem qu_run {P : Program} {t : TypeId} (h : QuTy P t) (xo yo : Operand) (a b m n : Nat) (k l : List UInt8) (w : World) : (do eqGuard .neq t xo yo (.agg #[.int .u64 a, .int .u64 m, .string ⟨k.toArray⟩]) (.agg #[.int .u64 b, .int .u64 n, .string ⟨l.toArray⟩]); binOp .neq t (.agg #[.int .u64 a, .int .u64 m, .string ⟨k.toArray⟩]) (.agg #[.int .u64 b, .int .u64 n, .string ⟨l.toArray⟩])).run P w = .ok (.bool (!(a == b && m == n && k == l))) w := by
 obtain ⟨f, g, e, hf, m1, m2, m3, o1, o2, o3, u1, u2, u3, p1, p2, p3⟩ := h.fs
 have n1 : f.name ≠ "_" := ne_of_beq_false m1
 have n2 : g.name ≠ "_" := ne_of_beq_false m2
 have n3 : e.name ≠ "_" := ne_of_beq_false m3
 rw [Sem.run_bind, run_eqGuard_agg w _ t xo yo _ _ h.hm]
 simp only [Result.andThen_ok]
 rw [run_neq_struct, run_equalIn_agg w 9999 t _ _ h.ut h.hp, hf]
 simp only [Op.eqFields, if_pos n1, if_pos n2, if_pos n3, o1, o2, o3, Sem.run_bind, Sem.run_ite]
 rw [run_part_plain (v := .int .u64 a) w p1 rfl]
 simp only [Result.andThen_ok]
 rw [run_part_plain (v := .int .u64 b) w p1 rfl]
 simp only [Result.andThen_ok]
 rw [run_equalIn_int w _ _ _ _ _ _ u1]
 simp only [Result.andThen_ok]
 rw [ibeq]
 cases a == b with
 | false => simp
 | true =>
  simp only [Bool.not_true, Bool.false_eq_true, if_false, Sem.run_bind]
  rw [run_part_plain (v := .int .u64 m) w p2 rfl]
  simp only [Result.andThen_ok]
  rw [run_part_plain (v := .int .u64 n) w p2 rfl]
  simp only [Result.andThen_ok]
  rw [run_equalIn_int w _ _ _ _ _ _ u2]
  simp only [Result.andThen_ok, Sem.run_ite]
  rw [ibeq]
  cases m == n with
  | false => simp
  | true =>
   simp only [Bool.not_true, Bool.false_eq_true, if_false, Sem.run_bind]
   rw [run_part_plain (v := .string ⟨k.toArray⟩) w p3 rfl]
   simp only [Result.andThen_ok]
   rw [run_part_plain (v := .string ⟨l.toArray⟩) w p3 rfl]
   simp only [Result.andThen_ok]
   rw [run_equalIn_string w _ _ _ _ u3, toList_str, toList_str]
   simp only [Result.andThen_ok, Sem.run_ite, Sem.run_pure]
   cases k == l <;> simp
theorem _root_.Go.Abs.StepE.neqQu {X : Ctx} {o : Oper} {v : Operand → T} {H : List Ob} {t t' : TypeId} {x y : Operand} {a b m n : Nat} {k l : List UInt8} (ho : o.op = .binOp .neq t x y t') (hx : v x = .d (.agg [.int .u64 a, .int .u64 m, .str k])) (hy : v y = .d (.agg [.int .u64 b, .int .u64 n, .str l])) (h : QuTy X.P t) : StepE X o v H ⟨.d (.bool (!(a == b && m == n && k == l))), none, H⟩ :=
 .psem (k'1t ho (by simp)) fun s hs N F ρ ac w next Q hd hr kk => by
  have ex := hs x (by rw [ho]; simp [Op.operands])
  have ey := hs y (by rw [ho]; simp [Op.operands])
  obtain ⟨lx, hx'⟩ := hr.val x
  obtain ⟨ly, hy'⟩ := hr.val y
  rw [ex, hx] at hx'
  rw [ey, hy] at hy'
  have inv : ∀ {l0 : Lc} {q : Value} {a m : Nat} {k : List UInt8}, TR F ρ w l0 (.d (.agg [.int .u64 a, .int .u64 m, .str k])) q → q = .agg #[.int .u64 a, .int .u64 m, .string ⟨k.toArray⟩] := fun h => by
   cases h with | d h => cases h with | agg h => cases h with | cons h1 h2 => cases h1; cases h2 with | cons h3 h4 => cases h3; cases h4 with | cons h5 h6 => cases h5; cases h6; rfl
  have e1 := inv hx'
  have e2 := inv hy'
  have hrun := qu_run h x y a b m n k l w
  refine k'e (v := .bool (!(a == b && m == n && k == l))) (w' := w) ?_ (kk F ρ _ w ?_ (Ext.refl F ρ w))
  ·rw [Sem.run_bind] at hrun
   simp only [execOp, ho, e1, e2, Sem.run_bind]
   revert hrun
   generalize (eqGuard BinOp.neq t x y (.agg #[.int .u64 a, .int .u64 m, .string ⟨k.toArray⟩]) (.agg #[.int .u64 b, .int .u64 n, .string ⟨l.toArray⟩])).run X.P w = g
   intro hrun
   cases g with
   | ok u w1 =>
    simp only [Result.andThen_ok] at hrun ⊢
    rw [hrun]
    rfl
   | halt x w1 => simp [Result.andThen] at hrun
  ·exact hr.put hd fun d _ => .d (.bool _)
theorem qu_ok : QuTy (cx B).P 180 where
 ut := by kernel_rfl
 hp := by kernel_rfl
 hm := by kernel_rfl
 fs := ⟨(Tryz.prog.fieldsOf 180)[0]'(of_decide_eq_true (by kernel_rfl)), (Tryz.prog.fieldsOf 180)[1]'(of_decide_eq_true (by kernel_rfl)), (Tryz.prog.fieldsOf 180)[2]'(of_decide_eq_true (by kernel_rfl)), by kernel_rfl, by kernel_rfl, by kernel_rfl, by kernel_rfl, by kernel_rfl, by kernel_rfl, by kernel_rfl, by kernel_rfl, by kernel_rfl, by kernel_rfl, by kernel_rfl, by kernel_rfl, by kernel_rfl⟩
theorem EqS_Qu_R {a b : List Qu} {xs ys : List D} (z w : Bool) (hb : (a.map Qu.sz).sum < big) (h1 : RsOf Qu.R a xs) (h2 : RsOf Qu.R b ys) : k'1 (cx B) 187 [.d (.sl z xs), .d (.sl w ys)] [] (.d (.bool (Qu.eqs a b))) [] := by
 have hla := sum_ge (sz := Qu.sz) (fun x => by unfold Qu.sz; omega) a
 have l1 := h1.1
 have l2 := h2.1
 obtain rfl := Qu.Rs_map h1
 obtain rfl := Qu.Rs_map h2
 unfold big at hb
 rw [Qu.eqs_by]
 refine k'2 (X := cx B) (fn := Tryz.f187) Tryz.func187 rfl rfl rfl rfl rfl 0 [] rfl rfl ?_
 refine Y ?_
 rw [l1, l2]
 by_cases hlen : a.length = b.length
 ·rw [show ((a.length : Int) != (b.length : Int)) = false by rw [hlen]; simp, show (a.length == b.length) = true by simp [hlen]]
  simp only [Bool.true_and]
  refine Y ?_
  rw [l1]
  refine k'k (fun i : Nat => a.length - i) (fun i => [(0, .d (.sl z (a.map Qu.d))), (1, .d (.sl w (b.map Qu.d))), (12, iT a.length), (13, iT i)]) (fun _ => []) (fun i => i ≤ a.length ∧ (List.range i).all (byI Qu.eq a b) = true) 0 ⟨by omega, rfl⟩ ⟨rfl, rfl, rfl, rfl, trivial⟩ rfl 0 rfl (fun _ => rfl) (fun _ => rfl) (fun _ => rfl) ?_
  rintro i ⟨i1, i2⟩
  refine Y ?_
  by_cases hlt : i < a.length
  ·rw [show decide ((i : Int) < a.length) = true from decide_eq_true (by omega)]
   obtain ⟨x, hx⟩ : ∃ x, a[i]? = some x := ⟨_, List.getElem?_eq_getElem hlt⟩
   obtain ⟨y, hy⟩ : ∃ y, b[i]? = some y := ⟨_, List.getElem?_eq_getElem (by omega)⟩
   have hxd : (a.map Qu.d)[i]? = some x.d := by rw [List.getElem?_map, hx]; rfl
   have hyd : (b.map Qu.d)[i]? = some y.d := by rw [List.getElem?_map, hy]; rfl
   have hby : byI Qu.eq a b i = (x.q == y.q && x.v == y.v && x.u == y.u) := by unfold byI; rw [hx, hy]; rfl
   have hin : (List.range a.length).all (byI Qu.eq a b) = true → byI Qu.eq a b i = true := fun h => List.all_eq_true.1 h i (List.mem_range.2 hlt)
   rw [hby] at hin
   unfold Qu.d at hxd hyd
   refine Y ?_
   refine k'4l (.indexAddr (k := .i64) (n := i) (es := a.map Qu.d) rfl rfl rfl rfl (.inl ⟨_, rfl⟩) rfl (by omega) hxd rfl (by decide)) rfl rfl rfl ?_
   refine Y ?_
   refine k'4l (.indexAddr (k := .i64) (n := i) (es := b.map Qu.d) rfl rfl rfl rfl (.inl ⟨_, rfl⟩) rfl (by omega) hyd rfl (by decide)) rfl rfl rfl ?_
   refine Y ?_
   refine k'4l (StepE.neqQu rfl rfl rfl (qu_ok B)) rfl rfl rfl ?_
   cases hr : (x.q == y.q && x.v == y.v && x.u == y.u)
   ·rw [show (List.range a.length).all (byI Qu.eq a b) = false by cases hh : (List.range a.length).all (byI Qu.eq a b) with | false => rfl | true => rw [hin hh] at hr; simp at hr]
    exact Z
   refine Y ?_
   rw [show IntKind.i64.wrap ((i : Int) + 1) = ((i + 1 : Nat) : Int) by rw [k'1a (by omega) (by omega)]; omega]
   exact ⟨i + 1, by omega, ⟨by omega, by rw [List.range_succ, List.all_append, i2]; simp [hby, hr]⟩, ⟨rfl, rfl, rfl, rfl, trivial⟩, rfl, k'1m rfl⟩
  ·have hge : i = a.length := by omega
   subst hge
   rw [i2, show decide ((a.length : Int) < a.length) = false from decide_eq_false (by omega)]
   exact Z
 ·rw [show ((a.length : Int) != (b.length : Int)) = true by simp; omega, show (a.length == b.length) = false by simp [hlen]]
  exact Z
theorem Qu_May_calls (x : Qu) (xa : D) (d : Int) (hbig : x.sz < big) (hx : x.R xa) (hd1 : -9223372036854775808 ≤ d) (hd2 : d < 9223372036854775808) : k'1 (cx B) 267 [.d xa, .d (.int .i64 d)] [] (.d (.bool (x.may d))) [] := by
 obtain rfl := hx
 unfold Qu.sz at hbig
 unfold Qu.may Qu.d
 by_cases hd0 : 0 ≤ d
 rotate_left
 ·rw [show decide (0 ≤ d) = false from decide_eq_false hd0]
  refine k'2 (X := cx B) (fn := Tryz.f267) Tryz.func267 rfl rfl rfl rfl rfl 0 [] rfl rfl ?_
  refine Y ?_
  rw [show decide (d ≥ 0) = false from decide_eq_false hd0]
  exact Z
 have c_u := k'1f B 295 tbG (tbG_calls B) x.u d (by omega) (by omega) hd2
 refine k'2 (X := cx B) (fn := Tryz.f267) Tryz.func267 rfl rfl rfl rfl rfl 0 [] rfl rfl ?_
 refine Y ?_
 rw [show decide (d ≥ 0) = decide (0 ≤ d) from rfl]
 cases e0 : (decide (0 ≤ d))
 ·exact Z
 refine Y ?_
 refine k'a [] (c_u) rfl rfl rfl rfl rfl ?_
 exact Z
theorem All_Qu_calls : AllP B 266 QuSh := All_of B (All1_mk B Tryz.func327) (k'36 B Tryz.func346) (Cont_mk B Tryz.func326) (Allc_mk B Tryz.func266)
theorem All_Qu_R : AllRP B 266 267 Qu.R Qu.sz Qu.may := All_R B (All_Qu_calls B) Qu.Rs_sh (fun x => by unfold Qu.sz; omega) (Qu_May_calls B)
theorem Qu_Marshal_calls (x : Qu) (xa : D) (d : Int) (hbig : x.sz < big) (hwf : x.wf) (hx : x.R xa) : k'1 (cx B) 229 [.d xa, .d (.int .i64 d)] [] (.tup [sT x.mar, .d .nili]) [] := by
 have hlen := Qu.mar_len x
 have hlen : x.mar.length < big := by omega
 obtain rfl := hx
 unfold Qu.sz at hbig
 obtain ⟨w_q, w_v⟩ := hwf
 unfold Qu.mar Qu.hb at hlen ⊢
 unfold Qu.d
 obtain ⟨a0, ha0, c0⟩ := k'1d B 1 x.q (by omega) (by omega) (.nw 102 2) [] k'2z (by simp only [List.length_append, List.length_nil] at hlen ⊢; omega)
 rw [List.nil_append] at c0
 obtain ⟨a1, ha1, c1⟩ := k'1d B 2 x.v (by omega) (by omega) a0 (fxV 1 x.q) ha0 (by simp only [List.length_append] at hlen ⊢; omega)
 obtain ⟨cu, cs⟩ := k'2u B (s := x.u) ha1 (l := fxV 1 x.q ++ fxV 2 x.v) (by simp only [List.length_append] at hlen ⊢; omega)
 generalize fxV 1 x.q ++ fxV 2 x.v = o1 at c1 cu cs ⊢
 generalize fxV 1 x.q = o0 at c0 c1
 refine k'2 (X := cx B) (fn := Tryz.f229) Tryz.func229 rfl rfl rfl rfl rfl 0 [] rfl rfl ?_
 refine Y ?_
 refine k'5 [1] (c0) rfl rfl rfl rfl rfl rfl rfl (by decide) (by simp [k'0 k'2z]) (by simp [k'0 ha0]) rfl rfl rfl ?_
 refine Y ?_
 refine k'5 [1] (c1) rfl rfl rfl rfl rfl rfl rfl (by decide) (by simp [k'0 ha0]) (by simp [k'0 ha1]) rfl rfl rfl ?_
 refine Y ?_
 refine k'5 [1] (cu) rfl rfl rfl rfl rfl rfl rfl (by decide) (by simp [k'0 ha1]) (by simp [k'0 (.inl rfl)]) rfl rfl rfl ?_
 refine Y ?_
 refine k'5 [1] (cs) rfl rfl rfl rfl rfl rfl rfl (by decide) (by simp [k'0 (.inl rfl)]) rfl rfl rfl rfl ?_
 exact Z
theorem Parts_Qu_wr : PartsP B 228 QuSh := k'4k B Tryz.func228
theorem Parts_Qu_R : PartsRP B 228 229 Qu.R Qu.sz Qu.wf Qu.may Qu.mar := Parts_R0 B (Parts_Qu_wr B) Qu.Rs_sh fun v x d a b c _ _ _ => Qu_Marshal_calls B v x d a b c
theorem Qu_fits (l : List Qu) : ∀ a ∈ l.map Qu.d, a.fits 3 = true := by
 intro a ha
 obtain ⟨c, -, rfl⟩ := List.mem_map.1 ha
 rfl
theorem part_Qu_calls : partP B 294 Qu.d := k'3b B Tryz.func294
theorem List_Qu_calls : ListP B 211 Qu.d := List_S B (fun x => Qu_fits [x]) (part_Qu_calls B) (List_mk B Tryz.func211)
theorem List_Qu_tells : ListT B 211 Qu.d := k'25 B (List_Qu_calls B)
theorem okQu_rd (s : List UInt8) (d : Int) : okQu s d = (match k'j s d with
 | none => some ⟨(k'8 (knB tbG s d) 1).n, (k'8 (knB tbG s d) 2).n, unB tbG s d⟩
 | _ => none) := by
 unfold okQu
 rw [okG_rd]
 cases k'j s d with
 | some e => rfl
 | none => rfl
theorem Qu_read (hB : BOk B) (s : List UInt8) (d : Int) (hl : s.length < big) (hd1 : -9223372036854775808 ≤ d) (hd2 : d < 9223372036854775808) : RdAt B 212 [] Qu.d id (okQu s d) s d := by
 have h1 := k'17 B hB 295 tbG (tbG_calls B) s d hl hd1 hd2
 have hk : LOk (knB tbG s d) := k'n tbG s d hl
 have hm := k'2s hk
 have main : k'1 (cx B) 212 [sT s, .d (.int .i64 d)] [] (.tup [.d (Qu.d ⟨(k'8 (knB tbG s d) 1).n, (k'8 (knB tbG s d) 2).n, unB tbG s d⟩), .d (eD (k'j s d))]) [] := by
  unfold Qu.d
  refine k'2 (X := cx B) (fn := Tryz.f212) Tryz.func212 rfl rfl rfl rfl rfl 0 [] rfl rfl ?_
  refine Y ?_
  refine l_cw [] (h1) rfl rfl rfl ?_
  refine x_cw [1] (k'9 B (k'j s d) (unB tbG s d) d s.length (knB tbG s d) 1 hm) rfl rfl rfl ?_
  refine k'1j [1] (k'9 B (k'j s d) (unB tbG s d) d s.length (knB tbG s d) 2 hm) rfl rfl rfl ?_
  exact Z
 rw [okQu_rd]
 unfold RdAt
 cases hr : k'j s d with
 | none => rw [hr] at main; exact main
 | some er => rw [hr] at main; exact ⟨_, er, k'11 hr, main⟩
