/- Quantile: what they are, their bytes, what may be, what is read. -/
import Derived.Test.YtidcjbkenpgnoaaGreatDoorPAB
import Derived.Test.YtidcjbkenpgnoaaGreatDoorHP
set_option linter.unusedSimpArgs false
set_option linter.unusedVariables false
set_option maxRecDepth 100000
namespace Go.Proofs.YtidcjbkenpgnoaaGreatDoor
open Go Go.Abs
variable (B : Fr)
section
structure Qu where
 q : Nat
 v : Nat
 u : List UInt8
def noQu : Qu := ⟨0, 0, []⟩
def Qu.hb (x : Qu) : List UInt8 := fxV 1 x.q ++ fxV 2 x.v
def Qu.hF (x : Qu) : List Fld := fxF 1 x.q ++ fxF 2 x.v
def Qu.mar (x : Qu) : List UInt8 := x.hb ++ x.u
def tbG (n k : Nat) : Bool := bif [1, 2].contains n then k == 1 else false
theorem tbG_calls (n k : Nat) : k'0 (cx B) 422 [iT n, iT k] [] (.d (.bool (tbG n k))) [] := by
 refine l_bw Tryz.func422 0 [] ?_
 cases h0 : ((n : Int) == 1) with
 | true =>
  have e : n = 1 := by have := eq_of_beq h0; omega
  subst e
  rw [show tbG 1 k = ((k : Int) == 1) from (ibeq k 1).symm]
  exact Z
 | false =>
 have eh0 : n ≠ 1 := by have := ne_of_beq_false h0; omega
 refine Y ?_
 cases h1 : ((n : Int) == 2) with
 | true =>
  have e : n = 2 := by have := eq_of_beq h1; omega
  subst e
  rw [show tbG 2 k = ((k : Int) == 1) from (ibeq k 1).symm]
  exact Z
 | false =>
 have eh1 : n ≠ 2 := by have := ne_of_beq_false h1; omega
 refine Y ?_
 rw [show tbG n k = false from by unfold tbG; simp [eh0, eh1]]
 exact k'n rfl
def Qu.wf (x : Qu) : Prop := x.q < 2 ^ 64 ∧ x.v < 2 ^ 64
def Qu.sz (x : Qu) : Nat := 300 + 0 + x.u.length
def Qu.may (x : Qu) (d : Int) : Bool := decide (0 ≤ d) && k'1l tbG x.u d
theorem Qu.hb_len (x : Qu) : x.mar.length + 20 ≤ x.sz := by
 have q0 := k'26 1 x.q
 have q1 := k'26 2 x.v
 unfold Qu.mar Qu.hb Qu.sz
 simp only [List.length_append]
 omega
theorem Qu.mar_len (x : Qu) : x.mar.length + 20 ≤ x.sz := Qu.hb_len x
theorem Qu.mars_lt {l : List Qu} (h : (l.map Qu.sz).sum < big) : ∀ s ∈ l.map Qu.mar, s.length < 2 ^ 64 := fun s hs => by
 obtain ⟨k, hk, rfl⟩ := List.mem_map.1 hs
 have h1 := Qu.mar_len k; have h2 := k'1e (sz := Qu.sz) hk
 unfold big at h; omega
theorem Qu.all {x : Qu} (h1 : x.sz < big) (h2 : x.wf) (d : Int) : all x.hb d = .ok x.hF := by
 unfold Qu.sz big at h1
 obtain ⟨w0, w1⟩ := h2
 exact k'1 (k'44 (by omega) (by omega) d (by omega)) (k'44 (by omega) (by omega) d (by omega))
theorem Qu.inn (x : Qu) : inT tbG x.hF = true := by
 unfold Qu.hF
 simp only [k'35, Bool.and_eq_true]
 exact ⟨in_fx 1 x.q rfl, in_fx 2 x.v rfl⟩
def tellQu (d : Int) (l : List Fld) : Option (List UInt8 → Qu) :=
 some fun u => ⟨(k'5 l 1).n, (k'5 l 2).n, u⟩
def okQu (s : List UInt8) (d : Int) : Option Qu := apO (okG tbG tellQu s d)
theorem Qu.tell {x : Qu} (hwf : x.wf) (d : Int) : tellQu d x.hF = (
 some fun u => ⟨x.q, x.v, u⟩) := by
 obtain ⟨w0, w1⟩ := hwf
 have sq : sel 1 x.hF = fxF 1 x.q := by unfold Qu.hF; simp [k'9, k's, k'k, k'r, k'h, k'f]
 have tq : (k'5 x.hF 1).n = x.q := k'2b sq
 have sv : sel 2 x.hF = fxF 2 x.v := by unfold Qu.hF; simp [k'9, k's, k'k, k'r, k'h, k'f]
 have tv : (k'5 x.hF 2).n = x.v := k'2b sv
 unfold tellQu
 simp only [tq, tv]
theorem Qu_back : Back okQu Qu.mar Qu.may (fun x => x.sz < big ∧ x.wf) := by
 intro d x hf hm
 obtain ⟨hbig, hwf⟩ := hf
 have hall := Qu.all hbig hwf
 have hwf0 := hwf
 have hbig' := hbig
 unfold Qu.sz big at hbig'
 obtain ⟨-, -⟩ := hwf
 unfold Qu.may at hm
 simp only [Bool.and_eq_true, decide_eq_true_eq] at hm
 obtain ⟨hd, hu⟩ := hm
 have htell := fun d => Qu.tell (x := x) hwf0 d
 constructor
 ·unfold okQu Qu.mar
  rw [k'x hd (hall d) x.inn hu, htell]
  rfl
 ·intro e he hn
  unfold okQu Qu.mar
  cases hr : k'1l tbG x.u e with
  | false => rw [k'g (hall e) he hu fun _ => hr]; rfl
  | true =>
   rcases Int.lt_or_le e 0 with h0 | h0
   ·rw [k'1f h0]; rfl
   ·rw [k'x h0 (hall e) x.inn hr, htell]
    exfalso
    unfold Qu.may at hn
    simp [h0, hr, ] at hn
theorem Qu_told : Told okQu Qu.may Qu.wf Qu.sz 300 := by
 intro d s x h
 obtain ⟨f, u, h1, rfl⟩ := k'j h
 obtain ⟨l, -, h2, -, h4, hd, hf, hw⟩ := k'v h1
 dsimp only at h2 h4 hw
 unfold tellQu at h2
 injection h2 with h2
 subst h2
 refine ⟨?_, ⟨k'11 hf 1, k'11 hf 2⟩, ?_⟩
 ·unfold Qu.may
  simp only [Bool.and_eq_true]
  exact ⟨decide_eq_true hd, h4⟩
 ·unfold Qu.sz
  simp only [Kv.szs_sum]
  omega
def Qu.eq (x y : Qu) : Bool := x.q == y.q && x.v == y.v && x.u == y.u
def Qu.eqs : List Qu → List Qu → Bool
 | [], [] => true
 | v :: l, w :: r => v.eq w && Qu.eqs l r
 | [], _ :: _ => false
 | _ :: _, [] => false
theorem Qu.eq_self (x : Qu) : x.eq x = true := by unfold Qu.eq; simp [Kv.eqs_self]
theorem Qu.eqs_self : ∀ l : List Qu, Qu.eqs l l = true
 | [] => rfl
 | v :: l => by unfold Qu.eqs; simp [Qu.eq_self v, Qu.eqs_self l]
theorem Qu.eqs_by (a b : List Qu) : Qu.eqs a b = (a.length == b.length && (List.range a.length).all (byI Qu.eq a b)) :=
 k'38 Qu.eq Qu.eqs rfl (fun _ _ _ _ => rfl) (fun _ _ => rfl) (fun _ _ => rfl) a b
end
section
def Qu.d (x : Qu) : D := .agg [.int .u64 x.q, .int .u64 x.v, .str x.u]
def Qu.R (x : Qu) (a : D) : Prop := a = x.d
def QuSh (x : D) : Prop := ∃ (a0 : Nat) (a1 : Nat) (a2 : List UInt8), x = .agg [.int .u64 a0, .int .u64 a1, .str a2]
theorem Qu.R_sh {x : Qu} {a : D} (h : x.R a) : QuSh a := ⟨_, _, _, h⟩
theorem Qu.d_R (x : Qu) : x.R x.d := rfl
theorem Qu.Rs_sh {l : List Qu} {xs : List D} (h : RsOf Qu.R l xs) : ∀ x ∈ xs, QuSh x := fun x hx => by
 obtain ⟨v, -, r⟩ := h.mem hx
 exact Qu.R_sh r
theorem Qu.Rs_map {l : List Qu} {xs : List D} (h : RsOf Qu.R l xs) : xs = l.map Qu.d := by
 refine List.ext_getElem? fun i => ?_
 rw [List.getElem?_map]
 cases hv : l[i]? with
 | none =>
  have := List.getElem?_eq_none_iff.1 hv
  exact List.getElem?_eq_none_iff.2 (by rw [h.1]; exact this)
 | some v =>
  obtain ⟨x, hx, r⟩ := h.2 i v hv
  rw [hx, show x = v.d from r]; rfl
structure QuTy (P : Program) (t : TypeId) : Prop where
 ut : P.underlying t = some (.struct (P.fieldsOf t))
 hp : P.stoodInHeld t = false
 hm : P.eqGuardType P.depth t = false
 fs : ∃ f g h, (P.fieldsOf t).toList = [f, g, h] ∧ (f.name == "_") = false ∧ (g.name == "_") = false ∧ (h.name == "_") = false ∧ f.offset = 0 ∧ g.offset = 1 ∧ h.offset = 2 ∧ P.underlying f.type = some (.int .u64) ∧ P.underlying g.type = some (.int .u64) ∧ P.underlying h.type = some .string ∧ P.plainKey f.type = true ∧ P.plainKey g.type = true ∧ P.plainKey h.type = true
theorem qu_run {P : Program} {t : TypeId} (h : QuTy P t) (xo yo : Operand) (a b m n : Nat) (k l : List UInt8) (w : World) : (do eqGuard .neq t xo yo (.agg #[.int .u64 a, .int .u64 m, .string ⟨k.toArray⟩]) (.agg #[.int .u64 b, .int .u64 n, .string ⟨l.toArray⟩]); binOp .neq t (.agg #[.int .u64 a, .int .u64 m, .string ⟨k.toArray⟩]) (.agg #[.int .u64 b, .int .u64 n, .string ⟨l.toArray⟩])).run P w = .ok (.bool (!(a == b && m == n && k == l))) w := by
 obtain ⟨f, g, e, hf, m1, m2, m3, o1, o2, o3, u1, u2, u3, p1, p2, p3⟩ := h.fs
 have n1 : f.name ≠ "_" := ne_of_beq_false m1
 have n2 : g.name ≠ "_" := ne_of_beq_false m2
 have n3 : e.name ≠ "_" := ne_of_beq_false m3
 rw [Sem.run_bind, run_eqGuard_agg w _ t xo yo _ _ h.hm]
 simp only [Result.andThen_ok]
 rw [run_neq_struct, run_equalIn_agg w 9999 t _ _ h.ut h.hp, hf]
 simp only [Op.eqFields, if_pos n1, if_pos n2, if_pos n3, o1, o2, o3, Sem.run_bind, Sem.run_ite]
 rw [run_part_plain (v := .int .u64 a) w p1 rfl]
 simp only [Result.andThen_ok]
 rw [run_part_plain (v := .int .u64 b) w p1 rfl]
 simp only [Result.andThen_ok]
 rw [run_equalIn_int w _ _ _ _ _ _ u1]
 simp only [Result.andThen_ok]
 rw [ibeq]
 cases a == b with
 | false => simp
 | true =>
  simp only [Bool.not_true, Bool.false_eq_true, if_false, Sem.run_bind]
  rw [run_part_plain (v := .int .u64 m) w p2 rfl]
  simp only [Result.andThen_ok]
  rw [run_part_plain (v := .int .u64 n) w p2 rfl]
  simp only [Result.andThen_ok]
  rw [run_equalIn_int w _ _ _ _ _ _ u2]
  simp only [Result.andThen_ok, Sem.run_ite]
  rw [ibeq]
  cases m == n with
  | false => simp
  | true =>
   simp only [Bool.not_true, Bool.false_eq_true, if_false, Sem.run_bind]
   rw [run_part_plain (v := .string ⟨k.toArray⟩) w p3 rfl]
   simp only [Result.andThen_ok]
   rw [run_part_plain (v := .string ⟨l.toArray⟩) w p3 rfl]
   simp only [Result.andThen_ok]
   rw [run_equalIn_string w _ _ _ _ u3, toList_str, toList_str]
   simp only [Result.andThen_ok, Sem.run_ite, Sem.run_pure]
   cases k == l <;> simp
theorem _root_.Go.Abs.StepE.neqQu {X : Ctx} {o : Oper} {v : Operand → T} {H : List Ob} {t t' : TypeId} {x y : Operand} {a b m n : Nat} {k l : List UInt8} (ho : o.op = .binOp .neq t x y t') (hx : v x = .d (.agg [.int .u64 a, .int .u64 m, .str k])) (hy : v y = .d (.agg [.int .u64 b, .int .u64 n, .str l])) (h : QuTy X.P t) : StepE X o v H ⟨.d (.bool (!(a == b && m == n && k == l))), none, H⟩ :=
 .psem (k'21 ho (by simp)) fun s hs N F ρ ac w next Q hd hr kk => by
  have ex := hs x (by rw [ho]; simp [Op.operands])
  have ey := hs y (by rw [ho]; simp [Op.operands])
  obtain ⟨lx, hx'⟩ := hr.val x
  obtain ⟨ly, hy'⟩ := hr.val y
  rw [ex, hx] at hx'
  rw [ey, hy] at hy'
  have inv : ∀ {l0 : Lc} {q : Value} {a m : Nat} {k : List UInt8}, TR F ρ w l0 (.d (.agg [.int .u64 a, .int .u64 m, .str k])) q → q = .agg #[.int .u64 a, .int .u64 m, .string ⟨k.toArray⟩] := fun h => by
   cases h with | d h => cases h with | agg h => cases h with | cons h1 h2 => cases h1; cases h2 with | cons h3 h4 => cases h3; cases h4 with | cons h5 h6 => cases h5; cases h6; rfl
  have e1 := inv hx'
  have e2 := inv hy'
  have hrun := qu_run h x y a b m n k l w
  refine k'i (v := .bool (!(a == b && m == n && k == l))) (w' := w) ?_ (kk F ρ _ w ?_ (Ext.refl F ρ w))
  ·rw [Sem.run_bind] at hrun
   simp only [execOp, ho, e1, e2, Sem.run_bind]
   revert hrun
   generalize (eqGuard BinOp.neq t x y (.agg #[.int .u64 a, .int .u64 m, .string ⟨k.toArray⟩]) (.agg #[.int .u64 b, .int .u64 n, .string ⟨l.toArray⟩])).run X.P w = g
   intro hrun
   cases g with
   | ok u w1 =>
    simp only [Result.andThen_ok] at hrun ⊢
    rw [hrun]
    rfl
   | halt x w1 => simp [Result.andThen] at hrun
  ·exact hr.put hd fun d _ => .d (.bool _)
theorem qu_ok : QuTy (cx B).P 265 where
 ut := by kernel_rfl
 hp := by kernel_rfl
 hm := by kernel_rfl
 fs := ⟨(Tryz.prog.fieldsOf 265)[0]'(of_decide_eq_true (by kernel_rfl)), (Tryz.prog.fieldsOf 265)[1]'(of_decide_eq_true (by kernel_rfl)), (Tryz.prog.fieldsOf 265)[2]'(of_decide_eq_true (by kernel_rfl)), by kernel_rfl, by kernel_rfl, by kernel_rfl, by kernel_rfl, by kernel_rfl, by kernel_rfl, by kernel_rfl, by kernel_rfl, by kernel_rfl, by kernel_rfl, by kernel_rfl, by kernel_rfl, by kernel_rfl⟩
theorem EqS_Qu_R {a b : List Qu} {xs ys : List D} (z w : Bool) (hb : (a.map Qu.sz).sum < big) (h1 : RsOf Qu.R a xs) (h2 : RsOf Qu.R b ys) : k'0 (cx B) 313 [.d (.sl z xs), .d (.sl w ys)] [] (.d (.bool (Qu.eqs a b))) [] := by
 have hla := sum_ge (sz := Qu.sz) (fun x => by unfold Qu.sz; omega) a
 have l1 := h1.1
 have l2 := h2.1
 obtain rfl := Qu.Rs_map h1
 obtain rfl := Qu.Rs_map h2
 unfold big at hb
 rw [Qu.eqs_by]
 refine l_bw Tryz.func313 0 [] ?_
 rw [l1, l2]
 by_cases hlen : a.length = b.length
 ·rw [show ((a.length : Int) != (b.length : Int)) = false by rw [hlen]; simp, show (a.length == b.length) = true by simp [hlen]]
  simp only [Bool.true_and]
  refine Y ?_
  rw [l1]
  refine k'1h (fun i : Nat => a.length - i) (fun i => [(0, .d (.sl z (a.map Qu.d))), (1, .d (.sl w (b.map Qu.d))), (12, iT a.length), (13, iT i)]) (fun _ => []) (fun i => i ≤ a.length ∧ (List.range i).all (byI Qu.eq a b) = true) 0 ⟨by omega, rfl⟩ ⟨rfl, rfl, rfl, rfl, trivial⟩ rfl 0 rfl (fun _ => rfl) (fun _ => rfl) (fun _ => rfl) ?_
  rintro i ⟨i1, i2⟩
  refine Y ?_
  by_cases hlt : i < a.length
  ·rw [show decide ((i : Int) < a.length) = true from decide_eq_true (by omega)]
   obtain ⟨x, hx⟩ : ∃ x, a[i]? = some x := ⟨_, List.getElem?_eq_getElem hlt⟩
   obtain ⟨y, hy⟩ : ∃ y, b[i]? = some y := ⟨_, List.getElem?_eq_getElem (by omega)⟩
   have hxd : (a.map Qu.d)[i]? = some x.d := by rw [List.getElem?_map, hx]; rfl
   have hyd : (b.map Qu.d)[i]? = some y.d := by rw [List.getElem?_map, hy]; rfl
   have hby : byI Qu.eq a b i = (x.q == y.q && x.v == y.v && x.u == y.u) := by unfold byI; rw [hx, hy]; rfl
   have hin : (List.range a.length).all (byI Qu.eq a b) = true → byI Qu.eq a b i = true := fun h => List.all_eq_true.1 h i (List.mem_range.2 hlt)
   rw [hby] at hin
   unfold Qu.d at hxd hyd
   refine Y ?_
   refine x_mob (.indexAddr (k := .i64) (n := i) (es := a.map Qu.d) rfl rfl rfl rfl (.inl ⟨_, rfl⟩) rfl (by omega) hxd rfl (by decide)) rfl rfl rfl ?_
   refine Y ?_
   refine x_mob (.indexAddr (k := .i64) (n := i) (es := b.map Qu.d) rfl rfl rfl rfl (.inl ⟨_, rfl⟩) rfl (by omega) hyd rfl (by decide)) rfl rfl rfl ?_
   refine Y ?_
   refine x_mob (StepE.neqQu rfl rfl rfl (qu_ok B)) rfl rfl rfl ?_
   cases hr : (x.q == y.q && x.v == y.v && x.u == y.u)
   ·rw [show (List.range a.length).all (byI Qu.eq a b) = false by cases hh : (List.range a.length).all (byI Qu.eq a b) with | false => rfl | true => rw [hin hh] at hr; simp at hr]
    exact Z
   refine Y ?_
   rw [wS i (by omega)]
   exact ⟨i + 1, by omega, ⟨by omega, by rw [List.range_succ, List.all_append, i2]; simp [hby, hr]⟩, ⟨rfl, rfl, rfl, rfl, trivial⟩, rfl, k'2s rfl⟩
  ·have hge : i = a.length := by omega
   subst hge
   rw [i2, show decide ((a.length : Int) < a.length) = false from decide_eq_false (by omega)]
   exact Z
 ·rw [show ((a.length : Int) != (b.length : Int)) = true by simp; omega, show (a.length == b.length) = false by simp [hlen]]
  exact Z
theorem Qu_May_calls (x : Qu) (xa : D) (d : Int) (hbig : x.sz < big) (hx : x.R xa) (hd1 : -9223372036854775808 ≤ d) (hd2 : d < 9223372036854775808) : k'0 (cx B) 350 [.d xa, .d (.int .i64 d)] [] (.d (.bool (x.may d))) [] := by
 obtain rfl := hx
 unfold Qu.sz at hbig
 unfold Qu.may Qu.d
 by_cases hd0 : 0 ≤ d
 rotate_left
 ·rw [show decide (0 ≤ d) = false from decide_eq_false hd0]
  refine l_bw Tryz.func350 0 [] ?_
  rw [show decide (d ≥ 0) = false from decide_eq_false hd0]
  exact Z
 have c_u := k'o B 422 tbG (tbG_calls B) x.u d (by omega) (by omega) hd2
 refine l_bw Tryz.func350 0 [] ?_
 rw [show decide (d ≥ 0) = decide (0 ≤ d) from rfl]
 cases e0 : (decide (0 ≤ d))
 ·exact Z
 refine Y ?_
 refine k'8 [] (c_u) rfl rfl rfl rfl rfl ?_
 exact Z
theorem All_Qu_calls : AllP B 349 QuSh := All_of B (All1_mk B Tryz.func421) (k'2a B Tryz.func445) (Cont_mk B Tryz.func420) (Allc_mk B Tryz.func349)
theorem All_Qu_R : AllRP B 349 350 Qu.R Qu.sz Qu.may := All_R B (All_Qu_calls B) Qu.Rs_sh (fun x => by unfold Qu.sz; omega) (Qu_May_calls B)
theorem Qu_Marshal_calls (x : Qu) (xa : D) (d : Int) (hbig : x.sz < big) (hwf : x.wf) (hx : x.R xa) : k'0 (cx B) 400 [.d xa, .d (.int .i64 d)] [] (.tup [sT x.mar, .d .nili]) [] := by
 have hlen := Qu.mar_len x
 have hlen : x.mar.length < big := by omega
 obtain rfl := hx
 unfold Qu.sz at hbig
 obtain ⟨w_q, w_v⟩ := hwf
 unfold Qu.mar Qu.hb at hlen ⊢
 unfold Qu.d
 obtain ⟨a0, ha0, c0⟩ := k'1d B 1 x.q (by omega) (by omega) (.nw 71 2) [] k'1s (by simp only [List.length_append, List.length_nil] at hlen ⊢; omega)
 rw [List.nil_append] at c0
 obtain ⟨a1, ha1, c1⟩ := k'1d B 2 x.v (by omega) (by omega) a0 (fxV 1 x.q) ha0 (by simp only [List.length_append] at hlen ⊢; omega)
 obtain ⟨cu, cs⟩ := k'1x B (s := x.u) ha1 (l := fxV 1 x.q ++ fxV 2 x.v) (by simp only [List.length_append] at hlen ⊢; omega)
 generalize fxV 1 x.q ++ fxV 2 x.v = o1 at c1 cu cs ⊢
 generalize fxV 1 x.q = o0 at c0 c1
 refine l_bw Tryz.func400 0 [] ?_
 refine l_wr [1] (c0) k'1s ha0 ?_
 refine l_wr [1] (c1) ha0 ha1 ?_
 refine l_wr [1] (cu) ha1 (.inl rfl) ?_
 refine k'18 [1] (cs) rfl rfl rfl rfl rfl rfl rfl (by decide) (by simp [k'4 (.inl rfl)]) rfl rfl rfl rfl ?_
 exact Z
theorem Parts_Qu_wr : PartsP B 399 QuSh := k'33 B Tryz.func399
theorem Parts_Qu_R : k'39 B 399 400 Qu.R Qu.sz Qu.wf Qu.may Qu.mar := Parts_R0 B (Parts_Qu_wr B) Qu.Rs_sh fun v x d a b c _ _ _ => Qu_Marshal_calls B v x d a b c
theorem Qu_fits (l : List Qu) : ∀ a ∈ l.map Qu.d, a.fits 3 = true := by
 intro a ha
 obtain ⟨c, -, rfl⟩ := List.mem_map.1 ha
 rfl
theorem part_Qu_calls : partP B 434 Qu.d := k'2f B Tryz.func434
theorem List_Qu_calls : ListP B 374 Qu.d := List_S B (fun x => Qu_fits [x]) (part_Qu_calls B) (k'48 B Tryz.func374)
theorem List_Qu_tells : ListT B 374 Qu.d := k'1k B (List_Qu_calls B)
theorem okQu_rd (s : List UInt8) (d : Int) : okQu s d = (match k'b s d with
 | none => some ⟨(k'5 (knB tbG s d) 1).n, (k'5 (knB tbG s d) 2).n, unB tbG s d⟩
 | _ => none) := by
 unfold okQu
 rw [k'4k]
 cases k'b s d with
 | some e => rfl
 | none => rfl
theorem Qu_read (hB : BOk B) (s : List UInt8) (d : Int) (hl : s.length < big) (hd1 : -9223372036854775808 ≤ d) (hd2 : d < 9223372036854775808) : RdAt B 375 [] Qu.d id (okQu s d) s d := by
 have h1 := k't B hB 422 tbG (tbG_calls B) s d hl hd1 hd2
 have hk : LOk (knB tbG s d) := k'e tbG s d hl
 have hm := k'1t hk
 have main : k'0 (cx B) 375 [sT s, .d (.int .i64 d)] [] (.tup [.d (Qu.d ⟨(k'5 (knB tbG s d) 1).n, (k'5 (knB tbG s d) 2).n, unB tbG s d⟩), .d (eD (k'b s d))]) [] := by
  unfold Qu.d
  refine l_bw Tryz.func375 0 [] ?_
  refine l_cw [] (h1) rfl rfl rfl ?_
  refine x_cw [1] (k'a B (k'b s d) (unB tbG s d) d s.length (knB tbG s d) 1 hm) rfl rfl rfl ?_
  refine k'2k [1] (k'a B (k'b s d) (unB tbG s d) d s.length (knB tbG s d) 2 hm) rfl rfl rfl ?_
  exact Z
 rw [okQu_rd]
 unfold RdAt
 cases hr : k'b s d with
 | none => rw [hr] at main; exact main
 | some er => rw [hr] at main; exact ⟨_, er, k'p hr, main⟩
end
