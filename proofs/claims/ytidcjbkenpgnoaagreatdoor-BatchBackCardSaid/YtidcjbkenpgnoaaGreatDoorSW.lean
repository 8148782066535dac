/- Quantile: what they are, their bytes, what may be, what is read. -/
import Derived.Test.YtidcjbkenpgnoaaGreatDoorPAB
import Derived.Test.YtidcjbkenpgnoaaGreatDoorHP
set_option linter.unusedSimpArgs false
set_option linter.unusedVariables false
set_option maxRecDepth 100000
namespace Go.Proofs.YtidcjbkenpgnoaaGreatDoor
open Go Go.Abs
variable (B : Fr)
section
structure Qu where
 q : Nat
 v : Nat
 u : List UInt8
def noQu : Qu := ⟨0, 0, []⟩
def Qu.hb (x : Qu) : List UInt8 := fxV 1 x.q ++ fxV 2 x.v
def Qu.hF (x : Qu) : List Fld := fxF 1 x.q ++ fxF 2 x.v
def Qu.mar (x : Qu) : List UInt8 := x.hb ++ x.u
def tbG (n k : Nat) : Bool := bif [1, 2].contains n then k == 1 else false
theorem tbG_calls (n k : Nat) : k'0 (cx B) 422 [iT n, iT k] [] (.d (.bool (tbG n k))) [] := by
 refine l_bw Tryz.func422 0 [] ?_
 cases h0 : ((n : Int) == 1) with
 | true =>
  have e : n = 1 := by have := eq_of_beq h0; omega
  subst e
  rw [show tbG 1 k = ((k : Int) == 1) from (ibeq k 1).symm]
  exact Z
 | false =>
 have eh0 : n ≠ 1 := by have := ne_of_beq_false h0; omega
 refine Y ?_
 cases h1 : ((n : Int) == 2) with
 | true =>
  have e : n = 2 := by have := eq_of_beq h1; omega
  subst e
  rw [show tbG 2 k = ((k : Int) == 1) from (ibeq k 1).symm]
  exact Z
 | false =>
 have eh1 : n ≠ 2 := by have := ne_of_beq_false h1; omega
 refine Y ?_
 rw [show tbG n k = false from by unfold tbG; simp [eh0, eh1]]
 exact k's rfl
def Qu.wf (x : Qu) : Prop := x.q < 2 ^ 64 ∧ x.v < 2 ^ 64
def Qu.sz (x : Qu) : Nat := 300 + 0 + x.u.length
def Qu.may (x : Qu) (d : Int) : Bool := decide (0 ≤ d) && k'1s tbG x.u d
theorem Qu.hb_len (x : Qu) : x.mar.length + 20 ≤ x.sz := by
 have q0 := k'10 1 x.q
 have q1 := k'10 2 x.v
 unfold Qu.mar Qu.hb Qu.sz
 simp only [List.length_append]
 omega
theorem Qu.mar_len (x : Qu) : x.mar.length + 20 ≤ x.sz := Qu.hb_len x
theorem Qu.mars_lt {l : List Qu} (h : (l.map Qu.sz).sum < big) : ∀ s ∈ l.map Qu.mar, s.length < 2 ^ 64 := fun s hs => by
 obtain ⟨k, hk, rfl⟩ := List.mem_map.1 hs
 have h1 := Qu.mar_len k; have h2 := k'1h (sz := Qu.sz) hk
 unfold big at h; omega
theorem Qu.all {x : Qu} (h1 : x.sz < big) (h2 : x.wf) (d : Int) : all x.hb d = .ok x.hF := by
 unfold Qu.sz big at h1
 obtain ⟨w0, w1⟩ := h2
 exact k'2 (k'4p (by omega) (by omega) d (by omega)) (k'4p (by omega) (by omega) d (by omega))
theorem Qu.inn (x : Qu) : inT tbG x.hF = true := by
 unfold Qu.hF
 simp only [k'3l, Bool.and_eq_true]
 exact ⟨in_fx 1 x.q rfl, in_fx 2 x.v rfl⟩
def tellQu (d : Int) (l : List Fld) : Option (List UInt8 → Qu) :=
 some fun u => ⟨(k'6 l 1).n, (k'6 l 2).n, u⟩
def okQu (s : List UInt8) (d : Int) : Option Qu := apO (okG tbG tellQu s d)
theorem Qu.tell {x : Qu} (hwf : x.wf) (d : Int) : tellQu d x.hF = (
 some fun u => ⟨x.q, x.v, u⟩) := by
 obtain ⟨w0, w1⟩ := hwf
 have sq : sel 1 x.hF = fxF 1 x.q := by unfold Qu.hF; simp [k'b, k'w, k'p, k'v, k'l, k'j]
 have tq : (k'6 x.hF 1).n = x.q := k'2t sq
 have sv : sel 2 x.hF = fxF 2 x.v := by unfold Qu.hF; simp [k'b, k'w, k'p, k'v, k'l, k'j]
 have tv : (k'6 x.hF 2).n = x.v := k'2t sv
 unfold tellQu
 simp only [tq, tv]
theorem Qu_back : Back okQu Qu.mar Qu.may (fun x => x.sz < big ∧ x.wf) := by
 intro d x hf hm
 obtain ⟨hbig, hwf⟩ := hf
 have hall := Qu.all hbig hwf
 have hwf0 := hwf
 have hbig' := hbig
 unfold Qu.sz big at hbig'
 obtain ⟨-, -⟩ := hwf
 unfold Qu.may at hm
 simp only [Bool.and_eq_true, decide_eq_true_eq] at hm
 obtain ⟨hd, hu⟩ := hm
 have htell := fun d => Qu.tell (x := x) hwf0 d
 constructor
 ·unfold okQu Qu.mar
  rw [k'z hd (hall d) x.inn hu, htell]
  rfl
 ·intro e he hn
  unfold okQu Qu.mar
  cases hr : k'1s tbG x.u e with
  | false => rw [k'k (hall e) he hu fun _ => hr]; rfl
  | true =>
   rcases Int.lt_or_le e 0 with h0 | h0
   ·rw [k'1z h0]; rfl
   ·rw [k'z h0 (hall e) x.inn hr, htell]
    exfalso
    unfold Qu.may at hn
    simp [h0, hr, ] at hn
theorem Qu_told : Told okQu Qu.may Qu.wf Qu.sz 300 := by
 intro d s x h
 obtain ⟨f, u, h1, rfl⟩ := k'2f h
 obtain ⟨l, -, h2, -, h4, hd, hf, hw⟩ := k'2z h1
 dsimp only at h2 h4 hw
 unfold tellQu at h2
 injection h2 with h2
 subst h2
 refine ⟨?_, ⟨k'17 hf 1, k'17 hf 2⟩, ?_⟩
 ·unfold Qu.may
  simp only [Bool.and_eq_true]
  exact ⟨decide_eq_true hd, h4⟩
 ·unfold Qu.sz
  simp only [Kv.szs_sum]
  omega
def Qu.eq (x y : Qu) : Bool := x.q == y.q && x.v == y.v && x.u == y.u
def Qu.eqs : List Qu → List Qu → Bool
 | [], [] => true
 | v :: l, w :: r => v.eq w && Qu.eqs l r
 | [], _ :: _ => false
 | _ :: _, [] => false
theorem Qu.eq_self (x : Qu) : x.eq x = true := by unfold Qu.eq; simp [Kv.eqs_self]
theorem Qu.eqs_self : ∀ l : List Qu, Qu.eqs l l = true
 | [] => rfl
 | v :: l => by unfold Qu.eqs; simp [Qu.eq_self v, Qu.eqs_self l]
theorem Qu.eqs_by (a b : List Qu) : Qu.eqs a b = (a.length == b.length && (List.range a.length).all (byI Qu.eq a b)) :=
 k'3n Qu.eq Qu.eqs rfl (fun _ _ _ _ => rfl) (fun _ _ => rfl) (fun _ _ => rfl) a b
end
section
def Qu.d (x : Qu) : D := .agg [.int .u64 x.q, .int .u64 x.v, .str x.u]
def Qu.R (x : Qu) (a : D) : Prop := a = x.d
def QuSh (x : D) : Prop := ∃ (a0 : Nat) (a1 : Nat) (a2 : List UInt8), x = .agg [.int .u64 a0, .int .u64 a1, .str a2]
theorem Qu.R_sh {x : Qu} {a : D} (h : x.R a) : QuSh a := ⟨_, _, _, h⟩
theorem Qu.d_R (x : Qu) : x.R x.d := rfl
theorem Qu.Rs_sh {l : List Qu} {xs : List D} (h : RsOf Qu.R l xs) : ∀ x ∈ xs, QuSh x := fun x hx => by
 obtain ⟨v, -, r⟩ := h.mem hx
 exact Qu.R_sh r
theorem Qu.Rs_map {l : List Qu} {xs : List D} (h : RsOf Qu.R l xs) : xs = l.map Qu.d := by
 refine List.ext_getElem? fun i => ?_
 rw [List.getElem?_map]
 cases hv : l[i]? with
 | none =>
  have := List.getElem?_eq_none_iff.1 hv
  exact List.getElem?_eq_none_iff.2 (by rw [h.1]; exact this)
 | some v =>
  obtain ⟨x, hx, r⟩ := h.2 i v hv
  rw [hx, show x = v.d from r]; rfl
structure QuTy (P : Program) (t : TypeId) : Prop where
 ut : P.underlying t = some (.struct (P.fieldsOf t))
 hp : P.stoodInHeld t = false
 hm : P.eqGuardType P.depth t = false
 fs : ∃ f g h, (P.fieldsOf t).toList = [f, g, h] ∧ (f.name == "_") = false ∧ (g.name == "_") = false ∧ (h.name == "_") = false ∧ f.offset = 0 ∧ g.offset = 1 ∧ h.offset = 2 ∧ P.underlying f.type = some (.int .u64) ∧ P.underlying g.type = some (.int .u64) ∧ P.underlying h.type = some .string ∧ P.plainKey f.type = true ∧ P.plainKey g.type = true ∧ P.plainKey h.type = true
theorem qu_run {P : Program} {t : TypeId} (h : QuTy P t) (xo yo : Operand) (a b m n : Nat) (k l : List UInt8) (w : World) : (do eqGuard .neq t xo yo (.agg #[.int .u64 a, .int .u64 m, .string ⟨k.toArray⟩]) (.agg #[.int .u64 b, .int .u64 n, .string ⟨l.toArray⟩]); binOp .neq t (.agg #[.int .u64 a, .int .u64 m, .string ⟨k.toArray⟩]) (.agg #[.int .u64 b, .int .u64 n, .string ⟨l.toArray⟩])).run P w = .ok (.bool (!(a == b && m == n && k == l))) w := by
 obtain ⟨f, g, e, hf, m1, m2, m3, o1, o2, o3, u1, u2, u3, p1, p2, p3⟩ := h.fs
 have n1 : f.name ≠ "_" := ne_of_beq_false m1
 have n2 : g.name ≠ "_" := ne_of_beq_false m2
 have n3 : e.name ≠ "_" := ne_of_beq_false m3
 rw [Sem.run_bind, run_eqGuard_agg w _ t xo yo _ _ h.hm]
 simp only [Result.andThen_ok]
 rw [run_neq_struct, run_equalIn_agg w 9999 t _ _ h.ut h.hp, hf]
 simp only [Op.eqFields, if_pos n1, if_pos n2, if_pos n3, o1, o2, o3, Sem.run_bind, Sem.run_ite]
 rw [run_part_plain (v := .int .u64 a) w p1 rfl]
 simp only [Result.andThen_ok]
 rw [run_part_plain (v := .int .u64 b) w p1 rfl]
 simp only [Result.andThen_ok]
 rw [run_equalIn_int w _ _ _ _ _ _ u1]
 simp only [Result.andThen_ok]
 rw [ibeq]
 cases a == b with
 | false => simp
 | true =>
  simp only [Bool.not_true, Bool.false_eq_true, if_false, Sem.run_bind]
  rw [run_part_plain (v := .int .u64 m) w p2 rfl]
  simp only [Result.andThen_ok]
  rw [run_part_plain (v := .int .u64 n) w p2 rfl]
  simp only [Result.andThen_ok]
  rw [run_equalIn_int w _ _ _ _ _ _ u2]
  simp only [Result.andThen_ok, Sem.run_ite]
  rw [ibeq]
  cases m == n with
  | false => simp
  | true =>
   simp only [Bool.not_true, Bool.false_eq_true, if_false, Sem.run_bind]
   rw [run_part_plain (v := .string ⟨k.toArray⟩) w p3 rfl]
   simp only [Result.andThen_ok]
   rw [run_part_plain (v := .string ⟨l.toArray⟩) w p3 rfl]
   simp only [Result.andThen_ok]
   rw [run_equalIn_string w _ _ _ _ u3, toList_str, toList_str]
   simp only [Result.andThen_ok, Sem.run_ite, Sem.run_pure]
   cases k == l <;> simp
theorem _root_.Go.Abs.StepE.neqQu {X : Ctx} {o : Oper} {v : Operand → T} {H : List Ob} {t t' : TypeId} {x y : Operand} {a b m n : Nat} {k l : List UInt8} (ho : o.op = .binOp .neq t x y t') (hx : v x = .d (.agg [.int .u64 a, .int .u64 m, .str k])) (hy : v y = .d (.agg [.int .u64 b, .int .u64 n, .str l])) (h : QuTy X.P t) : StepE X o v H ⟨.d (.bool (!(a == b && m == n && k == l))), none, H⟩ :=
 .psem (k'2c ho (by simp)) fun s hs N F ρ ac w next Q hd hr kk => by
  have ex := hs x (by rw [ho]; simp [Op.operands])
  have ey := hs y (by rw [ho]; simp [Op.operands])
  obtain ⟨lx, hx'⟩ := hr.val x
  obtain ⟨ly, hy'⟩ := hr.val y
  rw [ex, hx] at hx'
  rw [ey, hy] at hy'
  have inv : ∀ {l0 : Lc} {q : Value} {a m : Nat} {k : List UInt8}, TR F ρ w l0 (.d (.agg [.int .u64 a, .int .u64 m, .str k])) q → q = .agg #[.int .u64 a, .int .u64 m, .string ⟨k.toArray⟩] := fun h => by
   cases h with | d h => cases h with | agg h => cases h with | cons h1 h2 => cases h1; cases h2 with | cons h3 h4 => cases h3; cases h4 with | cons h5 h6 => cases h5; cases h6; rfl
  have e1 := inv hx'
  have e2 := inv hy'
  have hrun := qu_run h x y a b m n k l w
  refine k'm (v := .bool (!(a == b && m == n && k == l))) (w' := w) ?_ (kk F ρ _ w ?_ (Ext.refl F ρ w))
  ·rw [Sem.run_bind] at hrun
   simp only [execOp, ho, e1, e2, Sem.run_bind]
   revert hrun
   generalize (eqGuard BinOp.neq t x y (.agg #[.int .u64 a, .int .u64 m, .string ⟨k.toArray⟩]) (.agg #[.int .u64 b, .int .u64 n, .string ⟨l.toArray⟩])).run X.P w = g
   intro hrun
   cases g with
   | ok u w1 =>
    simp only [Result.andThen_ok] at hrun ⊢
    rw [hrun]
    rfl
   | halt x w1 => simp [Result.andThen] at hrun
  ·exact hr.put hd fun d _ => .d (.bool _)
theorem qu_ok : QuTy (cx B).P 265 where
 ut := by kernel_rfl
 hp := by kernel_rfl
 hm := by kernel_rfl
 fs := ⟨(Tryz.prog.fieldsOf 265)[0]'(of_decide_eq_true (by kernel_rfl)), (Tryz.prog.fieldsOf 265)[1]'(of_decide_eq_true (by kernel_rfl)), (Tryz.prog.fieldsOf 265)[2]'(of_decide_eq_true (by kernel_rfl)), by kernel_rfl, by kernel_rfl, by kernel_rfl, by kernel_rfl, by kernel_rfl, by kernel_rfl, by kernel_rfl, by kernel_rfl, by kernel_rfl, by kernel_rfl, by kernel_rfl, by kernel_rfl, by kernel_rfl⟩
theorem EqS_Qu_R {a b : List Qu} {xs ys : List D} (z w : Bool) (hb : (a.map Qu.sz).sum < big) (h1 : RsOf Qu.R a xs) (h2 : RsOf Qu.R b ys) : k'0 (cx B) 313 [.d (.sl z xs), .d (.sl w ys)] [] (.d (.bool (Qu.eqs a b))) [] := by
 have hla := sum_ge (sz := Qu.sz) (fun x => by unfold Qu.sz; omega) a
 have l1 := h1.1
 have l2 := h2.1
 obtain rfl := Qu.Rs_map h1
 obtain rfl := Qu.Rs_map h2
 unfold big at hb
 rw [Qu.eqs_by]
 refine l_bw Tryz.func313 0 [] ?_
 rw [l1, l2]
 by_cases hlen : a.length = b.length
 ·rw [show ((a.length : Int) != (b.length : Int)) = false by rw [hlen]; simp, show (a.length == b.length) = true by simp [hlen]]
  simp only [Bool.true_and]
  refine Y ?_
  rw [l1]
  refine k'14 (fun i : Nat => a.length - i) (fun i => [(0, .d (.sl z (a.map Qu.d))), (1, .d (.sl w (b.map Qu.d))), (12, iT a.length), (13, iT i)]) (fun _ => []) (fun i => i ≤ a.length ∧ (List.range i).all (byI Qu.eq a b) = true) 0 ⟨by omega, rfl⟩ ⟨rfl, rfl, rfl, rfl, trivial⟩ rfl 0 rfl (fun _ => rfl) (fun _ => rfl) (fun _ => rfl) ?_
  rintro i ⟨i1, i2⟩
  refine Y ?_
  by_cases hlt : i < a.length
  ·rw [show decide ((i : Int) < a.length) = true from decide_eq_true (by omega)]
   obtain ⟨x, hx⟩ : ∃ x, a[i]? = some x := ⟨_, List.getElem?_eq_getElem hlt⟩
   obtain ⟨y, hy⟩ : ∃ y, b[i]? = some y := ⟨_, List.getElem?_eq_getElem (by omega)⟩
   have hxd : (a.map Qu.d)[i]? = some x.d := by rw [List.getElem?_map, hx]; rfl
   have hyd : (b.map Qu.d)[i]? = some y.d := by rw [List.getElem?_map, hy]; rfl
   have hby : byI Qu.eq a b i = (x.q == y.q && x.v == y.v && x.u == y.u) := by unfold byI; rw [hx, hy]; rfl
   have hin : (List.range a.length).all (byI Qu.eq a b) = true → byI Qu.eq a b i = true := fun h => List.all_eq_true.1 h i (List.mem_range.2 hlt)
   rw [hby] at hin
   unfold Qu.d at hxd hyd
   refine Y ?_
   refine x_mob (.indexAddr (k := .i64) (n := i) (es := a.map Qu.d) rfl rfl rfl rfl (.inl ⟨_, rfl⟩) rfl (by omega) hxd rfl (by decide)) rfl rfl rfl ?_
   refine Y ?_
   refine x_mob (.indexAddr (k := .i64) (n := i) (es := b.map Qu.d) rfl rfl rfl rfl (.inl ⟨_, rfl⟩) rfl (by omega) hyd rfl (by decide)) rfl rfl rfl ?_
   refine Y ?_
   refine x_mob (StepE.neqQu rfl rfl rfl (qu_ok B)) rfl rfl rfl ?_
   cases hr : (x.q == y.q && x.v == y.v && x.u == y.u)
   ·rw [show (List.range a.length).all (byI Qu.eq a b) = false by cases hh : (List.range a.length).all (byI Qu.eq a b) with | false => rfl | true => rw [hin hh] at hr; simp at hr]
    exact Z
   refine Y ?_
   rw [wS i (by omega)]
   exact ⟨i + 1, by omega, ⟨by omega, by rw [List.range_succ, List.all_append, i2]; simp [hby, hr]⟩, ⟨rfl, rfl, rfl, rfl, trivial⟩, rfl, k'28 rfl⟩
  ·have hge : i = a.length := by omega
   subst hge
   rw [i2, show decide ((a.length : Int) < a.length) = false from decide_eq_false (by omega)]
   exact Z
 ·rw [show ((a.length : Int) != (b.length : Int)) = true by simp; omega, show (a.length == b.length) = false by simp [hlen]]
  exact Z
theorem Qu_May_calls (x : Qu) (xa : D) (d : Int) (hbig : x.sz < big) (hx : x.R xa) (hd1 : -9223372036854775808 ≤ d) (hd2 : d < 9223372036854775808) : k'0 (cx B) 350 [.d xa, .d (.int .i64 d)] [] (.d (.bool (x.may d))) [] := by
 obtain rfl := hx
 unfold Qu.sz at hbig
 unfold Qu.may Qu.d
 by_cases hd0 : 0 ≤ d
 rotate_left
 ·rw [show decide (0 ≤ d) = false from decide_eq_false hd0]
  refine l_bw Tryz.func350 0 [] ?_
  rw [show decide (d ≥ 0) = false from decide_eq_false hd0]
  exact Z
 have c_u := k't B 422 tbG (tbG_calls B) x.u d (by omega) (by omega) hd2
 refine l_bw Tryz.func350 0 [] ?_
 rw [show decide (d ≥ 0) = decide (0 ≤ d) from rfl]
 cases e0 : (decide (0 ≤ d))
 ·exact Z
 refine Y ?_
 refine k'8 [] (c_u) rfl rfl rfl rfl rfl ?_
 exact Z
theorem All_Qu_calls : AllP B 349 QuSh := All_of B (All1_mk B Tryz.func421) (k'2m B Tryz.func445) (Cont_mk B Tryz.func420) (Allc_mk B Tryz.func349)
theorem All_Qu_R : AllRP B 349 350 Qu.R Qu.sz Qu.may := All_R B (All_Qu_calls B) Qu.Rs_sh (fun x => by unfold Qu.sz; omega) (Qu_May_calls B)
theorem Qu_Marshal_calls (x : Qu) (xa : D) (d : Int) (hbig : x.sz < big) (hwf : x.wf) (hx : x.R xa) : k'0 (cx B) 400 [.d xa, .d (.int .i64 d)] [] (.tup [sT x.mar, .d .nili]) [] := by
 have hlen := Qu.mar_len x
 have hlen : x.mar.length < big := by omega
 obtain rfl := hx
 unfold Qu.sz at hbig
 obtain ⟨w_q, w_v⟩ := hwf
 unfold Qu.mar Qu.hb at hlen ⊢
 unfold Qu.d
 obtain ⟨a0, ha0, c0⟩ := k'1o B 1 x.q (by omega) (by omega) (.nw 71 2) [] k'22 (by simp only [List.length_append, List.length_nil] at hlen ⊢; omega)
 rw [List.nil_append] at c0
 obtain ⟨a1, ha1, c1⟩ := k'1o B 2 x.v (by omega) (by omega) a0 (fxV 1 x.q) ha0 (by simp only [List.length_append] at hlen ⊢; omega)
 obtain ⟨cu, cs⟩ := k'26 B (s := x.u) ha1 (l := fxV 1 x.q ++ fxV 2 x.v) (by simp only [List.length_append] at hlen ⊢; omega)
 generalize fxV 1 x.q ++ fxV 2 x.v = o1 at c1 cu cs ⊢
 generalize fxV 1 x.q = o0 at c0 c1
 refine l_bw Tryz.func400 0 [] ?_
 refine l_wr [1] (c0) k'22 ha0 ?_
 refine l_wr [1] (c1) ha0 ha1 ?_
 refine l_wr [1] (cu) ha1 (.inl rfl) ?_
 refine k'1g [1] (cs) rfl rfl rfl rfl rfl rfl rfl (by decide) (by simp [k'5 (.inl rfl)]) rfl rfl rfl rfl ?_
 exact Z
theorem Parts_Qu_wr : PartsP B 399 QuSh := k'3j B Tryz.func399
theorem Parts_Qu_R : k'3o B 399 400 Qu.R Qu.sz Qu.wf Qu.may Qu.mar := Parts_R0 B (Parts_Qu_wr B) Qu.Rs_sh fun v x d a b c _ _ _ => Qu_Marshal_calls B v x d a b c
theorem Qu_fits (l : List Qu) : ∀ a ∈ l.map Qu.d, a.fits 3 = true := by
 intro a ha
 obtain ⟨c, -, rfl⟩ := List.mem_map.1 ha
 rfl
theorem part_Qu_calls : partP B 434 Qu.d := k'2s B Tryz.func434
theorem List_Qu_calls : ListP B 374 Qu.d := List_S B (fun x => Qu_fits [x]) (part_Qu_calls B) (k'4u B Tryz.func374)
theorem List_Qu_tells : ListT B 374 Qu.d := k'1r B (List_Qu_calls B)
theorem okQu_rd (s : List UInt8) (d : Int) : okQu s d = (match k'd s d with
 | none => some ⟨(k'6 (knB tbG s d) 1).n, (k'6 (knB tbG s d) 2).n, unB tbG s d⟩
 | _ => none) := by
 unfold okQu
 rw [k'4a]
 cases k'd s d with
 | some e => rfl
 | none => rfl
theorem Qu_read (hB : BOk B) (s : List UInt8) (d : Int) (hl : s.length < big) (hd1 : -9223372036854775808 ≤ d) (hd2 : d < 9223372036854775808) : RdAt B 375 [] Qu.d id (okQu s d) s d := by
 have h1 := k'o B hB 422 tbG (tbG_calls B) s d hl hd1 hd2
 have hk : LOk (knB tbG s d) := k'e tbG s d hl
 have hm := k'1p hk
 have main : k'0 (cx B) 375 [sT s, .d (.int .i64 d)] [] (.tup [.d (Qu.d ⟨(k'6 (knB tbG s d) 1).n, (k'6 (knB tbG s d) 2).n, unB tbG s d⟩), .d (eD (k'd s d))]) [] := by
  unfold Qu.d
  refine l_bw Tryz.func375 0 [] ?_
  refine l_cw [] (h1) rfl rfl rfl ?_
  refine x_cw [1] (k'9 B (k'd s d) (unB tbG s d) d s.length (knB tbG s d) 1 hm) rfl rfl rfl ?_
  refine k'1v [1] (k'9 B (k'd s d) (unB tbG s d) d s.length (knB tbG s d) 2 hm) rfl rfl rfl ?_
  exact Z
 rw [okQu_rd]
 unfold RdAt
 cases hr : k'd s d with
 | none => rw [hr] at main; exact main
 | some er => rw [hr] at main; exact ⟨_, er, k'n hr, main⟩
end
section
structure Su where
 attrs : List Kv
 start : Nat
 time : Nat
 count : Nat
 sum : Nat
 qs : List Qu
 flags : Nat
 u : List UInt8
def noSu : Su := ⟨[], 0, 0, 0, 0, [], 0, []⟩
def Su.hb (x : Su) : List UInt8 := fxV 2 x.start ++ fxV 3 x.time ++ fxV 4 x.count ++ fxV 5 x.sum ++ psV 6 (x.qs.map Qu.mar) ++ psV 7 (Kv.mars x.attrs) ++ vrV 8 x.flags
def Su.hF (x : Su) : List Fld := fxF 2 x.start ++ fxF 3 x.time ++ fxF 4 x.count ++ fxF 5 x.sum ++ psF 6 (x.qs.map Qu.mar) ++ psF 7 (Kv.mars x.attrs) ++ vrF 8 x.flags
def Su.mar (x : Su) : List UInt8 := x.hb ++ x.u
def tbS (n k : Nat) : Bool := bif [2, 3, 4, 5].contains n then k == 1 else bif [6, 7].contains n then k == 2 else bif [8].contains n then k == 0 else false
theorem tbS_calls (n k : Nat) : k'0 (cx B) 351 [iT n, iT k] [] (.d (.bool (tbS n k))) [] := by
 refine l_bw Tryz.func351 0 [] ?_
 cases h0 : ((n : Int) == 2) with
 | true =>
  have e : n = 2 := by have := eq_of_beq h0; omega
  subst e
  rw [show tbS 2 k = ((k : Int) == 1) from (ibeq k 1).symm]
  exact Z
 | false =>
 have eh0 : n ≠ 2 := by have := ne_of_beq_false h0; omega
 refine Y ?_
 cases h1 : ((n : Int) == 3) with
 | true =>
  have e : n = 3 := by have := eq_of_beq h1; omega
  subst e
  rw [show tbS 3 k = ((k : Int) == 1) from (ibeq k 1).symm]
  exact Z
 | false =>
 have eh1 : n ≠ 3 := by have := ne_of_beq_false h1; omega
 refine Y ?_
 cases h2 : ((n : Int) == 4) with
 | true =>
  have e : n = 4 := by have := eq_of_beq h2; omega
  subst e
  rw [show tbS 4 k = ((k : Int) == 1) from (ibeq k 1).symm]
  exact Z
 | false =>
 have eh2 : n ≠ 4 := by have := ne_of_beq_false h2; omega
 refine Y ?_
 cases h3 : ((n : Int) == 5) with
 | true =>
  have e : n = 5 := by have := eq_of_beq h3; omega
  subst e
  rw [show tbS 5 k = ((k : Int) == 1) from (ibeq k 1).symm]
  exact Z
 | false =>
 have eh3 : n ≠ 5 := by have := ne_of_beq_false h3; omega
 refine Y ?_
 cases h4 : ((n : Int) == 6) with
 | true =>
  have e : n = 6 := by have := eq_of_beq h4; omega
  subst e
  rw [show tbS 6 k = ((k : Int) == 2) from (ibeq k 2).symm]
  exact Z
 | false =>
 have eh4 : n ≠ 6 := by have := ne_of_beq_false h4; omega
 refine Y ?_
 cases h5 : ((n : Int) == 7) with
 | true =>
  have e : n = 7 := by have := eq_of_beq h5; omega
  subst e
  rw [show tbS 7 k = ((k : Int) == 2) from (ibeq k 2).symm]
  exact Z
 | false =>
 have eh5 : n ≠ 7 := by have := ne_of_beq_false h5; omega
 refine Y ?_
 cases h6 : ((n : Int) == 8) with
 | true =>
  have e : n = 8 := by have := eq_of_beq h6; omega
  subst e
  rw [show tbS 8 k = ((k : Int) == 0) from (ibeq k 0).symm]
  exact Z
 | false =>
 have eh6 : n ≠ 8 := by have := ne_of_beq_false h6; omega
 refine Y ?_
 rw [show tbS n k = false from by unfold tbS; simp [eh0, eh1, eh2, eh3, eh4, eh5, eh6]]
 exact k's rfl
def Su.wf (x : Su) : Prop := (∀ k ∈ x.attrs, k.wf) ∧ x.start < 2 ^ 64 ∧ x.time < 2 ^ 64 ∧ x.count < 2 ^ 64 ∧ x.sum < 2 ^ 64 ∧ (∀ k ∈ x.qs, k.wf) ∧ x.flags < 4294967296
def Su.sz (x : Su) : Nat := 300 + Kv.szs x.attrs + (x.qs.map Qu.sz).sum + x.u.length
def Su.may (x : Su) (d : Int) : Bool := decide (0 ≤ d) && (x.qs.all fun k => k.may (d - 1)) && (x.attrs.all fun k => k.may (d - 1)) && k'1s tbS x.u d
theorem Su.hb_len (x : Su) : x.mar.length + 20 ≤ x.sz := by
 have q0 := k'10 2 x.start
 have q1 := k'10 3 x.time
 have q2 := k'10 4 x.count
 have q3 := k'10 5 x.sum
 have q4 := k'40 6 x.qs fun y _ => Qu.mar_len y
 have q5 := Kv.marsP_len 7 x.attrs
 have q6 := k'2a 8 x.flags
 unfold Su.mar Su.hb Su.sz
 simp only [List.length_append]
 omega
theorem Su.mar_len (x : Su) : x.mar.length + 20 ≤ x.sz := Su.hb_len x
theorem Su.mars_lt {l : List Su} (h : (l.map Su.sz).sum < big) : ∀ s ∈ l.map Su.mar, s.length < 2 ^ 64 := fun s hs => by
 obtain ⟨k, hk, rfl⟩ := List.mem_map.1 hs
 have h1 := Su.mar_len k; have h2 := k'1h (sz := Su.sz) hk
 unfold big at h; omega
theorem Su.all {x : Su} (h1 : x.sz < big) (h2 : x.wf) (d : Int) : all x.hb d = .ok x.hF := by
 unfold Su.sz big at h1
 obtain ⟨w0, w1, w2, w3, w4, w5, w6⟩ := h2
 exact k'2 (k'2 (k'2 (k'2 (k'2 (k'2 (k'4p (by omega) (by omega) d (by omega)) (k'4p (by omega) (by omega) d (by omega))) (k'4p (by omega) (by omega) d (by omega))) (k'4p (by omega) (by omega) d (by omega))) (k'38 (by omega) (by omega) d (Qu.mars_lt (by unfold big; omega)))) (k'38 (by omega) (by omega) d (Kv.mars_lt (by unfold big; omega)))) (all_vr (by omega) (by omega) d (by omega))
theorem Su.inn (x : Su) : inT tbS x.hF = true := by
 unfold Su.hF
 simp only [k'3l, Bool.and_eq_true]
 exact ⟨⟨⟨⟨⟨⟨in_fx 2 x.start rfl, in_fx 3 x.time rfl⟩, in_fx 4 x.count rfl⟩, in_fx 5 x.sum rfl⟩, in_ps 6 _ rfl⟩, in_ps 7 _ rfl⟩, in_vr 8 x.flags rfl⟩
def tellSu (d : Int) (l : List Fld) : Option (List UInt8 → Su) :=
 match k'3 (fun s => okK s (d - 1)) 7 l with
 | none => none
 | some attrs =>
 match k'3 (fun s => okQu s (d - 1)) 6 l with
 | none => none
 | some qs =>
 some fun u => ⟨attrs, (k'6 l 2).n, (k'6 l 3).n, (k'6 l 4).n, (k'6 l 5).n, qs, (k'6 l 8).n % 4294967296, u⟩
def okSu (s : List UInt8) (d : Int) : Option Su := apO (okG tbS tellSu s d)
theorem Su.tell {x : Su} (hwf : x.wf) (d : Int) : tellSu d x.hF = (
 match mapO (fun s => okK s (d - 1)) (Kv.mars x.attrs) with
 | none => none
 | some attrs =>
 match mapO (fun s => okQu s (d - 1)) ((x.qs.map Qu.mar)) with
 | none => none
 | some qs =>
 some fun u => ⟨attrs, x.start, x.time, x.count, x.sum, qs, x.flags, u⟩) := by
 obtain ⟨w0, w1, w2, w3, w4, w5, w6⟩ := hwf
 have sattrs : sel 7 x.hF = psF 7 (Kv.mars x.attrs) := by unfold Su.hF; simp [k'b, k'w, k'p, k'v, k'l, k'j]
 have tattrs : ∀ {α : Type} (ok : List UInt8 → Option α), k'3 ok 7 x.hF = mapO ok (Kv.mars x.attrs) := fun ok => k'19 ok sattrs
 have sstart : sel 2 x.hF = fxF 2 x.start := by unfold Su.hF; simp [k'b, k'w, k'p, k'v, k'l, k'j]
 have tstart : (k'6 x.hF 2).n = x.start := k'2t sstart
 have stime : sel 3 x.hF = fxF 3 x.time := by unfold Su.hF; simp [k'b, k'w, k'p, k'v, k'l, k'j]
 have ttime : (k'6 x.hF 3).n = x.time := k'2t stime
 have scount : sel 4 x.hF = fxF 4 x.count := by unfold Su.hF; simp [k'b, k'w, k'p, k'v, k'l, k'j]
 have tcount : (k'6 x.hF 4).n = x.count := k'2t scount
 have ssum : sel 5 x.hF = fxF 5 x.sum := by unfold Su.hF; simp [k'b, k'w, k'p, k'v, k'l, k'j]
 have tsum : (k'6 x.hF 5).n = x.sum := k'2t ssum
 have sqs : sel 6 x.hF = psF 6 (x.qs.map Qu.mar) := by unfold Su.hF; simp [k'b, k'w, k'p, k'v, k'l, k'j]
 have tqs : ∀ {α : Type} (ok : List UInt8 → Option α), k'3 ok 6 x.hF = mapO ok ((x.qs.map Qu.mar)) := fun ok => k'19 ok sqs
 have sflags : sel 8 x.hF = vrF 8 x.flags := by unfold Su.hF; simp [k'b, k'w, k'p, k'v, k'l, k'j]
 have tflags : (k'6 x.hF 8).n % 4294967296 = x.flags := by rw [last_vr sflags]; omega
 unfold tellSu
 simp only [tattrs, tstart, ttime, tcount, tsum, tqs, tflags]
theorem Su_back : Back okSu Su.mar Su.may (fun x => x.sz < big ∧ x.wf) := by
 intro d x hf hm
 obtain ⟨hbig, hwf⟩ := hf
 have hall := Su.all hbig hwf
 have hwf0 := hwf
 have hbig' := hbig
 unfold Su.sz big at hbig'
 obtain ⟨w_attrs, -, -, -, -, w_qs, -⟩ := hwf
 unfold Su.may at hm
 simp only [Bool.and_eq_true, decide_eq_true_eq] at hm
 obtain ⟨⟨⟨hd, m_qs⟩, m_attrs⟩, hu⟩ := hm
 have htell := fun d => Su.tell (x := x) hwf0 d
 obtain ⟨a_attrs, b_attrs⟩ := Kv_back.list (l := x.attrs) (d := d - 1) (fun k hk => ⟨by have := Kv.sz_mem hk; unfold big; omega, w_attrs k hk⟩) m_attrs
 simp only [← Kv.mars_map] at a_attrs b_attrs
 obtain ⟨a_qs, b_qs⟩ := Qu_back.list (l := x.qs) (d := d - 1) (fun k hk => ⟨by have := k'1h (sz := Qu.sz) hk; unfold big; omega, w_qs k hk⟩) m_qs
 constructor
 ·unfold okSu Su.mar
  rw [k'z hd (hall d) x.inn hu, htell]
  simp only [a_attrs, a_qs]
  rfl
 ·intro e he hn
  unfold okSu Su.mar
  cases hr : k'1s tbS x.u e with
  | false => rw [k'k (hall e) he hu fun _ => hr]; rfl
  | true =>
   rcases Int.lt_or_le e 0 with h0 | h0
   ·rw [k'1z h0]; rfl
   ·rw [k'z h0 (hall e) x.inn hr, htell]
    cases h_attrs : (x.attrs.all fun k => k.may (e - 1))
    ·have := b_attrs (e - 1) (by omega) h_attrs
     simp only [this]
     rfl
    cases h_qs : (x.qs.all fun k => k.may (e - 1))
    ·have := b_qs (e - 1) (by omega) h_qs
     simp only [this]
     all_goals (repeat' split) <;> rfl
    exfalso
    unfold Su.may at hn
    simp [h0, hr, h_attrs, h_qs] at hn
theorem Su_told : Told okSu Su.may Su.wf Su.sz 800 := by
 intro d s x h
 obtain ⟨f, u, h1, rfl⟩ := k'2f h
 obtain ⟨l, -, h2, -, h4, hd, hf, hw⟩ := k'2z h1
 dsimp only at h2 h4 hw
 unfold tellSu at h2
 split at h2
 ·simp at h2
 rename_i attrs g_attrs
 split at h2
 ·simp at h2
 rename_i qs g_qs
 injection h2 with h2
 subst h2
 obtain ⟨p_attrs, q_attrs, r_attrs⟩ := Kv_told.parts hf g_attrs
 obtain ⟨p_qs, q_qs, r_qs⟩ := Qu_told.parts hf g_qs
 refine ⟨?_, ⟨q_attrs, k'17 hf 2, k'17 hf 3, k'17 hf 4, k'17 hf 5, q_qs, Nat.mod_lt _ (by decide)⟩, ?_⟩
 ·unfold Su.may
  simp only [Bool.and_eq_true]
  exact ⟨⟨⟨decide_eq_true hd, p_qs⟩, p_attrs⟩, h4⟩
 ·unfold Su.sz
  simp only [Kv.szs_sum]
  omega
def Su.eq (x y : Su) : Bool := Kv.eqs x.attrs y.attrs && x.start == y.start && x.time == y.time && x.count == y.count && x.sum == y.sum && Qu.eqs x.qs y.qs && x.flags == y.flags && x.u == y.u
def Su.eqs : List Su → List Su → Bool
 | [], [] => true
 | v :: l, w :: r => v.eq w && Su.eqs l r
 | [], _ :: _ => false
 | _ :: _, [] => false
theorem Su.eq_self (x : Su) : x.eq x = true := by unfold Su.eq; simp [Kv.eqs_self, Qu.eqs_self]
theorem Su.eqs_self : ∀ l : List Su, Su.eqs l l = true
 | [] => rfl
 | v :: l => by unfold Su.eqs; simp [Su.eq_self v, Su.eqs_self l]
theorem Su.eqs_by (a b : List Su) : Su.eqs a b = (a.length == b.length && (List.range a.length).all (byI Su.eq a b)) :=
 k'3n Su.eq Su.eqs rfl (fun _ _ _ _ => rfl) (fun _ _ => rfl) (fun _ _ => rfl) a b
end
section
def Su.d (x : Su) : D := .agg [slD (Kv.ds x.attrs), .int .u64 x.start, .int .u64 x.time, .int .u64 x.count, .int .u64 x.sum, slD (x.qs.map Qu.d), .int .u32 x.flags, .str x.u]
def Su.R (x : Su) (a : D) : Prop := ∃ (z_attrs : Bool) (l_attrs : List D) (z_qs : Bool) (l_qs : List D), a = .agg [.sl z_attrs l_attrs, .int .u64 x.start, .int .u64 x.time, .int .u64 x.count, .int .u64 x.sum, .sl z_qs l_qs, .int .u32 x.flags, .str x.u] ∧ Kv.Rs x.attrs l_attrs ∧ RsOf Qu.R x.qs l_qs
def SuSh (x : D) : Prop := ∃ (a0 : Bool) (a1 : List D) (a2 : Nat) (a3 : Nat) (a4 : Nat) (a5 : Nat) (a6 : Bool) (a7 : List D) (a8 : Nat) (a9 : List UInt8), x = .agg [.sl a0 a1, .int .u64 a2, .int .u64 a3, .int .u64 a4, .int .u64 a5, .sl a6 a7, .int .u32 a8, .str a9]
theorem Su.R_sh {x : Su} {a : D} (h : x.R a) : SuSh a := by
 obtain ⟨z_attrs, l_attrs, z_qs, l_qs, h, -⟩ := h
 exact ⟨_, _, _, _, _, _, _, _, _, _, h⟩
theorem Su.d_R (x : Su) : x.R x.d := ⟨_, _, _, _, rfl, Kv.ds_R _, RsOf.map Qu.d_R _⟩
theorem Su.Rs_sh {l : List Su} {xs : List D} (h : RsOf Su.R l xs) : ∀ x ∈ xs, SuSh x := fun x hx => by
 obtain ⟨v, -, r⟩ := h.mem hx
 exact Su.R_sh r
theorem Su_Same_calls (x y : Su) (xa ya : D) (hbig : x.sz < big) (hx : x.R xa) (hy : y.R ya) : k'0 (cx B) 243 [.d xa, .d ya] [] (.d (.bool (x.eq y))) [] := by
 obtain ⟨z_attrs, l_attrs, z_qs, l_qs, rfl, r_attrs, r_qs⟩ := hx
 obtain ⟨y_attrs, m_attrs, y_qs, m_qs, rfl, s_attrs, s_qs⟩ := hy
 unfold Su.sz at hbig
 have c_attrs := k'1a B (a := x.attrs) (b := y.attrs) z_attrs y_attrs (by omega) r_attrs s_attrs
 have c_qs := EqS_Qu_R B (a := x.qs) (b := y.qs) z_qs y_qs (by omega) r_qs s_qs
 rw [show x.eq y = ((x.start == y.start) && (x.time == y.time) && (x.count == y.count) && (x.sum == y.sum) && (x.flags == y.flags) && (x.u == y.u) && (Qu.eqs x.qs y.qs) && (Kv.eqs x.attrs y.attrs)) by unfold Su.eq; ac_rfl]
 refine l_bw Tryz.func243 0 [] ?_
 rw [ibeq x.start y.start]
 cases e0 : (x.start == y.start)
 ·exact Z
 refine Y ?_
 rw [ibeq x.time y.time]
 cases e1 : (x.time == y.time)
 ·exact Z
 refine Y ?_
 rw [ibeq x.count y.count]
 cases e2 : (x.count == y.count)
 ·exact Z
 refine Y ?_
 rw [ibeq x.sum y.sum]
 cases e3 : (x.sum == y.sum)
 ·exact Z
 refine Y ?_
 rw [ibeq x.flags y.flags]
 cases e4 : (x.flags == y.flags)
 ·exact Z
 refine Y ?_
 cases e5 : (x.u == y.u)
 ·exact Z
 refine Y ?_
 refine k'1w [] (c_qs) rfl rfl rfl rfl rfl ?_
 cases e6 : (Qu.eqs x.qs y.qs)
 ·exact Z
 refine Y ?_
 refine k'8 [] (c_attrs) rfl rfl rfl rfl rfl ?_
 exact Z
theorem EqF_Su_calls : EqFP B 242 SuSh := EqF_mk B Tryz.func242
theorem EqF_Su_R : EqRP B 242 243 Su.R Su.sz Su.eqs := EqF_R B (EqF_Su_calls B) Su.Rs_sh (fun x => by unfold Su.sz; omega) Su.eqs_by (Su_Same_calls B)
theorem Su_May_calls (x : Su) (xa : D) (d : Int) (hbig : x.sz < big) (hx : x.R xa) (hd1 : -9223372036854775808 ≤ d) (hd2 : d < 9223372036854775808) : k'0 (cx B) 259 [.d xa, .d (.int .i64 d)] [] (.d (.bool (x.may d))) [] := by
 obtain ⟨z_attrs, l_attrs, z_qs, l_qs, rfl, r_attrs, r_qs⟩ := hx
 unfold Su.sz at hbig
 unfold Su.may
 by_cases hd0 : 0 ≤ d
 rotate_left
 ·rw [show decide (0 ≤ d) = false from decide_eq_false hd0]
  refine l_bw Tryz.func259 0 [] ?_
  rw [show decide (d ≥ 0) = false from decide_eq_false hd0]
  exact Z
 have c_u := k't B 351 tbS (tbS_calls B) x.u d (by omega) (by omega) hd2
 have c_qs := All_Qu_R B z_qs d (by omega) hd0 hd2 r_qs
 have c_attrs := k'1f B (a := x.attrs) z_attrs (d - 1) (by omega) (by omega) (by omega) r_attrs
 refine l_bw Tryz.func259 0 [] ?_
 rw [show decide (d ≥ 0) = decide (0 ≤ d) from rfl]
 cases e0 : (decide (0 ≤ d))
 ·exact Z
 refine Y ?_
 refine k'1w [] (c_qs) rfl rfl rfl rfl rfl ?_
 cases e1 : (x.qs.all fun k => k.may (d - 1))
 ·exact Z
 refine Y ?_
 rw [k'11 1 (by omega) (by omega) (by omega) hd2]
 refine k'1w [] (c_attrs) rfl rfl rfl rfl rfl ?_
 cases e2 : (x.attrs.all fun k => k.may (d - 1))
 ·exact Z
 refine Y ?_
 refine k'8 [] (c_u) rfl rfl rfl rfl rfl ?_
 exact Z
theorem All_Su_calls : AllP B 258 SuSh := All_of B (All1_mk B Tryz.func348) (k'2m B Tryz.func419) (Cont_mk B Tryz.func347) (Allc_mk B Tryz.func258)
theorem All_Su_R : AllRP B 258 259 Su.R Su.sz Su.may := All_R B (All_Su_calls B) Su.Rs_sh (fun x => by unfold Su.sz; omega) (Su_May_calls B)
theorem Su_Marshal_calls (x : Su) (xa : D) (d : Int) (hbig : x.sz < big) (hwf : x.wf) (hx : x.R xa) (hd1 : -9223372036854775808 ≤ d) (hd2 : d < 9223372036854775808) : k'0 (cx B) 322 [.d xa, .d (.int .i64 d)] [] (if x.may d then .tup [sT x.mar, .d .nili] else .tup [sT [], .d (Er.code 8).d]) [] := by
 have hm := Su_May_calls B x xa d hbig hx hd1 hd2
 have hlen := Su.mar_len x
 have hlen : x.mar.length < big := by omega
 obtain ⟨z_attrs, l_attrs, z_qs, l_qs, rfl, r_attrs, r_qs⟩ := hx
 unfold Su.sz at hbig
 cases hc : x.may d
 ·rw [hc] at hm
  refine l_bw Tryz.func322 0 [] ?_
  refine k'1 [] (hm) rfl rfl rfl ?_
  exact Z
 rw [hc] at hm
 have hc' := hc
 unfold Su.may at hc'
 simp only [Bool.and_eq_true, decide_eq_true_eq] at hc'
 obtain ⟨⟨⟨hd, m_qs⟩, m_attrs⟩, hu⟩ := hc'
 obtain ⟨w_attrs, w_start, w_time, w_count, w_sum, w_qs, w_flags⟩ := hwf
 unfold Su.mar Su.hb at hlen ⊢
 obtain ⟨a0, ha0, c0⟩ := k'1o B 2 x.start (by omega) (by omega) (.nw 71 2) [] k'22 (by simp only [List.length_append, List.length_nil] at hlen ⊢; omega)
 rw [List.nil_append] at c0
 obtain ⟨a1, ha1, c1⟩ := k'1o B 3 x.time (by omega) (by omega) (a0) (fxV 2 x.start) ha0 (by simp only [List.length_append, List.length_nil] at hlen ⊢; omega)
 obtain ⟨a2, ha2, c2⟩ := k'1o B 4 x.count (by omega) (by omega) (a1) (fxV 2 x.start ++ fxV 3 x.time) ha1 (by simp only [List.length_append, List.length_nil] at hlen ⊢; omega)
 obtain ⟨a3, ha3, c3⟩ := k'1o B 5 x.sum (by omega) (by omega) (a2) (fxV 2 x.start ++ fxV 3 x.time ++ fxV 4 x.count) ha2 (by simp only [List.length_append, List.length_nil] at hlen ⊢; omega)
 obtain ⟨a4, ha4, c4⟩ := Parts_Qu_R B 6 (by omega) (by omega) z_qs d (by omega) w_qs m_qs hd hd2 r_qs (a3) (fxV 2 x.start ++ fxV 3 x.time ++ fxV 4 x.count ++ fxV 5 x.sum) ha3 (by simp only [List.length_append, List.length_nil] at hlen ⊢; omega)
 obtain ⟨a5, ha5, c5⟩ := k'34 B 7 (by omega) (by omega) z_attrs d (by omega) w_attrs m_attrs hd hd2 r_attrs (a4) (fxV 2 x.start ++ fxV 3 x.time ++ fxV 4 x.count ++ fxV 5 x.sum ++ psV 6 (x.qs.map Qu.mar)) ha4 (by simp only [List.length_append, List.length_nil] at hlen ⊢; omega)
 obtain ⟨a6, ha6, c6⟩ := wr_var B 8 x.flags (by omega) (by omega) (by omega) (a5) (fxV 2 x.start ++ fxV 3 x.time ++ fxV 4 x.count ++ fxV 5 x.sum ++ psV 6 (x.qs.map Qu.mar) ++ psV 7 (Kv.mars x.attrs)) ha5 (by simp only [List.length_append, List.length_nil] at hlen ⊢; omega)
 obtain ⟨cu, cs⟩ := k'26 B (s := x.u) ha6 (l := fxV 2 x.start ++ fxV 3 x.time ++ fxV 4 x.count ++ fxV 5 x.sum ++ psV 6 (x.qs.map Qu.mar) ++ psV 7 (Kv.mars x.attrs) ++ vrV 8 x.flags) (by simp only [List.length_append] at hlen ⊢; omega)
 generalize fxV 2 x.start ++ fxV 3 x.time ++ fxV 4 x.count ++ fxV 5 x.sum ++ psV 6 (x.qs.map Qu.mar) ++ psV 7 (Kv.mars x.attrs) ++ vrV 8 x.flags = o6 at c6 cu cs ⊢
 generalize fxV 2 x.start ++ fxV 3 x.time ++ fxV 4 x.count ++ fxV 5 x.sum ++ psV 6 (x.qs.map Qu.mar) ++ psV 7 (Kv.mars x.attrs) = o5 at c5 c6
 generalize fxV 2 x.start ++ fxV 3 x.time ++ fxV 4 x.count ++ fxV 5 x.sum ++ psV 6 (x.qs.map Qu.mar) = o4 at c4 c5
 generalize fxV 2 x.start ++ fxV 3 x.time ++ fxV 4 x.count ++ fxV 5 x.sum = o3 at c3 c4
 generalize fxV 2 x.start ++ fxV 3 x.time ++ fxV 4 x.count = o2 at c2 c3
 generalize fxV 2 x.start ++ fxV 3 x.time = o1 at c1 c2
 generalize fxV 2 x.start = o0 at c0 c1
 refine l_bw Tryz.func322 0 [] ?_
 refine l_cw [] (hm) rfl rfl rfl ?_
 refine l_wr [1] (c0) k'22 ha0 ?_
 refine l_wr [1] (c1) ha0 ha1 ?_
 refine l_wr [1] (c2) ha1 ha2 ?_
 refine l_wr [1] (c3) ha2 ha3 ?_
 refine l_wr [1] (c4) ha3 ha4 ?_
 refine l_wr [1] (c5) ha4 ha5 ?_
 rw [show IntKind.u64.wrap (x.flags : Int) = (x.flags : Int) by rw [IntKind.wrap_u64]; omega]
 refine l_wr [1] (c6) ha5 ha6 ?_
 refine l_wr [1] (cu) ha6 (.inl rfl) ?_
 refine k'1g [1] (cs) rfl rfl rfl rfl rfl rfl rfl (by decide) (by simp [k'5 (.inl rfl)]) rfl rfl rfl rfl ?_
 exact Z
theorem Parts_Su_wr : PartsP B 321 SuSh := k'3j B Tryz.func321
theorem Parts_Su_R : k'3o B 321 322 Su.R Su.sz Su.wf Su.may Su.mar := Parts_R B (Parts_Su_wr B) Su.Rs_sh (Su_Marshal_calls B)
theorem Su_fits (l : List Su) : ∀ a ∈ l.map Su.d, a.fits 8 = true := by
 intro a ha
 obtain ⟨c, -, rfl⟩ := List.mem_map.1 ha
 rfl
theorem part_Su_calls : partP B 373 Su.d := k'2s B Tryz.func373
theorem List_Su_calls : ListP B 290 Su.d := List_S B (fun x => Su_fits [x]) (part_Su_calls B) (k'4u B Tryz.func290)
theorem List_Su_tells : ListT B 290 Su.d := k'1r B (List_Su_calls B)
theorem okSu_rd (s : List UInt8) (d : Int) : okSu s d = (match k'd s d, k'3 (fun s => okK s (d - 1)) 7 (knB tbS s d), k'3 (fun s => okQu s (d - 1)) 6 (knB tbS s d) with
 | none, some attrs, some qs => some ⟨attrs, (k'6 (knB tbS s d) 2).n, (k'6 (knB tbS s d) 3).n, (k'6 (knB tbS s d) 4).n, (k'6 (knB tbS s d) 5).n, qs, (k'6 (knB tbS s d) 8).n % 4294967296, unB tbS s d⟩
 | _, _, _ => none) := by
 unfold okSu
 rw [k'4a]
 cases k'd s d with
 | some e => rfl
 | none =>
  unfold tellSu
  simp only
  cases k'3 (fun s => okK s (d - 1)) 7 (knB tbS s d) with
  | none => rfl
  | some attrs =>
   cases k'3 (fun s => okQu s (d - 1)) 6 (knB tbS s d) with
   | none => rfl
   | some qs =>
    rfl
theorem Su_read (hB : BOk B) (s : List UInt8) (d : Int) (hl : s.length < big) (hd1 : -9223372036854775808 ≤ d) (hd2 : d < 9223372036854775808) :
  RdZ B 291 Su.d noSu (okSu s d) s d ∧ (∀ e0, k'd s d = some e0 → k'0 (cx B) 291 [sT s, .d (.int .i64 d)] [] (.tup [.d noSu.d, .d e0.d]) []) := by
 have h1 := k'o B hB 351 tbS (tbS_calls B) s d hl hd1 hd2
 have hk : LOk (knB tbS s d) := k'e tbS s d hl
 have hm := k'1p hk
 obtain ⟨vs_attrs, e1, c_attrs, t1⟩ := k'15 B hB (fun s => okK s (d - 1)) Kv.sh noKV 168 [] (k'd s d) (unB tbS s d) d s.length (knB tbS s d) 7 hk (fun h => by have := k'1u h; omega) hd2 (fun x hx hn => k'16 B hB x.s (d - 1) (lok_s hk hx) (by have := k'2e hx; omega) (by omega))
 obtain ⟨vs_qs, e2, c_qs, t2⟩ := List_Qu_tells B hB (fun s => okQu s (d - 1)) id noQu 375 [] e1 (unB tbS s d) d s.length (knB tbS s d) 6 hk (fun h => by have := k'1u h; omega) hd2 (fun x hx hn => (Qu_read B hB x.s (d - 1) (lok_s hk hx) (by have := k'2e hx; omega) (by omega)))
 have hein : ∀ x, e2 = some x → EIn s.length x := t2.ein (t1.ein (fun x hx => k'n hx))
 have main : k'0 (cx B) 291 [sT s, .d (.int .i64 d)] [] (.tup [.d (orD e2 (.agg [slD (vs_attrs.map KVs.d), .int .u64 (k'6 (knB tbS s d) 2).n, .int .u64 (k'6 (knB tbS s d) 3).n, .int .u64 (k'6 (knB tbS s d) 4).n, .int .u64 (k'6 (knB tbS s d) 5).n, slD (vs_qs.map Qu.d), .int .u32 ((k'6 (knB tbS s d) 8).n % 4294967296 : Nat), .str (unB tbS s d)]) noSu.d), .d (eD e2)]) [] := by
  clear hein t1 t2
  refine l_bw Tryz.func291 0 [] ?_
  refine l_cw [] (h1) rfl rfl rfl ?_
  refine k'3q (i0 := 20) (z := 21) (t0 := 7) rfl (by decide) rfl rfl rfl rfl rfl rfl rfl rfl rfl rfl ?_
  refine Y ?_
  refine x_cw [1] (c_attrs) rfl rfl rfl ?_
  refine x_cw [1] (k'9 B e1 (unB tbS s d) d s.length (knB tbS s d) 2 hm) rfl rfl rfl ?_
  refine x_cw [1] (k'9 B e1 (unB tbS s d) d s.length (knB tbS s d) 3 hm) rfl rfl rfl ?_
  refine x_cw [1] (k'9 B e1 (unB tbS s d) d s.length (knB tbS s d) 4 hm) rfl rfl rfl ?_
  refine x_cw [1] (k'9 B e1 (unB tbS s d) d s.length (knB tbS s d) 5 hm) rfl rfl rfl ?_
  refine x_cw [1] (c_qs) rfl rfl rfl ?_
  refine x_cw [1] (k'9 B e2 (unB tbS s d) d s.length (knB tbS s d) 8 hm) rfl rfl rfl ?_
  rw [u32w]
  cases e2 with
  | none =>
   exact Z
  | some er =>
   cases er <;> (
   exact Z)
 constructor
 ·rw [okSu_rd]
  cases e2 with
  | none =>
   obtain ⟨k1, a_qs, g_qs, v_qs⟩ := t2.ok
   subst k1
   obtain ⟨k0, a_attrs, g_attrs, v_attrs⟩ := t1.ok
   rw [k0, g_attrs, g_qs]
   subst v_attrs
   rw [List.map_id] at v_qs
   subst v_qs
   rw [ks_map a_attrs] at main
   exact main
  | some er =>
   have hno : (match k'd s d, k'3 (fun s => okK s (d - 1)) 7 (knB tbS s d), k'3 (fun s => okQu s (d - 1)) 6 (knB tbS s d) with
    | none, some attrs, some qs => some (⟨attrs, (k'6 (knB tbS s d) 2).n, (k'6 (knB tbS s d) 3).n, (k'6 (knB tbS s d) 4).n, (k'6 (knB tbS s d) 5).n, qs, (k'6 (knB tbS s d) 8).n % 4294967296, unB tbS s d⟩ : Su)
    | _, _, _ => none) = none := by
    cases hr : k'd s d with
    | some x => rfl
    | none =>
     rw [hr] at t1
     cases hp0 : k'3 (fun s => okK s (d - 1)) 7 (knB tbS s d) with
     | none => rfl
     | some a0 =>
      rw [hp0] at t1
      obtain ⟨-, q0⟩ := t1.get
      subst q0
      cases hp1 : k'3 (fun s => okQu s (d - 1)) 6 (knB tbS s d) with
      | none => split <;> simp_all
      | some a1 =>
       rw [hp1] at t2
       have := t2.get.2; simp at this
   rw [hno]
   exact ⟨er, hein er rfl, main⟩
 ·intro e0 he
  rw [he] at t1
  have k1 := t1.keep
  subst k1
  have k2 := t2.keep
  subst k2
  exact main
end
