/- The reference: values and attributes read. -/
import Derived.Test.YtpioginipokfiaaGreatDoorPAB
import Derived.Test.YtpioginipokfiaaGreatDoorR7
set_option linter.unusedSimpArgs false
set_option linter.unusedVariables false
set_option maxRecDepth 100000
namespace Go.Proofs.YtpioginipokfiaaGreatDoor
open Go Go.Abs
def noKv : Kv := .mk [] false noVl []
/-! What is told of a message's records. -/
theorem okG_L {β : Type} (tb : Nat → Nat → Bool) (tell : Int → List Fld → Option (List UInt8 → β)) (s : List UInt8) (d : Int) : apO (okG tb tell s d) = (match okL s d with
  | none => none
  | some l => (tell d (k'3 tb l)).map fun f => f (unkL tb l)) := by
 unfold okG
 cases okL s d with
 | none => rfl
 | some l =>
  simp only
  cases tell d (k'3 tb l) <;> rfl
theorem k'2m {α : Type} {ok : List UInt8 → Option α} {num : Nat} {tb : Nat → Nat → Bool} {l : List Fld} (i : Nat) (h : k'7 ok num (k'3 tb (l.take i)) = none) : k'7 ok num (k'3 tb l) = none := by
 rw [← List.take_append_drop i l, knownL_app, partsO_app, h]
theorem k'6 {α : Type} {ok : List UInt8 → Option α} {num : Nat} {k : List Fld} {x : Fld} {r : List α} (h : k'7 ok num k = some r) : k'7 ok num (k ++ [x]) = if x.num = num then (match ok x.s with | none => none | some v => some (r ++ [v])) else some r := by
 rw [partsO_app, h]
 by_cases hn : x.num = num
 ·rw [if_pos hn]
  have : k'7 ok num [x] = (match ok x.s with | none => none | some v => some [v]) := by
   unfold k'7
   rw [k'1r, if_pos hn, sel_nil]
   unfold mapO
   cases ok x.s <;> rfl
  rw [this]
  cases ok x.s <;> rfl
 ·rw [if_neg hn]
  have : k'7 ok num [x] = some [] := by
   unfold k'7
   rw [k'1r, if_neg hn, sel_nil]; rfl
  rw [this]; simp
theorem sel_snoc (m : Nat) (k : List Fld) (x : Fld) : sel m (k ++ [x]) = if x.num = m then sel m k ++ [x] else sel m k := by
 rw [k'1e, k'1r, sel_nil]
 by_cases h : x.num = m
 ·rw [if_pos h, if_pos h]
 ·rw [if_neg h, if_neg h, List.append_nil]
theorem vs_map (a : List Vl) : (a.map Vl.sh).map VaS.d = Vl.ds a := by
 rw [List.map_map, Vl.ds_map]
 exact List.map_congr_left fun v _ => Vl.sh_d v
/-! An attribute, record by record. -/
structure KSt where
 key : List UInt8
 has : Bool
 part : List UInt8
 ok : Bool
 u : List UInt8
def kstOf (l : List Fld) : KSt := ⟨(k'f (k'3 tbK l) 1).s, anyL (k'3 tbK l) 2, k'12 (k'3 tbK l) 2, (sel 1 (k'3 tbK l)).all fun x => txt x.s, unkL tbK l⟩
theorem kst_unk (l : List Fld) (x : Fld) (h : tbK x.num x.kind = false) : kstOf (l ++ [x]) = ⟨(kstOf l).key, (kstOf l).has, (kstOf l).part, (kstOf l).ok, (kstOf l).u ++ x.raw⟩ := by
 unfold kstOf
 rw [k'5, k'9, show isT tbK x = false from h]; simp
theorem kst_key (l : List Fld) (x : Fld) (h : tbK x.num x.kind = true) (hn : x.num = 1) : kstOf (l ++ [x]) = ⟨x.s, (kstOf l).has, (kstOf l).part, (kstOf l).ok && txt x.s, (kstOf l).u⟩ := by
 unfold kstOf
 rw [k'5, k'9, show isT tbK x = true from h]
 simp only [if_true, List.append_nil]
 rw [k'0, if_pos hn, anyL_app, show anyL [x] 2 = false by simp [anyL, hn], Bool.or_false, sel_snoc, if_pos hn, List.all_append, k'1w, sel_snoc, if_neg (by omega), ← k'1w]
 simp
theorem kst_val (l : List Fld) (x : Fld) (h : tbK x.num x.kind = true) (hn : x.num = 2) : kstOf (l ++ [x]) = ⟨(kstOf l).key, true, (kstOf l).part ++ x.s, (kstOf l).ok, (kstOf l).u⟩ := by
 unfold kstOf
 rw [k'5, k'9, show isT tbK x = true from h]
 simp only [if_true, List.append_nil]
 rw [k'0, if_neg (by omega), anyL_app, show anyL [x] 2 = true by simp [anyL, hn], Bool.or_true, sel_snoc, if_neg (by omega), k'1w, sel_snoc, if_pos hn, List.flatMap_append, ← k'1w]
 simp
def kstC (k : KSt) : List T := [sT k.key, .d (.bool k.has), .d (.int .i64 0), sT [], .d (.bool false), .d (.int .u64 0), .d (.sl true []), .d (.sl true []), sT [], sT [], sT k.u]
theorem tk_K (n k : Nat) (hk : k < 8) : tkB [10, 18] n k = tbK n k := by
 unfold tkB tbK
 rw [Bool.eq_iff_iff]
 simp
 omega
theorem tk_L (n k : Nat) (hk : k < 8) : tkB [10] n k = tbL n k := by
 unfold tkB tbL
 rw [Bool.eq_iff_iff]
 simp
 omega
theorem tbV_big {n k : Nat} (hn : 9 ≤ n) : tbV n k = false := by
 unfold tbV
 simp
 (repeat' split) <;> omega
theorem tk_V (n k : Nat) (hk : k < 8) : tkB [10, 16, 24, 33, 42, 50, 58] n k = tbV n k := by
 by_cases hn : n < 9
 ·exact (by decide : ∀ n < 9, ∀ k < 8, tkB [10, 16, 24, 33, 42, 50, 58] n k = tbV n k) n hn k hk
 ·rw [show tkB [10, 16, 24, 33, 42, 50, 58] n k = false by unfold tkB; simp; omega, tbV_big (by omega)]
variable (B : Fr)
theorem pairs_calls : k'1 (cx B) 75 [] [] (.d (.sl false ([10, 18].map iD))) [] := by
 refine l_bw Tryz.func75 0 [] ?_
 (try refine k't rfl ?_)
 refine k'2 (.buildSlice (es := [10, 18].map iD) rfl rfl rfl rfl rfl rfl (by intro x hx; simp [iD] at hx; rcases hx with rfl | rfl <;> rfl) (by decide) (by decide) (by decide)) rfl rfl ?_
 exact Z
theorem rlists_calls : k'1 (cx B) 143 [] [] (.d (.sl false ([10].map iD))) [] := by
 refine l_bw Tryz.func143 0 [] ?_
 (try refine k't rfl ?_)
 refine k'2 (.buildSlice (es := [10].map iD) rfl rfl rfl rfl rfl rfl (by intro x hx; simp [iD] at hx; subst hx; rfl) (by decide) (by decide) (by decide)) rfl rfl ?_
 exact Z
theorem values_calls : k'1 (cx B) 110 [] [] (.d (.sl false ([10, 16, 24, 33, 42, 50, 58].map iD))) [] := by
 refine l_bw Tryz.func110 0 [] ?_
 (try refine k't rfl ?_)
 refine k'2 (.buildSlice (es := [10, 16, 24, 33, 42, 50, 58].map iD) rfl rfl rfl rfl rfl rfl (by intro x hx; simp [iD] at hx; rcases hx with rfl | rfl | rfl | rfl | rfl | rfl | rfl <;> rfl) (by decide) (by decide) (by decide)) rfl rfl ?_
 exact Z
def rkT (o : Option Kv) : T := match o with | some v => .tup [.d (KVs.d v.sh), .d (.bool true)] | none => .tup [.d (KVs.d noKv.sh), .d (.bool false)]
def rvT2 (o : Option Vl) : T := match o with | some v => .tup [.d (VaS.d v.sh), .d (.bool true)] | none => .tup [.d (VaS.d noVl.sh), .d (.bool false)]
theorem ReadKey_step (s : List UInt8) (d : Int) (hl : s.length < big) (hd1 : -9223372036854775808 ≤ d) (hd2 : d < 9223372036854775808)
  (hV : 0 ≤ d → ∀ s', s'.length < big → k'1 (cx B) 77 [sT s', .d (.int .i64 (d - 1))] [] (rvT2 (okV s' (d - 1))) []) :
  k'1 (cx B) 37 [sT s, .d (.int .i64 d)] [] (rkT (okK s d)) [] := by
 have h1 := k'1d B s d hl hd1 hd2
 have hl' := hl
 unfold big at hl'
 rw [okK_eq, okG_L]
 unfold fieldsT at h1
 cases ho : okL s d with
 | none =>
  rw [ho] at h1
  dsimp only at h1 ⊢
  unfold rkT
  refine l_bw Tryz.func37 0 [] ?_
  refine l_cw [] (h1) rfl rfl rfl ?_
  refine k'k (fun _ : Unit => 0) (fun _ => [(4, .ptr 0 0), (5, .d (.bool false)), (6, .d (.sl true [])), (7, .d (.bool false)), (8, .ptr 1 0), (9, sT []), (10, iT 0)]) (fun _ => _) (fun _ => True) () trivial ⟨rfl, rfl, rfl, rfl, rfl, rfl, rfl, trivial⟩ rfl 2 rfl (fun _ => rfl) (fun _ => rfl) (fun _ => rfl) ?_
  intro _ _
  exact Z
 | some l =>
  rw [ho] at h1
  obtain ⟨w1, w2⟩ := okL_wt ho
  obtain ⟨-, -, -, hd0⟩ := k'23 ho
  dsimp only at h1 ⊢
  have hlen : (l.map Fld.d).length = l.length := by simp
  have hlok : LOk l := ⟨w2, by unfold big; omega⟩
  have hlb := hlok.len
  have hfin : (tellK (fun s => okV s (d - 1)) d (k'3 tbK l)).map (fun f => f (unkL tbK l)) = (if (kstOf l).ok = false then none else match (if (kstOf l).has then (match okV (kstOf l).part (d - 1) with | none => none | some x => some (true, x)) else some (false, noVl)) with
    | none => none
    | some p => some (Kv.mk (kstOf l).key p.1 p.2 (kstOf l).u)) := by
   unfold tellK partO kstOf
   dsimp only
   split
   ·rfl
   ·cases anyL (k'3 tbK l) 2 with
    | false => rfl
    | true =>
     simp only [if_true]
     cases okV (k'12 (k'3 tbK l) 2) (d - 1) <;> rfl
  rw [hfin]
  refine l_bw Tryz.func37 0 [] ?_
  refine l_cw [] (h1) rfl rfl rfl ?_
  refine k'k (fun y : Nat × KSt => l.length - y.1) (fun y => [(1, .d (.int .i64 d)), (4, .ptr 0 0), (5, .d (.bool false)), (6, .d (slD (l.map Fld.d))), (7, .d (.bool y.2.ok)), (8, .ptr 1 0), (9, sT y.2.part), (10, iT y.1)])
   (fun y => [_, .mu (kstC y.2)]) (fun y => y.1 ≤ l.length ∧ y.2 = kstOf (l.take y.1)) (0, ⟨[], false, [], true, []⟩) ⟨by omega, rfl⟩ ⟨rfl, rfl, rfl, rfl, rfl, rfl, rfl, rfl, trivial⟩ rfl 2 rfl (fun _ => rfl) (fun _ => rfl) (fun _ => rfl) ?_
  rintro ⟨i, st⟩ ⟨i1, i2⟩
  dsimp only at i1 i2 ⊢
  have hwi : i < l.length → IntKind.i64.wrap ((i : Int) + 1) = ((i + 1 : Nat) : Int) := fun h => by rw [k'v (by omega) (by omega)]; omega
  have hwt := wt_take l i
  have hul : st.u.length ≤ wt (l.take i) := by rw [i2]; exact unkL_len _ _
  have hpl : st.part.length ≤ wt (l.take i) := by
   rw [i2]
   exact Nat.le_trans (k'1x 2 _ fun y hy => w2 y (List.mem_of_mem_take (List.mem_filter.1 hy).1)) (wt_filter _ _)
  by_cases hlt : i < l.length
  ·obtain ⟨x, hx⟩ : ∃ x, l[i]? = some x := ⟨_, List.getElem?_eq_getElem hlt⟩
   have hdx : (l.map Fld.d)[i]? = some x.d := by rw [List.getElem?_map, hx]; rfl
   have htk : l.take (i + 1) = l.take i ++ [x] := by rw [List.take_add_one, hx]; rfl
   obtain ⟨hfx, hwx⟩ := k'2o hlok hx
   have hwt1 := wt_take l (i + 1)
   have hwn : wt (l.take (i + 1)) = wt (l.take i) + x.raw.length := by rw [htk, wt_snoc]
   have ht := k'1j B [10, 18] x (by decide) (by intro t ht; simp at ht; omega)
   rw [tk_K _ _ hfx.kind] at ht
   have hxs : x.s.length < big := by have := hfx.s; unfold big; omega
   refine Y ?_
   rw [hlen, show decide ((i : Int) < l.length) = true from decide_eq_true (by omega)]
   refine Y ?_
   refine k'2 (.indexAddr (k := .i64) (n := i) (es := l.map Fld.d) (u := x.d) rfl rfl rfl rfl (.inl ⟨_, rfl⟩) rfl (by omega) (by simpa using hdx) rfl (by decide)) rfl rfl ?_
   refine Y ?_
   refine x_cw [] (pairs_calls B) rfl rfl rfl ?_
   refine x_cw [] (ht) rfl rfl rfl ?_
   cases hb : tbK x.num x.kind
   ·have hk := kst_unk (l.take i) x hb
    rw [← i2, ← htk] at hk
    refine Y ?_
    refine k'2 (.addStr rfl rfl rfl (by omega)) rfl rfl ?_
    refine Y ?_
    rw [hwi hlt]
    exact ⟨(i + 1, ⟨st.key, st.has, st.part, st.ok, st.u ++ x.raw⟩), by show l.length - (i + 1) < _; omega, ⟨by show i + 1 ≤ _; omega, hk.symm⟩, ⟨rfl, rfl, rfl, rfl, rfl, rfl, rfl, rfl, trivial⟩, rfl, k'i rfl⟩
   have hcs : x.num = 1 ∨ x.num = 2 := by unfold tbK at hb; simp at hb; omega
   refine Y ?_
   by_cases hn : x.num = 1
   ·have hk := kst_key (l.take i) x hb hn
    rw [← i2, ← htk] at hk
    have htx := rText0_calls B x.s hxs
    rw [show ((x.num : Int) == 1) = true by rw [hn]; rfl]
    refine Y ?_
    cases hok : st.ok
    ·rw [hok] at hk
     refine Y ?_
     rw [hwi hlt]
     exact ⟨(i + 1, ⟨x.s, st.has, st.part, false, st.u⟩), by show l.length - (i + 1) < _; omega, ⟨by show i + 1 ≤ _; omega, hk.symm⟩, ⟨rfl, rfl, rfl, rfl, rfl, rfl, rfl, rfl, trivial⟩, rfl, k'i rfl⟩
    rw [hok] at hk
    refine Y ?_
    refine k'3g [] (htx) rfl rfl rfl rfl rfl ?_
    rw [hwi hlt]
    exact ⟨(i + 1, ⟨x.s, st.has, st.part, txt x.s, st.u⟩), by show l.length - (i + 1) < _; omega, ⟨by show i + 1 ≤ _; omega, hk.symm⟩, ⟨rfl, rfl, rfl, rfl, rfl, rfl, rfl, rfl, trivial⟩, rfl, k'i rfl⟩
   ·have hn2 : x.num = 2 := by omega
    have hk := kst_val (l.take i) x hb hn2
    rw [← i2, ← htk] at hk
    have := hfx.s
    rw [show ((x.num : Int) == 1) = false by simp; omega]
    refine Y ?_
    refine k'2 (.addStr rfl rfl rfl (by omega)) rfl rfl ?_
    refine Y ?_
    rw [hwi hlt]
    exact ⟨(i + 1, ⟨st.key, true, st.part ++ x.s, st.ok, st.u⟩), by show l.length - (i + 1) < _; omega, ⟨by show i + 1 ≤ _; omega, hk.symm⟩, ⟨rfl, rfl, rfl, rfl, rfl, rfl, rfl, rfl, trivial⟩, rfl, k'i rfl⟩
  ·have he : i = l.length := by omega
   subst he
   rw [List.take_length] at i2
   rw [← i2]
   refine Y ?_
   rw [hlen, show decide ((l.length : Int) < l.length) = false from decide_eq_false (by omega)]
   obtain ⟨key, has, part, ok, u⟩ := st
   dsimp only at hpl ⊢
   cases ok
   ·unfold rkT
    exact Z
   cases has
   ·unfold rkT
    exact Z
   have hv := hV hd0 part (by unfold big; omega)
   simp only [if_true]
   cases hok : okV part (d - 1) with
   | none =>
    rw [hok] at hv
    unfold rvT2 at hv
    unfold rkT
    dsimp only at hv ⊢
    refine Y ?_
    rw [k'm 1 (by omega) (by omega) (by omega) hd2]
    refine k'4 [] (hv) rfl rfl rfl ?_
    exact Z
   | some v =>
    rw [hok] at hv
    unfold rvT2 at hv
    unfold rkT
    obtain ⟨kind, vs, vb, vn, vl, vm, vi, vu⟩ := v
    dsimp only at hv ⊢
    refine Y ?_
    rw [k'm 1 (by omega) (by omega) (by omega) hd2]
    refine k'4 [] (hv) rfl rfl rfl ?_
    exact Z
