/- The reference: values and attributes read. -/
import Derived.Test.YtnaojdjhjkendaaGreatDoorPAB
import Derived.Test.YtnaojdjhjkendaaGreatDoorR7
import Derived.Test.YtnaojdjhjkendaaGreatDoorRR
set_option linter.unusedSimpArgs false
set_option linter.unusedVariables false
set_option maxRecDepth 100000
namespace Go.Proofs.YtnaojdjhjkendaaGreatDoor
open Go Go.Abs
variable (B : Fr)
section
def noKv : Kv := .mk [] false noVl []
/-! What is told of a message's records. -/
theorem okG_L {β : Type} (tb : Nat → Nat → Bool) (tell : Int → List Fld → Option (List UInt8 → β)) (s : List UInt8) (d : Int) : apO (okG tb tell s d) = (match okL s d with
  | none => none
  | some l => (tell d (k'1 tb l)).map fun f => f (unkL tb l)) := by
 unfold okG
 cases okL s d with
 | none => rfl
 | some l =>
  simp only
  cases tell d (k'1 tb l) <;> rfl
theorem k'1f {α : Type} {ok : List UInt8 → Option α} {num : Nat} {tb : Nat → Nat → Bool} {l : List Fld} (i : Nat) (h : k'7 ok num (k'1 tb (l.take i)) = none) : k'7 ok num (k'1 tb l) = none := by
 rw [← List.take_append_drop i l, knownL_app, partsO_app, h]
theorem k'2 {α : Type} {ok : List UInt8 → Option α} {num : Nat} {k : List Fld} {x : Fld} {r : List α} (h : k'7 ok num k = some r) : k'7 ok num (k ++ [x]) = if x.num = num then (match ok x.s with | none => none | some v => some (r ++ [v])) else some r := by
 rw [partsO_app, h]
 by_cases hn : x.num = num
 ·rw [if_pos hn]
  have : k'7 ok num [x] = (match ok x.s with | none => none | some v => some [v]) := by
   unfold k'7
   rw [k'2h, if_pos hn, sel_nil]
   unfold mapO
   cases ok x.s <;> rfl
  rw [this]
  cases ok x.s <;> rfl
 ·rw [if_neg hn]
  have : k'7 ok num [x] = some [] := by
   unfold k'7
   rw [k'2h, if_neg hn, sel_nil]; rfl
  rw [this]; simp
theorem sel_snoc (m : Nat) (k : List Fld) (x : Fld) : sel m (k ++ [x]) = if x.num = m then sel m k ++ [x] else sel m k := by
 rw [k'i, k'2h, sel_nil]
 by_cases h : x.num = m
 ·rw [if_pos h, if_pos h]
 ·rw [if_neg h, if_neg h, List.append_nil]
theorem vs_map (a : List Vl) : (a.map Vl.sh).map VaS.d = Vl.ds a := by
 rw [List.map_map, Vl.ds_map]
 exact List.map_congr_left fun v _ => Vl.sh_d v
/-! An attribute, record by record. -/
structure KSt where
 key : List UInt8
 has : Bool
 part : List UInt8
 ok : Bool
 u : List UInt8
def kstOf (l : List Fld) : KSt := ⟨(k'a (k'1 tbK l) 1).s, anyL (k'1 tbK l) 2, k'c (k'1 tbK l) 2, (sel 1 (k'1 tbK l)).all fun x => txt x.s, unkL tbK l⟩
theorem kst_unk (l : List Fld) (x : Fld) (h : tbK x.num x.kind = false) : kstOf (l ++ [x]) = ⟨(kstOf l).key, (kstOf l).has, (kstOf l).part, (kstOf l).ok, (kstOf l).u ++ x.raw⟩ := by
 unfold kstOf
 rw [k'4, k'6, show isT tbK x = false from h]; simp
theorem kst_key (l : List Fld) (x : Fld) (h : tbK x.num x.kind = true) (hn : x.num = 1) : kstOf (l ++ [x]) = ⟨x.s, (kstOf l).has, (kstOf l).part, (kstOf l).ok && txt x.s, (kstOf l).u⟩ := by
 unfold kstOf
 rw [k'4, k'6, show isT tbK x = true from h]
 simp only [if_true, List.append_nil]
 rw [k'0, if_pos hn, k'n, show anyL [x] 2 = false by simp [anyL, hn], Bool.or_false, sel_snoc, if_pos hn, List.all_append, k'2m, sel_snoc, if_neg (by omega), ← k'2m]
 simp
theorem kst_val (l : List Fld) (x : Fld) (h : tbK x.num x.kind = true) (hn : x.num = 2) : kstOf (l ++ [x]) = ⟨(kstOf l).key, true, (kstOf l).part ++ x.s, (kstOf l).ok, (kstOf l).u⟩ := by
 unfold kstOf
 rw [k'4, k'6, show isT tbK x = true from h]
 simp only [if_true, List.append_nil]
 rw [k'0, if_neg (by omega), k'n, show anyL [x] 2 = true by simp [anyL, hn], Bool.or_true, sel_snoc, if_neg (by omega), k'2m, sel_snoc, if_pos hn, List.flatMap_append, ← k'2m]
 simp
def kstC (k : KSt) : List T := [sT k.key, .d (.bool k.has), .d (.int .i64 0), sT [], .d (.bool false), .d (.int .u64 0), .d (.sl true []), .d (.sl true []), sT [], sT [], sT k.u]
theorem tk_K (n k : Nat) (hk : k < 8) : tkB [10, 18] n k = tbK n k := by
 unfold tkB tbK
 rw [Bool.eq_iff_iff]
 simp
 omega
theorem tk_L (n k : Nat) (hk : k < 8) : tkB [10] n k = tbL n k := by
 unfold tkB tbL
 rw [Bool.eq_iff_iff]
 simp
 omega
theorem tbV_big {n k : Nat} (hn : 9 ≤ n) : tbV n k = false := by
 unfold tbV
 simp
 (repeat' split) <;> omega
theorem tk_V (n k : Nat) (hk : k < 8) : tkB [10, 16, 24, 33, 42, 50, 58] n k = tbV n k := by
 by_cases hn : n < 9
 ·exact (by decide : ∀ n < 9, ∀ k < 8, tkB [10, 16, 24, 33, 42, 50, 58] n k = tbV n k) n hn k hk
 ·rw [show tkB [10, 16, 24, 33, 42, 50, 58] n k = false by unfold tkB; simp; omega, tbV_big (by omega)]
theorem pairs_calls : k'5 (cx B) 99 [] [] (.d (.sl false ([10, 18].map iD))) [] := by
 refine l_bw Tryz.func99 0 [] ?_
 (try refine k'h rfl ?_)
 refine k'3 (.buildSlice (es := [10, 18].map iD) rfl rfl rfl rfl rfl rfl (by intro x hx; simp [iD] at hx; rcases hx with rfl | rfl <;> rfl) (by decide) (by decide) (by decide)) rfl rfl ?_
 exact O
theorem rlists_calls : k'5 (cx B) 275 [] [] (.d (.sl false ([10].map iD))) [] := by
 refine l_bw Tryz.func275 0 [] ?_
 (try refine k'h rfl ?_)
 refine k'3 (.buildSlice (es := [10].map iD) rfl rfl rfl rfl rfl rfl (by intro x hx; simp [iD] at hx; subst hx; rfl) (by decide) (by decide) (by decide)) rfl rfl ?_
 exact O
theorem values_calls : k'5 (cx B) 193 [] [] (.d (.sl false ([10, 16, 24, 33, 42, 50, 58].map iD))) [] := by
 refine l_bw Tryz.func193 0 [] ?_
 (try refine k'h rfl ?_)
 refine k'3 (.buildSlice (es := [10, 16, 24, 33, 42, 50, 58].map iD) rfl rfl rfl rfl rfl rfl (by intro x hx; simp [iD] at hx; rcases hx with rfl | rfl | rfl | rfl | rfl | rfl | rfl <;> rfl) (by decide) (by decide) (by decide)) rfl rfl ?_
 exact O
def rkT (o : Option Kv) : T := match o with | some v => .tup [.d (KVs.d v.sh), .d (.bool true)] | none => .tup [.d (KVs.d noKv.sh), .d (.bool false)]
def rvT2 (o : Option Vl) : T := match o with | some v => .tup [.d (VaS.d v.sh), .d (.bool true)] | none => .tup [.d (VaS.d noVl.sh), .d (.bool false)]
theorem ReadKey_step (s : List UInt8) (d : Int) (hl : s.length < big) (hd1 : -9223372036854775808 ≤ d) (hd2 : d < 9223372036854775808)
  (hV : 0 ≤ d → ∀ s', s'.length < big → k'5 (cx B) 100 [sT s', .d (.int .i64 (d - 1))] [] (rvT2 (okV s' (d - 1))) []) :
  k'5 (cx B) 32 [sT s, .d (.int .i64 d)] [] (rkT (okK s d)) [] := by
 have h1 := k'v B s d hl hd1 hd2
 have hl' := hl
 unfold big at hl'
 rw [okK_eq, okG_L]
 unfold k'2l at h1
 cases ho : okL s d with
 | none =>
  rw [ho] at h1
  dsimp only at h1 ⊢
  unfold rkT
  refine l_bw Tryz.func32 0 [] ?_
  refine l_cw [] (h1) rfl rfl rfl ?_
  refine k'y (fun _ : Unit => 0) (fun _ => [(4, .ptr 0 0), (5, .d (.bool false)), (6, .d (.sl true [])), (7, .d (.bool false)), (8, .ptr 1 0), (9, sT []), (10, iT 0)]) (fun _ => _) (fun _ => True) () trivial ⟨rfl, rfl, rfl, rfl, rfl, rfl, rfl, trivial⟩ rfl 2 rfl (fun _ => rfl) (fun _ => rfl) (fun _ => rfl) ?_
  intro _ _
  exact O
 | some l =>
  rw [ho] at h1
  obtain ⟨w1, w2⟩ := k'47 ho
  obtain ⟨-, -, -, hd0⟩ := k'1n ho
  dsimp only at h1 ⊢
  have hlen : (l.map Fld.d).length = l.length := by simp
  have hlok : LOk l := ⟨w2, by unfold big; omega⟩
  have hlb := hlok.len
  have hfin : (tellK (fun s => okV s (d - 1)) d (k'1 tbK l)).map (fun f => f (unkL tbK l)) = (if (kstOf l).ok = false then none else match (if (kstOf l).has then (match okV (kstOf l).part (d - 1) with | none => none | some x => some (true, x)) else some (false, noVl)) with
    | none => none
    | some p => some (Kv.mk (kstOf l).key p.1 p.2 (kstOf l).u)) := by
   unfold tellK partO kstOf
   dsimp only
   split
   ·rfl
   ·cases anyL (k'1 tbK l) 2 with
    | false => rfl
    | true =>
     simp only [if_true]
     cases okV (k'c (k'1 tbK l) 2) (d - 1) <;> rfl
  rw [hfin]
  refine l_bw Tryz.func32 0 [] ?_
  refine l_cw [] (h1) rfl rfl rfl ?_
  refine k'y (fun y : Nat × KSt => l.length - y.1) (fun y => [(1, .d (.int .i64 d)), (4, .ptr 0 0), (5, .d (.bool false)), (6, .d (slD (l.map Fld.d))), (7, .d (.bool y.2.ok)), (8, .ptr 1 0), (9, sT y.2.part), (10, iT y.1)])
   (fun y => [_, .mu (kstC y.2)]) (fun y => y.1 ≤ l.length ∧ y.2 = kstOf (l.take y.1)) (0, ⟨[], false, [], true, []⟩) ⟨by omega, rfl⟩ ⟨rfl, rfl, rfl, rfl, rfl, rfl, rfl, rfl, trivial⟩ rfl 2 rfl (fun _ => rfl) (fun _ => rfl) (fun _ => rfl) ?_
  rintro ⟨i, st⟩ ⟨i1, i2⟩
  dsimp only at i1 i2 ⊢
  have hwi : i < l.length → IntKind.i64.wrap ((i : Int) + 1) = ((i + 1 : Nat) : Int) := fun h => by rw [k'1b (by omega) (by omega)]; omega
  have hwt := k'1u l i
  have hul : st.u.length ≤ wt (l.take i) := by rw [i2]; exact k'1y _ _
  have hpl : st.part.length ≤ wt (l.take i) := by
   rw [i2]
   exact Nat.le_trans (k'34 2 _ fun y hy => w2 y (List.mem_of_mem_take (List.mem_filter.1 hy).1)) (k'1l _ _)
  by_cases hlt : i < l.length
  ·obtain ⟨x, hx⟩ : ∃ x, l[i]? = some x := ⟨_, List.getElem?_eq_getElem hlt⟩
   have hdx : (l.map Fld.d)[i]? = some x.d := by rw [List.getElem?_map, hx]; rfl
   have htk : l.take (i + 1) = l.take i ++ [x] := by rw [List.take_add_one, hx]; rfl
   obtain ⟨hfx, hwx⟩ := k'1x hlok hx
   have hwt1 := k'1u l (i + 1)
   have hwn : wt (l.take (i + 1)) = wt (l.take i) + x.raw.length := by rw [htk, wt_snoc]
   have ht := k'14 B [10, 18] x (by decide) (by intro t ht; simp at ht; omega)
   rw [tk_K _ _ hfx.kind] at ht
   have hxs : x.s.length < big := by have := hfx.s; unfold big; omega
   refine Z ?_
   rw [hlen, show decide ((i : Int) < l.length) = true from decide_eq_true (by omega)]
   refine Z ?_
   refine k'3 (.indexAddr (k := .i64) (n := i) (es := l.map Fld.d) (u := x.d) rfl rfl rfl rfl (.inl ⟨_, rfl⟩) rfl (by omega) (by simpa using hdx) rfl (by decide)) rfl rfl ?_
   refine Z ?_
   refine x_cw [] (pairs_calls B) rfl rfl rfl ?_
   refine x_cw [] (ht) rfl rfl rfl ?_
   cases hb : tbK x.num x.kind
   ·have hk := kst_unk (l.take i) x hb
    rw [← i2, ← htk] at hk
    refine Z ?_
    refine k'3 (.addStr rfl rfl rfl (by omega)) rfl rfl ?_
    refine Z ?_
    rw [hwi hlt]
    exact ⟨(i + 1, ⟨st.key, st.has, st.part, st.ok, st.u ++ x.raw⟩), by show l.length - (i + 1) < _; omega, ⟨by show i + 1 ≤ _; omega, hk.symm⟩, ⟨rfl, rfl, rfl, rfl, rfl, rfl, rfl, rfl, trivial⟩, rfl, k'g rfl⟩
   have hcs : x.num = 1 ∨ x.num = 2 := by unfold tbK at hb; simp at hb; omega
   refine Z ?_
   by_cases hn : x.num = 1
   ·have hk := kst_key (l.take i) x hb hn
    rw [← i2, ← htk] at hk
    have htx := k'2i B x.s hxs
    rw [show ((x.num : Int) == 1) = true by rw [hn]; rfl]
    refine Z ?_
    cases hok : st.ok
    ·rw [hok] at hk
     refine Z ?_
     rw [hwi hlt]
     exact ⟨(i + 1, ⟨x.s, st.has, st.part, false, st.u⟩), by show l.length - (i + 1) < _; omega, ⟨by show i + 1 ≤ _; omega, hk.symm⟩, ⟨rfl, rfl, rfl, rfl, rfl, rfl, rfl, rfl, trivial⟩, rfl, k'g rfl⟩
    rw [hok] at hk
    refine Z ?_
    refine l_cGw [] (htx) rfl rfl rfl rfl rfl ?_
    rw [hwi hlt]
    exact ⟨(i + 1, ⟨x.s, st.has, st.part, txt x.s, st.u⟩), by show l.length - (i + 1) < _; omega, ⟨by show i + 1 ≤ _; omega, hk.symm⟩, ⟨rfl, rfl, rfl, rfl, rfl, rfl, rfl, rfl, trivial⟩, rfl, k'g rfl⟩
   ·have hn2 : x.num = 2 := by omega
    have hk := kst_val (l.take i) x hb hn2
    rw [← i2, ← htk] at hk
    have := hfx.s
    rw [show ((x.num : Int) == 1) = false by simp; omega]
    refine Z ?_
    refine k'3 (.addStr rfl rfl rfl (by omega)) rfl rfl ?_
    refine Z ?_
    rw [hwi hlt]
    exact ⟨(i + 1, ⟨st.key, true, st.part ++ x.s, st.ok, st.u⟩), by show l.length - (i + 1) < _; omega, ⟨by show i + 1 ≤ _; omega, hk.symm⟩, ⟨rfl, rfl, rfl, rfl, rfl, rfl, rfl, rfl, trivial⟩, rfl, k'g rfl⟩
  ·have he : i = l.length := by omega
   subst he
   rw [List.take_length] at i2
   rw [← i2]
   refine Z ?_
   rw [hlen, show decide ((l.length : Int) < l.length) = false from decide_eq_false (by omega)]
   obtain ⟨key, has, part, ok, u⟩ := st
   dsimp only at hpl ⊢
   cases ok
   ·unfold rkT
    exact O
   cases has
   ·unfold rkT
    exact O
   have hv := hV hd0 part (by unfold big; omega)
   simp only [if_true]
   cases hok : okV part (d - 1) with
   | none =>
    rw [hok] at hv
    unfold rvT2 at hv
    unfold rkT
    dsimp only at hv ⊢
    refine Z ?_
    rw [k'b 1 (by omega) (by omega) (by omega) hd2]
    refine k'8 [] (hv) rfl rfl rfl ?_
    exact O
   | some v =>
    rw [hok] at hv
    unfold rvT2 at hv
    unfold rkT
    obtain ⟨kind, vs, vb, vn, vl, vm, vi, vu⟩ := v
    dsimp only at hv ⊢
    refine Z ?_
    rw [k'b 1 (by omega) (by omega) (by omega) hd2]
    refine k'8 [] (hv) rfl rfl rfl ?_
    exact O
end
section
theorem buckets_calls : k'5 (cx B) 205 [] [] (.d (.sl false ([8, 16, 18].map iD))) [] := by
 refine l_bw Tryz.func205 0 [] ?_
 (try refine k'h rfl ?_)
 refine k'3 (.buildSlice (es := [8, 16, 18].map iD) rfl rfl rfl rfl rfl rfl (by intro x hx; simp [iD] at hx; rcases hx with rfl | rfl | rfl <;> rfl) (by decide) (by decide) (by decide)) rfl rfl ?_
 exact O
theorem tk_B (n k : Nat) (hk : k < 8) : tkB [8, 16, 18] n k = tbB n k := by
 unfold tkB tbB
 rw [Bool.eq_iff_iff]
 simp
 omega
theorem k'2f {rd : List UInt8 → Except Er (List Nat)} {num : Nat} : ∀ {a b : List Fld}, k'p rd num a = none → k'p rd num (a ++ b) = none
 | [], b, h => by simp [k'p] at h
 | c :: a, b, h => by
  rw [List.cons_append]
  unfold k'p at h ⊢
  split at h
  ·rw [if_pos ‹_›]
   split at h
   ·rw [if_pos ‹_›]
    split at h
    ·cases hp : k'p rd num a with
     | none => rw [k'2f hp]; rfl
     | some z => rw [hp] at h; simp at h
    ·rfl
   ·rw [if_neg ‹_›]
    cases hp : k'p rd num a with
    | none => rw [k'2f hp]; rfl
    | some z => rw [hp] at h; simp at h
  ·rw [if_neg ‹_›]; exact k'2f h
def RB (l : List Fld) (b : Bk) : Prop := k'p vars 2 (k'1 tbB l) = some b.cs ∧ b.off = zag32 (k'a (k'1 tbB l) 1).n ∧ b.u = unkL tbB l
def bkC (b : Bk) : List T := [.d (.int .i32 b.off), owT (b.cs.map uD), sT b.u]
def rbT (s : List UInt8) (d : Int) : T :=
 match okB s d with
 | some b => .tup [.d b.d, .d (.bool true)]
 | none => .tup [.d noBk.d, .d (.bool false)]
theorem k'3j (s : List UInt8) (d : Int) (hl : s.length < big) (hd1 : -9223372036854775808 ≤ d) (hd2 : d < 9223372036854775808) : k'5 (cx B) 198 [sT s, .d (.int .i64 d)] [] (rbT s d) [] := by
 have h1 := k'v B s d hl hd1 hd2
 have hl' := hl
 unfold big at hl'
 unfold rbT okB
 unfold k'2l at h1
 cases ho : okL s d with
 | none =>
  rw [ho] at h1
  dsimp only at h1 ⊢
  refine l_bw Tryz.func198 0 [] ?_
  refine l_cw [] (h1) rfl rfl rfl ?_
  refine k'1w (fun _ : Unit => 0) (fun _ => [(4, .ptr 0 0), (5, .d (.bool false)), (6, .d (.sl true [])), (7, .d (.bool false)), (8, .ptr 1 0), (9, iT 0)]) (fun _ => [.mu (noBk.d.cells.map T.d), .mu (noBk.d.cells.map T.d)]) (fun _ => True) () trivial ⟨rfl, rfl, rfl, rfl, rfl, rfl, trivial⟩ ⟨⟨.inr (.inl rfl), .inr (.inr (.inl ⟨_, _, rfl, rfl⟩)), .inr (.inl rfl), trivial⟩, WkC.refl _, trivial⟩ rfl 2 rfl (fun _ => rfl) (fun _ => rfl) (fun _ => rfl) ?_
  intro _ _
  exact O
 | some l =>
  rw [ho] at h1
  obtain ⟨w1, w2⟩ := k'47 ho
  dsimp only at h1 ⊢
  have hlen : (l.map Fld.d).length = l.length := by simp
  have hlok : LOk l := ⟨w2, by unfold big; omega⟩
  have hlb := hlok.len
  refine l_bw Tryz.func198 0 [] ?_
  refine l_cw [] (h1) rfl rfl rfl ?_
  refine k'1w (fun y : Nat × Bool × Bk => l.length - y.1) (fun y => [(4, .ptr 0 0), (5, .d (.bool false)), (6, .d (slD (l.map Fld.d))), (7, .d (.bool y.2.1)), (8, .ptr 1 0), (9, iT y.1)])
   (fun y => [.mu (noBk.d.cells.map T.d), .mu (bkC y.2.2)])
   (fun y => y.1 ≤ l.length ∧ (y.2.1 = true → RB (l.take y.1) y.2.2) ∧ (y.2.1 = false → k'p vars 2 (k'1 tbB l) = none)) (0, true, noBk)
   ⟨by omega, fun _ => ⟨by rw [List.take_zero]; rfl, by rw [List.take_zero]; rfl, by rw [List.take_zero]; rfl⟩, fun h => by simp at h⟩ ⟨rfl, rfl, rfl, rfl, rfl, rfl, trivial⟩ ?_ rfl 2 rfl (fun _ => rfl) (fun _ => rfl) (fun _ => rfl) ?_
  ·exact ⟨⟨.inr (.inl rfl), .inr (.inr (.inl ⟨_, _, rfl, rfl⟩)), .inr (.inl rfl), trivial⟩, ⟨.inr (.inl rfl), .inr (.inr (.inr ⟨rfl, rfl⟩)), .inr (.inl rfl), trivial⟩, trivial⟩
  rintro ⟨i, ok, b⟩ ⟨i1, i2, i3⟩
  dsimp only at i1 i2 i3 ⊢
  have hwi : i < l.length → IntKind.i64.wrap ((i : Int) + 1) = ((i + 1 : Nat) : Int) := fun h => by rw [k'1b (by omega) (by omega)]; omega
  by_cases hlt : i < l.length
  ·cases ok
   ·refine Z ?_
    rw [hlen, show decide ((i : Int) < l.length) = true from decide_eq_true (by omega)]
    refine Z ?_
    rw [i3 rfl]
    exact k'j rfl
   obtain ⟨r1, r2, r3⟩ := i2 rfl
   obtain ⟨x, hx⟩ : ∃ x, l[i]? = some x := ⟨_, List.getElem?_eq_getElem hlt⟩
   have hdx : (l.map Fld.d)[i]? = some x.d := by rw [List.getElem?_map, hx]; rfl
   have htk : l.take (i + 1) = l.take i ++ [x] := by rw [List.take_add_one, hx]; rfl
   obtain ⟨hfx, hwx⟩ := k'1x hlok hx
   have hwt := k'1u l i
   have hwt1 := k'1u l (i + 1)
   have hwn : wt (l.take (i + 1)) = wt (l.take i) + x.raw.length := by rw [htk, wt_snoc]
   have hpl : b.cs.length ≤ wt (l.take i) := Nat.le_trans (k'38 (fun s l h => vars_len h) (fun y hy => w2 y (List.mem_of_mem_take (List.mem_filter.1 hy).1)) r1) (k'1l _ _)
   have hul : b.u.length ≤ wt (l.take i) := by rw [r3]; exact k'1y _ _
   have ht := k'14 B [8, 16, 18] x (by decide) (by intro t ht; simp at ht; omega)
   rw [tk_B _ _ hfx.kind] at ht
   refine Z ?_
   rw [hlen, show decide ((i : Int) < l.length) = true from decide_eq_true (by omega)]
   refine Z ?_
   refine k'3 (.indexAddr (k := .i64) (n := i) (es := l.map Fld.d) (u := x.d) rfl rfl rfl rfl (.inl ⟨_, rfl⟩) rfl (by omega) (by simpa using hdx) rfl (by decide)) rfl rfl ?_
   refine Z ?_
   refine x_cw [] (buckets_calls B) rfl rfl rfl ?_
   refine x_cw [] (ht) rfl rfl rfl ?_
   cases hb : tbB x.num x.kind
   ·have hk : k'1 tbB (l.take (i + 1)) = k'1 tbB (l.take i) := by rw [htk, k'4, show isT tbB x = false from hb]; simp
    have hu : unkL tbB (l.take (i + 1)) = unkL tbB (l.take i) ++ x.raw := by rw [htk, k'6, show isT tbB x = false from hb]; rfl
    refine Z ?_
    refine k'3 (.addStr rfl rfl rfl (by omega)) rfl rfl ?_
    refine Z ?_
    rw [hwi hlt]
    exact ⟨(i + 1, true, ⟨b.off, b.cs, b.u ++ x.raw⟩), by show l.length - (i + 1) < _; omega, ⟨by show i + 1 ≤ _; omega, fun _ => ⟨by rw [hk]; exact r1, by rw [hk]; exact r2, by rw [hu, ← r3]⟩, fun h => by simp at h⟩, ⟨rfl, rfl, rfl, rfl, rfl, rfl, trivial⟩, rfl, k'g rfl⟩
   have hk : k'1 tbB (l.take (i + 1)) = k'1 tbB (l.take i) ++ [x] := by rw [htk, k'4, show isT tbB x = true from hb]; rfl
   have hu : unkL tbB (l.take (i + 1)) = unkL tbB (l.take i) := by rw [htk, k'6, show isT tbB x = true from hb]; simp
   have hcs : x.num = 1 ∨ x.num = 2 := by unfold tbB at hb; simp at hb; omega
   have hkd : x.num = 1 → x.kind = 0 := by unfold tbB at hb; simp at hb; omega
   have hkd2 : x.num = 2 → x.kind = 0 ∨ x.kind = 2 := by unfold tbB at hb; simp at hb; omega
   refine Z ?_
   by_cases hn : x.num = 1
   ·rw [show ((x.num : Int) == 1) = true by rw [hn]; rfl]
    have hz := rZag32_calls B x.n hfx.n
    refine Z ?_
    refine l_cw [] (hz) rfl rfl rfl ?_
    rw [hwi hlt]
    exact ⟨(i + 1, true, ⟨zag32 x.n, b.cs, b.u⟩), by show l.length - (i + 1) < _; omega, ⟨by show i + 1 ≤ _; omega, fun _ => ⟨by rw [hk]; have := k'k (b := [x]) (y := []) r1 (by unfold k'p; rw [if_neg (by omega)]; rfl); rw [List.append_nil] at this; exact this, by rw [hk, lastF_app, show anyL [x] 1 = true by simp [anyL, hn], k'33, show anyL [] 1 = false from rfl, if_pos hn]; rfl, by rw [hu]; exact r3⟩, fun h => by simp at h⟩, ⟨rfl, rfl, rfl, rfl, rfl, rfl, trivial⟩, rfl, k'g rfl⟩
   ·have hn2 : x.num = 2 := by omega
    have hoff : zag32 (k'a (k'1 tbB (l.take (i + 1))) 1).n = b.off := by rw [hk, lastF_app, show anyL [x] 1 = false by simp [anyL, hn], r2]; rfl
    rw [show ((x.num : Int) == 1) = false by simp; omega]
    refine Z ?_
    by_cases hk0 : x.kind = 0
    ·rw [show ((x.kind : Int) == 0) = true by rw [hk0]; rfl]
     refine adm ?_
     (try refine k'h rfl ?_)
     refine k'd (fst := false) 1 rfl rfl rfl ?_
     refine k'3 (.loadMov (q := owT (b.cs.map uD)) rfl rfl rfl rfl rfl rfl rfl) rfl rfl ?_
     refine Z ?_
     refine k'3 (.buildSlice (es := [uD x.n]) rfl rfl rfl rfl rfl rfl (by intro x hx; simp at hx; subst hx; rfl) (by simp) (by decide) (by decide)) rfl rfl ?_
     have hm : (b.cs.map uD).length + [uD x.n].length ≤ most := by simp [most]; omega
     refine k'3 (.append' rfl rfl rfl rfl ⟨_, _, rfl, rfl, by intro q; simp⟩ rfl rfl rfl rfl rfl (by rw [show [uD x.n] = [x.n].map uD from rfl, ← List.map_append]; exact u_fits _) (by decide) rfl hm rfl) rfl rfl ?_
     refine k'd (fst := false) 1 rfl rfl rfl ?_
     refine k'3 (.storeMov rfl rfl rfl rfl rfl rfl rfl (Nat.le_of_ble_eq_true rfl) rfl) rfl rfl ?_
     refine Z ?_
     rw [hwi hlt]
     exact ⟨(i + 1, true, ⟨b.off, b.cs ++ [x.n], b.u⟩), by show l.length - (i + 1) < _; omega, ⟨by show i + 1 ≤ _; omega, fun _ => ⟨by rw [hk]; exact k'k r1 (by unfold k'p; rw [if_pos hn2, if_neg (by omega)]; rfl), hoff.symm, by rw [hu]; exact r3⟩, fun h => by simp at h⟩, ⟨rfl, rfl, rfl, rfl, rfl, rfl, trivial⟩, rfl, k'g (by show [_, Ob.mu [_, owT _, _]] = [_, Ob.mu [_, owT _, _]]; rw [List.map_append]; rfl)⟩
    ·have hk2 : x.kind = 2 := by have := hkd2 hn2; omega
     rw [show ((x.kind : Int) == 0) = false by simp; omega]
     have hxs : x.s.length < big := by have := hfx.s; unfold big; omega
     have hv := rVarints_calls B x.s hxs
     unfold rvT at hv
     cases hr : vars x.s with
     | ok ns =>
      rw [hr] at hv
      dsimp only at hv
      have hnl := vars_len hr
      have := hfx.s
      refine Z ?_
      refine k'8 [] (hv) rfl rfl rfl ?_
      refine l_o0 rfl ?_
      refine adm ?_
      (try refine k'h rfl ?_)
      refine k'd (fst := false) 1 rfl rfl rfl ?_
      refine k'3 (.loadMov (q := owT (b.cs.map uD)) rfl rfl rfl rfl rfl rfl rfl) rfl rfl ?_
      refine Z ?_
      have hm : (b.cs.map uD).length + (ns.map uD).length ≤ most := by simp [most]; omega
      refine k'3 (.append' rfl rfl rfl rfl ⟨_, _, rfl, rfl, by intro q; simp⟩ rfl rfl rfl rfl rfl (by rw [← List.map_append]; exact u_fits _) (by decide) rfl hm rfl) rfl rfl ?_
      refine k'd (fst := false) 3 rfl rfl rfl ?_
      refine k'3 (.storeMov rfl rfl rfl rfl rfl rfl rfl (Nat.le_of_ble_eq_true rfl) rfl) rfl rfl ?_
      refine Z ?_
      rw [hwi hlt]
      exact ⟨(i + 1, true, ⟨b.off, b.cs ++ ns, b.u⟩), by show l.length - (i + 1) < _; omega, ⟨by show i + 1 ≤ _; omega, fun _ => ⟨by rw [hk]; exact k'k r1 (by unfold k'p; rw [if_pos hn2, if_pos hk2, hr]; simp [k'p]), hoff.symm, by rw [hu]; exact r3⟩, fun h => by simp at h⟩, ⟨rfl, rfl, rfl, rfl, rfl, rfl, trivial⟩, rfl, k'g (by show [_, Ob.mu [_, owT _, _]] = [_, Ob.mu [_, owT _, _]]; rw [List.map_append]; rfl)⟩
     | error e =>
      rw [hr] at hv
      dsimp only at hv
      have hc : (codeOf e == 0) = false := by have := vars_code hr; simpa using this
      have hno : k'p vars 2 (k'1 tbB l) = none := by
       have h4 : k'p vars 2 (k'1 tbB (l.take (i + 1))) = none := by rw [hk]; exact k'1m r1 (by unfold k'p; rw [if_pos hn2, if_pos hk2, hr])
       rw [← List.take_append_drop (i + 1) l, knownL_app]
       exact k'2f h4
      refine Z ?_
      refine k'8 [] (hv) rfl rfl rfl ?_
      refine l_o0 rfl ?_
      refine adm ?_
      (try refine k'h rfl ?_)
      refine k'd (fst := false) 1 rfl rfl rfl ?_
      refine k'3 (.loadMov (q := owT (b.cs.map uD)) rfl rfl rfl rfl rfl rfl rfl) rfl rfl ?_
      refine Z ?_
      have hm : (b.cs.map uD).length + ([] : List D).length ≤ most := by simp [most]; omega
      refine k'3 (.append' (xs := []) rfl rfl rfl rfl ⟨_, _, rfl, rfl, by intro q; simp⟩ rfl rfl rfl rfl rfl (by rw [List.append_nil]; exact u_fits _) (by decide) rfl hm rfl) rfl rfl ?_
      refine k'd (fst := false) 3 rfl rfl rfl ?_
      rw [hc]
      refine k'3 (.storeMov rfl rfl rfl rfl rfl rfl rfl (Nat.le_of_ble_eq_true rfl) rfl) rfl rfl ?_
      refine Z ?_
      rw [hwi hlt]
      exact ⟨(i + 1, false, b), by show l.length - (i + 1) < _; omega, ⟨by show i + 1 ≤ _; omega, fun h => by simp at h, fun _ => hno⟩, ⟨rfl, rfl, rfl, rfl, rfl, rfl, trivial⟩, rfl, k'g (by rw [List.append_nil]; rfl)⟩
  ·have he : i = l.length := by omega
   subst he
   refine Z ?_
   rw [hlen, show decide ((l.length : Int) < l.length) = false from decide_eq_false (by omega)]
   cases ok
   ·refine Z ?_
    rw [i3 rfl]
    exact k'j rfl
   obtain ⟨r1, r2, r3⟩ := i2 rfl
   rw [List.take_length] at r1 r2 r3
   refine Z ?_
   rw [r1, ← r2, ← r3]
   exact k'j rfl
end
