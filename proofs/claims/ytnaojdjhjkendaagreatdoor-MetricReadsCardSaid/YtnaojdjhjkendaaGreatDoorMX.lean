/- Metrics: the reference reads one. -/
import Derived.Test.YtnaojdjhjkendaaGreatDoorMR
import Derived.KernelRfl
set_option linter.unusedSimpArgs false
set_option linter.unusedVariables false
set_option maxRecDepth 100000
namespace Go.Proofs.YtnaojdjhjkendaaGreatDoor
open Go Go.Abs
variable (B : Fr)
theorem rKindOf_5 : k'5 (cx B) 33 [iT 5] [] (iT 1) [] := evF_ok (orB_ok B) 6 _ _ _ _ _ (by kernel_rfl)
theorem rKindOf_7 : k'5 (cx B) 33 [iT 7] [] (iT 2) [] := evF_ok (orB_ok B) 6 _ _ _ _ _ (by kernel_rfl)
theorem rKindOf_9 : k'5 (cx B) 33 [iT 9] [] (iT 3) [] := evF_ok (orB_ok B) 6 _ _ _ _ _ (by kernel_rfl)
theorem rKindOf_10 : k'5 (cx B) 33 [iT 10] [] (iT 4) [] := evF_ok (orB_ok B) 6 _ _ _ _ _ (by kernel_rfl)
theorem rKindOf_11 : k'5 (cx B) 33 [iT 11] [] (iT 5) [] := evF_ok (orB_ok B) 6 _ _ _ _ _ (by kernel_rfl)
def MeC (b : Me) : List T := [sT b.name, sT b.desc, sT b.unit, .d (.int .i64 b.kind), .d (.int .i32 0), .d (.bool false), .d (.sl true []), .d (.sl true []), .d (.sl true []), .d (.sl true []), owT ((b.mets.map Kv.sh).map KVs.d), sT [], sT b.u]
def rMeT (o : Option Me) : T := match o with | some v => .tup [.d v.d, .d (.bool true)] | none => .tup [.d noMe.d, .d (.bool false)]
set_option maxHeartbeats 4000000 in
theorem ReadMe_calls (s : List UInt8) (d : Int) (hl : s.length < big) (hd1 : -9223372036854775808 ≤ d) (hd2 : d < 9223372036854775808) : k'5 (cx B) 7 [sT s, .d (.int .i64 d)] [] (rMeT (okMe s d)) [] := by
 have h1 := k'v B s d hl hd1 hd2
 have hl' := hl
 unfold big at hl'
 unfold okMe
 rw [okG_L]
 unfold k'2l at h1
 cases ho : okL s d with
 | none =>
  rw [ho] at h1
  dsimp only at h1 ⊢
  unfold rMeT
  refine l_bw Tryz.func7 0 [] ?_
  refine l_cw [] (h1) rfl rfl rfl ?_
  refine k'1w (fun _ : Unit => 0) (fun _ => [(4, .ptr 0 0), (5, .d (.bool false)), (6, .d (.sl true [])), (7, .d (.bool false)), (8, .ptr 1 0), (9, sT []), (10, iT 0)]) (fun _ => [.mu (noMe.d.cells.map T.d), .mu (noMe.d.cells.map T.d)]) (fun _ => True) () trivial ⟨rfl, rfl, rfl, rfl, rfl, rfl, rfl, trivial⟩ ⟨⟨.inr (.inl rfl), .inr (.inl rfl), .inr (.inl rfl), .inr (.inl rfl), .inr (.inl rfl), .inr (.inl rfl), .inr (.inr (.inl ⟨_, _, rfl, rfl⟩)), .inr (.inr (.inl ⟨_, _, rfl, rfl⟩)), .inr (.inr (.inl ⟨_, _, rfl, rfl⟩)), .inr (.inr (.inl ⟨_, _, rfl, rfl⟩)), .inr (.inr (.inl ⟨_, _, rfl, rfl⟩)), .inr (.inl rfl), .inr (.inl rfl), trivial⟩, WkC.refl _, trivial⟩ rfl 2 rfl (fun _ => rfl) (fun _ => rfl) (fun _ => rfl) ?_
  intro _ _
  exact O
 | some l =>
  rw [ho] at h1
  obtain ⟨w1, w2⟩ := k'47 ho
  obtain ⟨-, -, -, hd0⟩ := k'1n ho
  dsimp only at h1 ⊢
  have hlen : (l.map Fld.d).length = l.length := by simp
  have hlok : LOk l := ⟨w2, by unfold big; omega⟩
  have hlb := hlok.len
  generalize hRR : (k'44 d (k'1 tbM l)).map (fun f => f (unkL tbM l)) = RR
  refine l_bw Tryz.func7 0 [] ?_
  refine l_cw [] (h1) rfl rfl rfl ?_
  refine k'1w (fun y : Nat × Bool × Me × List UInt8 => l.length - y.1) (fun y => [(1, .d (.int .i64 d)), (4, .ptr 0 0), (5, .d (.bool false)), (6, .d (slD (l.map Fld.d))), (7, .d (.bool y.2.1)), (8, .ptr 1 0), (9, sT y.2.2.2), (10, iT y.1)])
   (fun y => [.mu (noMe.d.cells.map T.d), .mu (MeC y.2.2.1)])
   (fun y => y.1 ≤ l.length ∧ (y.2.1 = true → RE_Me d (l.take y.1) y.2.2.1 y.2.2.2) ∧ (y.2.1 = false → RR = none)) (0, true, noMe, [])
   ⟨by omega, fun _ => by rw [List.take_zero]; exact ⟨rfl, rfl, rfl, rfl, rfl, rfl, rfl, by simp [noMe], rfl⟩, fun h => by simp at h⟩ ⟨rfl, rfl, rfl, rfl, rfl, rfl, rfl, rfl, trivial⟩ ⟨⟨.inr (.inl rfl), .inr (.inl rfl), .inr (.inl rfl), .inr (.inl rfl), .inr (.inl rfl), .inr (.inl rfl), .inr (.inr (.inl ⟨_, _, rfl, rfl⟩)), .inr (.inr (.inl ⟨_, _, rfl, rfl⟩)), .inr (.inr (.inl ⟨_, _, rfl, rfl⟩)), .inr (.inr (.inl ⟨_, _, rfl, rfl⟩)), .inr (.inr (.inl ⟨_, _, rfl, rfl⟩)), .inr (.inl rfl), .inr (.inl rfl), trivial⟩, ⟨.inr (.inl rfl), .inr (.inl rfl), .inr (.inl rfl), .inr (.inl rfl), .inr (.inl rfl), .inr (.inl rfl), .inr (.inl rfl), .inr (.inl rfl), .inr (.inl rfl), .inr (.inl rfl), .inr (.inr (.inr ⟨rfl, rfl⟩)), .inr (.inl rfl), .inr (.inl rfl), trivial⟩, trivial⟩ rfl 2 rfl (fun _ => rfl) (fun _ => rfl) (fun _ => rfl) ?_
  rintro ⟨i, ok, b, p⟩ ⟨i1, i2, i3⟩
  dsimp only at i1 i2 i3 ⊢
  by_cases hlt : i < l.length
  ·cases ok
   ·refine Z ?_
    rw [hlen, show decide ((i : Int) < l.length) = true from decide_eq_true (by omega)]
    refine Z ?_
    rw [i3 rfl]
    unfold rMeT
    exact k'j rfl
   have hre := i2 rfl
   obtain ⟨x, hx⟩ : ∃ x, l[i]? = some x := ⟨_, List.getElem?_eq_getElem hlt⟩
   have hdx : (l.map Fld.d)[i]? = some x.d := by rw [List.getElem?_map, hx]; rfl
   have htk : l.take (i + 1) = l.take i ++ [x] := by rw [List.take_add_one, hx]; rfl
   obtain ⟨hfx, hwx⟩ := k'1x hlok hx
   have hwt := k'1u l i
   have hul : b.u.length ≤ wt (l.take i) := by
    obtain ⟨h1, h2, h3, h4, h5, h6, h7, h8, h9⟩ := hre
    rw [h9]; exact k'1y _ _
   have hpl : p.length ≤ wt (l.take i) := by
    obtain ⟨h1, h2, h3, h4, h5, h6, h7, h8, h9⟩ := hre
    rw [h5]
    exact Nat.le_trans (oneF_ok (fun y hy => w2 y (List.mem_of_mem_take (List.mem_filter.1 hy).1))).2.2.1 (k'1l _ _)
   have hkl : (k'1 tbM (l.take i)).length ≤ l.length := Nat.le_trans (List.length_filter_le _ _) (by rw [List.length_take]; omega)
   have hwt1 := k'1u l (i + 1)
   have hwn : wt (l.take (i + 1)) = wt (l.take i) + x.raw.length := by rw [htk, wt_snoc]
   have hxs0 := hfx.s
   have ht := k'14 B [10, 18, 26, 42, 58, 74, 82, 90, 98] x (by decide) (by intro t ht; simp at ht; omega)
   rw [tk_Me _ _ hfx.kind] at ht
   have hxs : x.s.length < big := by have := hfx.s; unfold big; omega
   refine Z ?_
   rw [hlen, show decide ((i : Int) < l.length) = true from decide_eq_true (by omega)]
   refine Z ?_
   refine k'3 (.indexAddr (k := .i64) (n := i) (es := l.map Fld.d) (u := x.d) rfl rfl rfl rfl (.inl ⟨_, rfl⟩) rfl (by omega) (by simpa using hdx) rfl (by decide)) rfl rfl ?_
   refine Z ?_
   refine x_cw [] (tabMe_calls B) rfl rfl rfl ?_
   refine x_cw [] (ht) rfl rfl rfl ?_
   cases hb : tbM x.num x.kind
   ·have hk := RE_Me_unk hre hb
    rw [← htk] at hk
    refine Z ?_
    refine k'3 (.addStr rfl rfl rfl (by omega)) rfl rfl ?_
    refine Z ?_
    rw [wS i (by omega)]
    exact ⟨(i + 1, true, { b with u := b.u ++ x.raw }, p), by show l.length - (i + 1) < _; omega, ⟨by show i + 1 ≤ _; omega, fun _ => hk, fun h => by simp at h⟩, ⟨rfl, rfl, rfl, rfl, rfl, rfl, rfl, rfl, trivial⟩, rfl, k'g rfl⟩
   have hnum := tbM_num hfx.kind hb
   have e1 := (RE_Me_k (l := l.take i) hb).1
   obtain ⟨xn, xk, xv, xs, xr⟩ := x
   dsimp only at *
   rw [show (xn = 1 ∨ xn = 2 ∨ xn = 3 ∨ xn = 12 ∨ onNs.contains xn = true) ↔ (xn = 1 ∨ xn = 2 ∨ xn = 3 ∨ xn = 12 ∨ xn = 5 ∨ xn = 7 ∨ xn = 9 ∨ xn = 10 ∨ xn = 11) by simp [onNs]] at hnum
   refine Z ?_
   rcases hnum with rfl | rfl | rfl | rfl | rfl | rfl | rfl | rfl | rfl
   ·have ct := k'2i B xs hxs
    cases htx : txt xs
    rotate_left
    ·rw [htx] at ct
     have hk := RE_Me_1 (x := ⟨1, xk, xv, xs, xr⟩) hre hb rfl htx
     rw [← htk] at hk
     refine Z ?_
     refine x_cw [] (ct) rfl rfl rfl ?_
     rw [wS i (by omega)]
     exact ⟨(i + 1, true, { b with name := xs }, p), by show l.length - (i + 1) < _; omega, ⟨by show i + 1 ≤ _; omega, fun _ => hk, fun h => by simp at h⟩, ⟨rfl, rfl, rfl, rfl, rfl, rfl, rfl, rfl, trivial⟩, rfl, k'g rfl⟩
    rw [htx] at ct
    have hno : RR = none := by
     rw [← hRR]
     refine tellMe_no_1 (textO_cut (i + 1) ?_)
     rw [htk, e1]
     exact textO_bad rfl htx
    refine Z ?_
    refine x_cw [] (ct) rfl rfl rfl ?_
    rw [wS i (by omega)]
    exact ⟨(i + 1, false, { b with name := xs }, p), by show l.length - (i + 1) < _; omega, ⟨by show i + 1 ≤ _; omega, fun h => by simp at h, fun _ => hno⟩, ⟨rfl, rfl, rfl, rfl, rfl, rfl, rfl, rfl, trivial⟩, rfl, k'g rfl⟩
   ·have ct := k'2i B xs hxs
    cases htx : txt xs
    rotate_left
    ·rw [htx] at ct
     have hk := RE_Me_2 (x := ⟨2, xk, xv, xs, xr⟩) hre hb rfl htx
     rw [← htk] at hk
     refine Z ?_
     refine x_cw [] (ct) rfl rfl rfl ?_
     rw [wS i (by omega)]
     exact ⟨(i + 1, true, { b with desc := xs }, p), by show l.length - (i + 1) < _; omega, ⟨by show i + 1 ≤ _; omega, fun _ => hk, fun h => by simp at h⟩, ⟨rfl, rfl, rfl, rfl, rfl, rfl, rfl, rfl, trivial⟩, rfl, k'g rfl⟩
    rw [htx] at ct
    have hno : RR = none := by
     rw [← hRR]
     refine tellMe_no_2 (textO_cut (i + 1) ?_)
     rw [htk, e1]
     exact textO_bad rfl htx
    refine Z ?_
    refine x_cw [] (ct) rfl rfl rfl ?_
    rw [wS i (by omega)]
    exact ⟨(i + 1, false, { b with desc := xs }, p), by show l.length - (i + 1) < _; omega, ⟨by show i + 1 ≤ _; omega, fun h => by simp at h, fun _ => hno⟩, ⟨rfl, rfl, rfl, rfl, rfl, rfl, rfl, rfl, trivial⟩, rfl, k'g rfl⟩
   ·have ct := k'2i B xs hxs
    cases htx : txt xs
    rotate_left
    ·rw [htx] at ct
     have hk := RE_Me_3 (x := ⟨3, xk, xv, xs, xr⟩) hre hb rfl htx
     rw [← htk] at hk
     refine Z ?_
     refine x_cw [] (ct) rfl rfl rfl ?_
     rw [wS i (by omega)]
     exact ⟨(i + 1, true, { b with unit := xs }, p), by show l.length - (i + 1) < _; omega, ⟨by show i + 1 ≤ _; omega, fun _ => hk, fun h => by simp at h⟩, ⟨rfl, rfl, rfl, rfl, rfl, rfl, rfl, rfl, trivial⟩, rfl, k'g rfl⟩
    rw [htx] at ct
    have hno : RR = none := by
     rw [← hRR]
     refine tellMe_no_3 (textO_cut (i + 1) ?_)
     rw [htk, e1]
     exact textO_bad rfl htx
    refine Z ?_
    refine x_cw [] (ct) rfl rfl rfl ?_
    rw [wS i (by omega)]
    exact ⟨(i + 1, false, { b with unit := xs }, p), by show l.length - (i + 1) < _; omega, ⟨by show i + 1 ≤ _; omega, fun h => by simp at h, fun _ => hno⟩, ⟨rfl, rfl, rfl, rfl, rfl, rfl, rfl, rfl, trivial⟩, rfl, k'g rfl⟩
   ·have hv := k'1t B xs (d - 1) hxs (by omega) (by omega)
    have hm0 : ((b.mets.map Kv.sh).map KVs.d).length ≤ l.length := by
     obtain ⟨h1, h2, h3, h4, h5, h6, h7, h8, h9⟩ := hre
     simp only [List.length_map]; omega
    cases hok : okK xs (d - 1) with
    | none =>
     rw [hok] at hv
     unfold rkT at hv
     dsimp only at hv
     have hno : RR = none := by
      obtain ⟨h1, h2, h3, h4, h5, h6, h7, h8, h9⟩ := hre
      rw [← hRR]
      refine tellMe_no_12 (k'1f (i + 1) ?_)
      rw [htk, e1]
      have := k'2 (x := ⟨12, xk, xv, xs, xr⟩) h7
      rw [if_pos rfl, hok] at this
      exact this
     refine Z ?_
     rw [k'b 1 (by omega) (by omega) (by omega) hd2]
     refine k'8 [] (hv) rfl rfl rfl ?_
     refine l_o0 rfl ?_
     refine adm ?_
     (try refine k'h rfl ?_)
     refine k'd (fst := false) 1 rfl rfl rfl ?_
     refine k'3 (.loadMov (q := owT ((b.mets.map Kv.sh).map KVs.d)) rfl rfl rfl rfl rfl rfl rfl) rfl rfl ?_
     refine Z ?_
     refine k'3 (.buildSlice (es := [KVs.d noKv.sh]) rfl rfl rfl rfl rfl rfl (by intro x hx; simp at hx; subst hx; rfl) (by simp) (by decide) (by decide)) rfl rfl ?_
     have hm : ((b.mets.map Kv.sh).map KVs.d).length + [KVs.d noKv.sh].length ≤ most := by simp [most] at *; omega
     refine k'3 (.append' rfl rfl rfl rfl ⟨_, _, rfl, rfl, by intro q; simp⟩ rfl rfl rfl rfl rfl (by rw [show [KVs.d noKv.sh] = [noKv.sh].map KVs.d from rfl, ← List.map_append]; exact k'1r _) (by decide) rfl hm rfl) rfl rfl ?_
     refine k'd (fst := false) 2 rfl rfl rfl ?_
     refine k'3 (.storeMov rfl rfl rfl rfl rfl rfl rfl (Nat.le_of_ble_eq_true rfl) rfl) rfl rfl ?_
     refine Z ?_
     rw [wS i (by omega)]
     exact ⟨(i + 1, false, { b with mets := b.mets ++ [noKv] }, p), by show l.length - (i + 1) < _; omega, ⟨by show i + 1 ≤ _; omega, fun h => by simp at h, fun _ => hno⟩, ⟨rfl, rfl, rfl, rfl, rfl, rfl, rfl, rfl, trivial⟩, rfl, k'g (by unfold MeC; simp only [List.map_append]; rfl)⟩
    | some v =>
     rw [hok] at hv
     unfold rkT at hv
     dsimp only at hv
     have hk := RE_Me_12 (x := ⟨12, xk, xv, xs, xr⟩) (v := v) hre hb hok rfl
     rw [← htk] at hk
     refine Z ?_
     rw [k'b 1 (by omega) (by omega) (by omega) hd2]
     refine k'8 [] (hv) rfl rfl rfl ?_
     refine l_o0 rfl ?_
     refine adm ?_
     (try refine k'h rfl ?_)
     refine k'd (fst := false) 1 rfl rfl rfl ?_
     refine k'3 (.loadMov (q := owT ((b.mets.map Kv.sh).map KVs.d)) rfl rfl rfl rfl rfl rfl rfl) rfl rfl ?_
     refine Z ?_
     refine k'3 (.buildSlice (es := [KVs.d v.sh]) rfl rfl rfl rfl rfl rfl (by intro x hx; simp at hx; subst hx; rfl) (by simp) (by decide) (by decide)) rfl rfl ?_
     have hm : ((b.mets.map Kv.sh).map KVs.d).length + [KVs.d v.sh].length ≤ most := by simp [most] at *; omega
     refine k'3 (.append' rfl rfl rfl rfl ⟨_, _, rfl, rfl, by intro q; simp⟩ rfl rfl rfl rfl rfl (by rw [show [KVs.d v.sh] = [v.sh].map KVs.d from rfl, ← List.map_append]; exact k'1r _) (by decide) rfl hm rfl) rfl rfl ?_
     refine k'd (fst := false) 2 rfl rfl rfl ?_
     refine k'3 (.storeMov rfl rfl rfl rfl rfl rfl rfl (Nat.le_of_ble_eq_true rfl) rfl) rfl rfl ?_
     refine Z ?_
     rw [wS i (by omega)]
     exact ⟨(i + 1, true, { b with mets := b.mets ++ [v] }, p), by show l.length - (i + 1) < _; omega, ⟨by show i + 1 ≤ _; omega, fun _ => hk, fun h => by simp at h⟩, ⟨rfl, rfl, rfl, rfl, rfl, rfl, rfl, rfl, trivial⟩, rfl, k'g (by unfold MeC; simp only [List.map_append]; rfl)⟩
   ·have ck := rKindOf_5 B
    have hk := RE_Me_on (x := ⟨5, xk, xv, xs, xr⟩) hre hb rfl
    rw [← htk, show k'3m 5 = 1 from rfl] at hk
    dsimp only at hk
    refine Z ?_
    refine x_cw [] (ck) rfl rfl rfl ?_
    by_cases hkk : b.kind = 1
    ·rw [if_pos hkk] at hk
     rw [show (b.kind != 1) = false by rw [bne_eq_false_iff_eq]; exact hkk]
     refine Z ?_
     refine k'3 (.addStr rfl rfl rfl (by omega)) rfl rfl ?_
     refine Z ?_
     rw [wS i (by omega)]
     exact ⟨(i + 1, true, { b with kind := 1 }, p ++ xs), by show l.length - (i + 1) < _; omega, ⟨by show i + 1 ≤ _; omega, fun _ => hk, fun h => by simp at h⟩, ⟨rfl, rfl, rfl, rfl, rfl, rfl, rfl, rfl, trivial⟩, rfl, k'g (by rw [hkk]; rfl)⟩
    ·rw [if_neg hkk] at hk
     rw [show (b.kind != 1) = true by rw [bne_iff_ne]; exact hkk]
     refine Z ?_
     refine l_cw [] (ck) rfl rfl rfl ?_
     refine k'3 (.addStr rfl rfl rfl (by simp; omega)) rfl rfl ?_
     refine Z ?_
     rw [wS i (by omega)]
     exact ⟨(i + 1, true, { b with kind := 1 }, xs), by show l.length - (i + 1) < _; omega, ⟨by show i + 1 ≤ _; omega, fun _ => hk, fun h => by simp at h⟩, ⟨rfl, rfl, rfl, rfl, rfl, rfl, rfl, rfl, trivial⟩, rfl, k'g rfl⟩
   ·have ck := rKindOf_7 B
    have hk := RE_Me_on (x := ⟨7, xk, xv, xs, xr⟩) hre hb rfl
    rw [← htk, show k'3m 7 = 2 from rfl] at hk
    dsimp only at hk
    refine Z ?_
    refine x_cw [] (ck) rfl rfl rfl ?_
    by_cases hkk : b.kind = 2
    ·rw [if_pos hkk] at hk
     rw [show (b.kind != 2) = false by rw [bne_eq_false_iff_eq]; exact hkk]
     refine Z ?_
     refine k'3 (.addStr rfl rfl rfl (by omega)) rfl rfl ?_
     refine Z ?_
     rw [wS i (by omega)]
     exact ⟨(i + 1, true, { b with kind := 2 }, p ++ xs), by show l.length - (i + 1) < _; omega, ⟨by show i + 1 ≤ _; omega, fun _ => hk, fun h => by simp at h⟩, ⟨rfl, rfl, rfl, rfl, rfl, rfl, rfl, rfl, trivial⟩, rfl, k'g (by rw [hkk]; rfl)⟩
    ·rw [if_neg hkk] at hk
     rw [show (b.kind != 2) = true by rw [bne_iff_ne]; exact hkk]
     refine Z ?_
     refine l_cw [] (ck) rfl rfl rfl ?_
     refine k'3 (.addStr rfl rfl rfl (by simp; omega)) rfl rfl ?_
     refine Z ?_
     rw [wS i (by omega)]
     exact ⟨(i + 1, true, { b with kind := 2 }, xs), by show l.length - (i + 1) < _; omega, ⟨by show i + 1 ≤ _; omega, fun _ => hk, fun h => by simp at h⟩, ⟨rfl, rfl, rfl, rfl, rfl, rfl, rfl, rfl, trivial⟩, rfl, k'g rfl⟩
   ·have ck := rKindOf_9 B
    have hk := RE_Me_on (x := ⟨9, xk, xv, xs, xr⟩) hre hb rfl
    rw [← htk, show k'3m 9 = 3 from rfl] at hk
    dsimp only at hk
    refine Z ?_
    refine x_cw [] (ck) rfl rfl rfl ?_
    by_cases hkk : b.kind = 3
    ·rw [if_pos hkk] at hk
     rw [show (b.kind != 3) = false by rw [bne_eq_false_iff_eq]; exact hkk]
     refine Z ?_
     refine k'3 (.addStr rfl rfl rfl (by omega)) rfl rfl ?_
     refine Z ?_
     rw [wS i (by omega)]
     exact ⟨(i + 1, true, { b with kind := 3 }, p ++ xs), by show l.length - (i + 1) < _; omega, ⟨by show i + 1 ≤ _; omega, fun _ => hk, fun h => by simp at h⟩, ⟨rfl, rfl, rfl, rfl, rfl, rfl, rfl, rfl, trivial⟩, rfl, k'g (by rw [hkk]; rfl)⟩
    ·rw [if_neg hkk] at hk
     rw [show (b.kind != 3) = true by rw [bne_iff_ne]; exact hkk]
     refine Z ?_
     refine l_cw [] (ck) rfl rfl rfl ?_
     refine k'3 (.addStr rfl rfl rfl (by simp; omega)) rfl rfl ?_
     refine Z ?_
     rw [wS i (by omega)]
     exact ⟨(i + 1, true, { b with kind := 3 }, xs), by show l.length - (i + 1) < _; omega, ⟨by show i + 1 ≤ _; omega, fun _ => hk, fun h => by simp at h⟩, ⟨rfl, rfl, rfl, rfl, rfl, rfl, rfl, rfl, trivial⟩, rfl, k'g rfl⟩
   ·have ck := rKindOf_10 B
    have hk := RE_Me_on (x := ⟨10, xk, xv, xs, xr⟩) hre hb rfl
    rw [← htk, show k'3m 10 = 4 from rfl] at hk
    dsimp only at hk
    refine Z ?_
    refine x_cw [] (ck) rfl rfl rfl ?_
    by_cases hkk : b.kind = 4
    ·rw [if_pos hkk] at hk
     rw [show (b.kind != 4) = false by rw [bne_eq_false_iff_eq]; exact hkk]
     refine Z ?_
     refine k'3 (.addStr rfl rfl rfl (by omega)) rfl rfl ?_
     refine Z ?_
     rw [wS i (by omega)]
     exact ⟨(i + 1, true, { b with kind := 4 }, p ++ xs), by show l.length - (i + 1) < _; omega, ⟨by show i + 1 ≤ _; omega, fun _ => hk, fun h => by simp at h⟩, ⟨rfl, rfl, rfl, rfl, rfl, rfl, rfl, rfl, trivial⟩, rfl, k'g (by rw [hkk]; rfl)⟩
    ·rw [if_neg hkk] at hk
     rw [show (b.kind != 4) = true by rw [bne_iff_ne]; exact hkk]
     refine Z ?_
     refine l_cw [] (ck) rfl rfl rfl ?_
     refine k'3 (.addStr rfl rfl rfl (by simp; omega)) rfl rfl ?_
     refine Z ?_
     rw [wS i (by omega)]
     exact ⟨(i + 1, true, { b with kind := 4 }, xs), by show l.length - (i + 1) < _; omega, ⟨by show i + 1 ≤ _; omega, fun _ => hk, fun h => by simp at h⟩, ⟨rfl, rfl, rfl, rfl, rfl, rfl, rfl, rfl, trivial⟩, rfl, k'g rfl⟩
   ·have ck := rKindOf_11 B
    have hk := RE_Me_on (x := ⟨11, xk, xv, xs, xr⟩) hre hb rfl
    rw [← htk, show k'3m 11 = 5 from rfl] at hk
    dsimp only at hk
    refine Z ?_
    refine x_cw [] (ck) rfl rfl rfl ?_
    by_cases hkk : b.kind = 5
    ·rw [if_pos hkk] at hk
     rw [show (b.kind != 5) = false by rw [bne_eq_false_iff_eq]; exact hkk]
     refine Z ?_
     refine k'3 (.addStr rfl rfl rfl (by omega)) rfl rfl ?_
     refine Z ?_
     rw [wS i (by omega)]
     exact ⟨(i + 1, true, { b with kind := 5 }, p ++ xs), by show l.length - (i + 1) < _; omega, ⟨by show i + 1 ≤ _; omega, fun _ => hk, fun h => by simp at h⟩, ⟨rfl, rfl, rfl, rfl, rfl, rfl, rfl, rfl, trivial⟩, rfl, k'g (by rw [hkk]; rfl)⟩
    ·rw [if_neg hkk] at hk
     rw [show (b.kind != 5) = true by rw [bne_iff_ne]; exact hkk]
     refine Z ?_
     refine l_cw [] (ck) rfl rfl rfl ?_
     refine k'3 (.addStr rfl rfl rfl (by simp; omega)) rfl rfl ?_
     refine Z ?_
     rw [wS i (by omega)]
     exact ⟨(i + 1, true, { b with kind := 5 }, xs), by show l.length - (i + 1) < _; omega, ⟨by show i + 1 ≤ _; omega, fun _ => hk, fun h => by simp at h⟩, ⟨rfl, rfl, rfl, rfl, rfl, rfl, rfl, rfl, trivial⟩, rfl, k'g rfl⟩
  ·have he : i = l.length := by omega
   subst he
   refine Z ?_
   rw [hlen, show decide ((l.length : Int) < l.length) = false from decide_eq_false (by omega)]
   cases ok
   ·refine Z ?_
    rw [i3 rfl]
    unfold rMeT
    exact k'j rfl
   have hre := i2 rfl
   rw [List.take_length] at hre
   have hf := RE_Me_fin hre
   rw [hRR] at hf
   rw [hf]
   have hpl : p.length < big := by
    obtain ⟨h1, h2, h3, h4, h5, h6, h7, h8, h9⟩ := hre
    rw [h5]
    have e1 := (oneF_ok (ns := onNs) (l := k'1 tbM l) (fun y hy => w2 y (List.mem_filter.1 hy).1)).2.2.1
    have e2 : wt (k'1 tbM l) ≤ wt l := k'1l _ _
    unfold big
    omega
   have hkr : b.kind = 0 ∨ b.kind = 1 ∨ b.kind = 2 ∨ b.kind = 3 ∨ b.kind = 4 ∨ b.kind = 5 := by
    obtain ⟨h1, h2, h3, h4, h5, h6, h7, h8, h9⟩ := hre
    rw [h4]; unfold k'3m; (repeat' split) <;> omega
   have hdat := hre.2.2.2.2.2.1
   have hD : ∀ b : Me, b.d = .agg [.str b.name, .str b.desc, .str b.unit, .int .i64 b.kind, .int .i32 b.dat.temp, .bool b.dat.mono, slD (b.dat.nbs.map Nb.d), slD (b.dat.his.map Hi.d), slD (b.dat.ehs.map Eh.d), slD (b.dat.sus.map Su.d), slD ((b.mets.map Kv.sh).map KVs.d), .str b.dat.u, .str b.u] := fun b => by unfold Me.d; rw [← ks_map]
   clear hf hre hRR i2 i3
   obtain ⟨name, desc, unit, kind, dat, mets, u⟩ := b
   dsimp only at hkr hdat
   subst hdat
   by_cases hk0 : kind = 0
   ·subst hk0
    rw [show endMe d ⟨name, desc, unit, 0, noIn, mets, u⟩ p = some ⟨name, desc, unit, 0, noIn, mets, u⟩ from rfl]
    simp only [rMeT]
    rw [hD ⟨name, desc, unit, 0, noIn, mets, u⟩]
    exact O
   ·obtain ⟨c, hc, hcx⟩ := readData_calls B name desc unit kind (by omega) (by omega) mets u p (d - 1) hpl (by omega) (by omega)
    rw [show endMe d ⟨name, desc, unit, kind, noIn, mets, u⟩ p = (match okI kind p (d - 1) with | none => none | some x => some ⟨name, desc, unit, kind, x, mets, u⟩) by unfold endMe; rw [if_neg hk0]; dsimp only; cases okI kind p (d - 1) <;> rfl]
    rw [hD ⟨name, desc, unit, kind, noIn, mets, u⟩, hD c] at hc
    cases hok : okI kind p (d - 1) with
    | none =>
     rw [hok] at hc
     dsimp only [Option.isSome] at hc ⊢
     refine Z ?_
     rw [show decide (0 < kind) = true from decide_eq_true (by omega)]
     refine Z ?_
     rw [k'b 1 (by omega) (by omega) (by omega) hd2]
     refine l_cw [] (hc) rfl rfl rfl ?_
     unfold rMeT
     exact k'j rfl
    | some x =>
     have hx := hcx x hok
     subst hx
     rw [hok] at hc
     dsimp only [Option.isSome] at hc ⊢
     simp only [rMeT]
     rw [hD ⟨name, desc, unit, kind, x, mets, u⟩]
     refine Z ?_
     rw [show decide (0 < kind) = true from decide_eq_true (by omega)]
     refine Z ?_
     rw [k'b 1 (by omega) (by omega) (by omega) hd2]
     refine k'8 [] (hc) rfl rfl rfl ?_
     exact O
