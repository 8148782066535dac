/- Exemplar: the reference reads them. -/
import Derived.Test.YtnaojdjhjkendaaGreatDoorRL
import Derived.Test.YtnaojdjhjkendaaGreatDoorEL
set_option linter.unusedSimpArgs false
set_option linter.unusedVariables false
set_option maxRecDepth 100000
namespace Go.Proofs.YtnaojdjhjkendaaGreatDoor
open Go Go.Abs
variable (B : Fr)
theorem tabEm_calls : k'5 (cx B) 276 [] [] (.d (.sl false ([17, 25, 34, 42, 49, 58].map iD))) [] := by
 refine l_bw Tryz.func276 0 [] ?_
 (try refine k'h rfl ?_)
 refine k'3 (.buildSlice (es := [17, 25, 34, 42, 49, 58].map iD) rfl rfl rfl rfl rfl rfl (by intro x hx; simp [iD] at hx; rcases hx with rfl | rfl | rfl | rfl | rfl | rfl <;> rfl) (by decide) (by decide) (by decide)) rfl rfl ?_
 exact O
theorem tbE_big {n k : Nat} (hn : 8 ≤ n) : tbE n k = false := by
 unfold tbE
 simp
 (repeat' split) <;> omega
theorem tk_Em (n k : Nat) (hk : k < 8) : tkB [17, 25, 34, 42, 49, 58] n k = tbE n k := by
 by_cases hn : n < 8
 ·exact (by decide : ∀ n < 8, ∀ k < 8, tkB [17, 25, 34, 42, 49, 58] n k = tbE n k) n hn k hk
 ·rw [show tkB [17, 25, 34, 42, 49, 58] n k = false by unfold tkB; simp; omega, tbE_big (by omega)]
theorem tbE_num {n k : Nat} (hk : k < 8) (h : tbE n k = true) : n = 2 ∨ n = 3 ∨ n = 4 ∨ n = 5 ∨ n = 6 ∨ n = 7 := by
 by_cases hn : n < 8
 ·have := (by decide : ∀ n < 8, ∀ k < 8, tbE n k = true → [2, 3, 4, 5, 6, 7].contains n = true) n hn k hk h
  simp at this
  omega
 ·rw [tbE_big (by omega)] at h; simp at h
def RE_Em (d : Int) (l : List Fld) (b : Em) : Prop := (k'7 (fun s => okK s (d - 1)) 7 (k'1 tbE l) = some b.attrs) ∧ (b.attrs.length ≤ (k'1 tbE l).length) ∧ (b.time = (k'a (k'1 tbE l) 2).n) ∧ (b.kind = ((k'32 3 6 (oneF [3, 6] (k'1 tbE l))).1 : Int) ∧ b.n = (k'32 3 6 (oneF [3, 6] (k'1 tbE l))).2) ∧ (b.span = (k'a (k'1 tbE l) 4).s) ∧ (b.trace = (k'a (k'1 tbE l) 5).s) ∧ b.u = unkL tbE l
theorem RE_Em_unk {d : Int} {l : List Fld} {b : Em} {x : Fld} (h : RE_Em d l b) (hx : tbE x.num x.kind = false) : RE_Em d (l ++ [x]) { b with u := b.u ++ x.raw } := by
 obtain ⟨h_attrs, l_attrs, h_time, h_kn, h_span, h_trace, h_u⟩ := h
 have e1 : k'1 tbE (l ++ [x]) = k'1 tbE l := by rw [k'4, show isT tbE x = false from hx]; simp
 have e2 : unkL tbE (l ++ [x]) = unkL tbE l ++ x.raw := by rw [k'6, show isT tbE x = false from hx]; rfl
 unfold RE_Em
 rw [e1, e2]
 exact ⟨h_attrs, l_attrs, h_time, h_kn, h_span, h_trace, by rw [← h_u]⟩
theorem RE_Em_2 {d : Int} {l : List Fld} {b : Em} {x : Fld} (h : RE_Em d l b) (hx : tbE x.num x.kind = true) (hn : x.num = 2) : RE_Em d (l ++ [x]) { b with time := x.n } := by
 obtain ⟨h_attrs, l_attrs, h_time, h_kn, h_span, h_trace, h_u⟩ := h
 have e1 : k'1 tbE (l ++ [x]) = k'1 tbE l ++ [x] := by rw [k'4, show isT tbE x = true from hx]; rfl
 have e2 : unkL tbE (l ++ [x]) = unkL tbE l := by rw [k'6, show isT tbE x = true from hx]; simp
 unfold RE_Em
 rw [e1, e2]
 exact ⟨by rw [k'2 h_attrs, if_neg (by omega)], by simp; omega, by rw [k'0, if_pos hn], by rw [k'22 (by omega) (by omega) (by omega), if_neg (by omega), if_neg (by omega)]; exact h_kn, by rw [k'0, if_neg (by omega)]; exact h_span, by rw [k'0, if_neg (by omega)]; exact h_trace, h_u⟩
theorem RE_Em_3 {d : Int} {l : List Fld} {b : Em} {x : Fld} (h : RE_Em d l b) (hx : tbE x.num x.kind = true) (hn : x.num = 3) : RE_Em d (l ++ [x]) { b with kind := 1, n := x.n } := by
 obtain ⟨h_attrs, l_attrs, h_time, h_kn, h_span, h_trace, h_u⟩ := h
 have e1 : k'1 tbE (l ++ [x]) = k'1 tbE l ++ [x] := by rw [k'4, show isT tbE x = true from hx]; rfl
 have e2 : unkL tbE (l ++ [x]) = unkL tbE l := by rw [k'6, show isT tbE x = true from hx]; simp
 unfold RE_Em
 rw [e1, e2]
 exact ⟨by rw [k'2 h_attrs, if_neg (by omega)], by simp; omega, by rw [k'0, if_neg (by omega)]; exact h_time, by rw [k'22 (by omega) (by omega) (by omega), if_pos hn]; exact ⟨rfl, rfl⟩, by rw [k'0, if_neg (by omega)]; exact h_span, by rw [k'0, if_neg (by omega)]; exact h_trace, h_u⟩
theorem RE_Em_4 {d : Int} {l : List Fld} {b : Em} {x : Fld} (h : RE_Em d l b) (hx : tbE x.num x.kind = true) (hn : x.num = 4) : RE_Em d (l ++ [x]) { b with span := x.s } := by
 obtain ⟨h_attrs, l_attrs, h_time, h_kn, h_span, h_trace, h_u⟩ := h
 have e1 : k'1 tbE (l ++ [x]) = k'1 tbE l ++ [x] := by rw [k'4, show isT tbE x = true from hx]; rfl
 have e2 : unkL tbE (l ++ [x]) = unkL tbE l := by rw [k'6, show isT tbE x = true from hx]; simp
 unfold RE_Em
 rw [e1, e2]
 exact ⟨by rw [k'2 h_attrs, if_neg (by omega)], by simp; omega, by rw [k'0, if_neg (by omega)]; exact h_time, by rw [k'22 (by omega) (by omega) (by omega), if_neg (by omega), if_neg (by omega)]; exact h_kn, by rw [k'0, if_pos hn], by rw [k'0, if_neg (by omega)]; exact h_trace, h_u⟩
theorem RE_Em_5 {d : Int} {l : List Fld} {b : Em} {x : Fld} (h : RE_Em d l b) (hx : tbE x.num x.kind = true) (hn : x.num = 5) : RE_Em d (l ++ [x]) { b with trace := x.s } := by
 obtain ⟨h_attrs, l_attrs, h_time, h_kn, h_span, h_trace, h_u⟩ := h
 have e1 : k'1 tbE (l ++ [x]) = k'1 tbE l ++ [x] := by rw [k'4, show isT tbE x = true from hx]; rfl
 have e2 : unkL tbE (l ++ [x]) = unkL tbE l := by rw [k'6, show isT tbE x = true from hx]; simp
 unfold RE_Em
 rw [e1, e2]
 exact ⟨by rw [k'2 h_attrs, if_neg (by omega)], by simp; omega, by rw [k'0, if_neg (by omega)]; exact h_time, by rw [k'22 (by omega) (by omega) (by omega), if_neg (by omega), if_neg (by omega)]; exact h_kn, by rw [k'0, if_neg (by omega)]; exact h_span, by rw [k'0, if_pos hn], h_u⟩
theorem RE_Em_6 {d : Int} {l : List Fld} {b : Em} {x : Fld} (h : RE_Em d l b) (hx : tbE x.num x.kind = true) (hn : x.num = 6) : RE_Em d (l ++ [x]) { b with kind := 2, n := x.n } := by
 obtain ⟨h_attrs, l_attrs, h_time, h_kn, h_span, h_trace, h_u⟩ := h
 have e1 : k'1 tbE (l ++ [x]) = k'1 tbE l ++ [x] := by rw [k'4, show isT tbE x = true from hx]; rfl
 have e2 : unkL tbE (l ++ [x]) = unkL tbE l := by rw [k'6, show isT tbE x = true from hx]; simp
 unfold RE_Em
 rw [e1, e2]
 exact ⟨by rw [k'2 h_attrs, if_neg (by omega)], by simp; omega, by rw [k'0, if_neg (by omega)]; exact h_time, by rw [k'22 (by omega) (by omega) (by omega), if_neg (by omega), if_pos hn]; exact ⟨rfl, rfl⟩, by rw [k'0, if_neg (by omega)]; exact h_span, by rw [k'0, if_neg (by omega)]; exact h_trace, h_u⟩
theorem RE_Em_7 {d : Int} {l : List Fld} {b : Em} {x : Fld} {v : Kv} (hv : okK x.s (d - 1) = some v) (h : RE_Em d l b) (hx : tbE x.num x.kind = true) (hn : x.num = 7) : RE_Em d (l ++ [x]) { b with attrs := b.attrs ++ [v] } := by
 obtain ⟨h_attrs, l_attrs, h_time, h_kn, h_span, h_trace, h_u⟩ := h
 have e1 : k'1 tbE (l ++ [x]) = k'1 tbE l ++ [x] := by rw [k'4, show isT tbE x = true from hx]; rfl
 have e2 : unkL tbE (l ++ [x]) = unkL tbE l := by rw [k'6, show isT tbE x = true from hx]; simp
 unfold RE_Em
 rw [e1, e2]
 exact ⟨by rw [k'2 h_attrs, if_pos hn, hv], by simp; omega, by rw [k'0, if_neg (by omega)]; exact h_time, by rw [k'22 (by omega) (by omega) (by omega), if_neg (by omega), if_neg (by omega)]; exact h_kn, by rw [k'0, if_neg (by omega)]; exact h_span, by rw [k'0, if_neg (by omega)]; exact h_trace, h_u⟩
theorem RE_Em_fin {d : Int} {l : List Fld} {b : Em} (h : RE_Em d l b) : (tellEm d (k'1 tbE l)).map (fun f => f (unkL tbE l)) = some b := by
 obtain ⟨h_attrs, l_attrs, h_time, h_kn, h_span, h_trace, h_u⟩ := h
 obtain ⟨attrs, time, kind, n, span, trace, u⟩ := b
 dsimp only at *
 unfold tellEm
 simp only [h_attrs, Option.map_some]
 rw [h_time]; rw [h_span]; rw [h_trace]; rw [h_kn.1, h_kn.2]; rw [h_u]
theorem tellEm_no_attrs {d : Int} {l : List Fld} (h : k'7 (fun s => okK s (d - 1)) 7 (k'1 tbE l) = none) : (tellEm d (k'1 tbE l)).map (fun f => f (unkL tbE l)) = none := by
 unfold tellEm
 rw [h]
 (repeat' split) <;> first | rfl | simp_all
def EmC (b : Em) : List T := [owT ((b.attrs.map Kv.sh).map KVs.d), .d (.int .u64 b.time), .d (.int .i64 b.kind), .d (.int .u64 b.n), sT b.span, sT b.trace, sT b.u]
def rEmT (o : Option Em) : T := match o with | some v => .tup [.d v.d, .d (.bool true)] | none => .tup [.d noEm.d, .d (.bool false)]
theorem k'4m (s : List UInt8) (d : Int) (hl : s.length < big) (hd1 : -9223372036854775808 ≤ d) (hd2 : d < 9223372036854775808) : k'5 (cx B) 195 [sT s, .d (.int .i64 d)] [] (rEmT (okEm s d)) [] := by
 have h1 := k'v B s d hl hd1 hd2
 have hl' := hl
 unfold big at hl'
 unfold okEm
 rw [okG_L]
 unfold k'2l at h1
 cases ho : okL s d with
 | none =>
  rw [ho] at h1
  dsimp only at h1 ⊢
  unfold rEmT
  refine l_bw Tryz.func195 0 [] ?_
  refine l_cw [] (h1) rfl rfl rfl ?_
  refine k'1w (fun _ : Unit => 0) (fun _ => [(4, .ptr 0 0), (5, .d (.bool false)), (6, .d (.sl true [])), (7, .d (.bool false)), (8, .ptr 1 0), (9, iT 0)]) (fun _ => [.mu (noEm.d.cells.map T.d), .mu (noEm.d.cells.map T.d)]) (fun _ => True) () trivial ⟨rfl, rfl, rfl, rfl, rfl, rfl, trivial⟩ ⟨⟨.inr (.inr (.inl ⟨_, _, rfl, rfl⟩)), .inr (.inl rfl), .inr (.inl rfl), .inr (.inl rfl), .inr (.inl rfl), .inr (.inl rfl), .inr (.inl rfl), trivial⟩, WkC.refl _, trivial⟩ rfl 2 rfl (fun _ => rfl) (fun _ => rfl) (fun _ => rfl) ?_
  intro _ _
  exact O
 | some l =>
  rw [ho] at h1
  obtain ⟨w1, w2⟩ := k'47 ho
  obtain ⟨-, -, -, hd0⟩ := k'1n ho
  dsimp only at h1 ⊢
  have hlen : (l.map Fld.d).length = l.length := by simp
  have hlok : LOk l := ⟨w2, by unfold big; omega⟩
  have hlb := hlok.len
  generalize hRR : (tellEm d (k'1 tbE l)).map (fun f => f (unkL tbE l)) = RR
  refine l_bw Tryz.func195 0 [] ?_
  refine l_cw [] (h1) rfl rfl rfl ?_
  refine k'1w (fun y : Nat × Bool × Em => l.length - y.1) (fun y => [(1, .d (.int .i64 d)), (4, .ptr 0 0), (5, .d (.bool false)), (6, .d (slD (l.map Fld.d))), (7, .d (.bool y.2.1)), (8, .ptr 1 0), (9, iT y.1)])
   (fun y => [.mu (noEm.d.cells.map T.d), .mu (EmC y.2.2)])
   (fun y => y.1 ≤ l.length ∧ (y.2.1 = true → RE_Em d (l.take y.1) y.2.2) ∧ (y.2.1 = false → RR = none)) (0, true, noEm)
   ⟨by omega, fun _ => by rw [List.take_zero]; exact ⟨rfl, by simp [noEm], rfl, ⟨rfl, rfl⟩, rfl, rfl, rfl⟩, fun h => by simp at h⟩ ⟨rfl, rfl, rfl, rfl, rfl, rfl, rfl, trivial⟩ ?_ rfl 2 rfl (fun _ => rfl) (fun _ => rfl) (fun _ => rfl) ?_
  ·exact ⟨⟨.inr (.inr (.inl ⟨_, _, rfl, rfl⟩)), .inr (.inl rfl), .inr (.inl rfl), .inr (.inl rfl), .inr (.inl rfl), .inr (.inl rfl), .inr (.inl rfl), trivial⟩, ⟨.inr (.inr (.inr ⟨rfl, rfl⟩)), .inr (.inl rfl), .inr (.inl rfl), .inr (.inl rfl), .inr (.inl rfl), .inr (.inl rfl), .inr (.inl rfl), trivial⟩, trivial⟩
  rintro ⟨i, ok, b⟩ ⟨i1, i2, i3⟩
  dsimp only at i1 i2 i3 ⊢
  have hwi : i < l.length → IntKind.i64.wrap ((i : Int) + 1) = ((i + 1 : Nat) : Int) := fun h => by rw [k'1b (by omega) (by omega)]; omega
  by_cases hlt : i < l.length
  ·cases ok
   ·refine Z ?_
    rw [hlen, show decide ((i : Int) < l.length) = true from decide_eq_true (by omega)]
    refine Z ?_
    rw [i3 rfl]
    unfold rEmT
    exact k'j rfl
   have hre := i2 rfl
   obtain ⟨x, hx⟩ : ∃ x, l[i]? = some x := ⟨_, List.getElem?_eq_getElem hlt⟩
   have hdx : (l.map Fld.d)[i]? = some x.d := by rw [List.getElem?_map, hx]; rfl
   have htk : l.take (i + 1) = l.take i ++ [x] := by rw [List.take_add_one, hx]; rfl
   obtain ⟨hfx, hwx⟩ := k'1x hlok hx
   have hwt := k'1u l i
   have hul : b.u.length ≤ wt (l.take i) := by
    obtain ⟨h_attrs, l_attrs, h_time, h_kn, h_span, h_trace, h_u⟩ := hre
    rw [h_u]; exact k'1y _ _
   have hkl : (k'1 tbE (l.take i)).length ≤ l.length := Nat.le_trans (List.length_filter_le _ _) (by rw [List.length_take]; omega)
   have ht := k'14 B [17, 25, 34, 42, 49, 58] x (by decide) (by intro t ht; simp at ht; omega)
   rw [tk_Em _ _ hfx.kind] at ht
   have hxs : x.s.length < big := by have := hfx.s; unfold big; omega
   refine Z ?_
   rw [hlen, show decide ((i : Int) < l.length) = true from decide_eq_true (by omega)]
   refine Z ?_
   refine k'3 (.indexAddr (k := .i64) (n := i) (es := l.map Fld.d) (u := x.d) rfl rfl rfl rfl (.inl ⟨_, rfl⟩) rfl (by omega) (by simpa using hdx) rfl (by decide)) rfl rfl ?_
   refine Z ?_
   refine x_cw [] (tabEm_calls B) rfl rfl rfl ?_
   refine x_cw [] (ht) rfl rfl rfl ?_
   cases hb : tbE x.num x.kind
   ·have hk := RE_Em_unk hre hb
    rw [← htk] at hk
    refine Z ?_
    refine k'3 (.addStr rfl rfl rfl (by omega)) rfl rfl ?_
    refine Z ?_
    rw [hwi hlt]
    exact ⟨(i + 1, true, { b with u := b.u ++ x.raw }), by show l.length - (i + 1) < _; omega, ⟨by show i + 1 ≤ _; omega, fun _ => hk, fun h => by simp at h⟩, ⟨rfl, rfl, rfl, rfl, rfl, rfl, rfl, trivial⟩, rfl, k'g rfl⟩
   have hnum := tbE_num hfx.kind hb
   have hcut : ∀ (ok : List UInt8 → Option Unit), True := fun _ => trivial
   obtain ⟨xn, xk, xv, xs, xr⟩ := x
   dsimp only at *
   refine Z ?_
   rcases hnum with rfl | rfl | rfl | rfl | rfl | rfl
   ·have hk := RE_Em_2 (x := ⟨2, xk, xv, xs, xr⟩) hre hb rfl
    rw [← htk] at hk
    refine Z ?_
    rw [hwi hlt]
    exact ⟨(i + 1, true, { b with time := xv }), by show l.length - (i + 1) < _; omega, ⟨by show i + 1 ≤ _; omega, fun _ => hk, fun h => by simp at h⟩, ⟨rfl, rfl, rfl, rfl, rfl, rfl, rfl, trivial⟩, rfl, k'g rfl⟩
   ·have hk := RE_Em_3 (x := ⟨3, xk, xv, xs, xr⟩) hre hb rfl
    rw [← htk] at hk
    refine Z ?_
    rw [hwi hlt]
    exact ⟨(i + 1, true, { b with kind := 1, n := xv }), by show l.length - (i + 1) < _; omega, ⟨by show i + 1 ≤ _; omega, fun _ => hk, fun h => by simp at h⟩, ⟨rfl, rfl, rfl, rfl, rfl, rfl, rfl, trivial⟩, rfl, k'g rfl⟩
   ·have hk := RE_Em_4 (x := ⟨4, xk, xv, xs, xr⟩) hre hb rfl
    rw [← htk] at hk
    refine Z ?_
    rw [hwi hlt]
    exact ⟨(i + 1, true, { b with span := xs }), by show l.length - (i + 1) < _; omega, ⟨by show i + 1 ≤ _; omega, fun _ => hk, fun h => by simp at h⟩, ⟨rfl, rfl, rfl, rfl, rfl, rfl, rfl, trivial⟩, rfl, k'g rfl⟩
   ·have hk := RE_Em_5 (x := ⟨5, xk, xv, xs, xr⟩) hre hb rfl
    rw [← htk] at hk
    refine Z ?_
    rw [hwi hlt]
    exact ⟨(i + 1, true, { b with trace := xs }), by show l.length - (i + 1) < _; omega, ⟨by show i + 1 ≤ _; omega, fun _ => hk, fun h => by simp at h⟩, ⟨rfl, rfl, rfl, rfl, rfl, rfl, rfl, trivial⟩, rfl, k'g rfl⟩
   ·have hk := RE_Em_6 (x := ⟨6, xk, xv, xs, xr⟩) hre hb rfl
    rw [← htk] at hk
    refine Z ?_
    rw [hwi hlt]
    exact ⟨(i + 1, true, { b with kind := 2, n := xv }), by show l.length - (i + 1) < _; omega, ⟨by show i + 1 ≤ _; omega, fun _ => hk, fun h => by simp at h⟩, ⟨rfl, rfl, rfl, rfl, rfl, rfl, rfl, trivial⟩, rfl, k'g rfl⟩
   ·have hv := k'1t B xs (d - 1) hxs (by omega) (by omega)
    have hm0 : ((b.attrs.map Kv.sh).map KVs.d).length ≤ l.length := by
     obtain ⟨h_attrs, l_attrs, h_time, h_kn, h_span, h_trace, h_u⟩ := hre
     simp only [List.length_map]; omega
    cases hok : okK xs (d - 1) with
    | none =>
     rw [hok] at hv
     unfold rkT at hv
     dsimp only at hv
     have hno : RR = none := by
      obtain ⟨h_attrs, l_attrs, h_time, h_kn, h_span, h_trace, h_u⟩ := hre
      rw [← hRR]
      refine tellEm_no_attrs (k'1f (i + 1) ?_)
      rw [htk, k'4, show isT tbE ⟨7, xk, xv, xs, xr⟩ = true from hb]
      have := k'2 (x := ⟨7, xk, xv, xs, xr⟩) h_attrs
      rw [if_pos rfl, hok] at this
      exact this
     refine Z ?_
     rw [k'b 1 (by omega) (by omega) (by omega) hd2]
     refine k'8 [] (hv) rfl rfl rfl ?_
     refine l_o0 rfl ?_
     refine adm ?_
     (try refine k'h rfl ?_)
     refine k'd (fst := false) 1 rfl rfl rfl ?_
     refine k'3 (.loadMov (q := owT ((b.attrs.map Kv.sh).map KVs.d)) rfl rfl rfl rfl rfl rfl rfl) rfl rfl ?_
     refine Z ?_
     refine k'3 (.buildSlice (es := [KVs.d noKv.sh]) rfl rfl rfl rfl rfl rfl (by intro x hx; simp at hx; subst hx; rfl) (by simp) (by decide) (by decide)) rfl rfl ?_
     have hm : ((b.attrs.map Kv.sh).map KVs.d).length + [KVs.d noKv.sh].length ≤ most := by simp [most] at *; omega
     refine k'3 (.append' rfl rfl rfl rfl ⟨_, _, rfl, rfl, by intro q; simp⟩ rfl rfl rfl rfl rfl (by rw [show [KVs.d noKv.sh] = [noKv.sh].map KVs.d from rfl, ← List.map_append]; exact k'1r _) (by decide) rfl hm rfl) rfl rfl ?_
     refine k'd (fst := false) 2 rfl rfl rfl ?_
     refine k'3 (.storeMov rfl rfl rfl rfl rfl rfl rfl (Nat.le_of_ble_eq_true rfl) rfl) rfl rfl ?_
     refine Z ?_
     rw [hwi hlt]
     exact ⟨(i + 1, false, { b with attrs := b.attrs ++ [noKv] }), by show l.length - (i + 1) < _; omega, ⟨by show i + 1 ≤ _; omega, fun h => by simp at h, fun _ => hno⟩, ⟨rfl, rfl, rfl, rfl, rfl, rfl, rfl, trivial⟩, rfl, k'g (by unfold EmC; simp only [List.map_append]; rfl)⟩
    | some v =>
     rw [hok] at hv
     unfold rkT at hv
     dsimp only at hv
     have hk := RE_Em_7 (x := ⟨7, xk, xv, xs, xr⟩) (v := v) hok hre hb rfl
     rw [← htk] at hk
     refine Z ?_
     rw [k'b 1 (by omega) (by omega) (by omega) hd2]
     refine k'8 [] (hv) rfl rfl rfl ?_
     refine l_o0 rfl ?_
     refine adm ?_
     (try refine k'h rfl ?_)
     refine k'd (fst := false) 1 rfl rfl rfl ?_
     refine k'3 (.loadMov (q := owT ((b.attrs.map Kv.sh).map KVs.d)) rfl rfl rfl rfl rfl rfl rfl) rfl rfl ?_
     refine Z ?_
     refine k'3 (.buildSlice (es := [KVs.d v.sh]) rfl rfl rfl rfl rfl rfl (by intro x hx; simp at hx; subst hx; rfl) (by simp) (by decide) (by decide)) rfl rfl ?_
     have hm : ((b.attrs.map Kv.sh).map KVs.d).length + [KVs.d v.sh].length ≤ most := by simp [most] at *; omega
     refine k'3 (.append' rfl rfl rfl rfl ⟨_, _, rfl, rfl, by intro q; simp⟩ rfl rfl rfl rfl rfl (by rw [show [KVs.d v.sh] = [v.sh].map KVs.d from rfl, ← List.map_append]; exact k'1r _) (by decide) rfl hm rfl) rfl rfl ?_
     refine k'd (fst := false) 2 rfl rfl rfl ?_
     refine k'3 (.storeMov rfl rfl rfl rfl rfl rfl rfl (Nat.le_of_ble_eq_true rfl) rfl) rfl rfl ?_
     refine Z ?_
     rw [hwi hlt]
     exact ⟨(i + 1, true, { b with attrs := b.attrs ++ [v] }), by show l.length - (i + 1) < _; omega, ⟨by show i + 1 ≤ _; omega, fun _ => hk, fun h => by simp at h⟩, ⟨rfl, rfl, rfl, rfl, rfl, rfl, rfl, trivial⟩, rfl, k'g (by unfold EmC; simp only [List.map_append]; rfl)⟩
  ·have he : i = l.length := by omega
   subst he
   refine Z ?_
   rw [hlen, show decide ((l.length : Int) < l.length) = false from decide_eq_false (by omega)]
   cases ok
   ·refine Z ?_
    rw [i3 rfl]
    unfold rEmT
    exact k'j rfl
   have hre := i2 rfl
   rw [List.take_length] at hre
   have hf := RE_Em_fin hre
   rw [hRR] at hf
   rw [hf]
   have hD : b.d = .agg [slD ((b.attrs.map Kv.sh).map KVs.d), .int .u64 b.time, .int .i64 b.kind, .int .u64 b.n, .str b.span, .str b.trace, .str b.u] := by unfold Em.d; rw [← ks_map]
   simp only [rEmT]
   rw [hD]
   exact O
