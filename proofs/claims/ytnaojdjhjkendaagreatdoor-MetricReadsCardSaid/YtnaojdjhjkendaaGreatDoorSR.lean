/- Summary: the reference reads them. -/
import Derived.Test.YtnaojdjhjkendaaGreatDoorGR
set_option linter.unusedSimpArgs false
set_option linter.unusedVariables false
set_option maxRecDepth 100000
namespace Go.Proofs.YtnaojdjhjkendaaGreatDoor
open Go Go.Abs
variable (B : Fr)
theorem tbS_num {n k : Nat} (hk : k < 8) (h : tbS n k = true) : n = 2 ∨ n = 3 ∨ n = 4 ∨ n = 5 ∨ n = 6 ∨ n = 7 ∨ n = 8 := by
 by_cases hn : n < 9
 ·have := (by decide : ∀ n < 9, ∀ k < 8, tbS n k = true → [2, 3, 4, 5, 6, 7, 8].contains n = true) n hn k hk h
  simp at this
  omega
 ·rw [tbS_big (by omega)] at h; simp at h
def RE_Su (d : Int) (l : List Fld) (b : Su) : Prop := (k'7 (fun s => okK s (d - 1)) 7 (k'1 tbS l) = some b.attrs) ∧ (b.attrs.length ≤ (k'1 tbS l).length) ∧ (b.start = (k'a (k'1 tbS l) 2).n) ∧ (b.time = (k'a (k'1 tbS l) 3).n) ∧ (b.count = (k'a (k'1 tbS l) 4).n) ∧ (b.sum = (k'a (k'1 tbS l) 5).n) ∧ (k'7 (fun s => okQu s (d - 1)) 6 (k'1 tbS l) = some b.qs) ∧ (b.qs.length ≤ (k'1 tbS l).length) ∧ (b.flags = (k'a (k'1 tbS l) 8).n % 4294967296) ∧ b.u = unkL tbS l
theorem RE_Su_unk {d : Int} {l : List Fld} {b : Su} {x : Fld} (h : RE_Su d l b) (hx : tbS x.num x.kind = false) : RE_Su d (l ++ [x]) { b with u := b.u ++ x.raw } := by
 obtain ⟨h_attrs, l_attrs, h_start, h_time, h_count, h_sum, h_qs, l_qs, h_flags, h_u⟩ := h
 have e1 : k'1 tbS (l ++ [x]) = k'1 tbS l := by rw [k'4, show isT tbS x = false from hx]; simp
 have e2 : unkL tbS (l ++ [x]) = unkL tbS l ++ x.raw := by rw [k'6, show isT tbS x = false from hx]; rfl
 unfold RE_Su
 rw [e1, e2]
 exact ⟨h_attrs, l_attrs, h_start, h_time, h_count, h_sum, h_qs, l_qs, h_flags, by rw [← h_u]⟩
theorem RE_Su_2 {d : Int} {l : List Fld} {b : Su} {x : Fld} (h : RE_Su d l b) (hx : tbS x.num x.kind = true) (hn : x.num = 2) : RE_Su d (l ++ [x]) { b with start := x.n } := by
 obtain ⟨h_attrs, l_attrs, h_start, h_time, h_count, h_sum, h_qs, l_qs, h_flags, h_u⟩ := h
 have e1 : k'1 tbS (l ++ [x]) = k'1 tbS l ++ [x] := by rw [k'4, show isT tbS x = true from hx]; rfl
 have e2 : unkL tbS (l ++ [x]) = unkL tbS l := by rw [k'6, show isT tbS x = true from hx]; simp
 unfold RE_Su
 rw [e1, e2]
 exact ⟨by rw [k'2 h_attrs, if_neg (by omega)], by simp; omega, by rw [k'0, if_pos hn], by rw [k'0, if_neg (by omega)]; exact h_time, by rw [k'0, if_neg (by omega)]; exact h_count, by rw [k'0, if_neg (by omega)]; exact h_sum, by rw [k'2 h_qs, if_neg (by omega)], by simp; omega, by rw [k'0, if_neg (by omega)]; exact h_flags, h_u⟩
theorem RE_Su_3 {d : Int} {l : List Fld} {b : Su} {x : Fld} (h : RE_Su d l b) (hx : tbS x.num x.kind = true) (hn : x.num = 3) : RE_Su d (l ++ [x]) { b with time := x.n } := by
 obtain ⟨h_attrs, l_attrs, h_start, h_time, h_count, h_sum, h_qs, l_qs, h_flags, h_u⟩ := h
 have e1 : k'1 tbS (l ++ [x]) = k'1 tbS l ++ [x] := by rw [k'4, show isT tbS x = true from hx]; rfl
 have e2 : unkL tbS (l ++ [x]) = unkL tbS l := by rw [k'6, show isT tbS x = true from hx]; simp
 unfold RE_Su
 rw [e1, e2]
 exact ⟨by rw [k'2 h_attrs, if_neg (by omega)], by simp; omega, by rw [k'0, if_neg (by omega)]; exact h_start, by rw [k'0, if_pos hn], by rw [k'0, if_neg (by omega)]; exact h_count, by rw [k'0, if_neg (by omega)]; exact h_sum, by rw [k'2 h_qs, if_neg (by omega)], by simp; omega, by rw [k'0, if_neg (by omega)]; exact h_flags, h_u⟩
theorem RE_Su_4 {d : Int} {l : List Fld} {b : Su} {x : Fld} (h : RE_Su d l b) (hx : tbS x.num x.kind = true) (hn : x.num = 4) : RE_Su d (l ++ [x]) { b with count := x.n } := by
 obtain ⟨h_attrs, l_attrs, h_start, h_time, h_count, h_sum, h_qs, l_qs, h_flags, h_u⟩ := h
 have e1 : k'1 tbS (l ++ [x]) = k'1 tbS l ++ [x] := by rw [k'4, show isT tbS x = true from hx]; rfl
 have e2 : unkL tbS (l ++ [x]) = unkL tbS l := by rw [k'6, show isT tbS x = true from hx]; simp
 unfold RE_Su
 rw [e1, e2]
 exact ⟨by rw [k'2 h_attrs, if_neg (by omega)], by simp; omega, by rw [k'0, if_neg (by omega)]; exact h_start, by rw [k'0, if_neg (by omega)]; exact h_time, by rw [k'0, if_pos hn], by rw [k'0, if_neg (by omega)]; exact h_sum, by rw [k'2 h_qs, if_neg (by omega)], by simp; omega, by rw [k'0, if_neg (by omega)]; exact h_flags, h_u⟩
theorem RE_Su_5 {d : Int} {l : List Fld} {b : Su} {x : Fld} (h : RE_Su d l b) (hx : tbS x.num x.kind = true) (hn : x.num = 5) : RE_Su d (l ++ [x]) { b with sum := x.n } := by
 obtain ⟨h_attrs, l_attrs, h_start, h_time, h_count, h_sum, h_qs, l_qs, h_flags, h_u⟩ := h
 have e1 : k'1 tbS (l ++ [x]) = k'1 tbS l ++ [x] := by rw [k'4, show isT tbS x = true from hx]; rfl
 have e2 : unkL tbS (l ++ [x]) = unkL tbS l := by rw [k'6, show isT tbS x = true from hx]; simp
 unfold RE_Su
 rw [e1, e2]
 exact ⟨by rw [k'2 h_attrs, if_neg (by omega)], by simp; omega, by rw [k'0, if_neg (by omega)]; exact h_start, by rw [k'0, if_neg (by omega)]; exact h_time, by rw [k'0, if_neg (by omega)]; exact h_count, by rw [k'0, if_pos hn], by rw [k'2 h_qs, if_neg (by omega)], by simp; omega, by rw [k'0, if_neg (by omega)]; exact h_flags, h_u⟩
theorem RE_Su_6 {d : Int} {l : List Fld} {b : Su} {x : Fld} {v : Qu} (hv : okQu x.s (d - 1) = some v) (h : RE_Su d l b) (hx : tbS x.num x.kind = true) (hn : x.num = 6) : RE_Su d (l ++ [x]) { b with qs := b.qs ++ [v] } := by
 obtain ⟨h_attrs, l_attrs, h_start, h_time, h_count, h_sum, h_qs, l_qs, h_flags, h_u⟩ := h
 have e1 : k'1 tbS (l ++ [x]) = k'1 tbS l ++ [x] := by rw [k'4, show isT tbS x = true from hx]; rfl
 have e2 : unkL tbS (l ++ [x]) = unkL tbS l := by rw [k'6, show isT tbS x = true from hx]; simp
 unfold RE_Su
 rw [e1, e2]
 exact ⟨by rw [k'2 h_attrs, if_neg (by omega)], by simp; omega, by rw [k'0, if_neg (by omega)]; exact h_start, by rw [k'0, if_neg (by omega)]; exact h_time, by rw [k'0, if_neg (by omega)]; exact h_count, by rw [k'0, if_neg (by omega)]; exact h_sum, by rw [k'2 h_qs, if_pos hn, hv], by simp; omega, by rw [k'0, if_neg (by omega)]; exact h_flags, h_u⟩
theorem RE_Su_7 {d : Int} {l : List Fld} {b : Su} {x : Fld} {v : Kv} (hv : okK x.s (d - 1) = some v) (h : RE_Su d l b) (hx : tbS x.num x.kind = true) (hn : x.num = 7) : RE_Su d (l ++ [x]) { b with attrs := b.attrs ++ [v] } := by
 obtain ⟨h_attrs, l_attrs, h_start, h_time, h_count, h_sum, h_qs, l_qs, h_flags, h_u⟩ := h
 have e1 : k'1 tbS (l ++ [x]) = k'1 tbS l ++ [x] := by rw [k'4, show isT tbS x = true from hx]; rfl
 have e2 : unkL tbS (l ++ [x]) = unkL tbS l := by rw [k'6, show isT tbS x = true from hx]; simp
 unfold RE_Su
 rw [e1, e2]
 exact ⟨by rw [k'2 h_attrs, if_pos hn, hv], by simp; omega, by rw [k'0, if_neg (by omega)]; exact h_start, by rw [k'0, if_neg (by omega)]; exact h_time, by rw [k'0, if_neg (by omega)]; exact h_count, by rw [k'0, if_neg (by omega)]; exact h_sum, by rw [k'2 h_qs, if_neg (by omega)], by simp; omega, by rw [k'0, if_neg (by omega)]; exact h_flags, h_u⟩
theorem RE_Su_8 {d : Int} {l : List Fld} {b : Su} {x : Fld} (h : RE_Su d l b) (hx : tbS x.num x.kind = true) (hn : x.num = 8) : RE_Su d (l ++ [x]) { b with flags := x.n % 4294967296 } := by
 obtain ⟨h_attrs, l_attrs, h_start, h_time, h_count, h_sum, h_qs, l_qs, h_flags, h_u⟩ := h
 have e1 : k'1 tbS (l ++ [x]) = k'1 tbS l ++ [x] := by rw [k'4, show isT tbS x = true from hx]; rfl
 have e2 : unkL tbS (l ++ [x]) = unkL tbS l := by rw [k'6, show isT tbS x = true from hx]; simp
 unfold RE_Su
 rw [e1, e2]
 exact ⟨by rw [k'2 h_attrs, if_neg (by omega)], by simp; omega, by rw [k'0, if_neg (by omega)]; exact h_start, by rw [k'0, if_neg (by omega)]; exact h_time, by rw [k'0, if_neg (by omega)]; exact h_count, by rw [k'0, if_neg (by omega)]; exact h_sum, by rw [k'2 h_qs, if_neg (by omega)], by simp; omega, by rw [k'0, if_pos hn], h_u⟩
theorem RE_Su_fin {d : Int} {l : List Fld} {b : Su} (h : RE_Su d l b) : (tellSu d (k'1 tbS l)).map (fun f => f (unkL tbS l)) = some b := by
 obtain ⟨h_attrs, l_attrs, h_start, h_time, h_count, h_sum, h_qs, l_qs, h_flags, h_u⟩ := h
 obtain ⟨attrs, start, time, count, sum, qs, flags, u⟩ := b
 dsimp only at *
 unfold tellSu
 simp only [h_attrs, h_qs, Option.map_some]
 rw [h_start]; rw [h_time]; rw [h_count]; rw [h_sum]; rw [h_flags]; rw [h_u]
theorem tellSu_no_attrs {d : Int} {l : List Fld} (h : k'7 (fun s => okK s (d - 1)) 7 (k'1 tbS l) = none) : (tellSu d (k'1 tbS l)).map (fun f => f (unkL tbS l)) = none := by
 unfold tellSu
 rw [h]
 (repeat' split) <;> first | rfl | simp_all
theorem tellSu_no_qs {d : Int} {l : List Fld} (h : k'7 (fun s => okQu s (d - 1)) 6 (k'1 tbS l) = none) : (tellSu d (k'1 tbS l)).map (fun f => f (unkL tbS l)) = none := by
 unfold tellSu
 rw [h]
 (repeat' split) <;> first | rfl | simp_all
def SuC (b : Su) : List T := [owT ((b.attrs.map Kv.sh).map KVs.d), .d (.int .u64 b.start), .d (.int .u64 b.time), .d (.int .u64 b.count), .d (.int .u64 b.sum), owT (b.qs.map Qu.d), .d (.int .u32 b.flags), sT b.u]
def rSuT (o : Option Su) : T := match o with | some v => .tup [.d v.d, .d (.bool true)] | none => .tup [.d noSu.d, .d (.bool false)]
theorem ReadSu_calls (s : List UInt8) (d : Int) (hl : s.length < big) (hd1 : -9223372036854775808 ≤ d) (hd2 : d < 9223372036854775808) : k'5 (cx B) 104 [sT s, .d (.int .i64 d)] [] (rSuT (okSu s d)) [] := by
 have h1 := k'v B s d hl hd1 hd2
 have hl' := hl
 unfold big at hl'
 unfold okSu
 rw [okG_L]
 unfold k'2l at h1
 cases ho : okL s d with
 | none =>
  rw [ho] at h1
  dsimp only at h1 ⊢
  unfold rSuT
  refine l_bw Tryz.func104 0 [] ?_
  refine l_cw [] (h1) rfl rfl rfl ?_
  refine k'1w (fun _ : Unit => 0) (fun _ => [(4, .ptr 0 0), (5, .d (.bool false)), (6, .d (.sl true [])), (7, .d (.bool false)), (8, .ptr 1 0), (9, iT 0)]) (fun _ => [.mu (noSu.d.cells.map T.d), .mu (noSu.d.cells.map T.d)]) (fun _ => True) () trivial ⟨rfl, rfl, rfl, rfl, rfl, rfl, trivial⟩ ⟨⟨.inr (.inr (.inl ⟨_, _, rfl, rfl⟩)), .inr (.inl rfl), .inr (.inl rfl), .inr (.inl rfl), .inr (.inl rfl), .inr (.inr (.inl ⟨_, _, rfl, rfl⟩)), .inr (.inl rfl), .inr (.inl rfl), trivial⟩, WkC.refl _, trivial⟩ rfl 2 rfl (fun _ => rfl) (fun _ => rfl) (fun _ => rfl) ?_
  intro _ _
  exact O
 | some l =>
  rw [ho] at h1
  obtain ⟨w1, w2⟩ := k'47 ho
  obtain ⟨-, -, -, hd0⟩ := k'1n ho
  dsimp only at h1 ⊢
  have hlen : (l.map Fld.d).length = l.length := by simp
  have hlok : LOk l := ⟨w2, by unfold big; omega⟩
  have hlb := hlok.len
  generalize hRR : (tellSu d (k'1 tbS l)).map (fun f => f (unkL tbS l)) = RR
  refine l_bw Tryz.func104 0 [] ?_
  refine l_cw [] (h1) rfl rfl rfl ?_
  refine k'1w (fun y : Nat × Bool × Su => l.length - y.1) (fun y => [(1, .d (.int .i64 d)), (4, .ptr 0 0), (5, .d (.bool false)), (6, .d (slD (l.map Fld.d))), (7, .d (.bool y.2.1)), (8, .ptr 1 0), (9, iT y.1)])
   (fun y => [.mu (noSu.d.cells.map T.d), .mu (SuC y.2.2)])
   (fun y => y.1 ≤ l.length ∧ (y.2.1 = true → RE_Su d (l.take y.1) y.2.2) ∧ (y.2.1 = false → RR = none)) (0, true, noSu)
   ⟨by omega, fun _ => by rw [List.take_zero]; exact ⟨rfl, by simp [noSu], rfl, rfl, rfl, rfl, rfl, by simp [noSu], rfl, rfl⟩, fun h => by simp at h⟩ ⟨rfl, rfl, rfl, rfl, rfl, rfl, rfl, trivial⟩ ?_ rfl 2 rfl (fun _ => rfl) (fun _ => rfl) (fun _ => rfl) ?_
  ·exact ⟨⟨.inr (.inr (.inl ⟨_, _, rfl, rfl⟩)), .inr (.inl rfl), .inr (.inl rfl), .inr (.inl rfl), .inr (.inl rfl), .inr (.inr (.inl ⟨_, _, rfl, rfl⟩)), .inr (.inl rfl), .inr (.inl rfl), trivial⟩, ⟨.inr (.inr (.inr ⟨rfl, rfl⟩)), .inr (.inl rfl), .inr (.inl rfl), .inr (.inl rfl), .inr (.inl rfl), .inr (.inr (.inr ⟨rfl, rfl⟩)), .inr (.inl rfl), .inr (.inl rfl), trivial⟩, trivial⟩
  rintro ⟨i, ok, b⟩ ⟨i1, i2, i3⟩
  dsimp only at i1 i2 i3 ⊢
  have hwi : i < l.length → IntKind.i64.wrap ((i : Int) + 1) = ((i + 1 : Nat) : Int) := fun h => by rw [k'1b (by omega) (by omega)]; omega
  by_cases hlt : i < l.length
  ·cases ok
   ·refine Z ?_
    rw [hlen, show decide ((i : Int) < l.length) = true from decide_eq_true (by omega)]
    refine Z ?_
    rw [i3 rfl]
    unfold rSuT
    exact k'j rfl
   have hre := i2 rfl
   obtain ⟨x, hx⟩ : ∃ x, l[i]? = some x := ⟨_, List.getElem?_eq_getElem hlt⟩
   have hdx : (l.map Fld.d)[i]? = some x.d := by rw [List.getElem?_map, hx]; rfl
   have htk : l.take (i + 1) = l.take i ++ [x] := by rw [List.take_add_one, hx]; rfl
   obtain ⟨hfx, hwx⟩ := k'1x hlok hx
   have hwt := k'1u l i
   have hul : b.u.length ≤ wt (l.take i) := by
    obtain ⟨h_attrs, l_attrs, h_start, h_time, h_count, h_sum, h_qs, l_qs, h_flags, h_u⟩ := hre
    rw [h_u]; exact k'1y _ _
   have hkl : (k'1 tbS (l.take i)).length ≤ l.length := Nat.le_trans (List.length_filter_le _ _) (by rw [List.length_take]; omega)
   have ht := k'14 B [17, 25, 33, 41, 50, 58, 64] x (by decide) (by intro t ht; simp at ht; omega)
   rw [tk_Su _ _ hfx.kind] at ht
   have hxs : x.s.length < big := by have := hfx.s; unfold big; omega
   refine Z ?_
   rw [hlen, show decide ((i : Int) < l.length) = true from decide_eq_true (by omega)]
   refine Z ?_
   refine k'3 (.indexAddr (k := .i64) (n := i) (es := l.map Fld.d) (u := x.d) rfl rfl rfl rfl (.inl ⟨_, rfl⟩) rfl (by omega) (by simpa using hdx) rfl (by decide)) rfl rfl ?_
   refine Z ?_
   refine x_cw [] (tabSu_calls B) rfl rfl rfl ?_
   refine x_cw [] (ht) rfl rfl rfl ?_
   cases hb : tbS x.num x.kind
   ·have hk := RE_Su_unk hre hb
    rw [← htk] at hk
    refine Z ?_
    refine k'3 (.addStr rfl rfl rfl (by omega)) rfl rfl ?_
    refine Z ?_
    rw [hwi hlt]
    exact ⟨(i + 1, true, { b with u := b.u ++ x.raw }), by show l.length - (i + 1) < _; omega, ⟨by show i + 1 ≤ _; omega, fun _ => hk, fun h => by simp at h⟩, ⟨rfl, rfl, rfl, rfl, rfl, rfl, rfl, trivial⟩, rfl, k'g rfl⟩
   have hnum := tbS_num hfx.kind hb
   have hcut : ∀ (ok : List UInt8 → Option Unit), True := fun _ => trivial
   obtain ⟨xn, xk, xv, xs, xr⟩ := x
   dsimp only at *
   refine Z ?_
   rcases hnum with rfl | rfl | rfl | rfl | rfl | rfl | rfl
   ·have hk := RE_Su_2 (x := ⟨2, xk, xv, xs, xr⟩) hre hb rfl
    rw [← htk] at hk
    refine Z ?_
    rw [hwi hlt]
    exact ⟨(i + 1, true, { b with start := xv }), by show l.length - (i + 1) < _; omega, ⟨by show i + 1 ≤ _; omega, fun _ => hk, fun h => by simp at h⟩, ⟨rfl, rfl, rfl, rfl, rfl, rfl, rfl, trivial⟩, rfl, k'g rfl⟩
   ·have hk := RE_Su_3 (x := ⟨3, xk, xv, xs, xr⟩) hre hb rfl
    rw [← htk] at hk
    refine Z ?_
    rw [hwi hlt]
    exact ⟨(i + 1, true, { b with time := xv }), by show l.length - (i + 1) < _; omega, ⟨by show i + 1 ≤ _; omega, fun _ => hk, fun h => by simp at h⟩, ⟨rfl, rfl, rfl, rfl, rfl, rfl, rfl, trivial⟩, rfl, k'g rfl⟩
   ·have hk := RE_Su_4 (x := ⟨4, xk, xv, xs, xr⟩) hre hb rfl
    rw [← htk] at hk
    refine Z ?_
    rw [hwi hlt]
    exact ⟨(i + 1, true, { b with count := xv }), by show l.length - (i + 1) < _; omega, ⟨by show i + 1 ≤ _; omega, fun _ => hk, fun h => by simp at h⟩, ⟨rfl, rfl, rfl, rfl, rfl, rfl, rfl, trivial⟩, rfl, k'g rfl⟩
   ·have hk := RE_Su_5 (x := ⟨5, xk, xv, xs, xr⟩) hre hb rfl
    rw [← htk] at hk
    refine Z ?_
    rw [hwi hlt]
    exact ⟨(i + 1, true, { b with sum := xv }), by show l.length - (i + 1) < _; omega, ⟨by show i + 1 ≤ _; omega, fun _ => hk, fun h => by simp at h⟩, ⟨rfl, rfl, rfl, rfl, rfl, rfl, rfl, trivial⟩, rfl, k'g rfl⟩
   ·have hv := ReadQu_calls B xs (d - 1) hxs (by omega) (by omega)
    have hm0 : (b.qs.map Qu.d).length ≤ l.length := by
     obtain ⟨h_attrs, l_attrs, h_start, h_time, h_count, h_sum, h_qs, l_qs, h_flags, h_u⟩ := hre
     simp only [List.length_map]; omega
    cases hok : okQu xs (d - 1) with
    | none =>
     rw [hok] at hv
     unfold rQuT at hv
     dsimp only at hv
     have hno : RR = none := by
      obtain ⟨h_attrs, l_attrs, h_start, h_time, h_count, h_sum, h_qs, l_qs, h_flags, h_u⟩ := hre
      rw [← hRR]
      refine tellSu_no_qs (k'1f (i + 1) ?_)
      rw [htk, k'4, show isT tbS ⟨6, xk, xv, xs, xr⟩ = true from hb]
      have := k'2 (x := ⟨6, xk, xv, xs, xr⟩) h_qs
      rw [if_pos rfl, hok] at this
      exact this
     refine Z ?_
     rw [k'b 1 (by omega) (by omega) (by omega) hd2]
     refine k'8 [] (hv) rfl rfl rfl ?_
     refine l_o0 rfl ?_
     refine adm ?_
     (try refine k'h rfl ?_)
     refine k'd (fst := false) 1 rfl rfl rfl ?_
     refine k'3 (.loadMov (q := owT (b.qs.map Qu.d)) rfl rfl rfl rfl rfl rfl rfl) rfl rfl ?_
     refine Z ?_
     refine k'3 (.buildSlice (es := [Qu.d noQu]) rfl rfl rfl rfl rfl rfl (by intro x hx; simp at hx; subst hx; rfl) (by simp) (by decide) (by decide)) rfl rfl ?_
     have hm : (b.qs.map Qu.d).length + [Qu.d noQu].length ≤ most := by simp [most] at *; omega
     refine k'3 (.append' rfl rfl rfl rfl ⟨_, _, rfl, rfl, by intro q; simp⟩ rfl rfl rfl rfl rfl (by rw [show [Qu.d noQu] = [noQu].map Qu.d from rfl, ← List.map_append]; exact Qu_fits _) (by decide) rfl hm rfl) rfl rfl ?_
     refine k'd (fst := false) 2 rfl rfl rfl ?_
     refine k'3 (.storeMov rfl rfl rfl rfl rfl rfl rfl (Nat.le_of_ble_eq_true rfl) rfl) rfl rfl ?_
     refine Z ?_
     rw [hwi hlt]
     exact ⟨(i + 1, false, { b with qs := b.qs ++ [noQu] }), by show l.length - (i + 1) < _; omega, ⟨by show i + 1 ≤ _; omega, fun h => by simp at h, fun _ => hno⟩, ⟨rfl, rfl, rfl, rfl, rfl, rfl, rfl, trivial⟩, rfl, k'g (by unfold SuC; simp only [List.map_append]; rfl)⟩
    | some v =>
     rw [hok] at hv
     unfold rQuT at hv
     dsimp only at hv
     have hk := RE_Su_6 (x := ⟨6, xk, xv, xs, xr⟩) (v := v) hok hre hb rfl
     rw [← htk] at hk
     refine Z ?_
     rw [k'b 1 (by omega) (by omega) (by omega) hd2]
     refine k'8 [] (hv) rfl rfl rfl ?_
     refine l_o0 rfl ?_
     refine adm ?_
     (try refine k'h rfl ?_)
     refine k'd (fst := false) 1 rfl rfl rfl ?_
     refine k'3 (.loadMov (q := owT (b.qs.map Qu.d)) rfl rfl rfl rfl rfl rfl rfl) rfl rfl ?_
     refine Z ?_
     refine k'3 (.buildSlice (es := [Qu.d v]) rfl rfl rfl rfl rfl rfl (by intro x hx; simp at hx; subst hx; rfl) (by simp) (by decide) (by decide)) rfl rfl ?_
     have hm : (b.qs.map Qu.d).length + [Qu.d v].length ≤ most := by simp [most] at *; omega
     refine k'3 (.append' rfl rfl rfl rfl ⟨_, _, rfl, rfl, by intro q; simp⟩ rfl rfl rfl rfl rfl (by rw [show [Qu.d v] = [v].map Qu.d from rfl, ← List.map_append]; exact Qu_fits _) (by decide) rfl hm rfl) rfl rfl ?_
     refine k'd (fst := false) 2 rfl rfl rfl ?_
     refine k'3 (.storeMov rfl rfl rfl rfl rfl rfl rfl (Nat.le_of_ble_eq_true rfl) rfl) rfl rfl ?_
     refine Z ?_
     rw [hwi hlt]
     exact ⟨(i + 1, true, { b with qs := b.qs ++ [v] }), by show l.length - (i + 1) < _; omega, ⟨by show i + 1 ≤ _; omega, fun _ => hk, fun h => by simp at h⟩, ⟨rfl, rfl, rfl, rfl, rfl, rfl, rfl, trivial⟩, rfl, k'g (by unfold SuC; simp only [List.map_append]; rfl)⟩
   ·have hv := k'1t B xs (d - 1) hxs (by omega) (by omega)
    have hm0 : ((b.attrs.map Kv.sh).map KVs.d).length ≤ l.length := by
     obtain ⟨h_attrs, l_attrs, h_start, h_time, h_count, h_sum, h_qs, l_qs, h_flags, h_u⟩ := hre
     simp only [List.length_map]; omega
    cases hok : okK xs (d - 1) with
    | none =>
     rw [hok] at hv
     unfold rkT at hv
     dsimp only at hv
     have hno : RR = none := by
      obtain ⟨h_attrs, l_attrs, h_start, h_time, h_count, h_sum, h_qs, l_qs, h_flags, h_u⟩ := hre
      rw [← hRR]
      refine tellSu_no_attrs (k'1f (i + 1) ?_)
      rw [htk, k'4, show isT tbS ⟨7, xk, xv, xs, xr⟩ = true from hb]
      have := k'2 (x := ⟨7, xk, xv, xs, xr⟩) h_attrs
      rw [if_pos rfl, hok] at this
      exact this
     refine Z ?_
     rw [k'b 1 (by omega) (by omega) (by omega) hd2]
     refine k'8 [] (hv) rfl rfl rfl ?_
     refine l_o0 rfl ?_
     refine adm ?_
     (try refine k'h rfl ?_)
     refine k'd (fst := false) 1 rfl rfl rfl ?_
     refine k'3 (.loadMov (q := owT ((b.attrs.map Kv.sh).map KVs.d)) rfl rfl rfl rfl rfl rfl rfl) rfl rfl ?_
     refine Z ?_
     refine k'3 (.buildSlice (es := [KVs.d noKv.sh]) rfl rfl rfl rfl rfl rfl (by intro x hx; simp at hx; subst hx; rfl) (by simp) (by decide) (by decide)) rfl rfl ?_
     have hm : ((b.attrs.map Kv.sh).map KVs.d).length + [KVs.d noKv.sh].length ≤ most := by simp [most] at *; omega
     refine k'3 (.append' rfl rfl rfl rfl ⟨_, _, rfl, rfl, by intro q; simp⟩ rfl rfl rfl rfl rfl (by rw [show [KVs.d noKv.sh] = [noKv.sh].map KVs.d from rfl, ← List.map_append]; exact k'1r _) (by decide) rfl hm rfl) rfl rfl ?_
     refine k'd (fst := false) 2 rfl rfl rfl ?_
     refine k'3 (.storeMov rfl rfl rfl rfl rfl rfl rfl (Nat.le_of_ble_eq_true rfl) rfl) rfl rfl ?_
     refine Z ?_
     rw [hwi hlt]
     exact ⟨(i + 1, false, { b with attrs := b.attrs ++ [noKv] }), by show l.length - (i + 1) < _; omega, ⟨by show i + 1 ≤ _; omega, fun h => by simp at h, fun _ => hno⟩, ⟨rfl, rfl, rfl, rfl, rfl, rfl, rfl, trivial⟩, rfl, k'g (by unfold SuC; simp only [List.map_append]; rfl)⟩
    | some v =>
     rw [hok] at hv
     unfold rkT at hv
     dsimp only at hv
     have hk := RE_Su_7 (x := ⟨7, xk, xv, xs, xr⟩) (v := v) hok hre hb rfl
     rw [← htk] at hk
     refine Z ?_
     rw [k'b 1 (by omega) (by omega) (by omega) hd2]
     refine k'8 [] (hv) rfl rfl rfl ?_
     refine l_o0 rfl ?_
     refine adm ?_
     (try refine k'h rfl ?_)
     refine k'd (fst := false) 1 rfl rfl rfl ?_
     refine k'3 (.loadMov (q := owT ((b.attrs.map Kv.sh).map KVs.d)) rfl rfl rfl rfl rfl rfl rfl) rfl rfl ?_
     refine Z ?_
     refine k'3 (.buildSlice (es := [KVs.d v.sh]) rfl rfl rfl rfl rfl rfl (by intro x hx; simp at hx; subst hx; rfl) (by simp) (by decide) (by decide)) rfl rfl ?_
     have hm : ((b.attrs.map Kv.sh).map KVs.d).length + [KVs.d v.sh].length ≤ most := by simp [most] at *; omega
     refine k'3 (.append' rfl rfl rfl rfl ⟨_, _, rfl, rfl, by intro q; simp⟩ rfl rfl rfl rfl rfl (by rw [show [KVs.d v.sh] = [v.sh].map KVs.d from rfl, ← List.map_append]; exact k'1r _) (by decide) rfl hm rfl) rfl rfl ?_
     refine k'd (fst := false) 2 rfl rfl rfl ?_
     refine k'3 (.storeMov rfl rfl rfl rfl rfl rfl rfl (Nat.le_of_ble_eq_true rfl) rfl) rfl rfl ?_
     refine Z ?_
     rw [hwi hlt]
     exact ⟨(i + 1, true, { b with attrs := b.attrs ++ [v] }), by show l.length - (i + 1) < _; omega, ⟨by show i + 1 ≤ _; omega, fun _ => hk, fun h => by simp at h⟩, ⟨rfl, rfl, rfl, rfl, rfl, rfl, rfl, trivial⟩, rfl, k'g (by unfold SuC; simp only [List.map_append]; rfl)⟩
   ·have hk := RE_Su_8 (x := ⟨8, xk, xv, xs, xr⟩) hre hb rfl
    rw [← htk] at hk
    refine Z ?_
    rw [u32w]
    rw [hwi hlt]
    exact ⟨(i + 1, true, { b with flags := xv % 4294967296 }), by show l.length - (i + 1) < _; omega, ⟨by show i + 1 ≤ _; omega, fun _ => hk, fun h => by simp at h⟩, ⟨rfl, rfl, rfl, rfl, rfl, rfl, rfl, trivial⟩, rfl, k'g rfl⟩
  ·have he : i = l.length := by omega
   subst he
   refine Z ?_
   rw [hlen, show decide ((l.length : Int) < l.length) = false from decide_eq_false (by omega)]
   cases ok
   ·refine Z ?_
    rw [i3 rfl]
    unfold rSuT
    exact k'j rfl
   have hre := i2 rfl
   rw [List.take_length] at hre
   have hf := RE_Su_fin hre
   rw [hRR] at hf
   rw [hf]
   have hD : b.d = .agg [slD ((b.attrs.map Kv.sh).map KVs.d), .int .u64 b.start, .int .u64 b.time, .int .u64 b.count, .int .u64 b.sum, slD (b.qs.map Qu.d), .int .u32 b.flags, .str b.u] := by unfold Su.d; rw [← ks_map]
   simp only [rSuT]
   rw [hD]
   exact O
