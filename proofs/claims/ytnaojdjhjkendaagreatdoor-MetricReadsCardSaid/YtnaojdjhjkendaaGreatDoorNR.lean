/- Number: the reference reads them. -/
import Derived.Test.YtnaojdjhjkendaaGreatDoorER
import Derived.Test.YtnaojdjhjkendaaGreatDoorNL
set_option linter.unusedSimpArgs false
set_option linter.unusedVariables false
set_option maxRecDepth 100000
namespace Go.Proofs.YtnaojdjhjkendaaGreatDoor
open Go Go.Abs
variable (B : Fr)
theorem tabNb_calls : k'5 (cx B) 115 [] [] (.d (.sl false ([17, 25, 33, 42, 49, 58, 64].map iD))) [] := by
 refine l_bw Tryz.func115 0 [] ?_
 (try refine k'h rfl ?_)
 refine k'3 (.buildSlice (es := [17, 25, 33, 42, 49, 58, 64].map iD) rfl rfl rfl rfl rfl rfl (by intro x hx; simp [iD] at hx; rcases hx with rfl | rfl | rfl | rfl | rfl | rfl | rfl <;> rfl) (by decide) (by decide) (by decide)) rfl rfl ?_
 exact O
theorem tbN_big {n k : Nat} (hn : 9 ≤ n) : tbN n k = false := by
 unfold tbN
 simp
 (repeat' split) <;> omega
theorem tk_Nb (n k : Nat) (hk : k < 8) : tkB [17, 25, 33, 42, 49, 58, 64] n k = tbN n k := by
 by_cases hn : n < 9
 ·exact (by decide : ∀ n < 9, ∀ k < 8, tkB [17, 25, 33, 42, 49, 58, 64] n k = tbN n k) n hn k hk
 ·rw [show tkB [17, 25, 33, 42, 49, 58, 64] n k = false by unfold tkB; simp; omega, tbN_big (by omega)]
theorem tbN_num {n k : Nat} (hk : k < 8) (h : tbN n k = true) : n = 2 ∨ n = 3 ∨ n = 4 ∨ n = 5 ∨ n = 6 ∨ n = 7 ∨ n = 8 := by
 by_cases hn : n < 9
 ·have := (by decide : ∀ n < 9, ∀ k < 8, tbN n k = true → [2, 3, 4, 5, 6, 7, 8].contains n = true) n hn k hk h
  simp at this
  omega
 ·rw [tbN_big (by omega)] at h; simp at h
def RE_Nb (d : Int) (l : List Fld) (b : Nb) : Prop := (k'7 (fun s => okK s (d - 1)) 7 (k'1 tbN l) = some b.attrs) ∧ (b.attrs.length ≤ (k'1 tbN l).length) ∧ (b.start = (k'a (k'1 tbN l) 2).n) ∧ (b.time = (k'a (k'1 tbN l) 3).n) ∧ (b.kind = ((k'32 4 6 (oneF [4, 6] (k'1 tbN l))).1 : Int) ∧ b.n = (k'32 4 6 (oneF [4, 6] (k'1 tbN l))).2) ∧ (k'7 (fun s => okEm s (d - 1)) 5 (k'1 tbN l) = some b.exs) ∧ (b.exs.length ≤ (k'1 tbN l).length) ∧ (b.flags = (k'a (k'1 tbN l) 8).n % 4294967296) ∧ b.u = unkL tbN l
theorem RE_Nb_unk {d : Int} {l : List Fld} {b : Nb} {x : Fld} (h : RE_Nb d l b) (hx : tbN x.num x.kind = false) : RE_Nb d (l ++ [x]) { b with u := b.u ++ x.raw } := by
 obtain ⟨h_attrs, l_attrs, h_start, h_time, h_kn, h_exs, l_exs, h_flags, h_u⟩ := h
 have e1 : k'1 tbN (l ++ [x]) = k'1 tbN l := by rw [k'4, show isT tbN x = false from hx]; simp
 have e2 : unkL tbN (l ++ [x]) = unkL tbN l ++ x.raw := by rw [k'6, show isT tbN x = false from hx]; rfl
 unfold RE_Nb
 rw [e1, e2]
 exact ⟨h_attrs, l_attrs, h_start, h_time, h_kn, h_exs, l_exs, h_flags, by rw [← h_u]⟩
theorem RE_Nb_2 {d : Int} {l : List Fld} {b : Nb} {x : Fld} (h : RE_Nb d l b) (hx : tbN x.num x.kind = true) (hn : x.num = 2) : RE_Nb d (l ++ [x]) { b with start := x.n } := by
 obtain ⟨h_attrs, l_attrs, h_start, h_time, h_kn, h_exs, l_exs, h_flags, h_u⟩ := h
 have e1 : k'1 tbN (l ++ [x]) = k'1 tbN l ++ [x] := by rw [k'4, show isT tbN x = true from hx]; rfl
 have e2 : unkL tbN (l ++ [x]) = unkL tbN l := by rw [k'6, show isT tbN x = true from hx]; simp
 unfold RE_Nb
 rw [e1, e2]
 exact ⟨by rw [k'2 h_attrs, if_neg (by omega)], by simp; omega, by rw [k'0, if_pos hn], by rw [k'0, if_neg (by omega)]; exact h_time, by rw [k'22 (by omega) (by omega) (by omega), if_neg (by omega), if_neg (by omega)]; exact h_kn, by rw [k'2 h_exs, if_neg (by omega)], by simp; omega, by rw [k'0, if_neg (by omega)]; exact h_flags, h_u⟩
theorem RE_Nb_3 {d : Int} {l : List Fld} {b : Nb} {x : Fld} (h : RE_Nb d l b) (hx : tbN x.num x.kind = true) (hn : x.num = 3) : RE_Nb d (l ++ [x]) { b with time := x.n } := by
 obtain ⟨h_attrs, l_attrs, h_start, h_time, h_kn, h_exs, l_exs, h_flags, h_u⟩ := h
 have e1 : k'1 tbN (l ++ [x]) = k'1 tbN l ++ [x] := by rw [k'4, show isT tbN x = true from hx]; rfl
 have e2 : unkL tbN (l ++ [x]) = unkL tbN l := by rw [k'6, show isT tbN x = true from hx]; simp
 unfold RE_Nb
 rw [e1, e2]
 exact ⟨by rw [k'2 h_attrs, if_neg (by omega)], by simp; omega, by rw [k'0, if_neg (by omega)]; exact h_start, by rw [k'0, if_pos hn], by rw [k'22 (by omega) (by omega) (by omega), if_neg (by omega), if_neg (by omega)]; exact h_kn, by rw [k'2 h_exs, if_neg (by omega)], by simp; omega, by rw [k'0, if_neg (by omega)]; exact h_flags, h_u⟩
theorem RE_Nb_4 {d : Int} {l : List Fld} {b : Nb} {x : Fld} (h : RE_Nb d l b) (hx : tbN x.num x.kind = true) (hn : x.num = 4) : RE_Nb d (l ++ [x]) { b with kind := 1, n := x.n } := by
 obtain ⟨h_attrs, l_attrs, h_start, h_time, h_kn, h_exs, l_exs, h_flags, h_u⟩ := h
 have e1 : k'1 tbN (l ++ [x]) = k'1 tbN l ++ [x] := by rw [k'4, show isT tbN x = true from hx]; rfl
 have e2 : unkL tbN (l ++ [x]) = unkL tbN l := by rw [k'6, show isT tbN x = true from hx]; simp
 unfold RE_Nb
 rw [e1, e2]
 exact ⟨by rw [k'2 h_attrs, if_neg (by omega)], by simp; omega, by rw [k'0, if_neg (by omega)]; exact h_start, by rw [k'0, if_neg (by omega)]; exact h_time, by rw [k'22 (by omega) (by omega) (by omega), if_pos hn]; exact ⟨rfl, rfl⟩, by rw [k'2 h_exs, if_neg (by omega)], by simp; omega, by rw [k'0, if_neg (by omega)]; exact h_flags, h_u⟩
theorem RE_Nb_5 {d : Int} {l : List Fld} {b : Nb} {x : Fld} {v : Em} (hv : okEm x.s (d - 1) = some v) (h : RE_Nb d l b) (hx : tbN x.num x.kind = true) (hn : x.num = 5) : RE_Nb d (l ++ [x]) { b with exs := b.exs ++ [v] } := by
 obtain ⟨h_attrs, l_attrs, h_start, h_time, h_kn, h_exs, l_exs, h_flags, h_u⟩ := h
 have e1 : k'1 tbN (l ++ [x]) = k'1 tbN l ++ [x] := by rw [k'4, show isT tbN x = true from hx]; rfl
 have e2 : unkL tbN (l ++ [x]) = unkL tbN l := by rw [k'6, show isT tbN x = true from hx]; simp
 unfold RE_Nb
 rw [e1, e2]
 exact ⟨by rw [k'2 h_attrs, if_neg (by omega)], by simp; omega, by rw [k'0, if_neg (by omega)]; exact h_start, by rw [k'0, if_neg (by omega)]; exact h_time, by rw [k'22 (by omega) (by omega) (by omega), if_neg (by omega), if_neg (by omega)]; exact h_kn, by rw [k'2 h_exs, if_pos hn, hv], by simp; omega, by rw [k'0, if_neg (by omega)]; exact h_flags, h_u⟩
theorem RE_Nb_6 {d : Int} {l : List Fld} {b : Nb} {x : Fld} (h : RE_Nb d l b) (hx : tbN x.num x.kind = true) (hn : x.num = 6) : RE_Nb d (l ++ [x]) { b with kind := 2, n := x.n } := by
 obtain ⟨h_attrs, l_attrs, h_start, h_time, h_kn, h_exs, l_exs, h_flags, h_u⟩ := h
 have e1 : k'1 tbN (l ++ [x]) = k'1 tbN l ++ [x] := by rw [k'4, show isT tbN x = true from hx]; rfl
 have e2 : unkL tbN (l ++ [x]) = unkL tbN l := by rw [k'6, show isT tbN x = true from hx]; simp
 unfold RE_Nb
 rw [e1, e2]
 exact ⟨by rw [k'2 h_attrs, if_neg (by omega)], by simp; omega, by rw [k'0, if_neg (by omega)]; exact h_start, by rw [k'0, if_neg (by omega)]; exact h_time, by rw [k'22 (by omega) (by omega) (by omega), if_neg (by omega), if_pos hn]; exact ⟨rfl, rfl⟩, by rw [k'2 h_exs, if_neg (by omega)], by simp; omega, by rw [k'0, if_neg (by omega)]; exact h_flags, h_u⟩
theorem RE_Nb_7 {d : Int} {l : List Fld} {b : Nb} {x : Fld} {v : Kv} (hv : okK x.s (d - 1) = some v) (h : RE_Nb d l b) (hx : tbN x.num x.kind = true) (hn : x.num = 7) : RE_Nb d (l ++ [x]) { b with attrs := b.attrs ++ [v] } := by
 obtain ⟨h_attrs, l_attrs, h_start, h_time, h_kn, h_exs, l_exs, h_flags, h_u⟩ := h
 have e1 : k'1 tbN (l ++ [x]) = k'1 tbN l ++ [x] := by rw [k'4, show isT tbN x = true from hx]; rfl
 have e2 : unkL tbN (l ++ [x]) = unkL tbN l := by rw [k'6, show isT tbN x = true from hx]; simp
 unfold RE_Nb
 rw [e1, e2]
 exact ⟨by rw [k'2 h_attrs, if_pos hn, hv], by simp; omega, by rw [k'0, if_neg (by omega)]; exact h_start, by rw [k'0, if_neg (by omega)]; exact h_time, by rw [k'22 (by omega) (by omega) (by omega), if_neg (by omega), if_neg (by omega)]; exact h_kn, by rw [k'2 h_exs, if_neg (by omega)], by simp; omega, by rw [k'0, if_neg (by omega)]; exact h_flags, h_u⟩
theorem RE_Nb_8 {d : Int} {l : List Fld} {b : Nb} {x : Fld} (h : RE_Nb d l b) (hx : tbN x.num x.kind = true) (hn : x.num = 8) : RE_Nb d (l ++ [x]) { b with flags := x.n % 4294967296 } := by
 obtain ⟨h_attrs, l_attrs, h_start, h_time, h_kn, h_exs, l_exs, h_flags, h_u⟩ := h
 have e1 : k'1 tbN (l ++ [x]) = k'1 tbN l ++ [x] := by rw [k'4, show isT tbN x = true from hx]; rfl
 have e2 : unkL tbN (l ++ [x]) = unkL tbN l := by rw [k'6, show isT tbN x = true from hx]; simp
 unfold RE_Nb
 rw [e1, e2]
 exact ⟨by rw [k'2 h_attrs, if_neg (by omega)], by simp; omega, by rw [k'0, if_neg (by omega)]; exact h_start, by rw [k'0, if_neg (by omega)]; exact h_time, by rw [k'22 (by omega) (by omega) (by omega), if_neg (by omega), if_neg (by omega)]; exact h_kn, by rw [k'2 h_exs, if_neg (by omega)], by simp; omega, by rw [k'0, if_pos hn], h_u⟩
theorem RE_Nb_fin {d : Int} {l : List Fld} {b : Nb} (h : RE_Nb d l b) : (tellNb d (k'1 tbN l)).map (fun f => f (unkL tbN l)) = some b := by
 obtain ⟨h_attrs, l_attrs, h_start, h_time, h_kn, h_exs, l_exs, h_flags, h_u⟩ := h
 obtain ⟨attrs, start, time, kind, n, exs, flags, u⟩ := b
 dsimp only at *
 unfold tellNb
 simp only [h_attrs, h_exs, Option.map_some]
 rw [h_start]; rw [h_time]; rw [h_flags]; rw [h_kn.1, h_kn.2]; rw [h_u]
theorem tellNb_no_attrs {d : Int} {l : List Fld} (h : k'7 (fun s => okK s (d - 1)) 7 (k'1 tbN l) = none) : (tellNb d (k'1 tbN l)).map (fun f => f (unkL tbN l)) = none := by
 unfold tellNb
 rw [h]
 (repeat' split) <;> first | rfl | simp_all
theorem tellNb_no_exs {d : Int} {l : List Fld} (h : k'7 (fun s => okEm s (d - 1)) 5 (k'1 tbN l) = none) : (tellNb d (k'1 tbN l)).map (fun f => f (unkL tbN l)) = none := by
 unfold tellNb
 rw [h]
 (repeat' split) <;> first | rfl | simp_all
def NbC (b : Nb) : List T := [owT ((b.attrs.map Kv.sh).map KVs.d), .d (.int .u64 b.start), .d (.int .u64 b.time), .d (.int .i64 b.kind), .d (.int .u64 b.n), owT (b.exs.map Em.d), .d (.int .u32 b.flags), sT b.u]
def rNbT (o : Option Nb) : T := match o with | some v => .tup [.d v.d, .d (.bool true)] | none => .tup [.d noNb.d, .d (.bool false)]
theorem ReadNb_calls (s : List UInt8) (d : Int) (hl : s.length < big) (hd1 : -9223372036854775808 ≤ d) (hd2 : d < 9223372036854775808) : k'5 (cx B) 101 [sT s, .d (.int .i64 d)] [] (rNbT (okNb s d)) [] := by
 have h1 := k'v B s d hl hd1 hd2
 have hl' := hl
 unfold big at hl'
 unfold okNb
 rw [okG_L]
 unfold k'2l at h1
 cases ho : okL s d with
 | none =>
  rw [ho] at h1
  dsimp only at h1 ⊢
  unfold rNbT
  refine l_bw Tryz.func101 0 [] ?_
  refine l_cw [] (h1) rfl rfl rfl ?_
  refine k'1w (fun _ : Unit => 0) (fun _ => [(4, .ptr 0 0), (5, .d (.bool false)), (6, .d (.sl true [])), (7, .d (.bool false)), (8, .ptr 1 0), (9, iT 0)]) (fun _ => [.mu (noNb.d.cells.map T.d), .mu (noNb.d.cells.map T.d)]) (fun _ => True) () trivial ⟨rfl, rfl, rfl, rfl, rfl, rfl, trivial⟩ ⟨⟨.inr (.inr (.inl ⟨_, _, rfl, rfl⟩)), .inr (.inl rfl), .inr (.inl rfl), .inr (.inl rfl), .inr (.inl rfl), .inr (.inr (.inl ⟨_, _, rfl, rfl⟩)), .inr (.inl rfl), .inr (.inl rfl), trivial⟩, WkC.refl _, trivial⟩ rfl 2 rfl (fun _ => rfl) (fun _ => rfl) (fun _ => rfl) ?_
  intro _ _
  exact O
 | some l =>
  rw [ho] at h1
  obtain ⟨w1, w2⟩ := k'47 ho
  obtain ⟨-, -, -, hd0⟩ := k'1n ho
  dsimp only at h1 ⊢
  have hlen : (l.map Fld.d).length = l.length := by simp
  have hlok : LOk l := ⟨w2, by unfold big; omega⟩
  have hlb := hlok.len
  generalize hRR : (tellNb d (k'1 tbN l)).map (fun f => f (unkL tbN l)) = RR
  refine l_bw Tryz.func101 0 [] ?_
  refine l_cw [] (h1) rfl rfl rfl ?_
  refine k'1w (fun y : Nat × Bool × Nb => l.length - y.1) (fun y => [(1, .d (.int .i64 d)), (4, .ptr 0 0), (5, .d (.bool false)), (6, .d (slD (l.map Fld.d))), (7, .d (.bool y.2.1)), (8, .ptr 1 0), (9, iT y.1)])
   (fun y => [.mu (noNb.d.cells.map T.d), .mu (NbC y.2.2)])
   (fun y => y.1 ≤ l.length ∧ (y.2.1 = true → RE_Nb d (l.take y.1) y.2.2) ∧ (y.2.1 = false → RR = none)) (0, true, noNb)
   ⟨by omega, fun _ => by rw [List.take_zero]; exact ⟨rfl, by simp [noNb], rfl, rfl, ⟨rfl, rfl⟩, rfl, by simp [noNb], rfl, rfl⟩, fun h => by simp at h⟩ ⟨rfl, rfl, rfl, rfl, rfl, rfl, rfl, trivial⟩ ?_ rfl 2 rfl (fun _ => rfl) (fun _ => rfl) (fun _ => rfl) ?_
  ·exact ⟨⟨.inr (.inr (.inl ⟨_, _, rfl, rfl⟩)), .inr (.inl rfl), .inr (.inl rfl), .inr (.inl rfl), .inr (.inl rfl), .inr (.inr (.inl ⟨_, _, rfl, rfl⟩)), .inr (.inl rfl), .inr (.inl rfl), trivial⟩, ⟨.inr (.inr (.inr ⟨rfl, rfl⟩)), .inr (.inl rfl), .inr (.inl rfl), .inr (.inl rfl), .inr (.inl rfl), .inr (.inr (.inr ⟨rfl, rfl⟩)), .inr (.inl rfl), .inr (.inl rfl), trivial⟩, trivial⟩
  rintro ⟨i, ok, b⟩ ⟨i1, i2, i3⟩
  dsimp only at i1 i2 i3 ⊢
  have hwi : i < l.length → IntKind.i64.wrap ((i : Int) + 1) = ((i + 1 : Nat) : Int) := fun h => by rw [k'1b (by omega) (by omega)]; omega
  by_cases hlt : i < l.length
  ·cases ok
   ·refine Z ?_
    rw [hlen, show decide ((i : Int) < l.length) = true from decide_eq_true (by omega)]
    refine Z ?_
    rw [i3 rfl]
    unfold rNbT
    exact k'j rfl
   have hre := i2 rfl
   obtain ⟨x, hx⟩ : ∃ x, l[i]? = some x := ⟨_, List.getElem?_eq_getElem hlt⟩
   have hdx : (l.map Fld.d)[i]? = some x.d := by rw [List.getElem?_map, hx]; rfl
   have htk : l.take (i + 1) = l.take i ++ [x] := by rw [List.take_add_one, hx]; rfl
   obtain ⟨hfx, hwx⟩ := k'1x hlok hx
   have hwt := k'1u l i
   have hul : b.u.length ≤ wt (l.take i) := by
    obtain ⟨h_attrs, l_attrs, h_start, h_time, h_kn, h_exs, l_exs, h_flags, h_u⟩ := hre
    rw [h_u]; exact k'1y _ _
   have hkl : (k'1 tbN (l.take i)).length ≤ l.length := Nat.le_trans (List.length_filter_le _ _) (by rw [List.length_take]; omega)
   have ht := k'14 B [17, 25, 33, 42, 49, 58, 64] x (by decide) (by intro t ht; simp at ht; omega)
   rw [tk_Nb _ _ hfx.kind] at ht
   have hxs : x.s.length < big := by have := hfx.s; unfold big; omega
   refine Z ?_
   rw [hlen, show decide ((i : Int) < l.length) = true from decide_eq_true (by omega)]
   refine Z ?_
   refine k'3 (.indexAddr (k := .i64) (n := i) (es := l.map Fld.d) (u := x.d) rfl rfl rfl rfl (.inl ⟨_, rfl⟩) rfl (by omega) (by simpa using hdx) rfl (by decide)) rfl rfl ?_
   refine Z ?_
   refine x_cw [] (tabNb_calls B) rfl rfl rfl ?_
   refine x_cw [] (ht) rfl rfl rfl ?_
   cases hb : tbN x.num x.kind
   ·have hk := RE_Nb_unk hre hb
    rw [← htk] at hk
    refine Z ?_
    refine k'3 (.addStr rfl rfl rfl (by omega)) rfl rfl ?_
    refine Z ?_
    rw [hwi hlt]
    exact ⟨(i + 1, true, { b with u := b.u ++ x.raw }), by show l.length - (i + 1) < _; omega, ⟨by show i + 1 ≤ _; omega, fun _ => hk, fun h => by simp at h⟩, ⟨rfl, rfl, rfl, rfl, rfl, rfl, rfl, trivial⟩, rfl, k'g rfl⟩
   have hnum := tbN_num hfx.kind hb
   have hcut : ∀ (ok : List UInt8 → Option Unit), True := fun _ => trivial
   obtain ⟨xn, xk, xv, xs, xr⟩ := x
   dsimp only at *
   refine Z ?_
   rcases hnum with rfl | rfl | rfl | rfl | rfl | rfl | rfl
   ·have hk := RE_Nb_2 (x := ⟨2, xk, xv, xs, xr⟩) hre hb rfl
    rw [← htk] at hk
    refine Z ?_
    rw [hwi hlt]
    exact ⟨(i + 1, true, { b with start := xv }), by show l.length - (i + 1) < _; omega, ⟨by show i + 1 ≤ _; omega, fun _ => hk, fun h => by simp at h⟩, ⟨rfl, rfl, rfl, rfl, rfl, rfl, rfl, trivial⟩, rfl, k'g rfl⟩
   ·have hk := RE_Nb_3 (x := ⟨3, xk, xv, xs, xr⟩) hre hb rfl
    rw [← htk] at hk
    refine Z ?_
    rw [hwi hlt]
    exact ⟨(i + 1, true, { b with time := xv }), by show l.length - (i + 1) < _; omega, ⟨by show i + 1 ≤ _; omega, fun _ => hk, fun h => by simp at h⟩, ⟨rfl, rfl, rfl, rfl, rfl, rfl, rfl, trivial⟩, rfl, k'g rfl⟩
   ·have hk := RE_Nb_4 (x := ⟨4, xk, xv, xs, xr⟩) hre hb rfl
    rw [← htk] at hk
    refine Z ?_
    rw [hwi hlt]
    exact ⟨(i + 1, true, { b with kind := 1, n := xv }), by show l.length - (i + 1) < _; omega, ⟨by show i + 1 ≤ _; omega, fun _ => hk, fun h => by simp at h⟩, ⟨rfl, rfl, rfl, rfl, rfl, rfl, rfl, trivial⟩, rfl, k'g rfl⟩
   ·have hv := k'4m B xs (d - 1) hxs (by omega) (by omega)
    have hm0 : (b.exs.map Em.d).length ≤ l.length := by
     obtain ⟨h_attrs, l_attrs, h_start, h_time, h_kn, h_exs, l_exs, h_flags, h_u⟩ := hre
     simp only [List.length_map]; omega
    cases hok : okEm xs (d - 1) with
    | none =>
     rw [hok] at hv
     unfold rEmT at hv
     dsimp only at hv
     have hno : RR = none := by
      obtain ⟨h_attrs, l_attrs, h_start, h_time, h_kn, h_exs, l_exs, h_flags, h_u⟩ := hre
      rw [← hRR]
      refine tellNb_no_exs (k'1f (i + 1) ?_)
      rw [htk, k'4, show isT tbN ⟨5, xk, xv, xs, xr⟩ = true from hb]
      have := k'2 (x := ⟨5, xk, xv, xs, xr⟩) h_exs
      rw [if_pos rfl, hok] at this
      exact this
     refine Z ?_
     rw [k'b 1 (by omega) (by omega) (by omega) hd2]
     refine k'8 [] (hv) rfl rfl rfl ?_
     refine l_o0 rfl ?_
     refine adm ?_
     (try refine k'h rfl ?_)
     refine k'd (fst := false) 1 rfl rfl rfl ?_
     refine k'3 (.loadMov (q := owT (b.exs.map Em.d)) rfl rfl rfl rfl rfl rfl rfl) rfl rfl ?_
     refine Z ?_
     refine k'3 (.buildSlice (es := [Em.d noEm]) rfl rfl rfl rfl rfl rfl (by intro x hx; simp at hx; subst hx; rfl) (by simp) (by decide) (by decide)) rfl rfl ?_
     have hm : (b.exs.map Em.d).length + [Em.d noEm].length ≤ most := by simp [most] at *; omega
     refine k'3 (.append' rfl rfl rfl rfl ⟨_, _, rfl, rfl, by intro q; simp⟩ rfl rfl rfl rfl rfl (by rw [show [Em.d noEm] = [noEm].map Em.d from rfl, ← List.map_append]; exact Em_fits _) (by decide) rfl hm rfl) rfl rfl ?_
     refine k'd (fst := false) 2 rfl rfl rfl ?_
     refine k'3 (.storeMov rfl rfl rfl rfl rfl rfl rfl (Nat.le_of_ble_eq_true rfl) rfl) rfl rfl ?_
     refine Z ?_
     rw [hwi hlt]
     exact ⟨(i + 1, false, { b with exs := b.exs ++ [noEm] }), by show l.length - (i + 1) < _; omega, ⟨by show i + 1 ≤ _; omega, fun h => by simp at h, fun _ => hno⟩, ⟨rfl, rfl, rfl, rfl, rfl, rfl, rfl, trivial⟩, rfl, k'g (by unfold NbC; simp only [List.map_append]; rfl)⟩
    | some v =>
     rw [hok] at hv
     unfold rEmT at hv
     dsimp only at hv
     have hk := RE_Nb_5 (x := ⟨5, xk, xv, xs, xr⟩) (v := v) hok hre hb rfl
     rw [← htk] at hk
     refine Z ?_
     rw [k'b 1 (by omega) (by omega) (by omega) hd2]
     refine k'8 [] (hv) rfl rfl rfl ?_
     refine l_o0 rfl ?_
     refine adm ?_
     (try refine k'h rfl ?_)
     refine k'd (fst := false) 1 rfl rfl rfl ?_
     refine k'3 (.loadMov (q := owT (b.exs.map Em.d)) rfl rfl rfl rfl rfl rfl rfl) rfl rfl ?_
     refine Z ?_
     refine k'3 (.buildSlice (es := [Em.d v]) rfl rfl rfl rfl rfl rfl (by intro x hx; simp at hx; subst hx; rfl) (by simp) (by decide) (by decide)) rfl rfl ?_
     have hm : (b.exs.map Em.d).length + [Em.d v].length ≤ most := by simp [most] at *; omega
     refine k'3 (.append' rfl rfl rfl rfl ⟨_, _, rfl, rfl, by intro q; simp⟩ rfl rfl rfl rfl rfl (by rw [show [Em.d v] = [v].map Em.d from rfl, ← List.map_append]; exact Em_fits _) (by decide) rfl hm rfl) rfl rfl ?_
     refine k'd (fst := false) 2 rfl rfl rfl ?_
     refine k'3 (.storeMov rfl rfl rfl rfl rfl rfl rfl (Nat.le_of_ble_eq_true rfl) rfl) rfl rfl ?_
     refine Z ?_
     rw [hwi hlt]
     exact ⟨(i + 1, true, { b with exs := b.exs ++ [v] }), by show l.length - (i + 1) < _; omega, ⟨by show i + 1 ≤ _; omega, fun _ => hk, fun h => by simp at h⟩, ⟨rfl, rfl, rfl, rfl, rfl, rfl, rfl, trivial⟩, rfl, k'g (by unfold NbC; simp only [List.map_append]; rfl)⟩
   ·have hk := RE_Nb_6 (x := ⟨6, xk, xv, xs, xr⟩) hre hb rfl
    rw [← htk] at hk
    refine Z ?_
    rw [hwi hlt]
    exact ⟨(i + 1, true, { b with kind := 2, n := xv }), by show l.length - (i + 1) < _; omega, ⟨by show i + 1 ≤ _; omega, fun _ => hk, fun h => by simp at h⟩, ⟨rfl, rfl, rfl, rfl, rfl, rfl, rfl, trivial⟩, rfl, k'g rfl⟩
   ·have hv := k'1t B xs (d - 1) hxs (by omega) (by omega)
    have hm0 : ((b.attrs.map Kv.sh).map KVs.d).length ≤ l.length := by
     obtain ⟨h_attrs, l_attrs, h_start, h_time, h_kn, h_exs, l_exs, h_flags, h_u⟩ := hre
     simp only [List.length_map]; omega
    cases hok : okK xs (d - 1) with
    | none =>
     rw [hok] at hv
     unfold rkT at hv
     dsimp only at hv
     have hno : RR = none := by
      obtain ⟨h_attrs, l_attrs, h_start, h_time, h_kn, h_exs, l_exs, h_flags, h_u⟩ := hre
      rw [← hRR]
      refine tellNb_no_attrs (k'1f (i + 1) ?_)
      rw [htk, k'4, show isT tbN ⟨7, xk, xv, xs, xr⟩ = true from hb]
      have := k'2 (x := ⟨7, xk, xv, xs, xr⟩) h_attrs
      rw [if_pos rfl, hok] at this
      exact this
     refine Z ?_
     rw [k'b 1 (by omega) (by omega) (by omega) hd2]
     refine k'8 [] (hv) rfl rfl rfl ?_
     refine l_o0 rfl ?_
     refine adm ?_
     (try refine k'h rfl ?_)
     refine k'd (fst := false) 1 rfl rfl rfl ?_
     refine k'3 (.loadMov (q := owT ((b.attrs.map Kv.sh).map KVs.d)) rfl rfl rfl rfl rfl rfl rfl) rfl rfl ?_
     refine Z ?_
     refine k'3 (.buildSlice (es := [KVs.d noKv.sh]) rfl rfl rfl rfl rfl rfl (by intro x hx; simp at hx; subst hx; rfl) (by simp) (by decide) (by decide)) rfl rfl ?_
     have hm : ((b.attrs.map Kv.sh).map KVs.d).length + [KVs.d noKv.sh].length ≤ most := by simp [most] at *; omega
     refine k'3 (.append' rfl rfl rfl rfl ⟨_, _, rfl, rfl, by intro q; simp⟩ rfl rfl rfl rfl rfl (by rw [show [KVs.d noKv.sh] = [noKv.sh].map KVs.d from rfl, ← List.map_append]; exact k'1r _) (by decide) rfl hm rfl) rfl rfl ?_
     refine k'd (fst := false) 2 rfl rfl rfl ?_
     refine k'3 (.storeMov rfl rfl rfl rfl rfl rfl rfl (Nat.le_of_ble_eq_true rfl) rfl) rfl rfl ?_
     refine Z ?_
     rw [hwi hlt]
     exact ⟨(i + 1, false, { b with attrs := b.attrs ++ [noKv] }), by show l.length - (i + 1) < _; omega, ⟨by show i + 1 ≤ _; omega, fun h => by simp at h, fun _ => hno⟩, ⟨rfl, rfl, rfl, rfl, rfl, rfl, rfl, trivial⟩, rfl, k'g (by unfold NbC; simp only [List.map_append]; rfl)⟩
    | some v =>
     rw [hok] at hv
     unfold rkT at hv
     dsimp only at hv
     have hk := RE_Nb_7 (x := ⟨7, xk, xv, xs, xr⟩) (v := v) hok hre hb rfl
     rw [← htk] at hk
     refine Z ?_
     rw [k'b 1 (by omega) (by omega) (by omega) hd2]
     refine k'8 [] (hv) rfl rfl rfl ?_
     refine l_o0 rfl ?_
     refine adm ?_
     (try refine k'h rfl ?_)
     refine k'd (fst := false) 1 rfl rfl rfl ?_
     refine k'3 (.loadMov (q := owT ((b.attrs.map Kv.sh).map KVs.d)) rfl rfl rfl rfl rfl rfl rfl) rfl rfl ?_
     refine Z ?_
     refine k'3 (.buildSlice (es := [KVs.d v.sh]) rfl rfl rfl rfl rfl rfl (by intro x hx; simp at hx; subst hx; rfl) (by simp) (by decide) (by decide)) rfl rfl ?_
     have hm : ((b.attrs.map Kv.sh).map KVs.d).length + [KVs.d v.sh].length ≤ most := by simp [most] at *; omega
     refine k'3 (.append' rfl rfl rfl rfl ⟨_, _, rfl, rfl, by intro q; simp⟩ rfl rfl rfl rfl rfl (by rw [show [KVs.d v.sh] = [v.sh].map KVs.d from rfl, ← List.map_append]; exact k'1r _) (by decide) rfl hm rfl) rfl rfl ?_
     refine k'd (fst := false) 2 rfl rfl rfl ?_
     refine k'3 (.storeMov rfl rfl rfl rfl rfl rfl rfl (Nat.le_of_ble_eq_true rfl) rfl) rfl rfl ?_
     refine Z ?_
     rw [hwi hlt]
     exact ⟨(i + 1, true, { b with attrs := b.attrs ++ [v] }), by show l.length - (i + 1) < _; omega, ⟨by show i + 1 ≤ _; omega, fun _ => hk, fun h => by simp at h⟩, ⟨rfl, rfl, rfl, rfl, rfl, rfl, rfl, trivial⟩, rfl, k'g (by unfold NbC; simp only [List.map_append]; rfl)⟩
   ·have hk := RE_Nb_8 (x := ⟨8, xk, xv, xs, xr⟩) hre hb rfl
    rw [← htk] at hk
    refine Z ?_
    rw [u32w]
    rw [hwi hlt]
    exact ⟨(i + 1, true, { b with flags := xv % 4294967296 }), by show l.length - (i + 1) < _; omega, ⟨by show i + 1 ≤ _; omega, fun _ => hk, fun h => by simp at h⟩, ⟨rfl, rfl, rfl, rfl, rfl, rfl, rfl, trivial⟩, rfl, k'g rfl⟩
  ·have he : i = l.length := by omega
   subst he
   refine Z ?_
   rw [hlen, show decide ((l.length : Int) < l.length) = false from decide_eq_false (by omega)]
   cases ok
   ·refine Z ?_
    rw [i3 rfl]
    unfold rNbT
    exact k'j rfl
   have hre := i2 rfl
   rw [List.take_length] at hre
   have hf := RE_Nb_fin hre
   rw [hRR] at hf
   rw [hf]
   have hD : b.d = .agg [slD ((b.attrs.map Kv.sh).map KVs.d), .int .u64 b.start, .int .u64 b.time, .int .i64 b.kind, .int .u64 b.n, slD (b.exs.map Em.d), .int .u32 b.flags, .str b.u] := by unfold Nb.d; rw [← ks_map]
   simp only [rNbT]
   rw [hD]
   exact O
