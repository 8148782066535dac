/- Metrics that the document reads: what the first records tell. -/
import Derived.Test.YtnaojdjhjkendaaGreatDoorMN
import Derived.Test.YtnaojdjhjkendaaGreatDoorSM
set_option linter.unusedSimpArgs false
set_option linter.unusedVariables false
set_option maxRecDepth 100000
namespace Go.Proofs.YtnaojdjhjkendaaGreatDoor
open Go Go.Abs
variable (B : Fr)
section
theorem textO_snoc (n : Nat) (l : List Fld) (x : Fld) : k'1p n (l ++ [x]) = if x.num = n then (if ((sel n l).all fun y => txt y.s) && txt x.s then some x.s else none) else k'1p n l := by
 unfold k'1p
 rw [k'i, List.all_append, k'0]
 by_cases h : x.num = n
 ·rw [if_pos h, if_pos h, show sel n [x] = [x] by unfold sel; simp [h]]; simp
 ·rw [if_neg h, if_neg h, show sel n [x] = [] by unfold sel; simp [h]]; simp
theorem textO_all {n : Nat} {l : List Fld} {a : List UInt8} (h : k'1p n l = some a) : ((sel n l).all fun y => txt y.s) = true := by
 unfold k'1p at h
 split at h
 ·assumption
 ·simp at h
theorem textO_in {n : Nat} {l : List Fld} {a : List UInt8} {x : Fld} (h : k'1p n l = some a) (hn : x.num = n) (ht : txt x.s = true) : k'1p n (l ++ [x]) = some x.s := by
 rw [textO_snoc, if_pos hn, textO_all h, ht]; rfl
theorem k'1d {n : Nat} {l : List Fld} {a : List UInt8} {x : Fld} (h : k'1p n l = some a) (hn : x.num ≠ n) : k'1p n (l ++ [x]) = some a := by
 rw [textO_snoc, if_neg hn]; exact h
theorem textO_bad {n : Nat} {l : List Fld} {x : Fld} (hn : x.num = n) (ht : txt x.s = false) : k'1p n (l ++ [x]) = none := by
 rw [textO_snoc, if_pos hn, ht, Bool.and_false]; rfl
theorem textO_cut {n : Nat} {tb : Nat → Nat → Bool} {l : List Fld} (i : Nat) (h : k'1p n (k'1 tb (l.take i)) = none) : k'1p n (k'1 tb l) = none := by
 have e : k'1 tb l = k'1 tb (l.take i) ++ k'1 tb (l.drop i) := by
  unfold k'1; rw [← List.filter_append, List.take_append_drop]
 unfold k'1p at h ⊢
 rw [e, k'i, List.all_append]
 split at h
 ·simp at h
 ·rename_i h0
  rw [Bool.not_eq_true] at h0
  rw [h0, Bool.false_and]; rfl
theorem one_in : ∀ l : List Fld, (oneF onNs l).num = 0 ∨ onNs.contains (oneF onNs l).num = true := by
 have key : ∀ (l : List Fld) (o : OneS), o.num = 0 ∨ onNs.contains o.num = true → (l.foldl (k'm onNs) o).num = 0 ∨ onNs.contains (l.foldl (k'm onNs) o).num = true := by
  intro l
  induction l with
  | nil => intro o h; exact h
  | cons x l ih =>
   intro o h
   refine ih _ ?_
   unfold k'm
   split
   ·rename_i hc
    split <;> exact .inr hc
   ·exact h
 exact fun l => key l noOne (.inl rfl)
theorem kindK_zero {n : Nat} (h : n = 0 ∨ onNs.contains n = true) : k'3m n = 0 ↔ n = 0 := by
 rcases h with rfl | h
 ·simp [k'3m]
 ·obtain ⟨⟨h1, h2⟩, h3⟩ := kindK_ok h
  constructor
  ·intro e; omega
  ·intro e; subst e; simp [onNs] at h
def RE_Me (d : Int) (l : List Fld) (b : Me) (p : List UInt8) : Prop := k'1p 1 (k'1 tbM l) = some b.name ∧ k'1p 2 (k'1 tbM l) = some b.desc ∧ k'1p 3 (k'1 tbM l) = some b.unit ∧ b.kind = k'3m (oneF onNs (k'1 tbM l)).num ∧ p = (oneF onNs (k'1 tbM l)).all.flatten ∧ b.dat = noIn ∧ k'7 (fun s => okK s (d - 1)) 12 (k'1 tbM l) = some b.mets ∧ b.mets.length ≤ (k'1 tbM l).length ∧ b.u = unkL tbM l
theorem one_out {l : List Fld} {x : Fld} (h : onNs.contains x.num = false) : oneF onNs (l ++ [x]) = oneF onNs l := by
 rw [oneF_snoc]; unfold k'm; rw [h]; rfl
theorem RE_Me_unk {d : Int} {l : List Fld} {b : Me} {x : Fld} {p : List UInt8} (h : RE_Me d l b p) (hx : tbM x.num x.kind = false) : RE_Me d (l ++ [x]) { b with u := b.u ++ x.raw } p := by
 obtain ⟨h1, h2, h3, h4, h5, h6, h7, h8, h9⟩ := h
 have e1 : k'1 tbM (l ++ [x]) = k'1 tbM l := by rw [k'4, show isT tbM x = false from hx]; simp
 have e2 : unkL tbM (l ++ [x]) = unkL tbM l ++ x.raw := by rw [k'6, show isT tbM x = false from hx]; rfl
 unfold RE_Me
 rw [e1, e2]
 exact ⟨h1, h2, h3, h4, h5, h6, h7, h8, by rw [← h9]⟩
theorem RE_Me_k {l : List Fld} {x : Fld} (hx : tbM x.num x.kind = true) : k'1 tbM (l ++ [x]) = k'1 tbM l ++ [x] ∧ unkL tbM (l ++ [x]) = unkL tbM l := by
 refine ⟨?_, ?_⟩
 ·rw [k'4, show isT tbM x = true from hx]; rfl
 ·rw [k'6, show isT tbM x = true from hx]; simp
section
variable {d : Int} {l : List Fld} {b : Me} {x : Fld} {p : List UInt8} (h : RE_Me d l b p) (hx : tbM x.num x.kind = true)
include h hx
theorem RE_Me_1 (hn : x.num = 1) (ht : txt x.s = true) : RE_Me d (l ++ [x]) { b with name := x.s } p := by
 obtain ⟨e1, e2⟩ := RE_Me_k (l := l) hx
 obtain ⟨h1, h2, h3, h4, h5, h6, h7, h8, h9⟩ := h
 unfold RE_Me
 rw [e1, e2, one_out (by rw [hn]; rfl)]
 exact ⟨textO_in h1 hn ht, k'1d h2 (by omega), k'1d h3 (by omega), h4, h5, h6, by rw [k'2 h7, if_neg (by omega)], by simp; omega, h9⟩
theorem RE_Me_2 (hn : x.num = 2) (ht : txt x.s = true) : RE_Me d (l ++ [x]) { b with desc := x.s } p := by
 obtain ⟨e1, e2⟩ := RE_Me_k (l := l) hx
 obtain ⟨h1, h2, h3, h4, h5, h6, h7, h8, h9⟩ := h
 unfold RE_Me
 rw [e1, e2, one_out (by rw [hn]; rfl)]
 exact ⟨k'1d h1 (by omega), textO_in h2 hn ht, k'1d h3 (by omega), h4, h5, h6, by rw [k'2 h7, if_neg (by omega)], by simp; omega, h9⟩
theorem RE_Me_3 (hn : x.num = 3) (ht : txt x.s = true) : RE_Me d (l ++ [x]) { b with unit := x.s } p := by
 obtain ⟨e1, e2⟩ := RE_Me_k (l := l) hx
 obtain ⟨h1, h2, h3, h4, h5, h6, h7, h8, h9⟩ := h
 unfold RE_Me
 rw [e1, e2, one_out (by rw [hn]; rfl)]
 exact ⟨k'1d h1 (by omega), k'1d h2 (by omega), textO_in h3 hn ht, h4, h5, h6, by rw [k'2 h7, if_neg (by omega)], by simp; omega, h9⟩
theorem RE_Me_12 {v : Kv} (hv : okK x.s (d - 1) = some v) (hn : x.num = 12) : RE_Me d (l ++ [x]) { b with mets := b.mets ++ [v] } p := by
 obtain ⟨e1, e2⟩ := RE_Me_k (l := l) hx
 obtain ⟨h1, h2, h3, h4, h5, h6, h7, h8, h9⟩ := h
 unfold RE_Me
 rw [e1, e2, one_out (by rw [hn]; rfl)]
 exact ⟨k'1d h1 (by omega), k'1d h2 (by omega), k'1d h3 (by omega), h4, h5, h6, by rw [k'2 h7, if_pos hn, hv], by simp; omega, h9⟩
theorem RE_Me_on (hn : onNs.contains x.num = true) : RE_Me d (l ++ [x]) { b with kind := k'3m x.num } (if b.kind = k'3m x.num then p ++ x.s else x.s) := by
 obtain ⟨e1, e2⟩ := RE_Me_k (l := l) hx
 obtain ⟨h1, h2, h3, h4, h5, h6, h7, h8, h9⟩ := h
 have hne : x.num ≠ 1 ∧ x.num ≠ 2 ∧ x.num ≠ 3 ∧ x.num ≠ 12 := by
  have : x.num = 5 ∨ x.num = 7 ∨ x.num = 9 ∨ x.num = 10 ∨ x.num = 11 := by simpa [onNs] using hn
  omega
 have hi := one_in (k'1 tbM l)
 have hk : b.kind = k'3m x.num ↔ x.num = (oneF onNs (k'1 tbM l)).num := by
  rw [h4]
  obtain ⟨⟨q1, q2⟩, q3⟩ := kindK_ok hn
  constructor
  ·intro e
   rcases hi with h0 | h0
   ·rw [h0] at e; simp [k'3m] at e; simp [k'3m] at q1; omega
   ·obtain ⟨-, q4⟩ := kindK_ok h0
    rw [← q3, ← q4, e]
  ·intro e; rw [e]
 have ho : oneF onNs (k'1 tbM l ++ [x]) = if x.num = (oneF onNs (k'1 tbM l)).num then ⟨x.num, x.n, x.s, (oneF onNs (k'1 tbM l)).all ++ [x.s]⟩ else ⟨x.num, x.n, x.s, [x.s]⟩ := by
  rw [oneF_snoc]; unfold k'm; rw [if_pos hn]
 unfold RE_Me
 rw [e1, e2, ho]
 by_cases he : x.num = (oneF onNs (k'1 tbM l)).num
 ·rw [if_pos he, if_pos (hk.2 he)]
  exact ⟨k'1d h1 hne.1, k'1d h2 hne.2.1, k'1d h3 hne.2.2.1, rfl, by rw [h5]; simp, h6, by rw [k'2 h7, if_neg hne.2.2.2], by simp; omega, h9⟩
 ·rw [if_neg he, if_neg (fun e => he (hk.1 e))]
  exact ⟨k'1d h1 hne.1, k'1d h2 hne.2.1, k'1d h3 hne.2.2.1, rfl, by simp, h6, by rw [k'2 h7, if_neg hne.2.2.2], by simp; omega, h9⟩
end
def endMe (d : Int) (b : Me) (p : List UInt8) : Option Me := if b.kind = 0 then some b else match okI b.kind p (d - 1) with | none => none | some x => some { b with dat := x }
theorem RE_Me_fin {d : Int} {l : List Fld} {b : Me} {p : List UInt8} (h : RE_Me d l b p) : (k'44 d (k'1 tbM l)).map (fun f => f (unkL tbM l)) = endMe d b p := by
 obtain ⟨h1, h2, h3, h4, h5, h6, h7, h8, h9⟩ := h
 obtain ⟨name, desc, unit, kind, dat, mets, u⟩ := b
 dsimp only at *
 subst h4 h5 h6 h9
 have hz := kindK_zero (one_in (k'1 tbM l))
 unfold k'44 onO endMe
 simp only [h1, h2, h3, h7]
 by_cases h0 : (oneF onNs (k'1 tbM l)).num = 0
 ·rw [if_pos h0, if_pos (hz.2 h0)]
  simp only [Option.map_some]
  rw [hz.2 h0]
 ·rw [if_neg h0, if_neg (fun e => h0 (hz.1 e))]
  cases okI (k'3m (oneF onNs (k'1 tbM l)).num) (oneF onNs (k'1 tbM l)).all.flatten (d - 1) <;> rfl
theorem tellMe_no_1 {d : Int} {l : List Fld} (h : k'1p 1 (k'1 tbM l) = none) : (k'44 d (k'1 tbM l)).map (fun f => f (unkL tbM l)) = none := by
 unfold k'44; rw [h]; rfl
theorem tellMe_no_2 {d : Int} {l : List Fld} (h : k'1p 2 (k'1 tbM l) = none) : (k'44 d (k'1 tbM l)).map (fun f => f (unkL tbM l)) = none := by
 unfold k'44; rw [h]; (repeat' split) <;> first | rfl | simp_all
theorem tellMe_no_3 {d : Int} {l : List Fld} (h : k'1p 3 (k'1 tbM l) = none) : (k'44 d (k'1 tbM l)).map (fun f => f (unkL tbM l)) = none := by
 unfold k'44; rw [h]; (repeat' split) <;> first | rfl | simp_all
theorem tellMe_no_12 {d : Int} {l : List Fld} (h : k'7 (fun s => okK s (d - 1)) 12 (k'1 tbM l) = none) : (k'44 d (k'1 tbM l)).map (fun f => f (unkL tbM l)) = none := by
 unfold k'44; rw [h]; (repeat' split) <;> first | rfl | simp_all
theorem tbM_num {n k : Nat} (hk : k < 8) (h : tbM n k = true) : n = 1 ∨ n = 2 ∨ n = 3 ∨ n = 12 ∨ onNs.contains n = true := by
 by_cases hn : n < 13
 ·have := (by decide : ∀ n < 13, ∀ k < 8, tbM n k = true → [1, 2, 3, 5, 7, 9, 10, 11, 12].contains n = true) n hn k hk h
  simp [onNs] at this ⊢
  omega
 ·exfalso
  have : k'3m n = 0 := by unfold k'3m; rw [if_neg (by omega), if_neg (by omega), if_neg (by omega), if_neg (by omega), if_neg (by omega)]
  unfold tbM at h
  rw [this] at h
  simp at h
  omega
end
section
theorem tbG_num {n k : Nat} (hk : k < 8) (h : tbG n k = true) : n = 1 ∨ n = 2 := by
 by_cases hn : n < 3
 ·have := (by decide : ∀ n < 3, ∀ k < 8, tbG n k = true → [1, 2].contains n = true) n hn k hk h
  simp at this
  omega
 ·rw [tbG_big (by omega)] at h; simp at h
def RE_Qu (l : List Fld) (b : Qu) : Prop := b.q = (k'a (k'1 tbG l) 1).n ∧ b.v = (k'a (k'1 tbG l) 2).n ∧ b.u = unkL tbG l
theorem RE_Qu_unk {l : List Fld} {b : Qu} {x : Fld} (h : RE_Qu l b) (hx : tbG x.num x.kind = false) : RE_Qu (l ++ [x]) { b with u := b.u ++ x.raw } := by
 obtain ⟨h1, h2, h3⟩ := h
 have e1 : k'1 tbG (l ++ [x]) = k'1 tbG l := by rw [k'4, show isT tbG x = false from hx]; simp
 have e2 : unkL tbG (l ++ [x]) = unkL tbG l ++ x.raw := by rw [k'6, show isT tbG x = false from hx]; rfl
 unfold RE_Qu
 rw [e1, e2]
 exact ⟨h1, h2, by rw [← h3]⟩
theorem RE_Qu_in {l : List Fld} {b : Qu} {x : Fld} (h : RE_Qu l b) (hx : tbG x.num x.kind = true) : RE_Qu (l ++ [x]) (if x.num = 1 then { b with q := x.n } else if x.num = 2 then { b with v := x.n } else b) := by
 obtain ⟨h1, h2, h3⟩ := h
 have e1 : k'1 tbG (l ++ [x]) = k'1 tbG l ++ [x] := by rw [k'4, show isT tbG x = true from hx]; rfl
 have e2 : unkL tbG (l ++ [x]) = unkL tbG l := by rw [k'6, show isT tbG x = true from hx]; simp
 unfold RE_Qu
 rw [e1, e2, k'0, k'0]
 by_cases k1 : x.num = 1
 ·rw [if_pos k1, if_pos k1, if_neg (by omega)]; exact ⟨rfl, h2, h3⟩
 ·rw [if_neg k1, if_neg k1]
  by_cases k2 : x.num = 2
  ·rw [if_pos k2, if_pos k2]; exact ⟨h1, rfl, h3⟩
  ·rw [if_neg k2, if_neg k2]; exact ⟨h1, h2, h3⟩
theorem RE_Qu_fin {d : Int} {l : List Fld} {b : Qu} (h : RE_Qu l b) : (tellQu d (k'1 tbG l)).map (fun f => f (unkL tbG l)) = some b := by
 obtain ⟨h1, h2, h3⟩ := h
 obtain ⟨q, v, u⟩ := b
 dsimp only at *
 subst h1 h2 h3
 rfl
def QuC (b : Qu) : List T := [uT b.q, uT b.v, sT b.u]
def rQuT (o : Option Qu) : T := match o with | some v => .tup [.d v.d, .d (.bool true)] | none => .tup [.d noQu.d, .d (.bool false)]
theorem ReadQu_calls (s : List UInt8) (d : Int) (hl : s.length < big) (hd1 : -9223372036854775808 ≤ d) (hd2 : d < 9223372036854775808) : k'5 (cx B) 199 [sT s, .d (.int .i64 d)] [] (rQuT (okQu s d)) [] := by
 have h1 := k'v B s d hl hd1 hd2
 have hl' := hl
 unfold big at hl'
 unfold okQu
 rw [okG_L]
 unfold k'2l at h1
 cases ho : okL s d with
 | none =>
  rw [ho] at h1
  dsimp only at h1 ⊢
  unfold rQuT
  refine l_bw Tryz.func199 0 [] ?_
  refine l_cw [] (h1) rfl rfl rfl ?_
  refine k'y (fun _ : Unit => 0) (fun _ => [(4, .ptr 0 0), (5, .d (.bool false)), (6, .d (.sl true [])), (7, .d (.bool false)), (8, .ptr 1 0), (9, iT 0)]) (fun _ => [.mu (noQu.d.cells.map T.d), .mu (noQu.d.cells.map T.d)]) (fun _ => True) () trivial ⟨rfl, rfl, rfl, rfl, rfl, rfl, trivial⟩ rfl 2 rfl (fun _ => rfl) (fun _ => rfl) (fun _ => rfl) ?_
  intro _ _
  exact O
 | some l =>
  rw [ho] at h1
  obtain ⟨w1, w2⟩ := k'47 ho
  dsimp only at h1 ⊢
  have hlen : (l.map Fld.d).length = l.length := by simp
  have hlok : LOk l := ⟨w2, by unfold big; omega⟩
  have hlb := hlok.len
  refine l_bw Tryz.func199 0 [] ?_
  refine l_cw [] (h1) rfl rfl rfl ?_
  refine k'y (fun y : Nat × Qu => l.length - y.1) (fun y => [(4, .ptr 0 0), (5, .d (.bool false)), (6, .d (slD (l.map Fld.d))), (7, .d (.bool true)), (8, .ptr 1 0), (9, iT y.1)])
   (fun y => [.mu (noQu.d.cells.map T.d), .mu (QuC y.2)])
   (fun y => y.1 ≤ l.length ∧ RE_Qu (l.take y.1) y.2) (0, noQu)
   ⟨by omega, by rw [List.take_zero]; exact ⟨rfl, rfl, rfl⟩⟩ ⟨rfl, rfl, rfl, rfl, rfl, rfl, trivial⟩ rfl 2 rfl (fun _ => rfl) (fun _ => rfl) (fun _ => rfl) ?_
  rintro ⟨i, b⟩ ⟨i1, hre⟩
  dsimp only at i1 hre ⊢
  by_cases hlt : i < l.length
  ·obtain ⟨x, hx⟩ : ∃ x, l[i]? = some x := ⟨_, List.getElem?_eq_getElem hlt⟩
   have hdx : (l.map Fld.d)[i]? = some x.d := by rw [List.getElem?_map, hx]; rfl
   have htk : l.take (i + 1) = l.take i ++ [x] := by rw [List.take_add_one, hx]; rfl
   obtain ⟨hfx, hwx⟩ := k'1x hlok hx
   have hwt := k'1u l i
   have hul : b.u.length ≤ wt (l.take i) := by rw [hre.2.2]; exact k'1y _ _
   have ht := k'14 B [9, 17] x (by decide) (by intro t ht; simp at ht; omega)
   rw [tk_Qu _ _ hfx.kind] at ht
   refine Z ?_
   rw [hlen, show decide ((i : Int) < l.length) = true from decide_eq_true (by omega)]
   refine Z ?_
   refine x_cw [] (tabQu_calls B) rfl rfl rfl ?_
   refine k'35 (.indexAddr (k := .i64) (n := i) (es := l.map Fld.d) (u := x.d) rfl rfl rfl rfl (.inl ⟨_, rfl⟩) rfl (by omega) (by simpa using hdx) rfl (by decide)) rfl rfl rfl ?_
   refine Z ?_
   refine x_cw [] (ht) rfl rfl rfl ?_
   cases hb : tbG x.num x.kind
   ·have hk := RE_Qu_unk hre hb
    rw [← htk] at hk
    refine Z ?_
    refine k'35 (.indexAddr (k := .i64) (n := i) (es := l.map Fld.d) (u := x.d) rfl rfl rfl rfl (.inl ⟨_, rfl⟩) rfl (by omega) (by simpa using hdx) rfl (by decide)) rfl rfl rfl ?_
    refine Z ?_
    refine k'35 (.addStr rfl rfl rfl (by omega)) rfl rfl rfl ?_
    refine Z ?_
    rw [wS i (by omega)]
    exact ⟨(i + 1, { b with u := b.u ++ x.raw }), by show l.length - (i + 1) < _; omega, ⟨by show i + 1 ≤ _; omega, hk⟩, ⟨rfl, rfl, rfl, rfl, rfl, rfl, trivial⟩, rfl, k'g rfl⟩
   have hnum := tbG_num hfx.kind hb
   have hk := RE_Qu_in hre hb
   rw [← htk] at hk
   obtain ⟨xn, xk, xv, xs, xr⟩ := x
   dsimp only at *
   refine Z ?_
   refine k'3 (.indexAddr (k := .i64) (n := i) (es := l.map Fld.d) (u := Fld.d ⟨xn, xk, xv, xs, xr⟩) rfl rfl rfl rfl (.inl ⟨_, rfl⟩) rfl (by omega) (by simpa using hdx) rfl (by decide)) rfl rfl ?_
   refine Z ?_
   rcases hnum with rfl | rfl
   ·rw [if_pos rfl] at hk
    refine Z ?_
    refine k'3 (.indexAddr (k := .i64) (n := i) (es := l.map Fld.d) (u := Fld.d ⟨1, xk, xv, xs, xr⟩) rfl rfl rfl rfl (.inl ⟨_, rfl⟩) rfl (by omega) (by simpa using hdx) rfl (by decide)) rfl rfl ?_
    refine Z ?_
    rw [wS i (by omega)]
    exact ⟨(i + 1, { b with q := xv }), by show l.length - (i + 1) < _; omega, ⟨by show i + 1 ≤ _; omega, hk⟩, ⟨rfl, rfl, rfl, rfl, rfl, rfl, trivial⟩, rfl, k'g rfl⟩
   ·rw [if_neg (by decide), if_pos rfl] at hk
    refine Z ?_
    refine k'3 (.indexAddr (k := .i64) (n := i) (es := l.map Fld.d) (u := Fld.d ⟨2, xk, xv, xs, xr⟩) rfl rfl rfl rfl (.inl ⟨_, rfl⟩) rfl (by omega) (by simpa using hdx) rfl (by decide)) rfl rfl ?_
    refine Z ?_
    rw [wS i (by omega)]
    exact ⟨(i + 1, { b with v := xv }), by show l.length - (i + 1) < _; omega, ⟨by show i + 1 ≤ _; omega, hk⟩, ⟨rfl, rfl, rfl, rfl, rfl, rfl, trivial⟩, rfl, k'g rfl⟩
  ·have he : i = l.length := by omega
   subst he
   rw [List.take_length] at hre
   rw [RE_Qu_fin hre]
   unfold rQuT
   refine Z ?_
   rw [hlen, show decide ((l.length : Int) < l.length) = false from decide_eq_false (by omega)]
   exact O
end
