/- Responses: may they be, written, read. -/
import Derived.Test.YtcfkbpddmdfbaaaGreatDoorBB
import Derived.KernelRfl
import Derived.Test.YtcfkbpddmdfbaaaGreatDoorPAB
set_option linter.unusedSimpArgs false
set_option linter.unusedVariables false
set_option maxRecDepth 100000
namespace Go.Proofs.YtcfkbpddmdfbaaaGreatDoor
open Go Go.Abs
variable (B : Fr)
section
structure Sx where
 rej : Int
 msg : List UInt8
 u : List UInt8
def noSx : Sx := ⟨0, [], []⟩
def tbAns (n k : Nat) : Bool := (n == 1 && k == 0) || (n == 2 && k == 2)
def Sx.hb (x : Sx) : List UInt8 := vrV 1 (k'45 x.rej) ++ txV 2 x.msg
def Sx.hF (x : Sx) : List Fld := vrF 1 (k'45 x.rej) ++ txF 2 x.msg
def Sx.mar (x : Sx) : List UInt8 := x.hb ++ x.u
def Sx.wf (x : Sx) : Prop := -9223372036854775808 ≤ x.rej ∧ x.rej < 9223372036854775808
def Sx.sz (x : Sx) : Nat := 300 + x.msg.length + x.u.length
def Sx.may (x : Sx) (d : Int) : Bool := decide (0 ≤ d) && txt x.msg && k'1a tbAns x.u d
def Sx.eq (x y : Sx) : Bool := x.rej == y.rej && x.msg == y.msg && x.u == y.u
theorem tempN_lt64 {t : Int} (h1 : -9223372036854775808 ≤ t) (h2 : t < 9223372036854775808) : k'45 t < 2 ^ 64 := by unfold k'45; split <;> omega
theorem Sx.len (x : Sx) : x.mar.length + 20 ≤ x.sz := by
 have q0 := k'3d 1 (k'45 x.rej)
 have q1 := k'3m 2 x.msg
 unfold Sx.mar Sx.hb Sx.sz
 simp only [List.length_append]
 omega
theorem Sx.none (x : Sx) (h : x.eq noSx = true) : x = noSx := by
 obtain ⟨r, m, u⟩ := x
 unfold Sx.eq noSx at h
 simp at h
 obtain ⟨⟨rfl, rfl⟩, rfl⟩ := h
 rfl
def sxM : Ms Sx := ⟨Sx.mar, Sx.may, Sx.wf, Sx.sz, 400, noSx, Sx.eq, Sx.len, fun x => by unfold Sx.eq; simp, Sx.none, ⟨by decide, by decide⟩, by decide⟩
structure Rp where
 has : Bool
 p : Sx
 u : List UInt8
def Rp.mar (x : Rp) : List UInt8 := pV sxM 1 x.has x.p ++ x.u
def Rp.wf (x : Rp) : Prop := x.p.wf
def Rp.sz (x : Rp) : Nat := 300 + x.p.sz + x.u.length
def Rp.may (x : Rp) : Bool := mayP sxM x.has x.p 31 && k'1a tb1 x.u 32
def Rp.eq (x y : Rp) : Bool := x.has == y.has && (x.p.rej == y.p.rej && (x.p.msg == y.p.msg && (x.p.u == y.p.u && x.u == y.u)))
theorem Rp.eq_self (x : Rp) : x.eq x = true := by unfold Rp.eq; simp
theorem Rp.mar_len (x : Rp) : x.mar.length + 20 ≤ x.sz := by
 have q1 := pV_len sxM 1 x.has x.p
 unfold Rp.mar Rp.sz
 change _ ≤ x.p.sz at q1
 simp only [List.length_append]
 omega
def Rp.d (x : Rp) : D := .agg [.bool x.has, .int .i64 x.p.rej, .str x.p.msg, .str x.p.u, .str x.u]
theorem tbAns_calls (n k : Nat) : k'0 (cx B) 53 [iT n, iT k] [] (.d (.bool (tbAns n k))) [] := by
 rw [show tbAns n k = ((((n : Int) == 1) && ((k : Int) == 0)) || (((n : Int) == 2) && ((k : Int) == 2))) by unfold tbAns; rw [show ((k : Int) == 2) = (k == 2) from ibeq k 2, show ((k : Int) == 0) = (k == 0) from ibeq k 0, show ((n : Int) == 1) = (n == 1) from ibeq n 1, show ((n : Int) == 2) = (n == 2) from ibeq n 2]]
 refine l_bw Tryz.func53 0 [] ?_
 cases e1 : ((n : Int) == 1)
 ·refine Y ?_
  cases e2 : ((n : Int) == 2)
  ·exact Z
  exact Z
 have e2 : ((n : Int) == 2) = false := by have := eq_of_beq e1; simp; omega
 rw [e2]
 refine Y ?_
 cases e3 : ((k : Int) == 0)
 ·refine Y ?_
  rw [e2]
  exact Z
 exact Z
theorem k'4i (x : Rp) (hbig : x.sz < big) : k'0 (cx B) 17 [.d x.d] [] (.d (.bool x.may)) [] := by
 unfold Rp.sz Sx.sz at hbig
 have c_t := k'1g B x.p.msg (by omega)
 have c_i := k'o B 53 tbAns (tbAns_calls B) x.p.u 31 (by omega) (by omega) (by omega)
 have c_u := k'o B 48 tb1 (tb1_calls B) x.u 32 (by omega) (by omega) (by omega)
 unfold Rp.may Rp.d
 by_cases hb : x.has = false ∧ x.p.eq noSx = false
 ·rw [show mayP sxM x.has x.p 31 = false by unfold mayP; rw [hb.1]; exact hb.2, Bool.false_and, hb.1]
  have hn := hb.2
  unfold Sx.eq noSx at hn
  refine l_bw Tryz.func17 0 [] ?_
  cases e1 : (x.p.rej != 0)
  rotate_left
  ·exact Z
  refine Y ?_
  rw [show x.p.rej = 0 by simpa using e1] at hn
  simp only [beq_self_eq_true, Bool.true_and] at hn
  cases e2 : (x.p.msg == [])
  ·exact Z
  rw [e2, Bool.true_and] at hn
  refine Y ?_
  rw [hn]
  exact Z
 ·have hm : mayP sxM x.has x.p 31 = (txt x.p.msg && k'1a tbAns x.p.u 31) := by
   unfold mayP
   cases hh : x.has with
   | true => rfl
   | false =>
    have h0 : x.p.eq noSx = true := by
     cases h1 : x.p.eq noSx with
     | true => rfl
     | false => exact absurd ⟨hh, h1⟩ hb
    have := Sx.none _ h0
    rw [this]
    rfl
  rw [hm]
  clear hm
  have key : k'0 (cx B) 17 [.d (.agg [.bool x.has, .int .i64 x.p.rej, .str x.p.msg, .str x.p.u, .str x.u])] [] (.d (.bool (txt x.p.msg && (k'1a tbAns x.p.u 31 && k'1a tb1 x.u 32)))) [] := by
   have tail : ∀ b : Bool, b = x.has → (b = false → x.p.rej = 0 ∧ x.p.msg = [] ∧ x.p.u = []) := fun b e h => by
    subst e
    have h0 : x.p.eq noSx = true := by
     cases h1 : x.p.eq noSx with
     | true => rfl
     | false => exact absurd ⟨h, h1⟩ hb
    have := Sx.none _ h0
    rw [this]
    exact ⟨rfl, rfl, rfl⟩
   clear hb
   generalize k'1a tbAns x.p.u 31 = r1 at *
   generalize k'1a tb1 x.u 32 = r2 at *
   generalize txt x.p.msg = r0 at *
   cases hh : x.has
   rotate_left
   ·refine l_bw Tryz.func17 0 [] ?_
    refine l_cw [] (c_t) rfl rfl rfl ?_
    cases r0
    ·exact Z
    refine Y ?_
    refine k'23 [] (c_i) rfl rfl rfl rfl rfl ?_
    cases r1
    ·exact Z
    refine Y ?_
    refine k'a [] (c_u) rfl rfl rfl rfl rfl ?_
    exact Z
   obtain ⟨e1, e2, e3⟩ := tail false hh.symm rfl
   rw [e1, e2, e3]
   rw [e2] at c_t
   rw [e3] at c_i
   refine l_bw Tryz.func17 0 [] ?_
   refine l_cw [] (c_t) rfl rfl rfl ?_
   cases r0
   ·exact Z
   refine Y ?_
   refine k'23 [] (c_i) rfl rfl rfl rfl rfl ?_
   cases r1
   ·exact Z
   refine Y ?_
   refine k'a [] (c_u) rfl rfl rfl rfl rfl ?_
   exact Z
  rw [Bool.and_assoc]
  exact key
theorem Answer_calls (x : Rp) (hbig : x.sz < big) (hwf : x.wf) : k'0 (cx B) 12 [.d x.d] [] (if x.may then (if tooB x.mar then .tup [sT [], .d (Er.code 7).d] else .tup [sT x.mar, .d .nili]) else .tup [sT [], .d (Er.code 8).d]) [] := by
 have cm := k'4i B x hbig
 have hl0 := x.p.len
 have hl1 := x.mar_len
 have cb := bound_calls B x.mar
 unfold Rp.sz at hbig hl1
 unfold Rp.d at *
 cases hm : x.may
 ·rw [hm] at cm
  refine l_bw Tryz.func12 0 [] ?_
  refine k'2 [] (cm) rfl rfl rfl ?_
  exact Z
 rw [hm] at cm
 simp only [if_true]
 have fin : ∀ y : List UInt8, y = x.mar → k'0 (cx B) 34 [sT y] [] (.d (if tooB x.mar then (Er.code 7).d else .nili)) [] := fun y e => e ▸ cb
 clear cb
 cases hh : x.has
 ·have e : x.u = x.mar := by unfold Rp.mar pV; rw [hh]; rfl
  obtain ⟨cu, cs⟩ := k'21 B (s := x.u) k'1z (l := []) (by simp only [List.length_nil]; omega)
  rw [List.nil_append, e] at cu cs
  have cb := fin _ rfl
  rw [hh] at cm
  rw [e] at cm ⊢
  generalize x.mar = s at *
  by_cases ht : tooB s
  ·rw [if_pos ht] at cb ⊢
   refine l_bw Tryz.func12 0 [] ?_
   refine l_cw [] (cm) rfl rfl rfl ?_
   refine l_wr [1] (cu) k'1z (.inl rfl) ?_
   refine l_ws [1] (cs) (.inl rfl) ?_
   refine k'2 [] (cb) rfl rfl rfl ?_
   exact Z
  ·rw [if_neg ht] at cb ⊢
   refine l_bw Tryz.func12 0 [] ?_
   refine l_cw [] (cm) rfl rfl rfl ?_
   refine l_wr [1] (cu) k'1z (.inl rfl) ?_
   refine l_ws [1] (cs) (.inl rfl) ?_
   refine k'2 [] (cb) rfl rfl rfl ?_
   exact Z
 have e : paV 1 x.p.mar ++ x.u = x.mar := by unfold Rp.mar pV; rw [hh]; rfl
 have hle := paV_ge 1 x.p.mar
 rw [← e, List.length_append] at hl1
 have em : x.p.mar = vrV 1 (k'45 x.p.rej) ++ txV 2 x.p.msg ++ x.p.u := rfl
 rw [em, List.length_append, List.length_append] at hl0
 unfold Sx.sz at hbig hl0 hl1
 obtain ⟨b0, hb0, d0⟩ := wr_var B 1 (k'45 x.p.rej) (by omega) (by omega) (tempN_lt64 hwf.1 hwf.2) (.nw 71 2) [] k'1z (by simp only [List.length_nil]; omega)
 rw [List.nil_append] at d0
 obtain ⟨b1, hb1, d1⟩ := k'24 B 2 x.p.msg (by omega) (by omega) b0 (vrV 1 (k'45 x.p.rej)) hb0 (by omega)
 obtain ⟨du, ds⟩ := k'21 B (s := x.p.u) hb1 (l := vrV 1 (k'45 x.p.rej) ++ txV 2 x.p.msg) (by simp only [List.length_append]; omega)
 rw [← em] at du ds
 obtain ⟨a0, ha0, c0⟩ := k'4a B 1 x.p.mar (by omega) (by omega) (.nw 71 2) [] k'1z (by simp only [List.length_nil]; omega)
 rw [List.nil_append] at c0
 obtain ⟨cu, cs⟩ := k'21 B (s := x.u) ha0 (l := paV 1 x.p.mar) (by omega)
 rw [e] at cu cs
 have cb := fin _ rfl
 rw [hh] at cm
 have hr : IntKind.u64.wrap x.p.rej = (k'45 x.p.rej : Int) := by
  have := hwf
  unfold Rp.wf Sx.wf at this
  unfold k'45
  rw [IntKind.wrap_u64]
  split <;> omega
 clear fin hl0 hl1 em hle e
 generalize vrV 1 (k'45 x.p.rej) ++ txV 2 x.p.msg = o2 at *
 generalize vrV 1 (k'45 x.p.rej) = o1 at *
 generalize paV 1 x.p.mar = o3 at *
 generalize x.p.mar = o4 at *
 generalize x.mar = s at *
 by_cases ht : tooB s
 ·rw [if_pos ht] at cb ⊢
  refine l_bw Tryz.func12 0 [] ?_
  refine l_cw [] (cm) rfl rfl rfl ?_
  rw [hr]
  refine l_wr [2] (d0) k'1z hb0 ?_
  refine l_wr [2] (d1) hb0 hb1 ?_
  refine l_wr [2] (du) hb1 (.inl rfl) ?_
  refine l_ws [2] (ds) (.inl rfl) ?_
  refine l_wr [1] (c0) k'1z ha0 ?_
  refine l_wr [1] (cu) ha0 (.inl rfl) ?_
  refine l_ws [1] (cs) (.inl rfl) ?_
  refine k'2 [] (cb) rfl rfl rfl ?_
  exact Z
 ·rw [if_neg ht] at cb ⊢
  refine l_bw Tryz.func12 0 [] ?_
  refine l_cw [] (cm) rfl rfl rfl ?_
  rw [hr]
  refine l_wr [2] (d0) k'1z hb0 ?_
  refine l_wr [2] (d1) hb0 hb1 ?_
  refine l_wr [2] (du) hb1 (.inl rfl) ?_
  refine l_ws [2] (ds) (.inl rfl) ?_
  refine l_wr [1] (c0) k'1z ha0 ?_
  refine l_wr [1] (cu) ha0 (.inl rfl) ?_
  refine l_ws [1] (cs) (.inl rfl) ?_
  refine k'2 [] (cb) rfl rfl rfl ?_
  exact Z
end
section
theorem firstBt_calls (hB : BOk B) : k'0 (cx B) 8 [] [] (.d (.bool true)) [] := have _ := hB; evF_ok (orB_ok B) 60 _ _ _ _ _ (by kernel_rfl)
end
section
/-! No list and no text is longer than a list can be. -/
mutual
def Vl.ln : Vl → Prop
 | .mk _ s _ _ l m inner u => s.length ≤ 9223372036854775807 ∧ inner.length ≤ 9223372036854775807 ∧ u.length ≤ 9223372036854775807 ∧ l.length ≤ 9223372036854775807 ∧ m.length ≤ 9223372036854775807 ∧ Vl.lns l ∧ Kv.lns m
def Vl.lns : List Vl → Prop
 | [] => True
 | v :: r => v.ln ∧ Vl.lns r
def Kv.ln : Kv → Prop
 | .mk key _ v u => key.length ≤ 9223372036854775807 ∧ u.length ≤ 9223372036854775807 ∧ v.ln
def Kv.lns : List Kv → Prop
 | [] => True
 | k :: r => k.ln ∧ Kv.lns r
end
theorem Vl.ln_mem : ∀ {l : List Vl}, Vl.lns l → ∀ v ∈ l, v.ln
 | x :: l, h, v, hv => by
  rcases List.mem_cons.1 hv with rfl | hv
  ·exact h.1
  ·exact Vl.ln_mem h.2 v hv
theorem Kv.ln_mem : ∀ {l : List Kv}, Kv.lns l → ∀ v ∈ l, v.ln
 | x :: l, h, v, hv => by
  rcases List.mem_cons.1 hv with rfl | hv
  ·exact h.1
  ·exact Kv.ln_mem h.2 v hv
mutual
def roomV : Vl → Int → Int → Int
 | .mk _ s _ _ l m inner u, deep, room => if deep < 0 then -1 else if deep - 1 < 0 ∧ 0 < m.length then -1 else k'3p m (deep - 1) (k'3k l (deep - 1) (k'n (k'n (k'n room s.length) inner.length) u.length))
def k'3k : List Vl → Int → Int → Int
 | [], _, room => room
 | v :: l, deep, room => if room < 0 then room else k'3k l deep (roomV v deep room)
def k'3p : List Kv → Int → Int → Int
 | [], _, room => room
 | .mk key _ v u :: l, deep, room => if room < 0 then room else k'3p l deep (roomV v deep (k'n (k'n room key.length) u.length))
end
def roomK (m : List Kv) (deep room : Int) : Int := if deep < 0 ∧ 0 < m.length then -1 else k'3p m deep room
theorem k'k {room : Int} {n : Nat} (h : -1 ≤ room) : -1 ≤ k'n room n ∧ (0 ≤ k'n room n → k'n room n + n + 20 ≤ room) := by unfold k'n; split <;> omega
mutual
theorem roomV_ok : ∀ (v : Vl) (deep room : Int), -1 ≤ room → -1 ≤ roomV v deep room ∧ (0 ≤ roomV v deep room → roomV v deep room + v.sz ≤ room)
 | .mk kind s b n l m inner u, deep, room, h => by
  obtain ⟨a1, a2⟩ := k'k (n := s.length) h
  obtain ⟨b1, b2⟩ := k'k (n := inner.length) a1
  obtain ⟨c1, c2⟩ := k'k (n := u.length) b1
  obtain ⟨d1, d2⟩ := roomVs_ok l (deep - 1) _ c1
  obtain ⟨e1, e2⟩ := roomKs_ok m (deep - 1) _ d1
  unfold roomV Vl.sz
  split
  ·omega
  ·split
   ·omega
   ·exact ⟨e1, fun h => by have := e2 h; have := d2 (by omega); have := c2 (by omega); have := b2 (by omega); have := a2 (by omega); omega⟩
theorem roomVs_ok : ∀ (l : List Vl) (deep room : Int), -1 ≤ room → -1 ≤ k'3k l deep room ∧ (0 ≤ k'3k l deep room → k'3k l deep room + Vl.szs l ≤ room)
 | [], deep, room, h => by unfold k'3k Vl.szs; omega
 | v :: l, deep, room, h => by
  obtain ⟨a1, a2⟩ := roomV_ok v deep room h
  obtain ⟨b1, b2⟩ := roomVs_ok l deep _ a1
  unfold k'3k Vl.szs
  split
  ·omega
  ·exact ⟨b1, fun h => by have := b2 h; have := a2 (by omega); omega⟩
theorem roomKs_ok : ∀ (l : List Kv) (deep room : Int), -1 ≤ room → -1 ≤ k'3p l deep room ∧ (0 ≤ k'3p l deep room → k'3p l deep room + Kv.szs l ≤ room)
 | [], deep, room, h => by unfold k'3p Kv.szs; omega
 | .mk key has v u :: l, deep, room, h => by
  obtain ⟨k1, k2⟩ := k'k (n := key.length) h
  obtain ⟨u1, u2⟩ := k'k (n := u.length) k1
  obtain ⟨a1, a2⟩ := roomV_ok v deep _ u1
  obtain ⟨b1, b2⟩ := roomKs_ok l deep _ a1
  unfold k'3p Kv.szs Kv.sz
  split
  ·omega
  ·exact ⟨b1, fun h => by have := b2 h; have := a2 (by omega); have := u2 (by omega); have := k2 (by omega); omega⟩
end
theorem k'2f (l : List Kv) (deep room : Int) (h : -1 ≤ room) : -1 ≤ roomK l deep room ∧ (0 ≤ roomK l deep room → roomK l deep room + Kv.szs l ≤ room) := by
 unfold roomK
 split
 ·omega
 ·exact roomKs_ok l deep room h
theorem roomVs_cons (v : Vl) (l : List Vl) (deep room : Int) : k'3k (v :: l) deep room = if room < 0 then room else k'3k l deep (roomV v deep room) := rfl
theorem roomVs_neg {l : List Vl} {deep room : Int} (h : room < 0) : k'3k l deep room = room := by
 cases l with
 | nil => rfl
 | cons v l => unfold k'3k; rw [if_pos h]
theorem roomKs_neg {l : List Kv} {deep room : Int} (h : room < 0) : k'3p l deep room = room := by
 cases l with
 | nil => rfl
 | cons v l => cases v; unfold k'3p; rw [if_pos h]
theorem roomV_lt {v : Vl} {deep room M : Int} (h1 : -1 ≤ room) (h : room < M) (hM : 0 ≤ M) : roomV v deep room < M := by
 obtain ⟨a, b⟩ := roomV_ok v deep room h1
 rcases Int.lt_or_le (roomV v deep room) 0 with g | g
 ·omega
 ·have := b g; omega
theorem roomVs_lt {v : List Vl} {deep room M : Int} (h1 : -1 ≤ room) (h : room < M) (hM : 0 ≤ M) : k'3k v deep room < M := by
 obtain ⟨a, b⟩ := roomVs_ok v deep room h1
 rcases Int.lt_or_le (k'3k v deep room) 0 with g | g
 ·omega
 ·have := b g; omega
theorem roomKs_lt {v : List Kv} {deep room M : Int} (h1 : -1 ≤ room) (h : room < M) (hM : 0 ≤ M) : k'3p v deep room < M := by
 obtain ⟨a, b⟩ := roomKs_ok v deep room h1
 rcases Int.lt_or_le (k'3p v deep room) 0 with g | g
 ·omega
 ·have := b g; omega
theorem roomK_lt {l : List Kv} {deep room M : Int} (h1 : -1 ≤ room) (h : room < M) (hM : 0 ≤ M) : roomK l deep room < M := by
 unfold roomK
 split
 ·omega
 ·exact roomKs_lt h1 h hM
theorem k'2m {α : Type} {l : List α} {i : Nat} {x : α} (h : l[i]? = some x) : l.drop i = x :: l.drop (i + 1) := by
 obtain ⟨hi, e⟩ := List.getElem?_eq_some_iff.1 h
 rw [List.drop_eq_getElem_cons hi, e]
theorem Vl.Rs_at {l : List Vl} {xs : List D} (h : Vl.Rs l xs) {i : Nat} {x : D} (hx : xs[i]? = some x) : ∃ v, l[i]? = some v ∧ v.R x := by
 have hi : i < l.length := by rw [← Vl.Rs_len h]; exact (List.getElem?_eq_some_iff.1 hx).1
 obtain ⟨v, hv⟩ : ∃ v, l[i]? = some v := ⟨_, List.getElem?_eq_getElem hi⟩
 obtain ⟨x', e1, r1⟩ := Vl.Rs_get h hv
 rw [hx] at e1; injection e1 with e1; subst e1
 exact ⟨v, hv, r1⟩
theorem room_walk (n : Nat) : (∀ (a : Vl) (xa : D) (deep room : Int), a.sz < n → a.ln → a.R xa → -1 ≤ deep → deep ≤ 100 → -1 ≤ room → room < 9223372036854775000 → k'0 (cx B) 176 [.d xa, .d (.int .i64 deep), .d (.int .i64 room)] [] (.d (.int .i64 (roomV a deep room))) []) ∧
  (∀ (l : List Kv) (z : Bool) (xs : List D) (deep room : Int), Kv.szs l < n → Kv.lns l → l.length ≤ 9223372036854775807 → Kv.Rs l xs → -1 ≤ deep → deep ≤ 100 → -1 ≤ room → room < 9223372036854775000 → k'0 (cx B) 121 [.d (.sl z xs), .d (.int .i64 deep), .d (.int .i64 room)] [] (.d (.int .i64 (roomK l deep room))) []) := by
 induction n with
 | zero => exact ⟨fun _ _ _ _ h => by omega, fun _ _ _ _ _ h => by omega⟩
 | succ n ih =>
  obtain ⟨ihV, ihK⟩ := ih
  constructor
  ·rintro ⟨kind, s, bb, nn, l, m, inner, u⟩ xa deep room hsz ⟨n1, n2, n3, n4, n5, n6, n7⟩ ⟨zl, ls, zm, ms, rfl, hl, hm⟩ hd1 hd2 hr1 hr2
   unfold Vl.sz at hsz
   have hla := Vl.Rs_len hl
   have hsh := Vl.Rs_sh hl
   unfold roomV
   by_cases h0 : deep < 0
   ·rw [if_pos h0]
    refine l_bw Tryz.func176 0 [] ?_
    rw [show decide (deep < 0) = true from decide_eq_true h0]
    exact Z
   rw [if_neg h0]
   obtain ⟨a1, a2⟩ := k'h (n := s.length) hr2
   obtain ⟨b1, b2⟩ := k'h (n := inner.length) a2
   obtain ⟨c1, c2⟩ := k'h (n := u.length) b2
   have t1 := k'9 B room s.length hr1 hr2 n1
   have t2 := k'9 B _ inner.length a1 a2 n2
   have t3 := k'9 B _ u.length b1 b2 n3
   generalize k'n (k'n (k'n room s.length) inner.length) u.length = R0 at *
   have hfin := ihK m zm ms (deep - 1) (k'3k l (deep - 1) R0) (by omega) n7 n5 hm (by omega) (by omega) (roomVs_ok l (deep - 1) R0 c1).1 (roomVs_lt c1 c2 (by omega))
   unfold roomK at hfin
   generalize (if deep - 1 < 0 ∧ 0 < m.length then (-1 : Int) else k'3p m (deep - 1) (k'3k l (deep - 1) R0)) = RR at *
   refine l_bw Tryz.func176 0 [] ?_
   rw [show decide (deep < 0) = false from decide_eq_false h0]
   refine Y ?_
   refine x_cw [] (t1) rfl rfl rfl ?_
   refine x_cw [] (t2) rfl rfl rfl ?_
   refine x_cw [] (t3) rfl rfl rfl ?_
   refine k'8 (fun y : Nat × Int => ls.length - y.1) (fun y => [(1, .d (.int .i64 deep)), (2, .d (.int .i64 y.2)), (3, .ptr 0 0), (7, iT y.1)]) (fun _ => _) (fun y => y.1 ≤ ls.length ∧ k'3k (l.drop y.1) (deep - 1) y.2 = k'3k l (deep - 1) R0 ∧ -1 ≤ y.2 ∧ y.2 < 9223372036854775000) (0, R0) ⟨by omega, rfl, c1, c2⟩ ⟨rfl, rfl, rfl, rfl, trivial⟩ rfl 1 rfl (fun _ => rfl) (fun _ => rfl) (fun _ => rfl) ?_
   rintro ⟨i, rm⟩ ⟨i1, i2, i3, i4⟩
   dsimp only at i1 i2 i3 i4 ⊢
   refine Y ?_
   by_cases hlt : i < ls.length
   ·rw [show decide ((i : Int) < ls.length) = true from decide_eq_true (by omega)]
    refine Y ?_
    by_cases hr0 : rm ≥ 0
    ·rw [show decide (rm ≥ 0) = true from decide_eq_true hr0]
     obtain ⟨x, hxi⟩ : ∃ x, ls[i]? = some x := ⟨_, List.getElem?_eq_getElem hlt⟩
     obtain ⟨v, hv, hvr⟩ := Vl.Rs_at hl hxi
     have hmem := List.mem_of_getElem? hv
     have hvs := Vl.sz_mem hmem
     have hc := ihV v x (deep - 1) rm (by omega) (Vl.ln_mem n6 v hmem) hvr (by omega) (by omega) i3 i4
     rw [k'2m hv, roomVs_cons, if_neg (by omega)] at i2
     obtain ⟨x0, x1, x2, x3, x4, x5, x6, x7, x8, x9, rfl⟩ := hsh x (List.mem_of_getElem? hxi)
     refine Y ?_
     refine k'1 (.indexAddr (k := .i64) (n := i) (es := ls) rfl rfl rfl rfl (.inl ⟨_, rfl⟩) rfl (by omega) (by simpa using hxi) rfl (by decide)) rfl rfl ?_
     refine Y ?_
     rw [k'5 1 (by omega) (by omega) (by omega) (by omega)]
     refine l_cw [] (hc) rfl rfl rfl ?_
     rw [wS i (by omega)]
     exact ⟨(i + 1, roomV v (deep - 1) rm), by show ls.length - (i + 1) < _; omega, ⟨by show i + 1 ≤ _; omega, i2, (roomV_ok v (deep - 1) rm i3).1, roomV_lt i3 i4 (by omega)⟩, ⟨rfl, rfl, rfl, rfl, trivial⟩, rfl, k'z rfl⟩
    ·rw [show decide (rm ≥ 0) = false from decide_eq_false hr0]
     rw [roomVs_neg (by omega)] at i2
     subst i2
     refine Y ?_
     rw [k'5 1 (by omega) (by omega) (by omega) (by omega)]
     refine k'2 [] (hfin) rfl rfl rfl ?_
     exact Z
   ·rw [show decide ((i : Int) < ls.length) = false from decide_eq_false (by omega)]
    have e : i = l.length := by omega
    rw [e, List.drop_length] at i2
    have i2 : rm = k'3k l (deep - 1) R0 := i2
    subst i2
    refine Y ?_
    rw [k'5 1 (by omega) (by omega) (by omega) (by omega)]
    refine k'2 [] (hfin) rfl rfl rfl ?_
    exact Z
  ·intro l z xs deep room hsz hln hlen hR hd1 hd2 hr1 hr2
   have hla := Kv.Rs_len hR
   have hsh := Kv.Rs_sh hR
   unfold roomK
   have hgo : ∀ (hno : ¬ (deep < 0 ∧ 0 < l.length)), k'0 (cx B) 121 [.d (.sl z xs), .d (.int .i64 deep), .d (.int .i64 room)] [] (.d (.int .i64 (k'3p l deep room))) [] := by
    intro hno
    generalize hRR : k'3p l deep room = RR
    have hpre : (decide (deep < 0) = false) ∨ (decide (deep < 0) = true ∧ decide ((xs.length : Int) > 0) = false) := by
     by_cases h : deep < 0
     ·exact .inr ⟨decide_eq_true h, decide_eq_false (by omega)⟩
     ·exact .inl (decide_eq_false h)
    rcases hpre with hp | ⟨hp, hp2⟩
    all_goals (
    refine l_bw Tryz.func121 0 [] ?_
    rw [hp]
    refine Y ?_
    try rw [hp2]
    refine Y ?_
    refine k'8 (fun y : Nat × Int => xs.length - y.1) (fun y => [(0, .d (.sl z xs)), (1, .d (.int .i64 deep)), (2, .d (.int .i64 y.2)), (7, iT y.1)]) (fun _ => []) (fun y => y.1 ≤ xs.length ∧ k'3p (l.drop y.1) deep y.2 = RR ∧ -1 ≤ y.2 ∧ y.2 < 9223372036854775000) (0, room) ⟨by omega, hRR, hr1, hr2⟩ ⟨rfl, rfl, rfl, rfl, trivial⟩ rfl 0 rfl (fun _ => rfl) (fun _ => rfl) (fun _ => rfl) ?_
    rintro ⟨i, rm⟩ ⟨i1, i2, i3, i4⟩
    dsimp only at i1 i2 i3 i4 ⊢
    refine Y ?_
    by_cases hlt : i < xs.length
    ·rw [show decide ((i : Int) < xs.length) = true from decide_eq_true (by omega)]
     refine Y ?_
     by_cases hr0 : rm ≥ 0
     ·rw [show decide (rm ≥ 0) = true from decide_eq_true hr0]
      obtain ⟨x, hxi⟩ : ∃ x, xs[i]? = some x := ⟨_, List.getElem?_eq_getElem hlt⟩
      obtain ⟨⟨key, has, ⟨kind, s, bb, nn, vl, vm, inner, vu⟩, u⟩, hv, hvr⟩ := Kv.Rs_at hR hxi
      have hmem := List.mem_of_getElem? hv
      have hvs := Kv.sz_mem hmem
      obtain ⟨m1, m2, m3⟩ := Kv.ln_mem hln _ hmem
      obtain ⟨zl, ls, zm, ms, rfl, hl, hm⟩ := hvr
      unfold Kv.sz at hvs
      obtain ⟨a1, a2⟩ := k'h (n := key.length) i4
      obtain ⟨b1, b2⟩ := k'h (n := u.length) a2
      have t1 := k'9 B rm key.length i3 i4 m1
      have t2 := k'9 B _ u.length a1 a2 m2
      have hc := ihV (.mk kind s bb nn vl vm inner vu) _ deep _ (by omega) m3 ⟨zl, ls, zm, ms, rfl, hl, hm⟩ hd1 hd2 b1 b2
      rw [k'2m hv] at i2
      unfold k'3p at i2
      rw [if_neg (by omega)] at i2
      refine Y ?_
      refine k'12 (.indexAddr (k := .i64) (n := i) (es := xs) rfl rfl rfl rfl (.inl ⟨_, rfl⟩) rfl (by omega) (by simpa using hxi) rfl (by decide)) rfl rfl rfl ?_
      refine Y ?_
      refine x_cw [] (t1) rfl rfl rfl ?_
      refine k'12 (.indexAddr (k := .i64) (n := i) (es := xs) rfl rfl rfl rfl (.inl ⟨_, rfl⟩) rfl (by omega) (by simpa using hxi) rfl (by decide)) rfl rfl rfl ?_
      refine Y ?_
      refine x_cw [] (t2) rfl rfl rfl ?_
      refine k'1 (.indexAddr (k := .i64) (n := i) (es := xs) rfl rfl rfl rfl (.inl ⟨_, rfl⟩) rfl (by omega) (by simpa using hxi) rfl (by decide)) rfl rfl ?_
      refine Y ?_
      refine l_cw [] (hc) rfl rfl rfl ?_
      rw [wS i (by omega)]
      exact ⟨(i + 1, roomV (.mk kind s bb nn vl vm inner vu) deep (k'n (k'n rm key.length) u.length)), by show xs.length - (i + 1) < _; omega, ⟨by show i + 1 ≤ _; omega, i2, (roomV_ok _ deep _ b1).1, roomV_lt b1 b2 (by omega)⟩, ⟨rfl, rfl, rfl, rfl, trivial⟩, rfl, k'z rfl⟩
     ·rw [show decide (rm ≥ 0) = false from decide_eq_false hr0]
      rw [roomKs_neg (by omega)] at i2
      subst i2
      exact Z
    ·rw [show decide ((i : Int) < xs.length) = false from decide_eq_false (by omega)]
     have e : i = l.length := by omega
     rw [e, List.drop_length] at i2
     have i2 : rm = RR := i2
     subst i2
     exact Z)
   by_cases h0 : deep < 0 ∧ 0 < l.length
   ·rw [if_pos h0]
    refine l_bw Tryz.func121 0 [] ?_
    rw [show decide (deep < 0) = true from decide_eq_true h0.1]
    refine Y ?_
    rw [show decide ((xs.length : Int) > 0) = true from decide_eq_true (by omega)]
    exact Z
   ·rw [if_neg h0]
    exact hgo h0
theorem k'16 {l : List Kv} {xs : List D} (z : Bool) (room : Int) (h1 : Kv.lns l) (h2 : l.length ≤ 9223372036854775807) (h3 : Kv.Rs l xs) (hr1 : -1 ≤ room) (hr2 : room < 9223372036854775000) : k'0 (cx B) 121 [.d (.sl z xs), .d (.int .i64 40), .d (.int .i64 room)] [] (.d (.int .i64 (roomK l 40 room))) [] :=
 (room_walk B (Kv.szs l + 1)).2 l z xs 40 room (by omega) h1 h2 h3 (by omega) (by omega) hr1 hr2
end
