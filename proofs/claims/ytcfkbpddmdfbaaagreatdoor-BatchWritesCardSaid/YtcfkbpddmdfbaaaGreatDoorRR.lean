/- The reference: numbers in few bytes; numbers of so many bytes. And more. And more. -/
import Derived.Test.YtcfkbpddmdfbaaaGreatDoorWR
set_option linter.unusedSimpArgs false
set_option linter.unusedVariables false
set_option maxRecDepth 100000
/-! The reference: numbers in few bytes; numbers of so many bytes. And more. -/
/-! The reference: numbers in few bytes; numbers of so many bytes. -/
namespace Go.Proofs.YtcfkbpddmdfbaaaGreatDoor
open Go Go.Abs
variable (B : Fr)
def rgT (s : List UInt8) (p : Nat) : T :=
 match vrd (s.drop p) 0 0 with
 | .ok (n, k) => .tup [uT n, iT ((p + k : Nat) : Int), iT 0]
 | .error c => .tup [uT 0, iT 0, iT (c : Int)]
theorem low7' (c : UInt8) : IntKind.u8.wrap ((BitVec.ofInt IntKind.u8.bits (c.toNat : Int) &&& BitVec.ofInt IntKind.u8.bits 127).toNat : Int) = ((c.toNat % 128 : Nat) : Int) := by
 have h : ∀ b : BitVec 8, (b &&& (BitVec.ofInt 8 127)).toNat = b.toNat % 128 := by decide
 have h2 := h (BitVec.ofInt 8 (c.toNat : Int))
 rw [ofN, BitVec.toNat_ofNat, Nat.mod_eq_of_lt (show c.toNat < 2 ^ 8 from c.toNat_lt)] at h2
 rw [show (BitVec.ofInt IntKind.u8.bits (c.toNat : Int) &&& BitVec.ofInt IntKind.u8.bits 127).toNat = c.toNat % 128 from h2]
 exact wrapB (by omega) (by omega)
theorem rGet_calls (s : List UInt8) (p : Nat) (hp : p ≤ s.length) (hl : s.length < big) : k'0 (cx B) 221 [sT s, iT p] [] (rgT s p) [] := by
 unfold big at hl
 refine l_bw Tryz.func221 0 [] ?_
 rw [show decide ((p : Int) < 0) = false from decide_eq_false (by omega)]
 refine Y ?_
 rw [show decide ((p : Int) > s.length) = false from decide_eq_false (by omega)]
 refine Y ?_
 refine k'8 (fun x : Nat × Nat => 11 - x.1) (fun x => [(0, sT s), (1, iT p), (7, uT x.2), (8, iT x.1)]) (fun _ => []) (fun x => vrd (s.drop p) 0 0 = vrd (s.drop (p + x.1)) x.1 x.2 ∧ x.1 ≤ 9 ∧ p + x.1 ≤ s.length ∧ x.2 < 2 ^ (7 * x.1)) (0, 0) ⟨rfl, by omega, by omega, by simp⟩ ⟨rfl, rfl, rfl, rfl, trivial⟩ rfl 0 rfl (fun _ => rfl) (fun _ => rfl) (fun _ => rfl) ?_
 rintro ⟨i, a⟩ ⟨h1, h2, h3, h4⟩
 dsimp only at h1 h2 h3 h4 ⊢
 refine Y ?_
 ·rw [show decide ((i : Int) < 10) = true from decide_eq_true (by omega)]
  refine Y ?_
  have hpi : IntKind.i64.wrap ((p : Int) + i) = ((p + i : Nat) : Int) := by rw [k'10 (by omega) (by omega)]; omega
  rw [hpi]
  by_cases hlt : p + i < s.length
  ·rw [show decide (((p + i : Nat) : Int) ≥ s.length) = false from decide_eq_false (by omega)]
   obtain ⟨c, hci⟩ : ∃ c, s[p + i]? = some c := ⟨_, List.getElem?_eq_getElem hlt⟩
   have hcc := k'2u c
   have hdr : s.drop (p + i) = c :: s.drop (p + (i + 1)) := by
    rw [List.drop_eq_getElem_cons hlt]; rw [List.getElem?_eq_getElem hlt] at hci; injection hci with hci; rw [hci, Nat.add_assoc]
   refine Y ?_
   rw [hpi]
   refine k'1 (.index (k := .i64) (n := ((p + i : Nat) : Int)) (s := s) (c := c) rfl rfl rfl rfl rfl (by omega) (by rw [Int.toNat_natCast]; exact hci)) rfl rfl ?_
   refine Y ?_
   have stuck : ∀ (h9 : ¬ (i = 9 ∧ 1 < c.toNat)), (c.toNat % 128 * 2 ^ (7 * i) < 18446744073709551616 ∧ a + c.toNat % 128 * 2 ^ (7 * i) < 18446744073709551616 ∧ a + c.toNat % 128 * 2 ^ (7 * i) < 2 ^ (7 * (i + 1))) ∧
     vrd (s.drop p) 0 0 = if c.toNat < 128 then .ok (a + c.toNat % 128 * 2 ^ (7 * i), i + 1) else vrd (s.drop (p + (i + 1))) (i + 1) (a + c.toNat % 128 * 2 ^ (7 * i)) := by
    intro h9
    refine ⟨?_, ?_⟩
    ·have hp : 2 ^ (7 * (i + 1)) = 128 * 2 ^ (7 * i) := by rw [show 7 * (i + 1) = 7 * i + 7 by omega, Nat.pow_add]; omega
     have hm : c.toNat % 128 * 2 ^ (7 * i) ≤ 127 * 2 ^ (7 * i) := Nat.mul_le_mul_right _ (by omega)
     by_cases h : i = 9
     ·subst h
      have : c.toNat ≤ 1 := by have := not_and.1 h9 rfl; omega
      have hm' : c.toNat % 128 * 2 ^ (7 * 9) ≤ 1 * 2 ^ (7 * 9) := Nat.mul_le_mul_right _ (by omega)
      simp at hm' h4 ⊢; omega
     ·have h2' : 2 ^ (7 * i) ≤ 2 ^ 56 := Nat.pow_le_pow_right (by omega) (by omega)
      simp at h2'; omega
    ·rw [h1, hdr]; show (if i = 10 then _ else _) = _
     rw [if_neg (by omega), if_neg h9]
   have fin : ∀ (e9 : Bool), (i = 9 ∧ 1 < c.toNat) → vrd (s.drop p) 0 0 = .error 4 := fun _ hh => by
    rw [h1, hdr]; unfold vrd; rw [if_neg (by omega), if_pos hh]
   have hw7 : IntKind.u64.wrap (IntKind.i64.wrap (7 * (i : Int))) = ((7 * i : Nat) : Int) := by rw [k'10 (by omega) (by omega), wrapU (by omega) (by omega)]; omega
   have hi1 : IntKind.i64.wrap ((i : Int) + 1) = ((i + 1 : Nat) : Int) := by rw [k'10 (by omega) (by omega)]; omega
   have hpi1 : IntKind.i64.wrap (((p + i : Nat) : Int) + 1) = ((p + (i + 1) : Nat) : Int) := by rw [k'10 (by omega) (by omega)]; omega
   cases hb : ((i : Int) == 9)
   rotate_left
   ·have hi9 : i = 9 := by have := eq_of_beq hb; omega
    refine Y ?_
    by_cases hd : 1 < c.toNat
    ·rw [show decide ((c.toNat : Int) > 1) = true from decide_eq_true (by omega)]
     refine Y ?_
     unfold rgT
     rw [fin true ⟨hi9, hd⟩]
     exact k'i rfl
    ·rw [show decide ((c.toNat : Int) > 1) = false from decide_eq_false (by omega)]
     obtain ⟨hbd, hst⟩ := stuck (fun hh => hd hh.2)
     refine Y ?_
     rw [low7', wrapN (n := c.toNat % 128) (by omega), hw7]
     refine k'1 (.shl (k := .u64) (j := .u64) rfl rfl rfl (by omega)) rfl rfl ?_
     rw [show IntKind.u64.wrap (((c.toNat % 128 : Nat) : Int) * 2 ^ min ((7 * i : Nat) : Int).toNat IntKind.u64.bits) = ((c.toNat % 128 * 2 ^ (7 * i) : Nat) : Int) by
      rw [show IntKind.u64.bits = 64 from rfl, show min ((7 * i : Nat) : Int).toNat 64 = 7 * i by omega]
      have := wrapN hbd.1
      rw [← this]; congr 1]
     refine Y ?_
     rw [or64 h4 hbd.2.1]
     have hlt2 : c.toNat < 128 := by omega
     rw [show decide ((c.toNat : Int) < 128) = true from decide_eq_true (by omega)]
     refine Y ?_
     rw [hpi, hpi1]
     unfold rgT
     rw [hst, if_pos hlt2]
     exact k'i rfl
   have hi9 : ¬ (i = 9 ∧ 1 < c.toNat) := fun hh => by have := ne_of_beq_false hb; omega
   obtain ⟨hbd, hst⟩ := stuck hi9
   refine Y ?_
   rw [low7', wrapN (n := c.toNat % 128) (by omega), hw7]
   refine k'1 (.shl (k := .u64) (j := .u64) rfl rfl rfl (by omega)) rfl rfl ?_
   rw [show IntKind.u64.wrap (((c.toNat % 128 : Nat) : Int) * 2 ^ min ((7 * i : Nat) : Int).toNat IntKind.u64.bits) = ((c.toNat % 128 * 2 ^ (7 * i) : Nat) : Int) by
    rw [show IntKind.u64.bits = 64 from rfl, show min ((7 * i : Nat) : Int).toNat 64 = 7 * i by omega]
    have := wrapN hbd.1
    rw [← this]; congr 1]
   refine Y ?_
   rw [or64 h4 hbd.2.1]
   refine k'13 rfl (fun hd => ?_) (fun hd => ?_)
   ·refine Y ?_
    rw [hpi, hpi1]
    unfold rgT
    rw [hst, if_pos (by have := of_decide_eq_true hd; omega)]
    exact k'i rfl
   ·refine Y ?_
    rw [hi1]
    exact ⟨(i + 1, a + c.toNat % 128 * 2 ^ (7 * i)), by simp only; omega, ⟨by rw [hst, if_neg (by have := of_decide_eq_false hd; omega)], by have := of_decide_eq_false hd; simp only; omega, by simp only; omega, hbd.2.2⟩, ⟨rfl, rfl, rfl, rfl, trivial⟩, rfl, k'z rfl⟩
  ·rw [show decide (((p + i : Nat) : Int) ≥ s.length) = true from decide_eq_true (by omega)]
   refine Y ?_
   have hv : vrd (s.drop p) 0 0 = .error 1 := by rw [h1, List.drop_eq_nil_of_le (by omega)]; rfl
   unfold rgT
   rw [hv]
   exact k'i rfl
theorem leN_cons (c : UInt8) (l : List UInt8) : leN (c :: l) = c.toNat + 256 * leN l := rfl
theorem fixed2_calls (s : List UInt8) (hl : s.length ≤ 8) : k'0 (cx B) 222 [sT s] [] (uT (leN s)) [] := by
 refine l_bw Tryz.func222 0 [] ?_
 rw [show IntKind.i64.wrap ((s.length : Int) - 1) = (s.length : Int) - 1 from k'10 (by omega) (by omega)]
 refine k'8 (fun i : Nat => i) (fun i => [(0, sT s), (3, uT (leN (s.drop i))), (4, .d (.int .i64 ((i : Int) - 1)))]) (fun _ => []) (fun i => i ≤ s.length) s.length (by omega) ⟨rfl, by rw [List.drop_length]; rfl, rfl, trivial⟩ rfl 0 rfl (fun _ => rfl) (fun _ => rfl) (fun _ => rfl) ?_
 intro i i1
 cases i with
 | zero =>
  exact Z
 | succ i =>
  rw [show (((i + 1 : Nat) : Int) - 1) = (i : Int) by omega]
  obtain ⟨c, hci⟩ : ∃ c, s[i]? = some c := ⟨_, List.getElem?_eq_getElem (by omega)⟩
  have hcc := k'2u c
  have hdr : s.drop i = c :: s.drop (i + 1) := by
   rw [List.drop_eq_getElem_cons (by omega)]; rw [List.getElem?_eq_getElem (by omega)] at hci; injection hci with hci; rw [hci]
  have hlt := leN_lt (s.drop (i + 1))
  have hpw : 256 ^ (s.drop (i + 1)).length ≤ 256 ^ 7 := Nat.pow_le_pow_right (by omega) (by simp; omega)
  simp only [show (256 : Nat) ^ 7 = 72057594037927936 from rfl] at hpw
  refine Y ?_
  rw [show decide ((i : Int) ≥ 0) = true from decide_eq_true (by omega)]
  refine Y ?_
  refine k'1 (.index (k := .i64) (n := i) (s := s) (c := c) rfl rfl rfl rfl rfl (by omega) (by simpa using hci)) rfl rfl ?_
  refine Y ?_
  rw [wrapN (n := c.toNat) (by omega)]
  rw [show IntKind.u64.wrap ((leN (s.drop (i + 1)) : Int) * 2 ^ min 8 IntKind.u64.bits) = ((leN (s.drop (i + 1)) * 2 ^ 8 : Nat) : Int) by
   rw [show IntKind.u64.bits = 64 from rfl, show min 8 64 = 8 from rfl]
   have := wrapN (n := leN (s.drop (i + 1)) * 2 ^ 8) (by omega)
   rw [← this]; congr 1]
  rw [BitVec.or_comm, or64 (i := 8) (by omega) (by omega)]
  rw [show c.toNat + leN (s.drop (i + 1)) * 2 ^ 8 = leN (s.drop i) by rw [hdr, leN_cons]; omega]
  rw [show IntKind.i64.wrap ((i : Int) - 1) = (i : Int) - 1 from k'10 (by omega) (by omega)]
  exact ⟨i, Nat.lt_succ_self i, by omega, ⟨rfl, rfl, rfl, trivial⟩, rfl, k'z rfl⟩
end Go.Proofs.YtcfkbpddmdfbaaaGreatDoor
/-! The reference: records. -/
namespace Go.Proofs.YtcfkbpddmdfbaaaGreatDoor
open Go Go.Abs
variable (B : Fr)
theorem vrd_ne : ∀ {l : List UInt8} {i a c : Nat}, vrd l i a = .error c → c ≠ 0
 | [], i, a, c, h => by simp [vrd] at h; omega
 | x :: l, i, a, c, h => by
  unfold vrd at h
  split at h
  ·injection h with h; omega
  ·split at h
   ·injection h with h; omega
   ·split at h
    ·simp at h
    ·exact vrd_ne h
def rnT : Except Er (Fld × Nat) → T
 | .ok (r, q) => .tup [.d r.d, iT q, .d (.bool true)]
 | .error _ => .tup [.d zFld, iT 0, .d (.bool false)]
def RGrp (s : List UInt8) (f : Nat) (d : Int) (num p : Nat) : Prop :=
 (∀ q, grpE s f d num p = .ok q → k'0 (cx B) 223 [sT s, iT p, iT num, .d (.int .i64 d)] [] (.tup [iT q, .d (.bool true)]) []) ∧
 (∀ e, grpE s f d num p = .error e → ∃ z : Int, k'0 (cx B) 223 [sT s, iT p, iT num, .d (.int .i64 d)] [] (.tup [.d (.int .i64 z), .d (.bool false)]) [])
def recF (s : List UInt8) (f : Nat) (d : Int) (p : Nat) : Except Er (Fld × Nat) :=
 match tagE s p with
 | .error e => .error e
 | .ok (n, k, q) => match k'2w (grp s f) s d n k p q with
  | .error e => .error e
  | .ok (N, t, r) => .ok (⟨n, k, N, t, (s.drop p).take (r - p)⟩, r)
theorem recF_recE (s : List UInt8) (d : Int) (p : Nat) : recF s (s.length + 1) d p = recE s d p := rfl
theorem rNext_calls (s : List UInt8) (f : Nat) (d : Int) (p : Nat) (hp : p ≤ s.length) (hl : s.length < big) (hg : ∀ n q, 1 ≤ n → n ≤ 536870911 → q ≤ s.length → p < q → RGrp B s f d n q) :
  k'0 (cx B) 167 [sT s, iT p, .d (.int .i64 d)] [] (rnT (recF s f d p)) [] := by
 have hl' := hl
 unfold big at hl'
 have h1 := rGet_calls B s p hp hl
 unfold rgT at h1
 unfold recF tagE vE
 cases hv : vrd (s.drop p) 0 0 with
 | error c =>
  rw [hv] at h1
  dsimp only at h1 ⊢
  have hc : ((c : Int) != 0) = true := by
   have : c ≠ 0 := vrd_ne hv
   simp; omega
  refine l_bw Tryz.func167 0 [] ?_
  refine l_cw [] (h1) rfl rfl rfl ?_
  rw [hc]
  exact Z
 | ok nk =>
  obtain ⟨n, k⟩ := nk
  have hve : vE s p = .ok (n, p + k) := by unfold vE; rw [hv]
  obtain ⟨g1, g2, g3⟩ := vE_ok hve
  rw [hv] at h1
  dsimp only at h1 ⊢
  have hd8 : n / 8 < 2 ^ 64 := by omega
  by_cases ht : n / 8 < 1 ∨ 536870911 < n / 8
  ·rw [if_pos ht]
   refine l_bw Tryz.func167 0 [] ?_
   refine l_cw [] (h1) rfl rfl rfl ?_
   rw [shr3]
   by_cases ha : n / 8 < 1
   ·rw [show decide (((n / 8 : Nat) : Int) < 1) = true from decide_eq_true (by omega)]
    exact Z
   ·rw [show decide (((n / 8 : Nat) : Int) < 1) = false from decide_eq_false (by omega)]
    refine Y ?_
    rw [shr3, show decide (((n / 8 : Nat) : Int) ≥ 536870912) = true from decide_eq_true (by omega)]
    exact Z
  ·rw [if_neg ht]
   dsimp only
   have hnm : IntKind.i64.wrap ((n / 8 : Nat) : Int) = ((n / 8 : Nat) : Int) := k'10 (by omega) (by omega)
   have hk7 := and7 g3
   have hkd : n % 8 < 8 := Nat.mod_lt _ (by omega)
   have h2 := rGet_calls B s (p + k) (by omega) hl
   unfold rgT at h2
   refine l_bw Tryz.func167 0 [] ?_
   refine l_cw [] (h1) rfl rfl rfl ?_
   rw [shr3, show decide (((n / 8 : Nat) : Int) < 1) = false from decide_eq_false (by omega)]
   refine Y ?_
   rw [shr3, show decide (((n / 8 : Nat) : Int) ≥ 536870912) = false from decide_eq_false (by omega)]
   refine Y ?_
   rw [shr3, hnm, hk7]
   generalize hn8 : n / 8 = nm at *
   generalize hn7 : n % 8 = kd at *
   have key : ∀ (c : Nat), kd = c → c ≠ 0 → c ≠ 1 → c ≠ 5 → c ≠ 2 → c ≠ 3 → k'2w (grp s f) s d nm kd p (p + k) = .error (.loc p (.code 3)) := by
    rintro c rfl a1 a2 a3 a4 a5
    unfold k'2w
    rw [if_neg a1, if_neg a2, if_neg a3, if_neg a4, if_neg a5]
   by_cases k0 : kd = 0
   ·subst k0
    unfold k'2w
    rw [if_pos rfl]
    cases hv2 : vrd (s.drop (p + k)) 0 0 with
    | error c =>
     have hve2 : vE s (p + k) = .error (.loc (p + k : Nat) (.code c)) := by unfold vE; rw [hv2]
     rw [hv2] at h2
     rw [hve2]
     dsimp only at h2 ⊢
     have hc : ((c : Int) != 0) = true := by have : c ≠ 0 := vrd_ne hv2; simp; omega
     refine Y ?_
     refine l_cw [] (h2) rfl rfl rfl ?_
     rw [hc]
     exact Z
    | ok m =>
     obtain ⟨m, j⟩ := m
     have hve2 : vE s (p + k) = .ok (m, p + k + j) := by unfold vE; rw [hv2]
     obtain ⟨q1, q2, q3⟩ := vE_ok hve2
     rw [hv2] at h2
     rw [hve2]
     dsimp only at h2 ⊢
     refine Y ?_
     refine l_cw [] (h2) rfl rfl rfl ?_
     refine k'1 (.sliceStr (s := s) (l := p) (h := p + k + j) rfl rfl rfl rfl ⟨.i64, rfl⟩ ⟨.i64, rfl⟩ (by omega) (by omega)) rfl rfl ?_
     exact Z
   by_cases k1 : kd = 1
   ·subst k1
    unfold k'2w takeE
    rw [if_neg (by decide)]; rw [if_pos rfl]
    refine Y ?_
    rw [show IntKind.i64.wrap ((s.length : Int) - ((p + k : Nat) : Int)) = ((s.length - (p + k) : Nat) : Int) by rw [k'10 (by omega) (by omega)]; omega]
    by_cases hc : s.length - (p + k) < 8
    ·rw [if_pos hc, show decide (((s.length - (p + k) : Nat) : Int) < 8) = true from decide_eq_true (by omega)]
     exact Z
    ·rw [if_neg hc, show decide (((s.length - (p + k) : Nat) : Int) < 8) = false from decide_eq_false (by omega)]
     have hf := fixed2_calls B ((s.drop (p + k)).take 8) (by simp; omega)
     have ha : IntKind.i64.wrap (((p + k : Nat) : Int) + 8) = ((p + k + 8 : Nat) : Int) := by rw [k'10 (by omega) (by omega)]; omega
     refine Y ?_
     rw [ha]
     refine k'1 (.sliceStr (s := s) (l := p + k) (h := p + k + 8) rfl rfl rfl rfl ⟨.i64, rfl⟩ ⟨.i64, rfl⟩ (by omega) (by omega)) rfl rfl ?_
     rw [show p + k + 8 - (p + k) = 8 by omega]
     refine l_cw [] (hf) rfl rfl rfl ?_
     rw [ha]
     refine k'1 (.sliceStr (s := s) (l := p) (h := p + k + 8) rfl rfl rfl rfl ⟨.i64, rfl⟩ ⟨.i64, rfl⟩ (by omega) (by omega)) rfl rfl ?_
     exact Z
   by_cases k5 : kd = 5
   ·subst k5
    unfold k'2w takeE
    rw [if_neg (by decide), if_neg (by decide)]; rw [if_pos rfl]
    refine Y ?_
    rw [show IntKind.i64.wrap ((s.length : Int) - ((p + k : Nat) : Int)) = ((s.length - (p + k) : Nat) : Int) by rw [k'10 (by omega) (by omega)]; omega]
    by_cases hc : s.length - (p + k) < 4
    ·rw [if_pos hc, show decide (((s.length - (p + k) : Nat) : Int) < 4) = true from decide_eq_true (by omega)]
     exact Z
    ·rw [if_neg hc, show decide (((s.length - (p + k) : Nat) : Int) < 4) = false from decide_eq_false (by omega)]
     have hf := fixed2_calls B ((s.drop (p + k)).take 4) (by simp; omega)
     have ha : IntKind.i64.wrap (((p + k : Nat) : Int) + 4) = ((p + k + 4 : Nat) : Int) := by rw [k'10 (by omega) (by omega)]; omega
     refine Y ?_
     rw [ha]
     refine k'1 (.sliceStr (s := s) (l := p + k) (h := p + k + 4) rfl rfl rfl rfl ⟨.i64, rfl⟩ ⟨.i64, rfl⟩ (by omega) (by omega)) rfl rfl ?_
     rw [show p + k + 4 - (p + k) = 4 by omega]
     refine l_cw [] (hf) rfl rfl rfl ?_
     rw [ha]
     refine k'1 (.sliceStr (s := s) (l := p) (h := p + k + 4) rfl rfl rfl rfl ⟨.i64, rfl⟩ ⟨.i64, rfl⟩ (by omega) (by omega)) rfl rfl ?_
     exact Z
   by_cases k2 : kd = 2
   ·subst k2
    unfold k'2w takeE
    rw [if_neg (by decide), if_neg (by decide), if_neg (by decide), if_pos rfl]
    cases hv2 : vrd (s.drop (p + k)) 0 0 with
    | error c =>
     have hve2 : vE s (p + k) = .error (.loc (p + k : Nat) (.code c)) := by unfold vE; rw [hv2]
     rw [hv2] at h2
     rw [hve2]
     dsimp only at h2 ⊢
     have hc : ((c : Int) != 0) = true := by have : c ≠ 0 := vrd_ne hv2; simp; omega
     refine Y ?_
     refine l_cw [] (h2) rfl rfl rfl ?_
     rw [hc]
     exact Z
    | ok m =>
     obtain ⟨m, j⟩ := m
     have hve2 : vE s (p + k) = .ok (m, p + k + j) := by unfold vE; rw [hv2]
     obtain ⟨q1, q2, q3⟩ := vE_ok hve2
     rw [hv2] at h2
     rw [hve2]
     dsimp only at h2 ⊢
     have hlen : IntKind.u64.wrap (IntKind.i64.wrap ((s.length : Int) - ((p + k + j : Nat) : Int))) = ((s.length - (p + k + j) : Nat) : Int) := by rw [k'10 (by omega) (by omega), wrapU (by omega) (by omega)]; omega
     refine Y ?_
     refine l_cw [] (h2) rfl rfl rfl ?_
     rw [hlen]
     by_cases hc : s.length - (p + k + j) < m
     ·rw [if_pos hc, show decide ((m : Int) > ((s.length - (p + k + j) : Nat) : Int)) = true from decide_eq_true (by omega)]
      exact Z
     ·rw [if_neg hc, show decide ((m : Int) > ((s.length - (p + k + j) : Nat) : Int)) = false from decide_eq_false (by omega)]
      have hm : IntKind.i64.wrap (m : Int) = m := k'10 (by omega) (by omega)
      have ha : IntKind.i64.wrap (((p + k + j : Nat) : Int) + m) = ((p + k + j + m : Nat) : Int) := by rw [k'10 (by omega) (by omega)]; omega
      refine Y ?_
      rw [hm, ha]
      refine k'1 (.sliceStr (s := s) (l := p + k + j) (h := p + k + j + m) rfl rfl rfl rfl ⟨.i64, rfl⟩ ⟨.i64, rfl⟩ (by omega) (by omega)) rfl rfl ?_
      rw [show p + k + j + m - (p + k + j) = m by omega]
      refine Y ?_
      rw [hm, ha]
      refine k'1 (.sliceStr (s := s) (l := p) (h := p + k + j + m) rfl rfl rfl rfl ⟨.i64, rfl⟩ ⟨.i64, rfl⟩ (by omega) (by omega)) rfl rfl ?_
      exact Z
   by_cases k3 : kd = 3
   ·subst k3
    obtain ⟨hg1, hg2⟩ := hg nm (p + k) (by omega) (by omega) (by omega) (by omega)
    unfold grpE at hg1 hg2
    unfold k'2w
    rw [if_neg (by decide), if_neg (by decide), if_neg (by decide), if_neg (by decide), if_pos rfl]
    have hgo : ∀ q, (if d < 1 then Except.error (Er.loc ((p + k : Nat) : Int) (Er.code 6)) else grp s f (d - 1) nm (p + k)) = .ok q → p + k ≤ q ∧ q ≤ s.length := fun q hq => by
     split at hq
     ·simp at hq
     ·exact grp_ok f _ _ _ _ hq (by omega)
    generalize (if d < 1 then Except.error (Er.loc ((p + k : Nat) : Int) (Er.code 6)) else grp s f (d - 1) nm (p + k)) = G at *
    cases G with
    | ok q0 =>
     have h3 := hg1 q0 rfl
     obtain ⟨o1, o2⟩ := hgo q0 rfl
     refine Y ?_
     refine l_cw [] (h3) rfl rfl rfl ?_
     refine k'1 (.sliceStr (s := s) (l := p) (h := q0) rfl rfl rfl rfl ⟨.i64, rfl⟩ ⟨.i64, rfl⟩ (by omega) (by omega)) rfl rfl ?_
     exact Z
    | error e0 =>
     obtain ⟨z, h3⟩ := hg2 e0 rfl
     refine Y ?_
     refine k'2 [] (h3) rfl rfl rfl ?_
     exact Z
   rw [key kd rfl k0 k1 k5 k2 k3]
   dsimp only
   have hk' : kd = 4 ∨ kd = 6 ∨ kd = 7 := by omega
   rcases hk' with rfl | rfl | rfl <;> (
    exact Z)
end Go.Proofs.YtcfkbpddmdfbaaaGreatDoor
/-! The reference: groups; records, one behind the other. -/
namespace Go.Proofs.YtcfkbpddmdfbaaaGreatDoor
open Go Go.Abs
variable (B : Fr)
def badT : T := .tup [.d (.int .i64 0), .d (.bool false)]
def rgr (s : List UInt8) : Nat → Int → Nat → Nat → T
 | 0 => fun _ _ _ => badT
 | f + 1 => fun d num p => match vE s p with
  | .error _ => badT
  | .ok (m, q) => if m % 8 = 4 then .tup [iT q, .d (.bool (m / 8 == num))] else match recF s f d p with
   | .error _ => badT
   | .ok (_, q') => rgr s f d num q'
theorem rgr_succ (s : List UInt8) (f : Nat) (d : Int) (num p : Nat) : rgr s (f + 1) d num p = (match vE s p with
  | .error _ => badT
  | .ok (m, q) => if m % 8 = 4 then .tup [iT q, .d (.bool (m / 8 == num))] else match recF s f d p with
   | .error _ => badT
   | .ok (_, q') => rgr s f d num q') := rfl
theorem rgr_grp (s : List UInt8) : ∀ (f : Nat) (d : Int) (num p : Nat), 1 ≤ num → num ≤ 536870911 → (∀ q, grp s f d num p = .ok q → rgr s f d num p = .tup [iT q, .d (.bool true)]) ∧ (∀ e, grp s f d num p = .error e → ∃ z : Int, rgr s f d num p = .tup [.d (.int .i64 z), .d (.bool false)])
 | 0, d, num, p, _, _ => ⟨fun q h => by simp [grp] at h, fun e h => ⟨0, rfl⟩⟩
 | f + 1, d, num, p, h1, h2 => by
  rw [k'3a, rgr_succ]
  unfold recF tagE
  cases hv : vE s p with
  | error e => exact ⟨fun q h => by simp at h, fun e h => ⟨0, rfl⟩⟩
  | ok mq =>
   obtain ⟨m, q⟩ := mq
   dsimp only
   by_cases hr : m / 8 < 1 ∨ 536870911 < m / 8
   ·rw [if_pos hr]
    refine ⟨fun q h => by simp at h, fun e h => ?_⟩
    by_cases h4 : m % 8 = 4
    ·rw [if_pos h4]
     exact ⟨q, by rw [show (m / 8 == num) = false by simp; omega]; rfl⟩
    ·rw [if_neg h4]; exact ⟨0, rfl⟩
   ·rw [if_neg hr]
    dsimp only
    by_cases h4 : m % 8 = 4
    ·rw [if_pos h4, if_pos h4]
     by_cases hn : m / 8 = num
     ·rw [if_pos hn]
      refine ⟨fun q' h => ?_, fun e h => by simp at h⟩
      injection h with h; subst h
      rw [show (m / 8 == num) = true by simp [hn]]
     ·rw [if_neg hn]
      exact ⟨fun q' h => by simp at h, fun e h => ⟨q, by rw [show (m / 8 == num) = false by simp [hn]]; rfl⟩⟩
    ·rw [if_neg h4, if_neg h4]
     cases hg : k'2w (grp s f) s d (m / 8) (m % 8) p q with
     | error e => exact ⟨fun q' h => by simp at h, fun e h => ⟨0, rfl⟩⟩
     | ok r =>
      obtain ⟨N, t, q'⟩ := r
      exact rgr_grp s f d num q' h1 h2
theorem rGroup_calls (s : List UInt8) (hl : s.length < big) (f : Nat) : ∀ (d : Int) (num p : Nat), 1 ≤ num → num ≤ 536870911 → p ≤ s.length → s.length - p < f → -9223372036854775808 ≤ d → d < 9223372036854775808 → RGrp B s f d num p := by
 induction f using Nat.strongRecOn with
 | ind f ih =>
  intro d num p n1 n2 hp hf hd1 hd2
  have hl' := hl
  unfold big at hl'
  have main : k'0 (cx B) 223 [sT s, iT p, iT num, .d (.int .i64 d)] [] (if d < 1 then badT else rgr s f (d - 1) num p) [] := by
   by_cases hd : d < 1
   ·rw [if_pos hd]
    refine l_bw Tryz.func223 0 [] ?_
    rw [show decide (d < 1) = true from decide_eq_true hd]
    exact Z
   ·rw [if_neg hd]
    have hw1 : IntKind.i64.wrap (d - 1) = d - 1 := k'10 (by omega) (by omega)
    refine l_bw Tryz.func223 0 [] ?_
    rw [show decide (d < 1) = false from decide_eq_false hd]
    refine Y ?_
    refine k'8 (fun x : Nat × Nat => x.2) (fun x => [(0, sT s), (1, iT x.1), (2, iT num), (3, .d (.int .i64 d))]) (fun _ => []) (fun x => x.1 ≤ s.length ∧ s.length - x.1 < x.2 ∧ x.2 ≤ f ∧ rgr s f (d - 1) num p = rgr s x.2 (d - 1) num x.1) (p, f) ⟨hp, hf, Nat.le_refl _, rfl⟩ ⟨rfl, rfl, rfl, rfl, trivial⟩ rfl 0 rfl (fun _ => rfl) (fun _ => rfl) (fun _ => rfl) ?_
    rintro ⟨q, g⟩ ⟨i1, i2, i3, i4⟩
    dsimp only at i1 i2 i3 i4 ⊢
    cases g with
    | zero => omega
    | succ g =>
    rw [i4, rgr_succ]
    have h1 := rGet_calls B s q i1 hl
    unfold rgT at h1
    unfold vE
    cases hv : vrd (s.drop q) 0 0 with
    | error c =>
     rw [hv] at h1
     dsimp only at h1 ⊢
     have hc : ((c : Int) != 0) = true := by have : c ≠ 0 := vrd_ne hv; simp; omega
     refine Y ?_
     refine l_cw [] (h1) rfl rfl rfl ?_
     rw [hc]
     exact Z
    | ok mk =>
     obtain ⟨m, k⟩ := mk
     have hve : vE s q = .ok (m, q + k) := by unfold vE; rw [hv]
     obtain ⟨g1, g2, g3⟩ := vE_ok hve
     rw [hv] at h1
     dsimp only at h1 ⊢
     have h7 : IntKind.u64.wrap ((BitVec.ofInt IntKind.u64.bits (m : Int) &&& BitVec.ofInt IntKind.u64.bits 7).toNat : Int) = ((m % 8 : Nat) : Int) := and64 g3 3 (by omega)
     refine Y ?_
     refine l_cw [] (h1) rfl rfl rfl ?_
     rw [h7]
     by_cases h4 : m % 8 = 4
     ·rw [if_pos h4, show (((m % 8 : Nat) : Int) == 4) = true by rw [h4]; rfl]
      refine Y ?_
      rw [shr3, show IntKind.u64.wrap (num : Int) = num from wrapN (by omega), ibeq]
      exact k'i rfl
     ·rw [if_neg h4, show (((m % 8 : Nat) : Int) == 4) = false by simp; omega]
      have hN := rNext_calls B s g (d - 1) q i1 hl (fun n q' a1 a2 a3 a4 => ih g (by omega) (d - 1) n q' a1 a2 a3 (by omega) (by omega) (by omega))
      unfold rnT at hN
      refine Y ?_
      rw [hw1]
      cases hr : recF s g (d - 1) q with
      | error e =>
       rw [hr] at hN
       dsimp only at hN
       refine k'2 [] (hN) rfl rfl rfl ?_
       exact Z
      | ok rq =>
       obtain ⟨r, q'⟩ := rq
       have hb : q < q' ∧ q' ≤ s.length := by
        unfold recF at hr
        split at hr <;> (try (simp at hr; done))
        rename_i e1
        obtain ⟨t1, t2, -⟩ := k'3n e1
        split at hr <;> (try (simp at hr; done))
        rename_i e2
        obtain ⟨b1, b2, b3⟩ := k'32 (fun d n p q => grp_ok g d n p q) e2 t2
        injection hr with hr; injection hr with e3 e4
        omega
       rw [hr] at hN
       dsimp only at hN ⊢
       refine l_cw [] (hN) rfl rfl rfl ?_
       exact ⟨(q', g), Nat.lt_succ_self g, ⟨hb.2, by show s.length - q' < g; omega, by show g ≤ f; omega, rfl⟩, ⟨rfl, rfl, rfl, rfl, trivial⟩, rfl, k'z rfl⟩
  obtain ⟨a1, a2⟩ := rgr_grp s f (d - 1) num p n1 n2
  unfold RGrp grpE
  by_cases hd : d < 1
  ·rw [if_pos hd] at main ⊢
   exact ⟨fun q h => by simp at h, fun e h => ⟨0, main⟩⟩
  ·rw [if_neg hd] at main ⊢
   refine ⟨fun q h => by rw [a1 q h] at main; exact main, fun e h => ?_⟩
   obtain ⟨z, hz⟩ := a2 e h
   rw [hz] at main
   exact ⟨z, main⟩
theorem rNext (s : List UInt8) (d : Int) (p : Nat) (hp : p ≤ s.length) (hl : s.length < big) (hd1 : -9223372036854775808 ≤ d) (hd2 : d < 9223372036854775808) : k'0 (cx B) 167 [sT s, iT p, .d (.int .i64 d)] [] (rnT (recE s d p)) [] := by
 rw [← recF_recE]
 exact rNext_calls B s (s.length + 1) d p hp hl (fun n q a1 a2 a3 a4 => rGroup_calls B s hl (s.length + 1) d n q a1 a2 a3 (by omega) hd1 hd2)
def rallT : Except Er (List Fld) → T
 | .ok l => .tup [.d (slD (l.map Fld.d)), .d (.bool true)]
 | .error e => .tup [.d (.sl true []), .d (.bool false)]
theorem rAll_calls (s : List UInt8) (d : Int) (hl : s.length < big) (hd1 : -9223372036854775808 ≤ d) (hd2 : d < 9223372036854775808) : k'0 (cx B) 112 [sT s, .d (.int .i64 d)] [] (rallT (all s d)) [] := by
 have hl' := hl
 unfold big at hl'
 refine l_bw Tryz.func112 0 [] ?_
 refine k'8 (fun x : Nat × Nat × List Fld => x.2.1) (fun x => [(0, sT s), (1, .d (.int .i64 d)), (6, owT (x.2.2.map Fld.d)), (7, iT x.1)]) (fun _ => [])
  (fun x => x.1 ≤ s.length ∧ s.length - x.1 < x.2.1 ∧ x.2.2.length ≤ x.1 ∧ all s d = (match allE s d x.2.1 x.1 with | .ok l => .ok (x.2.2 ++ l) | .error e => .error e)) (0, s.length + 1, []) ⟨by omega, by show s.length - 0 < s.length + 1; omega, by simp, ?_⟩ ⟨rfl, rfl, rfl, rfl, trivial⟩ rfl 0 rfl (fun _ => rfl) (fun _ => rfl) (fun _ => rfl) ?_
 ·show all s d = _
  unfold all
  dsimp only
  split <;> (rename_i h; rw [h]) <;> rfl
 rintro ⟨p, g, acc⟩ ⟨i1, i2, i3, i4⟩
 dsimp only at i1 i2 i3 i4 ⊢
 cases g with
 | zero => omega
 | succ g =>
 unfold allE at i4
 refine Y ?_
 by_cases hp : p < s.length
 ·rw [show decide ((p : Int) < s.length) = true from decide_eq_true (by omega)]
  rw [if_pos hp] at i4
  have h1 := rNext B s d p i1 hl hd1 hd2
  unfold rnT at h1
  cases hr : recE s d p with
  | error e =>
   rw [hr] at i4 h1
   dsimp only at i4 h1
   rw [i4]
   refine Y ?_
   refine k'2 [] (h1) rfl rfl rfl ?_
   exact Z
  | ok rq =>
   obtain ⟨r, q⟩ := rq
   obtain ⟨b1, b2, b3⟩ := k'4d hr
   rw [hr] at i4 h1
   dsimp only at i4 h1
   refine Y ?_
   refine l_cw [] (h1) rfl rfl rfl ?_
   (try refine k'1t rfl ?_)
   refine k'1 (.assignOwn (.inr rfl) rfl) rfl rfl ?_
   refine Y ?_
   refine k'1 (.buildSlice (es := [r.d]) rfl rfl rfl rfl rfl rfl (by intro x hx; simp at hx; subst hx; rfl) (by simp) (by decide) (by decide)) rfl rfl ?_
   have hm : (acc.map Fld.d).length + [r.d].length ≤ most := by simp [most]; omega
   refine k'1 (.append' rfl rfl rfl rfl ⟨_, _, rfl, rfl, by intro q; simp⟩ rfl rfl rfl rfl rfl (by rw [show [r.d] = [r].map Fld.d from rfl, ← List.map_append]; exact fld_fits _) (by decide) rfl hm rfl) rfl rfl ?_
   refine k'1 (.assignOwn (.inl rfl) rfl) rfl rfl ?_
   refine Y ?_
   exact ⟨(q, g, acc ++ [r]), Nat.lt_succ_self g, ⟨b2, by show s.length - q < g; omega, by show (acc ++ [r]).length ≤ q; simp; omega, by rw [i4]; cases allE s d g q <;> simp⟩, ⟨rfl, rfl, by show T.own _ _ = owT _; rw [List.map_append]; rfl, rfl, trivial⟩, rfl, k'z rfl⟩
 ·rw [show decide ((p : Int) < s.length) = false from decide_eq_false (by omega)]
  rw [if_neg hp] at i4
  dsimp only at i4
  rw [List.append_nil] at i4
  rw [i4]
  refine Y ?_
  (try refine k'1t rfl ?_)
  refine k'1 (.moveShare rfl rfl) rfl rfl ?_
  exact Z
end Go.Proofs.YtcfkbpddmdfbaaaGreatDoor
/-! The reference: packed numbers, numbers unfolded, a message's records, tables. -/
namespace Go.Proofs.YtcfkbpddmdfbaaaGreatDoor
open Go Go.Abs
variable (B : Fr)
def fieldsT (s : List UInt8) (d : Int) : T :=
 match okL s d with
 | some l => .tup [.d (slD (l.map Fld.d)), .d (.bool true)]
 | none => .tup [.d (.sl true []), .d (.bool false)]
theorem Fields_calls (s : List UInt8) (d : Int) (hl : s.length < big) (hd1 : -9223372036854775808 ≤ d) (hd2 : d < 9223372036854775808) : k'0 (cx B) 64 [sT s, .d (.int .i64 d)] [] (fieldsT s d) [] := by
 have h1 := rAll_calls B s d hl hd1 hd2
 unfold fieldsT okL
 by_cases hd : d < 0
 ·rw [if_pos hd]
  refine l_bw Tryz.func64 0 [] ?_
  rw [show decide (d < 0) = true from decide_eq_true hd]
  exact Z
 ·rw [if_neg hd]
  unfold rallT at h1
  cases ha : all s d with
  | ok l =>
   rw [ha] at h1
   dsimp only at h1 ⊢
   refine l_bw Tryz.func64 0 [] ?_
   rw [show decide (d < 0) = false from decide_eq_false hd]
   refine Y ?_
   refine k'2 [] (h1) rfl rfl rfl ?_
   exact Z
  | error e =>
   rw [ha] at h1
   dsimp only at h1 ⊢
   refine l_bw Tryz.func64 0 [] ?_
   rw [show decide (d < 0) = false from decide_eq_false hd]
   refine Y ?_
   refine k'2 [] (h1) rfl rfl rfl ?_
   exact Z
def tkB (tbl : List Nat) (n k : Nat) : Bool := tbl.any fun t => t / 8 == n && t % 8 == k
theorem Takes_calls (tbl : List Nat) (x : Fld) (hb : tbl.length < 1000) (ht : ∀ t ∈ tbl, t < 100000) : k'0 (cx B) 65 [.d (.sl false (tbl.map iD)), .d x.d] [] (.d (.bool (tkB tbl x.num x.kind))) [] := by
 have hlen : (tbl.map iD).length = tbl.length := by simp
 refine l_bw Tryz.func65 0 [] ?_
 refine k'8 (fun i : Nat => tbl.length - i) (fun i => [(0, .d (.sl false (tbl.map iD))), (3, .ptr 0 0), (5, iT i)]) (fun _ => [.mu (x.d.cells.map T.d)]) (fun i => i ≤ tbl.length ∧ tkB (tbl.take i) x.num x.kind = false) 0 ⟨by omega, rfl⟩ ⟨rfl, rfl, rfl, trivial⟩ rfl 1 rfl (fun _ => rfl) (fun _ => rfl) (fun _ => rfl) ?_
 rintro i ⟨i1, i2⟩
 refine Y ?_
 rw [hlen]
 by_cases hlt : i < tbl.length
 ·rw [show decide ((i : Int) < tbl.length) = true from decide_eq_true (by omega)]
  obtain ⟨t, hti⟩ : ∃ t, tbl[i]? = some t := ⟨_, List.getElem?_eq_getElem hlt⟩
  have hdt : (tbl.map iD)[i]? = some (iD t) := by rw [List.getElem?_map, hti]; rfl
  have htb := ht t (List.mem_of_getElem? hti)
  have hq : IntKind.i64.wrap (Int.tdiv (t : Int) 8) = ((t / 8 : Nat) : Int) := by rw [Int.tdiv_eq_ediv_of_nonneg (by omega), k'10 (by omega) (by omega)]; omega
  have hr : Int.tmod (t : Int) 8 = ((t % 8 : Nat) : Int) := by rw [Int.tmod_eq_emod_of_nonneg (by omega)]; omega
  have htk : tkB (tbl.take (i + 1)) x.num x.kind = (t / 8 == x.num && t % 8 == x.kind) := by
   unfold tkB at i2 ⊢
   rw [List.take_add_one, hti, Option.toList_some, List.any_append, i2]; simp
  have hany : (t / 8 == x.num && t % 8 == x.kind) = true → tkB tbl x.num x.kind = true := fun h => List.any_eq_true.2 ⟨t, List.mem_of_getElem? hti, h⟩
  refine adm ?_
  refine x_open rfl rfl ?_
  refine Y ?_
  refine k'12 (.indexAddr (k := .i64) (n := i) (es := tbl.map iD) (u := iD t) rfl rfl rfl rfl (.inl ⟨_, rfl⟩) rfl (by omega) (by simpa using hdt) rfl (by decide)) rfl rfl rfl ?_
  refine Y ?_
  refine k'12 (.quo (k := .i64) (a := t) (b := 8) rfl rfl rfl (by decide)) rfl rfl rfl ?_
  rw [hq]
  refine xw ?_
  rw [ibeq]
  cases h1 : (t / 8 == x.num)
  ·rw [h1] at htk hany
   refine Y ?_
   rw [wS i (by omega)]
   exact ⟨i + 1, by omega, ⟨by omega, htk⟩, ⟨rfl, rfl, rfl, trivial⟩, rfl, k'z rfl⟩
  rw [h1] at htk hany
  refine Y ?_
  refine k'12 (.indexAddr (k := .i64) (n := i) (es := tbl.map iD) (u := iD t) rfl rfl rfl rfl (.inl ⟨_, rfl⟩) rfl (by omega) (by simpa using hdt) rfl (by decide)) rfl rfl rfl ?_
  refine Y ?_
  refine k'12 (.rem (k := .i64) (a := t) (b := 8) rfl rfl rfl (by decide)) rfl rfl rfl ?_
  rw [hr]
  refine Y ?_
  rw [ibeq]
  cases h2 : (t % 8 == x.kind)
  ·rw [h2] at htk
   refine Y ?_
   rw [wS i (by omega)]
   exact ⟨i + 1, by omega, ⟨by omega, htk⟩, ⟨rfl, rfl, rfl, trivial⟩, rfl, k'z rfl⟩
  rw [h2] at hany
  rw [hany rfl]
  exact Z
 ·rw [show decide ((i : Int) < tbl.length) = false from decide_eq_false (by omega)]
  have : i = tbl.length := by omega
  subst this
  rw [List.take_length] at i2
  rw [i2]
  exact Z
