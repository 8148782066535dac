/- The errors of the program, and what lays a place or a field about one. And more. -/
import Derived.Test.YtcfkbpddmdfbaaaGreatDoorT
set_option linter.unusedSimpArgs false
set_option linter.unusedVariables false
set_option maxRecDepth 100000
/-! The errors of the program, and what lays a place or a field about one. -/
namespace Go.Proofs.YtcfkbpddmdfbaaaGreatDoor
open Go Go.Abs
inductive Er where
 | code (n : Int) | loc (n : Int) (e : Er) | fld (n : Int) (e : Er)
def Er.d : Er → D
 | .code n => .iface 33 (.int .i64 n)
 | .loc n e => .iface 159 (.box [.int .i64 n, e.d])
 | .fld n e => .iface 289 (.box [.int .i64 n, e.d])
def eD : Option Er → D
 | none => .nili
 | some e => e.d
def iT (n : Int) : T := .d (.int .i64 n)
def uT (n : Nat) : T := .d (.int .u64 n)
def sT (s : List UInt8) : T := .d (.str s)
variable (B : Fr)
theorem At_calls (n : Int) (e : Option Er) : k'0 (cx B) 60 [.d (.int .i64 n), .d (eD e)] [] (.d (eD (e.map (.loc n)))) [] := by
 refine l_body (X := cx B) (fn := Tryz.f60) Tryz.func60 rfl rfl rfl rfl rfl 0 [] rfl rfl ?_
 cases e with
 | none =>
  exact Z
 | some e =>
  cases e <;>
  (refine Y ?_) <;>
  exact k'i rfl
end Go.Proofs.YtcfkbpddmdfbaaaGreatDoor
/-! varint.read, varint.Get: what they answer. -/
namespace Go.Proofs.YtcfkbpddmdfbaaaGreatDoor
open Go Go.Abs
def vrd : List UInt8 → Nat → Nat → Except Nat (Nat × Nat)
 | [], _, _ => .error 1
 | c :: r, i, a => if i = 10 then .error 1 else if i = 9 ∧ 1 < c.toNat then .error 4 else
  if c.toNat < 128 then .ok (a + c.toNat % 128 * 2 ^ (7 * i), i + 1) else vrd r (i + 1) (a + c.toNat % 128 * 2 ^ (7 * i))
def rdT : Except Nat (Nat × Nat) → T
 | .ok (n, k) => .tup [.d (.int .u64 n), .d (.int .i64 k), .d .nili]
 | .error c => .tup [.d (.int .u64 0), .d (.int .i64 0), .d (Er.code c).d]
variable (B : Fr)
theorem vread_calls (s : List UInt8) : k'0 (cx B) 421 [sT s] [] (rdT (vrd s 0 0)) [] := by
 refine l_body (X := cx B) (fn := Tryz.f421) Tryz.func421 rfl rfl rfl rfl rfl 0 [] rfl rfl ?_
 refine Y ?_
 refine k'8 (fun x : Nat × Nat => 11 - x.1) (fun x => [(0, sT s), (5, uT x.2), (10, iT (if (10 : Int) < s.length then 10 else s.length)), (11, iT x.1)]) (fun _ => []) (fun x => vrd s 0 0 = vrd (s.drop x.1) x.1 x.2 ∧ x.1 ≤ 10 ∧ x.1 ≤ s.length ∧ x.2 < 2 ^ (7 * x.1)) (0, 0) ⟨rfl, by omega, by omega, by simp⟩ ⟨rfl, rfl, rfl, rfl, trivial⟩ rfl 0 rfl (fun _ => rfl) (fun _ => rfl) (fun _ => rfl) ?_
 rintro ⟨i, a⟩ ⟨h1, h2, h3, h4⟩
 dsimp only at h1 h2 h3 h4 ⊢
 refine Y ?_
 refine k'13 rfl (fun hc => ?_) (fun hc => ?_)
 ·have hlt : i < s.length ∧ i < 10 := by have := of_decide_eq_true hc; split at this <;> omega
  obtain ⟨c, hci⟩ : ∃ c, s[i]? = some c := ⟨_, List.getElem?_eq_getElem hlt.1⟩
  have hdr : s.drop i = c :: s.drop (i + 1) := by
   rw [List.drop_eq_getElem_cons hlt.1]; rw [List.getElem?_eq_getElem hlt.1] at hci; injection hci with hci; rw [hci]
  refine Y ?_
  refine k'1 (.index (k := .i64) (n := i) (s := s) (c := c) rfl rfl rfl rfl rfl (by omega) (by simpa using hci)) rfl rfl ?_
  refine stp ?_
  refine l_join [(0, sT s), (5, uT a), (6, iT i), (7, .d (.int .u8 c.toNat)), (10, iT (if (10 : Int) < s.length then 10 else s.length)), (11, iT i)] [] (¬ (i = 9 ∧ 1 < c.toNat)) ?_ (fun h9 e => ?_)
  ·have hfin : (i = 9 ∧ 1 < c.toNat) → vrd s 0 0 = .error 4 := fun hh => by
    rw [h1, hdr]; unfold vrd; rw [if_neg (by omega), if_pos hh]
   refine Y ?_
   cases hb : ((i : Int) == 9)
   rotate_left
   ·have hi9 : i = 9 := by have := eq_of_beq hb; omega
    refine Y ?_
    refine k'13 rfl (fun hd => ?_) (fun hd => ?_)
    ·refine Y ?_
     rw [hfin ⟨hi9, by have := of_decide_eq_true hd; omega⟩]
     exact k'i rfl
    ·refine Y ?_
     exact ⟨fun hh => by have := of_decide_eq_false hd; omega, ⟨rfl, rfl, rfl, rfl, rfl, rfl, trivial⟩, rfl⟩
   refine Y ?_
   exact ⟨fun hh => by have := ne_of_beq_false hb; omega, ⟨rfl, rfl, rfl, rfl, rfl, rfl, trivial⟩, rfl⟩
  ·have hw : IntKind.i64.wrap (7 * (i : Int)) = ((7 * i : Nat) : Int) := by rw [k'10 (by omega) (by omega)]; omega
   have hlo : IntKind.u64.wrap (IntKind.u8.wrap ((BitVec.ofInt IntKind.u8.bits (c.toNat : Int) &&& ~~~BitVec.ofInt IntKind.u8.bits 128).toNat : Int)) = ((c.toNat % 128 : Nat) : Int) := by
    rw [low7]; exact wrapN (by omega)
   have hbd : c.toNat % 128 * 2 ^ (7 * i) < 18446744073709551616 ∧ a + c.toNat % 128 * 2 ^ (7 * i) < 18446744073709551616 ∧ a + c.toNat % 128 * 2 ^ (7 * i) < 2 ^ (7 * (i + 1)) := by
    have hp : 2 ^ (7 * (i + 1)) = 128 * 2 ^ (7 * i) := by rw [show 7 * (i + 1) = 7 * i + 7 by omega, Nat.pow_add]; omega
    have hm : c.toNat % 128 * 2 ^ (7 * i) ≤ 127 * 2 ^ (7 * i) := Nat.mul_le_mul_right _ (by omega)
    by_cases h : i = 9
    ·subst h
     have : c.toNat ≤ 1 := by have := not_and.1 h9 rfl; omega
     have hm' : c.toNat % 128 * 2 ^ (7 * 9) ≤ 1 * 2 ^ (7 * 9) := Nat.mul_le_mul_right _ (by omega)
     simp at hm' h4 ⊢; omega
    ·have h2' : 2 ^ (7 * i) ≤ 2 ^ 56 := Nat.pow_le_pow_right (by omega) (by omega)
     simp at h2'; omega
   refine Y ?_
   refine k'1 (.shl (k := .u64) (j := .i64) rfl rfl rfl (by rw [hw]; omega)) rfl rfl ?_
   have hsh : IntKind.u64.wrap (IntKind.u64.wrap (IntKind.u8.wrap ((BitVec.ofInt IntKind.u8.bits (c.toNat : Int) &&& ~~~BitVec.ofInt IntKind.u8.bits 128).toNat : Int)) * 2 ^ min (IntKind.i64.wrap (7 * (i : Int))).toNat IntKind.u64.bits) = ((c.toNat % 128 * 2 ^ (7 * i) : Nat) : Int) := by
    rw [hlo, hw, show IntKind.u64.bits = 64 from rfl, show min ((7 * i : Nat) : Int).toNat 64 = 7 * i by omega]
    have := wrapN hbd.1
    rw [← this]; congr 1
   rw [hsh]
   refine Y ?_
   have hor := or64 h4 hbd.2.1
   rw [hor]
   have hst : vrd s 0 0 = if c.toNat < 128 then .ok (a + c.toNat % 128 * 2 ^ (7 * i), i + 1) else vrd (s.drop (i + 1)) (i + 1) (a + c.toNat % 128 * 2 ^ (7 * i)) := by
    rw [h1, hdr]; show (if i = 10 then _ else _) = _
    rw [if_neg (by omega), if_neg h9]
   refine k'13 rfl (fun hd => ?_) (fun hd => ?_)
   ·refine Y ?_
    rw [hst, if_pos (by have := of_decide_eq_true hd; omega)]
    have : IntKind.i64.wrap ((i : Int) + 1) = ((i + 1 : Nat) : Int) := by rw [k'10 (by omega) (by omega)]; omega
    rw [this]
    exact k'i rfl
   ·refine Y ?_
    have : IntKind.i64.wrap ((i : Int) + 1) = ((i + 1 : Nat) : Int) := by rw [k'10 (by omega) (by omega)]; omega
    rw [this]
    exact ⟨(i + 1, a + c.toNat % 128 * 2 ^ (7 * i)), by simp only; omega, ⟨by rw [hst, if_neg (by have := of_decide_eq_false hd; omega)], by simp only; omega, by simp only; omega, hbd.2.2⟩, ⟨rfl, rfl, rfl, rfl, trivial⟩, rfl, k'z rfl⟩
 ·refine Y ?_
  have hv : vrd s 0 0 = .error 1 := by
   rw [h1]
   rcases Nat.lt_or_ge i s.length with g | g
   ·have : i = 10 := by have := of_decide_eq_false hc; split at this <;> omega
    subst this
    rw [List.drop_eq_getElem_cons g]; rfl
   ·rw [List.drop_eq_nil_of_le g]; rfl
  rw [hv]
  exact k'i rfl
end Go.Proofs.YtcfkbpddmdfbaaaGreatDoor
/-! varint.Get and the reader's small steps: what they answer. -/
namespace Go.Proofs.YtcfkbpddmdfbaaaGreatDoor
open Go Go.Abs
theorem vrd_ok : ∀ {l : List UInt8} {i a n k : Nat}, vrd l i a = .ok (n, k) → i ≤ 10 → a < 2 ^ (7 * i) → i < k ∧ k ≤ i + l.length ∧ n < 2 ^ 64 ∧ k ≤ 10
 | [], _, _, _, _, h, _, _ => by simp [vrd] at h
 | c :: r, i, a, n, k, h, hi, ha => by
  have hc := k'2u c
  unfold vrd at h
  split at h
  ·simp at h
  ·split at h
   ·simp at h
   ·rename_i h1 h2
    have hp : 2 ^ (7 * (i + 1)) = 128 * 2 ^ (7 * i) := by rw [show 7 * (i + 1) = 7 * i + 7 by omega, Nat.pow_add]; omega
    have hm : c.toNat % 128 * 2 ^ (7 * i) ≤ 127 * 2 ^ (7 * i) := Nat.mul_le_mul_right _ (by omega)
    split at h
    ·injection h with h; injection h with h3 h4
     subst h3; subst h4
     refine ⟨by omega, by simp, ?_, by omega⟩
     by_cases h9 : i = 9
     ·subst h9
      have : c.toNat ≤ 1 := by omega
      have hm' : c.toNat % 128 * 2 ^ (7 * 9) ≤ 1 * 2 ^ (7 * 9) := Nat.mul_le_mul_right _ (by omega)
      simp at hm' ha ⊢; omega
     ·have h2' : 2 ^ (7 * i) ≤ 2 ^ 56 := Nat.pow_le_pow_right (by omega) (by omega)
      simp at h2'; omega
    ·obtain ⟨g1, g2, g3, g4⟩ := vrd_ok h (by omega) (by omega)
     exact ⟨by omega, by simp; omega, g3, g4⟩
def big : Nat := 34359738368
variable (B : Fr)
theorem drop_take_all (s : List UInt8) (n : Nat) : (s.drop n).take (s.length - n) = s.drop n := by
 rw [List.take_of_length_le (by simp)]
def vE (s : List UInt8) (p : Nat) : Except Er (Nat × Nat) :=
 match vrd (s.drop p) 0 0 with
 | .ok (n, k) => .ok (n, p + k)
 | .error c => .error (.loc p (.code c))
def geT : Except Er (Nat × Nat) → T
 | .ok (n, k) => .tup [.d (.int .u64 n), .d (.int .i64 k), .d .nili]
 | .error c => .tup [.d (.int .u64 0), .d (.int .i64 0), .d c.d]
theorem vE_ok {s : List UInt8} {p n k : Nat} (h : vE s p = .ok (n, k)) : p < k ∧ k ≤ s.length ∧ n < 2 ^ 64 := by
 unfold vE at h
 split at h <;> (try (simp at h; done))
 rename_i n' k' e
 injection h with h; injection h with h1 h2
 obtain ⟨g1, g2, g3, -⟩ := vrd_ok e (by omega) (by simp)
 simp at g2
 exact ⟨by omega, by omega, by omega⟩
theorem vget_calls (s : List UInt8) (p : Nat) (hp : p ≤ s.length) (hl : s.length < big) : k'0 (cx B) 351 [sT s, iT p] [] (geT (vE s p)) [] := by
 unfold big at hl
 refine l_bw Tryz.func351 0 [] ?_
 rw [show decide ((p : Int) < 0) = false from decide_eq_false (by omega)]
 refine Y ?_
 rw [show decide ((p : Int) > s.length) = false from decide_eq_false (by omega)]
 refine Y ?_
 refine k'1 (.sliceStr (s := s) (l := p) (h := s.length) rfl rfl rfl rfl ⟨.i64, rfl⟩ rfl hp (Nat.le_refl _)) rfl rfl ?_
 rw [drop_take_all]
 have h1 := vread_calls B (s.drop p)
 unfold vE
 cases hv : vrd (s.drop p) 0 0 with
 | ok nk =>
  obtain ⟨n, k⟩ := nk
  obtain ⟨g1, g2, g3, g4⟩ := vrd_ok hv (by omega) (by simp)
  simp at g2
  rw [hv] at h1
  refine l_cw [] (h1) rfl rfl rfl ?_
  rw [show IntKind.i64.wrap ((p : Int) + k) = ((p + k : Nat) : Int) by rw [k'10 (by omega) (by omega)]; omega]
  exact k'i rfl
 | error c =>
  rw [hv] at h1
  refine l_cw [] (h1) rfl rfl rfl ?_
  refine k'2 [] (At_calls B p (some (.code c))) rfl rfl rfl ?_
  exact Z
def rdOb (s : List UInt8) (p : Nat) (e : Option Er) (d : Int) : Ob := .mu [sT s, iT p, .d (eD e), iT d]
theorem k'25 (s : List UInt8) (p : Nat) (d : Int) (q : Nat) (c : Int) : k'0 (cx B) 260 [.ptr 0 0, iT q, .d (Er.code c).d] [rdOb s p none d] (.tup []) [rdOb s p (some (.loc q (.code c))) d] := by
 refine l_bw Tryz.func260 1 [] ?_
 refine k'2 [] (At_calls B q (some (.code c))) rfl rfl rfl ?_
 exact Z
theorem rvarint_err (s : List UInt8) (p : Nat) (e : Er) (d : Int) : k'0 (cx B) 259 [.ptr 0 0] [rdOb s p (some e) d] (uT 0) [rdOb s p (some e) d] := by
 refine l_b0 Tryz.func259 1 [] ?_
 cases e <;>
 (refine Y ?_) <;>
 exact k'i rfl
def vR (s : List UInt8) (p : Nat) : Nat × Nat × Option Er :=
 match vE s p with
 | .ok (n, k) => (n, k, none)
 | .error e => (0, p, some e)
theorem rvarint_calls (s : List UInt8) (p : Nat) (d : Int) (hp : p ≤ s.length) (hl : s.length < big) : k'0 (cx B) 259 [.ptr 0 0] [rdOb s p none d] (uT (vR s p).1) [rdOb s (vR s p).2.1 (vR s p).2.2 d] := by
 have h1 := vget_calls B s p hp hl
 unfold vR
 refine l_bw Tryz.func259 1 [] ?_
 cases hv : vE s p with
 | ok nk =>
  rw [hv] at h1
  refine k'3 [] (h1) rfl rfl rfl ?_
  exact Z
 | error e =>
  rw [hv] at h1
  unfold vE at hv
  split at hv <;> (try (simp at hv; done))
  injection hv with hv; subst hv
  refine k'3 [] (h1) rfl rfl rfl ?_
  exact Z
def tR (s : List UInt8) (p n : Nat) : List UInt8 × Nat × Option Er :=
 if s.length - p < n then ([], p, some (.loc p (.code 1))) else ((s.drop p).take n, p + n, none)
theorem rtake_err (s : List UInt8) (p : Nat) (e : Er) (d : Int) (n : Nat) : k'0 (cx B) 262 [.ptr 0 0, uT n] [rdOb s p (some e) d] (sT []) [rdOb s p (some e) d] := by
 refine l_b0 Tryz.func262 1 [] ?_
 cases e <;>
 (refine Y ?_) <;>
 exact k'i rfl
theorem rtake_calls (s : List UInt8) (p : Nat) (d : Int) (n : Nat) (hn : n < 2 ^ 64) (hp : p ≤ s.length) (hl : s.length < big) : k'0 (cx B) 262 [.ptr 0 0, uT n] [rdOb s p none d] (sT (tR s p n).1) [rdOb s (tR s p n).2.1 (tR s p n).2.2 d] := by
 unfold big at hl
 refine l_bw Tryz.func262 1 [] ?_
 have hw : IntKind.u64.wrap (IntKind.i64.wrap ((s.length : Int) - p)) = ((s.length - p : Nat) : Int) := by
  rw [k'10 (by omega) (by omega), wrapU (by omega) (by omega)]; omega
 rw [hw]
 unfold tR
 by_cases hc : s.length - p < n
 ·rw [if_pos hc]
  rw [show decide ((n : Int) > ((s.length - p : Nat) : Int)) = true from decide_eq_true (by omega)]
  refine Y ?_
  refine k'2 [0] (k'25 B s p d p 1) rfl rfl rfl ?_
  exact Z
 ·rw [if_neg hc]
  rw [show decide ((n : Int) > ((s.length - p : Nat) : Int)) = false from decide_eq_false (by omega)]
  refine Y ?_
  have hw2 : IntKind.i64.wrap (n : Int) = n := k'10 (by omega) (by omega)
  have hw3 : IntKind.i64.wrap ((p : Int) + IntKind.i64.wrap (n : Int)) = ((p + n : Nat) : Int) := by rw [hw2, k'10 (by omega) (by omega)]; omega
  have hw4 : IntKind.i64.wrap (((p + n : Nat) : Int) - IntKind.i64.wrap (n : Int)) = (p : Int) := by rw [hw2, k'10 (by omega) (by omega)]; omega
  rw [hw3, hw4]
  refine k'12 (.sliceStr (s := s) (l := p) (h := p + n) rfl rfl rfl rfl ⟨.i64, rfl⟩ ⟨.i64, rfl⟩ (by omega) (by omega)) rfl rfl rfl ?_
  rw [show p + n - p = n by omega]
  exact Z
def leN : List UInt8 → Nat
 | [] => 0
 | c :: r => c.toNat + 256 * leN r
theorem leN_lt : ∀ (l : List UInt8), leN l < 256 ^ l.length
 | [] => by simp [leN]
 | c :: r => by
  have h1 := leN_lt r
  have h2 := k'2u c
  simp only [leN, List.length_cons, Nat.pow_succ]; omega
theorem leN_snoc (c : UInt8) : ∀ (l : List UInt8), leN (l ++ [c]) = leN l + c.toNat * 256 ^ l.length
 | [] => by simp [leN]
 | d :: r => by
  simp only [leN, List.cons_append, leN_snoc c r, List.length_cons, Nat.pow_succ]
  rw [Nat.mul_add, Nat.add_assoc]
  congr 2
  rw [← Nat.mul_assoc, Nat.mul_comm 256, Nat.mul_assoc, Nat.mul_comm 256]
def lR (s : List UInt8) (p w : Nat) : Nat × Nat × Option Er := (leN (tR s p w).1, (tR s p w).2.1, (tR s p w).2.2)
theorem rlittle_calls (s : List UInt8) (p : Nat) (d : Int) (w : Nat) (hw : w ≤ 8) (hp : p ≤ s.length) (hl : s.length < big) : k'0 (cx B) 261 [.ptr 0 0, iT w] [rdOb s p none d] (uT (lR s p w).1) [rdOb s (lR s p w).2.1 (lR s p w).2.2 d] := by
 have hl' := hl
 unfold big at hl
 refine l_bw Tryz.func261 1 [] ?_
 rw [show IntKind.u64.wrap (w : Int) = w from wrapN (by omega)]
 have h1 := rtake_calls B s p d w (by omega) hp hl'
 refine l_cw [0] (h1) rfl rfl rfl ?_
 have hle : (tR s p w).1.length ≤ 8 := by unfold tR; split <;> simp; omega
 unfold lR
 generalize (tR s p w).1 = q at *
 generalize (tR s p w).2.1 = p'
 generalize (tR s p w).2.2 = e'
 refine k'8 (fun i : Nat => 9 - i) (fun i => [(5, uT (leN (q.take i))), (12, .d (.sl false (q.map k'27))), (13, iT (q.map k'27).length), (14, iT i)]) (fun _ => [rdOb s p' e' d]) (fun i => i ≤ q.length) 0 (by omega) ⟨rfl, rfl, rfl, rfl, trivial⟩ rfl 1 rfl (fun _ => rfl) (fun _ => rfl) (fun _ => rfl) ?_
 intro i hi
 refine Y ?_
 refine k'13 rfl (fun hc => ?_) (fun hc => ?_)
 ·have hlt : i < q.length := by have := of_decide_eq_true hc; simp at this; omega
  obtain ⟨c, hci⟩ : ∃ c, q[i]? = some c := ⟨_, List.getElem?_eq_getElem hlt⟩
  have hcc := k'2u c
  refine Y ?_
  refine k'1 (.indexAddr (k := .i64) (n := i) (es := q.map k'27) (u := k'27 c) rfl rfl rfl rfl (.inl ⟨_, rfl⟩) rfl (by omega) (by simp [hci]) rfl (by decide)) rfl rfl ?_
  refine Y ?_
  have hw8 : IntKind.i64.wrap (8 * (i : Int)) = ((8 * i : Nat) : Int) := by rw [k'10 (by omega) (by omega)]; omega
  refine k'1 (.shl (k := .u64) (j := .i64) rfl rfl rfl (by rw [hw8]; omega)) rfl rfl ?_
  have htl : (q.take i).length = i := by simp; omega
  have hlo := leN_lt (q.take i)
  have hpw : 256 ^ i = 2 ^ (8 * i) := by rw [show 256 = 2 ^ 8 from rfl, ← Nat.pow_mul]
  rw [htl, hpw] at hlo
  have hb2 : c.toNat * 2 ^ (8 * i) ≤ 255 * 2 ^ (8 * i) := Nat.mul_le_mul_right _ (by omega)
  have hb3 : 2 ^ (8 * i) ≤ 2 ^ 56 := Nat.pow_le_pow_right (by omega) (by omega)
  simp at hb3
  have hsh : IntKind.u64.wrap (IntKind.u64.wrap (c.toNat : Int) * 2 ^ min (IntKind.i64.wrap (8 * (i : Int))).toNat IntKind.u64.bits) = ((c.toNat * 2 ^ (8 * i) : Nat) : Int) := by
   rw [hw8, show IntKind.u64.bits = 64 from rfl, show min ((8 * i : Nat) : Int).toNat 64 = 8 * i by omega, wrapN (n := c.toNat) (by omega)]
   have := wrapN (n := c.toNat * 2 ^ (8 * i)) (by omega)
   rw [← this]; congr 1
  rw [hsh]
  refine Y ?_
  rw [or64 (i := 8 * i) hlo (by omega)]
  have hsn : leN (q.take i) + c.toNat * 2 ^ (8 * i) = leN (q.take (i + 1)) := by
   rw [List.take_add_one, hci, Option.toList_some, leN_snoc, htl, hpw]
  rw [hsn, show IntKind.i64.wrap ((i : Int) + 1) = ((i + 1 : Nat) : Int) by rw [k'10 (by omega) (by omega)]; omega]
  exact ⟨i + 1, by omega, by omega, ⟨rfl, rfl, rfl, rfl, trivial⟩, rfl, k'z rfl⟩
 ·have hge : i = q.length := by have := of_decide_eq_false hc; simp at this; omega
  refine Y ?_
  rw [hge, List.take_length]
  exact k'i rfl
end Go.Proofs.YtcfkbpddmdfbaaaGreatDoor
/-! Tags, records, groups: what the reader answers. -/
namespace Go.Proofs.YtcfkbpddmdfbaaaGreatDoor
open Go Go.Abs
variable (B : Fr)
def tagE (s : List UInt8) (p : Nat) : Except Er (Nat × Nat × Nat) :=
 match vE s p with
 | .error e => .error e
 | .ok (n, q) => if n / 8 < 1 ∨ 536870911 < n / 8 then .error (.loc p (.code 3)) else .ok (n / 8, n % 8, q)
def rdErr (s : List UInt8) (e : Er) (d : Int) : Ob := .mu [sT s, .undef, .d (eD (some e)), iT d]
theorem k'3n {s : List UInt8} {p n k q : Nat} (h : tagE s p = .ok (n, k, q)) : p < q ∧ q ≤ s.length ∧ n ≤ 536870911 ∧ 1 ≤ n ∧ k < 8 := by
 unfold tagE at h
 split at h <;> (try (simp at h; done))
 rename_i m r e
 split at h <;> (try (simp at h; done))
 obtain ⟨g1, g2, g3⟩ := vE_ok e
 injection h with h; injection h with h1 h2; injection h2 with h2 h3
 subst h1; subst h2; subst h3
 refine ⟨g1, g2, by omega, by omega, by omega⟩
theorem shr3 (n : Nat) : Int.fdiv (n : Int) (2 ^ min 3 IntKind.u64.bits) = ((n / 8 : Nat) : Int) := shrN n 3 (by omega)
theorem and7 {m : Nat} (hm : m < 2 ^ 64) : IntKind.i64.wrap (IntKind.u64.wrap ((BitVec.ofInt IntKind.u64.bits (m : Int) &&& BitVec.ofInt IntKind.u64.bits 7).toNat : Int)) = ((m % 8 : Nat) : Int) := by
 have := and64 hm 3 (by omega)
 rw [show ((2 ^ 3 - 1 : Nat) : Int) = 7 from rfl, show 2 ^ 3 = 8 from rfl] at this
 rw [this]; exact k'10 (by omega) (by omega)
theorem andBig {m : Nat} (hm : m ≤ 536870911) : IntKind.i64.wrap (IntKind.u64.wrap ((BitVec.ofInt IntKind.u64.bits (m : Int) &&& BitVec.ofInt IntKind.u64.bits 536870911).toNat : Int)) = (m : Int) := by
 have := and64 (m := m) (by omega) 29 (by omega)
 rw [show ((2 ^ 29 - 1 : Nat) : Int) = 536870911 from rfl, show 2 ^ 29 = 536870912 from rfl, Nat.mod_eq_of_lt (by omega)] at this
 rw [this]; exact k'10 (by omega) (by omega)
def tgA (m : Nat) : Int := IntKind.i64.wrap (IntKind.u64.wrap ((BitVec.ofInt IntKind.u64.bits (Int.fdiv (m : Int) (2 ^ min 3 IntKind.u64.bits)) &&& BitVec.ofInt IntKind.u64.bits 536870911).toNat : Int))
def tgB (m : Nat) : Int := IntKind.i64.wrap (IntKind.u64.wrap ((BitVec.ofInt IntKind.u64.bits (m : Int) &&& BitVec.ofInt IntKind.u64.bits 7).toNat : Int))
theorem rtag_calls (s : List UInt8) (p : Nat) (d : Int) (hp : p ≤ s.length) (hl : s.length < big) :
  (∀ n k q, tagE s p = .ok (n, k, q) → k'0 (cx B) 197 [.ptr 0 0] [rdOb s p none d] (.tup [iT n, iT k]) [rdOb s q none d]) ∧
  (∀ e, tagE s p = .error e → ∃ (a b : Int) (p' : Nat), k'0 (cx B) 197 [.ptr 0 0] [rdOb s p none d] (.tup [.d (.int .i64 a), .d (.int .i64 b)]) [rdOb s p' (some e) d]) := by
 have hl' := hl
 unfold big at hl
 have h1 := rvarint_calls B s p d hp hl'
 unfold vR at h1
 constructor
 ·intro n k q ht
  unfold tagE at ht
  cases hv : vE s p with
  | error e => rw [hv] at ht; simp at ht
  | ok mq =>
   obtain ⟨m, r⟩ := mq
   rw [hv] at ht h1
   dsimp only at ht h1
   split at ht <;> (try (simp at ht; done))
   rename_i hc
   injection ht with ht; injection ht with e1 e2; injection e2 with e2 e3
   subst e1; subst e2; subst e3
   obtain ⟨g1, g2, g3⟩ := vE_ok hv
   refine l_bw Tryz.func197 1 [] ?_
   refine l_cw [0] (h1) rfl rfl rfl ?_
   rw [shr3, show decide (((m / 8 : Nat) : Int) < 1) = false from decide_eq_false (by omega)]
   refine Y ?_
   rw [shr3, show decide (((m / 8 : Nat) : Int) > 536870911) = false from decide_eq_false (by omega)]
   refine Y ?_
   rw [and7 g3, shr3, andBig (by omega)]
   exact k'i rfl
 ·intro e ht
  unfold tagE at ht
  cases hv : vE s p with
  | error e =>
   rw [hv] at ht h1
   dsimp only at ht h1
   injection ht with ht; subst ht
   refine ⟨tgA 0, tgB 0, p, ?_⟩
   refine l_bw Tryz.func197 1 [] ?_
   refine k'2 [0] (h1) rfl rfl rfl ?_
   cases e <;> (
   exact Z)
  | ok mq =>
   obtain ⟨m, r⟩ := mq
   rw [hv] at ht h1
   dsimp only at ht h1
   split at ht <;> (try (simp at ht; done))
   rename_i hc
   injection ht with ht; subst ht
   refine ⟨tgA m, tgB m, r, ?_⟩
   refine l_bw Tryz.func197 1 [] ?_
   refine l_cw [0] (h1) rfl rfl rfl ?_
   rw [shr3]
   cases hb : decide (((m / 8 : Nat) : Int) < 1)
   rotate_left
   ·refine Y ?_
    refine k'2 [0] (k'25 B s r d p 3) rfl rfl rfl ?_
    exact Z
   have := of_decide_eq_false hb
   refine Y ?_
   rw [shr3, show decide (((m / 8 : Nat) : Int) > 536870911) = true from decide_eq_true (by omega)]
   refine Y ?_
   refine k'2 [0] (k'25 B s r d p 3) rfl rfl rfl ?_
   exact Z
theorem rfails_err (s : List UInt8) (p : Nat) (e : Er) (d : Int) (q c : Int) : k'0 (cx B) 260 [.ptr 0 0, .d (.int .i64 q), .d (Er.code c).d] [rdOb s p (some e) d] (.tup []) [rdOb s p (some e) d] := by
 refine l_b0 Tryz.func260 1 [] ?_
 cases e <;>
 (refine Y ?_) <;>
 exact k'i rfl
theorem rlittle_err (s : List UInt8) (p : Nat) (e : Er) (d : Int) (w : Nat) (hw : w ≤ 8) : k'0 (cx B) 261 [.ptr 0 0, iT w] [rdOb s p (some e) d] (uT 0) [rdOb s p (some e) d] := by
 refine l_bw Tryz.func261 1 [] ?_
 rw [show IntKind.u64.wrap (w : Int) = w from wrapN (by omega)]
 refine l_cw [0] (rtake_err B s p e d w) rfl rfl rfl ?_
 refine k'8 (fun _ : Unit => 0) (fun _ => [(5, uT 0), (13, iT 0), (14, iT 0)]) (fun _ => [rdOb s p (some e) d]) (fun _ => True) () trivial ⟨rfl, rfl, rfl, trivial⟩ rfl 1 rfl (fun _ => rfl) (fun _ => rfl) (fun _ => rfl) ?_
 intro _ _
 exact Z
theorem group_err (s : List UInt8) (p : Nat) (e : Er) (d : Int) (num : Int) (hd1 : -9223372036854775808 ≤ d) (hd2 : d < 9223372036854775808) : k'0 (cx B) 263 [.ptr 0 0, .d (.int .i64 num)] [rdOb s p (some e) d] (.tup []) [rdOb s p (some e) d] := by
 refine l_bw Tryz.func263 1 [] ?_
 refine k'13 rfl (fun h => ?_) (fun h => ?_)
 ·refine Y ?_
  refine k'2 [0] (rfails_err B s p e d p 6) rfl rfl rfl ?_
  exact Z
 ·have h' := of_decide_eq_false h
  refine Y ?_
  refine k'8 (fun _ : Unit => 0) (fun _ => [(0, .ptr 0 0)]) (fun _ => [rdOb s p (some e) (IntKind.i64.wrap (d - 1))]) (fun _ => True) () trivial ⟨rfl, trivial⟩ rfl 1 rfl (fun _ => rfl) (fun _ => rfl) (fun _ => rfl) ?_
  intro _ _
  have hw : IntKind.i64.wrap (IntKind.i64.wrap (d - 1) + 1) = d := by rw [k'10 (n := d - 1) (by omega) (by omega), k'10 (by omega) (by omega)]; omega
  cases e <;> (
  refine Y ?_
  rw [hw]
  exact k'i rfl)
def rcO (a b : Int) : Ob := .mu [.d (.int .i64 a), .d (.int .i64 b), uT 0, sT [], sT []]
theorem rest_err (s : List UInt8) (p : Nat) (e : Er) (d : Int) (a b : Int) (q : Nat) (hd1 : -9223372036854775808 ≤ d) (hd2 : d < 9223372036854775808) : k'0 (cx B) 198 [.ptr 0 0, .ptr 1 0, iT q] [rdOb s p (some e) d, rcO a b] (.tup []) [rdOb s p (some e) d, rcO a b] := by
 refine l_bw Tryz.func198 2 [] ?_
 refine k'13 rfl (fun h0 => ?_) (fun h0 => ?_)
 ·refine Y ?_
  refine k'2 [0] (rvarint_err B s p e d) rfl rfl rfl ?_
  exact Z
 refine Y ?_
 refine k'13 rfl (fun h1 => ?_) (fun h1 => ?_)
 ·refine Y ?_
  refine k'2 [0] (rlittle_err B s p e d 8 (by omega)) rfl rfl rfl ?_
  exact Z
 refine Y ?_
 refine k'13 rfl (fun h5 => ?_) (fun h5 => ?_)
 ·refine Y ?_
  refine k'2 [0] (rlittle_err B s p e d 4 (by omega)) rfl rfl rfl ?_
  exact Z
 refine Y ?_
 refine k'13 rfl (fun h2 => ?_) (fun h2 => ?_)
 ·refine Y ?_
  refine k'2 [0] (rvarint_err B s p e d) rfl rfl rfl ?_
  refine k'2 [0] (rtake_err B s p e d 0) rfl rfl rfl ?_
  exact Z
 refine Y ?_
 refine k'13 rfl (fun h3 => ?_) (fun h3 => ?_)
 ·refine Y ?_
  refine k'2 [0] (group_err B s p e d a hd1 hd2) rfl rfl rfl ?_
  exact Z
 refine Y ?_
 refine k'2 [0] (rfails_err B s p e d q 3) rfl rfl rfl ?_
 exact Z
end Go.Proofs.YtcfkbpddmdfbaaaGreatDoor
/-! What stands behind a tag; groups: what the reader answers. -/
namespace Go.Proofs.YtcfkbpddmdfbaaaGreatDoor
open Go Go.Abs
def takeE (s : List UInt8) (p n : Nat) : Except Er (List UInt8 × Nat) := if s.length - p < n then .error (.loc p (.code 1)) else .ok ((s.drop p).take n, p + n)
def k'2w (g : Int → Nat → Nat → Except Er Nat) (s : List UInt8) (d : Int) (num kind a p : Nat) : Except Er (Nat × List UInt8 × Nat) :=
 if kind = 0 then (match vE s p with | .ok (n, q) => .ok (n, [], q) | .error e => .error e)
 else if kind = 1 then (match takeE s p 8 with | .ok (l, q) => .ok (leN l, [], q) | .error e => .error e)
 else if kind = 5 then (match takeE s p 4 with | .ok (l, q) => .ok (leN l, [], q) | .error e => .error e)
 else if kind = 2 then (match vE s p with | .ok (n, q) => (match takeE s q n with | .ok (l, q') => .ok (0, l, q') | .error e => .error e) | .error e => .error e)
 else if kind = 3 then (match (if d < 1 then .error (.loc p (.code 6)) else g (d - 1) num p) with | .ok q => .ok (0, [], q) | .error e => .error e)
 else .error (.loc a (.code 3))
def grp (s : List UInt8) : Nat → Int → Nat → Nat → Except Er Nat
 | 0 => fun _ _ p => .error (.loc p (.code 1))
 | f + 1 => fun d num p => match tagE s p with
  | .error e => .error e
  | .ok (n, k, q) => if k = 4 then (if n = num then .ok q else .error (.loc p (.code 3)))
   else match k'2w (grp s f) s d n k p q with
    | .error e => .error e
    | .ok (_, _, q') => grp s f d num q'
theorem k'3a (s : List UInt8) (f : Nat) (d : Int) (num p : Nat) : grp s (f + 1) d num p = (match tagE s p with
  | .error e => .error e
  | .ok (n, k, q) => if k = 4 then (if n = num then .ok q else .error (.loc p (.code 3)))
   else match k'2w (grp s f) s d n k p q with
    | .error e => .error e
    | .ok (_, _, q') => grp s f d num q') := rfl
theorem takeE_ok {s : List UInt8} {p n q : Nat} {l : List UInt8} (h : takeE s p n = .ok (l, q)) (hp : p ≤ s.length) : p ≤ q ∧ q ≤ s.length ∧ l.length = n ∧ q = p + n ∧ l = (s.drop p).take n := by
 unfold takeE at h
 split at h <;> (try (simp at h; done))
 injection h with h; injection h with h1 h2
 subst h1; subst h2
 refine ⟨by omega, by omega, by simp; omega, rfl, rfl⟩
theorem leN_lt8 {l : List UInt8} (h : l.length ≤ 8) : leN l < 2 ^ 64 := by
 have h1 := leN_lt l
 have : 256 ^ l.length ≤ 256 ^ 8 := Nat.pow_le_pow_right (by omega) h
 simp at this; omega
theorem k'32 {g : Int → Nat → Nat → Except Er Nat} {s : List UInt8} {d : Int} {num kind a p n q : Nat} {t : List UInt8} (hg : ∀ d num p q, g d num p = .ok q → p ≤ s.length → p ≤ q ∧ q ≤ s.length) (h : k'2w g s d num kind a p = .ok (n, t, q)) (hp : p ≤ s.length) : p ≤ q ∧ q ≤ s.length ∧ n < 2 ^ 64 := by
 unfold k'2w at h
 split at h
 ·split at h <;> (try (simp at h; done))
  rename_i e; injection h with h; injection h with h1 h2; injection h2 with h2 h3
  subst h1; subst h3
  obtain ⟨a, b, c⟩ := vE_ok e; exact ⟨by omega, b, c⟩
 split at h
 ·split at h <;> (try (simp at h; done))
  rename_i e; injection h with h; injection h with h1 h2; injection h2 with h2 h3
  subst h1; subst h3
  obtain ⟨a, b, c, -⟩ := takeE_ok e hp; exact ⟨a, b, leN_lt8 (by omega)⟩
 split at h
 ·split at h <;> (try (simp at h; done))
  rename_i e; injection h with h; injection h with h1 h2; injection h2 with h2 h3
  subst h1; subst h3
  obtain ⟨a, b, c, -⟩ := takeE_ok e hp; exact ⟨a, b, leN_lt8 (by omega)⟩
 split at h
 ·split at h <;> (try (simp at h; done))
  rename_i e1
  split at h <;> (try (simp at h; done))
  rename_i e; injection h with h; injection h with h1 h2; injection h2 with h2 h3
  subst h1; subst h3
  obtain ⟨a1, b1, c1⟩ := vE_ok e1
  obtain ⟨a, b, c, -⟩ := takeE_ok e b1; exact ⟨by omega, b, by omega⟩
 split at h
 ·split at h <;> (try (simp at h; done))
  rename_i e; injection h with h; injection h with h1 h2; injection h2 with h2 h3
  subst h1; subst h3
  split at e <;> (try (simp at e; done))
  obtain ⟨a, b⟩ := hg _ _ _ _ e hp
  exact ⟨a, b, by omega⟩
 ·simp at h
theorem grp_ok {s : List UInt8} : ∀ (f : Nat) (d : Int) (num p q : Nat), grp s f d num p = .ok q → p ≤ s.length → p ≤ q ∧ q ≤ s.length
 | 0, _, _, _, _, h, _ => by simp [grp] at h
 | f + 1, d, num, p, q, h, hp => by
  rw [k'3a] at h
  split at h <;> (try (simp at h; done))
  rename_i n k r e
  obtain ⟨a, b, -⟩ := k'3n e
  split at h
  ·split at h <;> (try (simp at h; done))
   injection h with h; subst h; exact ⟨by omega, b⟩
  ·split at h <;> (try (simp at h; done))
   rename_i e2
   obtain ⟨a2, b2, -⟩ := k'32 (fun d n p q => grp_ok f d n p q) e2 b
   obtain ⟨a3, b3⟩ := grp_ok f _ _ _ _ h b2
   exact ⟨by omega, b3⟩
def rcOb (num kind n : Nat) (t raw : List UInt8) : Ob := .mu [iT num, iT kind, uT n, sT t, sT raw]
def rcErr (num kind : Nat) (raw : List UInt8) : Ob := .mu [iT num, iT kind, .undef, .undef, sT raw]
variable (B : Fr)
def grpE (s : List UInt8) (f : Nat) (d : Int) (num p : Nat) : Except Er Nat := if d < 1 then .error (.loc p (.code 6)) else grp s f (d - 1) num p
def GrpOk (s : List UInt8) (f : Nat) (d : Int) (num p : Nat) : Prop :=
 (∀ q, grpE s f d num p = .ok q → k'0 (cx B) 263 [.ptr 0 0, iT num] [rdOb s p none d] (.tup []) [rdOb s q none d]) ∧
 (∀ e, grpE s f d num p = .error e → k'0 (cx B) 263 [.ptr 0 0, iT num] [rdOb s p none d] (.tup []) [rdErr s e d])
theorem rest_calls (s : List UInt8) (f : Nat) (d : Int) (num kind a p : Nat) (hp : p ≤ s.length) (hl : s.length < big) (hk : kind < 8) (hg : kind = 3 → GrpOk B s f d num p) :
  (∀ n t q, k'2w (grp s f) s d num kind a p = .ok (n, t, q) → k'0 (cx B) 198 [.ptr 0 0, .ptr 1 0, iT a] [rdOb s p none d, rcOb num kind 0 [] []] (.tup []) [rdOb s q none d, rcOb num kind n t []]) ∧
  (∀ e, k'2w (grp s f) s d num kind a p = .error e → k'0 (cx B) 198 [.ptr 0 0, .ptr 1 0, iT a] [rdOb s p none d, rcOb num kind 0 [] []] (.tup []) [rdErr s e d, rcErr num kind []]) := by
 have hl' := hl
 unfold big at hl
 have h1 := rvarint_calls B s p d hp hl'
 unfold vR at h1
 have key : ∀ (c : Nat), kind = c → c ≠ 0 → c ≠ 1 → c ≠ 5 → c ≠ 2 → c ≠ 3 → k'2w (grp s f) s d num kind a p = .error (.loc a (.code 3)) := by
  rintro c rfl a1 a2 a3 a4 a5
  unfold k'2w
  rw [if_neg a1, if_neg a2, if_neg a3, if_neg a4, if_neg a5]
 by_cases k0 : kind = 0
 ·subst k0
  unfold k'2w
  rw [if_pos rfl]
  cases hv : vE s p with
  | ok mq =>
   obtain ⟨m, r⟩ := mq
   rw [hv] at h1
   dsimp only at h1 ⊢
   refine ⟨fun n t q e => ?_, fun e h => by simp at h⟩
   injection e with e; injection e with e1 e2; injection e2 with e2 e3
   subst e1; subst e2; subst e3
   refine l_bw Tryz.func198 2 [] ?_
   refine k'2 [0] (h1) rfl rfl rfl ?_
   exact Z
  | error e0 =>
   rw [hv] at h1
   dsimp only at h1 ⊢
   refine ⟨fun n t q e => by simp at e, fun e h => ?_⟩
   injection h with h; subst h
   refine l_bw Tryz.func198 2 [] ?_
   refine l_cw [0] (h1) rfl rfl rfl ?_
   exact l_endW trivial (by decide) rfl rfl rfl rfl rfl ⟨⟨.inr (.inl rfl), .inl rfl, .inr (.inl rfl), .inr (.inl rfl), trivial⟩, ⟨.inr (.inl rfl), .inr (.inl rfl), .inl rfl, .inl rfl, .inr (.inl rfl), trivial⟩, trivial⟩
 by_cases k1 : kind = 1
 ·subst k1
  unfold k'2w
  rw [if_neg (by decide)]; rw [if_pos rfl]
  have h2 := rlittle_calls B s p d 8 (by omega) hp hl'
  unfold lR tR at h2
  unfold takeE
  by_cases hc : s.length - p < 8
  ·rw [if_pos hc] at h2 ⊢
   refine ⟨fun n t q e => by simp at e, fun e h => ?_⟩
   injection h with h; subst h
   refine l_bw Tryz.func198 2 [] ?_
   refine l_cw [0] (h2) rfl rfl rfl ?_
   exact l_endW trivial (by decide) rfl rfl rfl rfl rfl ⟨⟨.inr (.inl rfl), .inl rfl, .inr (.inl rfl), .inr (.inl rfl), trivial⟩, ⟨.inr (.inl rfl), .inr (.inl rfl), .inl rfl, .inl rfl, .inr (.inl rfl), trivial⟩, trivial⟩
  ·rw [if_neg hc] at h2 ⊢
   refine ⟨fun n t q e => ?_, fun e h => by simp at h⟩
   injection e with e; injection e with e1 e2; injection e2 with e2 e3
   subst e1; subst e2; subst e3
   refine l_bw Tryz.func198 2 [] ?_
   refine k'2 [0] (h2) rfl rfl rfl ?_
   exact Z
 by_cases k5 : kind = 5
 ·subst k5
  unfold k'2w
  rw [if_neg (by decide), if_neg (by decide)]; rw [if_pos rfl]
  have h2 := rlittle_calls B s p d 4 (by omega) hp hl'
  unfold lR tR at h2
  unfold takeE
  by_cases hc : s.length - p < 4
  ·rw [if_pos hc] at h2 ⊢
   refine ⟨fun n t q e => by simp at e, fun e h => ?_⟩
   injection h with h; subst h
   refine l_bw Tryz.func198 2 [] ?_
   refine l_cw [0] (h2) rfl rfl rfl ?_
   exact l_endW trivial (by decide) rfl rfl rfl rfl rfl ⟨⟨.inr (.inl rfl), .inl rfl, .inr (.inl rfl), .inr (.inl rfl), trivial⟩, ⟨.inr (.inl rfl), .inr (.inl rfl), .inl rfl, .inl rfl, .inr (.inl rfl), trivial⟩, trivial⟩
  ·rw [if_neg hc] at h2 ⊢
   refine ⟨fun n t q e => ?_, fun e h => by simp at h⟩
   injection e with e; injection e with e1 e2; injection e2 with e2 e3
   subst e1; subst e2; subst e3
   refine l_bw Tryz.func198 2 [] ?_
   refine k'2 [0] (h2) rfl rfl rfl ?_
   exact Z
 by_cases k2 : kind = 2
 ·subst k2
  unfold k'2w
  rw [if_neg (by decide), if_neg (by decide), if_neg (by decide), if_pos rfl]
  cases hv : vE s p with
  | ok mq =>
   obtain ⟨m, r⟩ := mq
   rw [hv] at h1
   dsimp only at h1 ⊢
   obtain ⟨g1, g2, g3⟩ := vE_ok hv
   have h2 := rtake_calls B s r d m g3 g2 hl'
   unfold tR at h2
   unfold takeE
   by_cases hc : s.length - r < m
   ·rw [if_pos hc] at h2 ⊢
    refine ⟨fun n t q e => by simp at e, fun e h => ?_⟩
    injection h with h; subst h
    refine l_bw Tryz.func198 2 [] ?_
    refine k'2 [0] (h1) rfl rfl rfl ?_
    refine l_cw [0] (h2) rfl rfl rfl ?_
    exact l_endW trivial (by decide) rfl rfl rfl rfl rfl ⟨⟨.inr (.inl rfl), .inl rfl, .inr (.inl rfl), .inr (.inl rfl), trivial⟩, ⟨.inr (.inl rfl), .inr (.inl rfl), .inl rfl, .inl rfl, .inr (.inl rfl), trivial⟩, trivial⟩
   ·rw [if_neg hc] at h2 ⊢
    refine ⟨fun n t q e => ?_, fun e h => by simp at h⟩
    injection e with e; injection e with e1 e2; injection e2 with e2 e3
    subst e1; subst e2; subst e3
    refine l_bw Tryz.func198 2 [] ?_
    refine k'2 [0] (h1) rfl rfl rfl ?_
    refine k'2 [0] (h2) rfl rfl rfl ?_
    exact Z
  | error e0 =>
   rw [hv] at h1
   dsimp only at h1 ⊢
   refine ⟨fun n t q e => by simp at e, fun e h => ?_⟩
   injection h with h; subst h
   refine l_bw Tryz.func198 2 [] ?_
   refine k'2 [0] (h1) rfl rfl rfl ?_
   refine l_cw [0] (rtake_err B s p e0 d 0) rfl rfl rfl ?_
   exact l_endW trivial (by decide) rfl rfl rfl rfl rfl ⟨⟨.inr (.inl rfl), .inl rfl, .inr (.inl rfl), .inr (.inl rfl), trivial⟩, ⟨.inr (.inl rfl), .inr (.inl rfl), .inl rfl, .inl rfl, .inr (.inl rfl), trivial⟩, trivial⟩
 by_cases k3 : kind = 3
 ·subst k3
  unfold k'2w
  rw [if_neg (by decide), if_neg (by decide), if_neg (by decide), if_neg (by decide), if_pos rfl]
  obtain ⟨hg1, hg2⟩ := hg rfl
  unfold grpE at hg1 hg2
  generalize (if d < 1 then Except.error (Er.loc p (Er.code 6)) else grp s f (d - 1) num p) = G at *
  cases G with
  | ok q0 =>
   refine ⟨fun n t q e => ?_, fun e h => by simp at h⟩
   injection e with e; injection e with e1 e2; injection e2 with e2 e3
   subst e1; subst e2; subst e3
   have h2 := hg1 q0 rfl
   refine l_bw Tryz.func198 2 [] ?_
   refine k'2 [0] (h2) rfl rfl rfl ?_
   exact Z
  | error e0 =>
   refine ⟨fun n t q e => by simp at e, fun e h => ?_⟩
   injection h with h; subst h
   have h2 := hg2 e0 rfl
   refine l_bw Tryz.func198 2 [] ?_
   refine l_cw [0] (h2) rfl rfl rfl ?_
   exact l_endW trivial (by decide) rfl rfl rfl rfl rfl ⟨⟨.inr (.inl rfl), .inl rfl, .inr (.inl rfl), .inr (.inl rfl), trivial⟩, ⟨.inr (.inl rfl), .inr (.inl rfl), .inl rfl, .inl rfl, .inr (.inl rfl), trivial⟩, trivial⟩
 rw [key kind rfl k0 k1 k5 k2 k3]
 refine ⟨fun n t q e => by simp at e, fun e h => ?_⟩
 injection h with h; subst h
 have hk' : kind = 4 ∨ kind = 6 ∨ kind = 7 := by omega
 rcases hk' with rfl | rfl | rfl <;> (
  refine l_bw Tryz.func198 2 [] ?_
  refine l_cw [0] (k'25 B s p d a 3) rfl rfl rfl ?_
  exact l_endW trivial (by decide) rfl rfl rfl rfl rfl ⟨⟨.inr (.inl rfl), .inl rfl, .inr (.inl rfl), .inr (.inl rfl), trivial⟩, ⟨.inr (.inl rfl), .inr (.inl rfl), .inl rfl, .inl rfl, .inr (.inl rfl), trivial⟩, trivial⟩)
theorem group_calls (s : List UInt8) (hl : s.length < big) (f : Nat) : ∀ (d : Int) (num p : Nat), p ≤ s.length → s.length - p < f → -9223372036854775808 ≤ d → d < 9223372036854775808 → GrpOk B s f d num p := by
 induction f using Nat.strongRecOn with
 | ind f ih =>
  intro d num p hp hf hd1 hd2
  unfold GrpOk
  have hl' := hl
  unfold big at hl'
  by_cases hd : d < 1
  ·unfold grpE
   rw [if_pos hd]
   refine ⟨fun q e => by simp at e, fun e h => ?_⟩
   injection h with h; subst h
   refine l_bw Tryz.func263 1 [] ?_
   rw [show decide (d < 1) = true from decide_eq_true hd]
   refine Y ?_
   refine l_cw [0] (k'25 B s p d p 6) rfl rfl rfl ?_
   exact l_endW trivial (by decide) rfl rfl rfl rfl rfl ⟨⟨.inr (.inl rfl), .inl rfl, .inr (.inl rfl), .inr (.inl rfl), trivial⟩, trivial⟩
  ·have hw1 : IntKind.i64.wrap (d - 1) = d - 1 := k'10 (by omega) (by omega)
   have hw2 : IntKind.i64.wrap (d - 1 + 1) = d := by rw [k'10 (by omega) (by omega)]; omega
   have main : ∀ (J : Ob), (match grpE s f d num p with | .ok q => J = rdOb s q none d | .error e => J = rdErr s e d) → k'0 (cx B) 263 [.ptr 0 0, iT num] [rdOb s p none d] (.tup []) [J] := by
    intro J hJ
    unfold grpE at hJ
    rw [if_neg hd] at hJ
    refine l_bw Tryz.func263 1 [] ?_
    rw [show decide (d < 1) = false from decide_eq_false hd]
    refine Y ?_
    rw [hw1]
    refine k'8 (fun x : Nat × Nat × Option Er => match x.2.2 with | none => x.2.1 + 1 | some _ => 0) (fun x => [(0, .ptr 0 0), (1, iT num)]) (fun x => match x.2.2 with | none => [rdOb s x.1 none (d - 1)] | some e => [rdErr s e (d - 1)])
     (fun x => match x.2.2 with | none => x.1 ≤ s.length ∧ s.length - x.1 < x.2.1 ∧ x.2.1 ≤ f ∧ grp s f (d - 1) num p = grp s x.2.1 (d - 1) num x.1 | some e => grp s f (d - 1) num p = .error e) (p, f, none) ⟨hp, hf, Nat.le_refl _, rfl⟩ ⟨rfl, rfl, trivial⟩ rfl 1 rfl (by rintro ⟨_, _, _ | _⟩ <;> rfl) (by rintro ⟨_, _, _ | _⟩ <;> rfl) (fun _ => rfl) ?_
    rintro ⟨q, g, err⟩ hI
    cases err with
    | some e =>
     dsimp only at hI ⊢
     rw [hI] at hJ
     dsimp only at hJ
     subst hJ
     cases e <;> (
     refine Y ?_
     rw [hw2]
     exact k'i rfl)
    | none =>
     dsimp only at hI ⊢
     obtain ⟨i1, i2, i3, i4⟩ := hI
     obtain ⟨ht1, ht2⟩ := rtag_calls B s q (d - 1) i1 hl
     cases g with
     | zero => omega
     | succ g =>
     rw [k'3a] at i4
     cases htag : tagE s q with
     | error e =>
      rw [htag] at i4
      dsimp only at i4
      obtain ⟨a, b, q', h1⟩ := ht2 e htag
      refine Y ?_
      refine k'2 [0] (h1) rfl rfl rfl ?_
      have h2 := rest_err B s q' e (d - 1) a b q (by omega) (by omega)
      cases e <;> (
      refine Y ?_
      refine l_cw [0,1] (h2) rfl rfl rfl ?_
      exact ⟨(q', 0, some _), by show 0 < g + 1 + 1; omega, i4, ⟨rfl, rfl, trivial⟩, rfl, ⟨⟨.inr (.inl rfl), .inl rfl, .inr (.inl rfl), .inr (.inl rfl), trivial⟩, trivial⟩⟩)
     | ok nkq =>
      obtain ⟨n, k, r⟩ := nkq
      obtain ⟨t1, t2, t3, t4, t5⟩ := k'3n htag
      have h1 := ht1 n k r htag
      rw [htag] at i4
      dsimp only at i4
      by_cases hk : k = 4
      ·subst hk
       rw [if_pos rfl] at i4
       by_cases hn : n = num
       ·subst hn
        rw [if_pos rfl] at i4
        rw [i4] at hJ
        dsimp only at hJ
        subst hJ
        refine Y ?_
        refine l_cw [0] (h1) rfl rfl rfl ?_
        rw [show ((n : Int) != n) = false by simp]
        refine Y ?_
        rw [hw2]
        exact k'i rfl
       ·rw [if_neg hn] at i4
        rw [i4] at hJ
        dsimp only at hJ
        subst hJ
        refine Y ?_
        refine l_cw [0] (h1) rfl rfl rfl ?_
        rw [show ((n : Int) != num) = true by simp; omega]
        refine Y ?_
        refine l_cw [0] (k'25 B s r (d - 1) q 3) rfl rfl rfl ?_
        rw [hw2]
        exact l_endW trivial (by decide) rfl rfl rfl rfl rfl ⟨⟨.inr (.inl rfl), .inl rfl, .inr (.inl rfl), .inr (.inl rfl), trivial⟩, trivial⟩
      ·rw [if_neg hk] at i4
       obtain ⟨hr1, hr2⟩ := rest_calls B s g (d - 1) n k q r t2 hl t5 (fun _ => ih g (by omega) (d - 1) n r t2 (by omega) (by omega) (by omega))
       refine Y ?_
       refine l_cw [0] (h1) rfl rfl rfl ?_
       rw [show (((k : Nat) : Int) == 4) = false by simp; omega]
       refine Y ?_
       cases hr : k'2w (grp s g) s (d - 1) n k q r with
       | error e =>
        rw [hr] at i4
        dsimp only at i4
        have h2 := hr2 e hr
        refine l_cw [0,1] (h2) rfl rfl rfl ?_
        exact ⟨(r, 0, some e), by show 0 < g + 1 + 1; omega, i4, ⟨rfl, rfl, trivial⟩, rfl, k'z rfl⟩
       | ok ntq =>
        obtain ⟨N, t, q'⟩ := ntq
        rw [hr] at i4
        dsimp only at i4
        have h2 := hr1 N t q' hr
        refine l_cw [0,1] (h2) rfl rfl rfl ?_
        obtain ⟨b1, b2, b3⟩ := k'32 (fun d n p q => grp_ok g d n p q) hr t2
        exact ⟨(q', g, none), by show g + 1 < g + 1 + 1; omega, ⟨b2, by show s.length - q' < g; omega, by show g ≤ f; omega, i4⟩, ⟨rfl, rfl, trivial⟩, rfl, k'z rfl⟩
   cases hG : grpE s f d num p with
   | ok q0 => exact ⟨fun q e => by injection e with e; subst e; exact main _ (by rw [hG]), fun e h => by simp at h⟩
   | error e0 => exact ⟨fun q e => by simp at e, fun e h => by injection h with h; subst h; exact main _ (by rw [hG])⟩
end Go.Proofs.YtcfkbpddmdfbaaaGreatDoor
/-! Records, one behind the other: what the reader answers. -/
namespace Go.Proofs.YtcfkbpddmdfbaaaGreatDoor
open Go Go.Abs
structure Fld where
 num : Nat
 kind : Nat
 n : Nat
 s : List UInt8
 raw : List UInt8
def Fld.d (r : Fld) : D := .agg [.int .i64 r.num, .int .i64 r.kind, .int .u64 r.n, .str r.s, .str r.raw]
def recE (s : List UInt8) (d : Int) (p : Nat) : Except Er (Fld × Nat) :=
 match tagE s p with
 | .error e => .error e
 | .ok (n, k, q) => match k'2w (grp s (s.length + 1)) s d n k p q with
  | .error e => .error e
  | .ok (N, t, r) => .ok (⟨n, k, N, t, (s.drop p).take (r - p)⟩, r)
theorem k'4d {s : List UInt8} {d : Int} {p q : Nat} {r : Fld} (h : recE s d p = .ok (r, q)) : p < q ∧ q ≤ s.length ∧ r.n < 2 ^ 64 := by
 unfold recE at h
 split at h <;> (try (simp at h; done))
 rename_i e
 obtain ⟨a, b, -⟩ := k'3n e
 split at h <;> (try (simp at h; done))
 rename_i e2
 obtain ⟨a2, b2, c2⟩ := k'32 (fun d n p q => grp_ok _ d n p q) e2 b
 injection h with h; injection h with h1 h2
 subst h1; subst h2
 exact ⟨by omega, b2, c2⟩
variable (B : Fr)
def zFld : D := .agg [.int .i64 0, .int .i64 0, .int .u64 0, .str [], .str []]
theorem record_calls (s : List UInt8) (p : Nat) (d : Int) (hp : p ≤ s.length) (hl : s.length < big) (hd1 : -9223372036854775808 ≤ d) (hd2 : d < 9223372036854775808) :
  (∀ r q, recE s d p = .ok (r, q) → k'0 (cx B) 147 [.ptr 0 0] [rdOb s p none d] (.d r.d) [rdOb s q none d]) ∧
  (∀ e, recE s d p = .error e → k'0 (cx B) 147 [.ptr 0 0] [rdOb s p none d] (.d zFld) [rdErr s e d]) := by
 obtain ⟨ht1, ht2⟩ := rtag_calls B s p d hp hl
 unfold recE
 cases htag : tagE s p with
 | error e =>
  obtain ⟨a, b, p', h1⟩ := ht2 e htag
  refine ⟨fun r q e => by simp at e, fun e h => ?_⟩
  injection h with h; subst h
  refine l_bw Tryz.func147 1 [] ?_
  refine k'2 [0] (h1) rfl rfl rfl ?_
  cases e <;> (
  refine Y ?_
  exact l_endW trivial (by decide) rfl rfl rfl rfl rfl ⟨⟨.inr (.inl rfl), .inl rfl, .inr (.inl rfl), .inr (.inl rfl), trivial⟩, trivial⟩)
 | ok nkq =>
  obtain ⟨n, k, q⟩ := nkq
  obtain ⟨t1, t2, t3, t4, t5⟩ := k'3n htag
  have h1 := ht1 n k q htag
  obtain ⟨hr1, hr2⟩ := rest_calls B s (s.length + 1) d n k p q t2 hl t5 (fun _ => group_calls B s hl _ d n q t2 (by omega) hd1 hd2)
  dsimp only
  cases hr : k'2w (grp s (s.length + 1)) s d n k p q with
  | error e =>
   have h2 := hr2 e hr
   refine ⟨fun r q e => by simp at e, fun e h => ?_⟩
   injection h with h; subst h
   refine l_bw Tryz.func147 1 [] ?_
   refine l_cw [0] (h1) rfl rfl rfl ?_
   refine k'2 [0,2] (h2) rfl rfl rfl ?_
   cases e <;> (
   refine Y ?_
   exact l_endW trivial (by decide) rfl rfl rfl rfl rfl ⟨⟨.inr (.inl rfl), .inl rfl, .inr (.inl rfl), .inr (.inl rfl), trivial⟩, trivial⟩)
  | ok ntq =>
   obtain ⟨N, t, r⟩ := ntq
   have h2 := hr1 N t r hr
   obtain ⟨b1, b2, b3⟩ := k'32 (fun d n p q => grp_ok _ d n p q) hr t2
   dsimp only
   refine ⟨fun r q e => ?_, fun e h => by simp at h⟩
   injection e with e; injection e with e1 e2
   subst e1; subst e2
   refine l_bw Tryz.func147 1 [] ?_
   refine l_cw [0] (h1) rfl rfl rfl ?_
   refine l_cw [0,2] (h2) rfl rfl rfl ?_
   refine k'12 (.sliceStr (s := s) (l := p) (h := r) rfl rfl rfl rfl ⟨.i64, rfl⟩ ⟨.i64, rfl⟩ (by omega) (by omega)) rfl rfl rfl ?_
   exact Z
def allE (s : List UInt8) (d : Int) : Nat → Nat → Except Er (List Fld)
 | 0, _ => .ok []
 | f + 1, p => if p < s.length then (match recE s d p with
   | .error e => .error e
   | .ok (r, q) => match allE s d f q with
    | .error e => .error e
    | .ok l => .ok (r :: l)) else .ok []
def all (s : List UInt8) (d : Int) : Except Er (List Fld) := allE s d (s.length + 1) 0
def allT : Except Er (List Fld) → T
 | .ok l => .tup [.d (slD (l.map Fld.d)), .d .nili]
 | .error e => .tup [.d (.sl true []), .d e.d]
theorem fld_fits (l : List Fld) : ∀ a ∈ l.map Fld.d, a.fits 5 = true := by
 intro a ha
 obtain ⟨c, -, rfl⟩ := List.mem_map.1 ha
 rfl
theorem all_calls (s : List UInt8) (d : Int) (hl : s.length < big) (hd1 : -9223372036854775808 ≤ d) (hd2 : d < 9223372036854775808) : k'0 (cx B) 98 [sT s, .d (.int .i64 d)] [] (allT (all s d)) [] := by
 have hl' := hl
 unfold big at hl'
 refine l_bw Tryz.func98 0 [] ?_
 refine k'8 (fun x : Nat × Nat × List Fld => x.2.1) (fun x => [(0, sT s), (6, owT (x.2.2.map Fld.d)), (7, .ptr 0 0)]) (fun x => [rdOb s x.1 none d])
  (fun x => x.1 ≤ s.length ∧ s.length - x.1 < x.2.1 ∧ x.2.2.length ≤ x.1 ∧ all s d = (match allE s d x.2.1 x.1 with | .ok l => .ok (x.2.2 ++ l) | .error e => .error e)) (0, s.length + 1, []) ⟨by omega, by show s.length - 0 < s.length + 1; omega, by simp, ?_⟩ ⟨rfl, rfl, rfl, trivial⟩ rfl 1 rfl (fun _ => rfl) (fun _ => rfl) (fun _ => rfl) ?_
 ·show all s d = _
  unfold all
  dsimp only
  split <;> (rename_i h; rw [h]) <;> rfl
 rintro ⟨p, g, acc⟩ ⟨i1, i2, i3, i4⟩
 dsimp only at i1 i2 i3 i4 ⊢
 cases g with
 | zero => omega
 | succ g =>
 unfold allE at i4
 refine Y ?_
 by_cases hp : p < s.length
 ·rw [show decide ((p : Int) < s.length) = true from decide_eq_true (by omega)]
  rw [if_pos hp] at i4
  obtain ⟨hr1, hr2⟩ := record_calls B s p d i1 hl hd1 hd2
  cases hr : recE s d p with
  | error e =>
   have h1 := hr2 e hr
   rw [hr] at i4
   dsimp only at i4
   rw [i4]
   refine Y ?_
   refine k'2 [0] (h1) rfl rfl rfl ?_
   cases e <;> (
   exact Z)
  | ok rq =>
   obtain ⟨r, q⟩ := rq
   obtain ⟨b1, b2, b3⟩ := k'4d hr
   have h1 := hr1 r q hr
   rw [hr] at i4
   dsimp only at i4
   refine Y ?_
   refine l_cw [0] (h1) rfl rfl rfl ?_
   (try refine k'1t rfl ?_)
   refine k'1 (.assignOwn (.inr rfl) rfl) rfl rfl ?_
   refine Y ?_
   refine k'1 (.buildSlice (es := [r.d]) rfl rfl rfl rfl rfl rfl (by intro x hx; simp at hx; subst hx; rfl) (by simp) (by decide) (by decide)) rfl rfl ?_
   have hm : (acc.map Fld.d).length + [r.d].length ≤ most := by simp [most]; omega
   refine k'1 (.append' rfl rfl rfl rfl ⟨_, _, rfl, rfl, by intro q; simp⟩ rfl rfl rfl rfl rfl (by rw [show [r.d] = [r].map Fld.d from rfl, ← List.map_append]; exact fld_fits _) (by decide) rfl hm rfl) rfl rfl ?_
   refine k'1 (.assignOwn (.inl rfl) rfl) rfl rfl ?_
   refine Y ?_
   exact ⟨(q, g, acc ++ [r]), Nat.lt_succ_self g, ⟨b2, by show s.length - q < g; omega, by show (acc ++ [r]).length ≤ q; simp; omega, by rw [i4]; cases allE s d g q <;> simp⟩, ⟨rfl, by show T.own _ _ = owT _; rw [List.map_append]; rfl, rfl, trivial⟩, rfl, k'z rfl⟩
 ·rw [show decide ((p : Int) < s.length) = false from decide_eq_false (by omega)]
  rw [if_neg hp] at i4
  dsimp only at i4
  rw [List.append_nil] at i4
  rw [i4]
  refine Y ?_
  (try refine k'1t rfl ?_)
  refine k'1 (.moveShare rfl rfl) rfl rfl ?_
  exact Z
