/- varint.read, varint.Get: what they answer. -/
import Derived.Test.YtfbckigcelmopaaGreatDoorX0
set_option linter.unusedSimpArgs false
set_option linter.unusedVariables false
set_option maxRecDepth 100000
namespace Go.Proofs.YtfbckigcelmopaaGreatDoor
open Go Go.Abs
/-- A number in few bytes: its value and where it ends, or what is wrong. -/
def vrd : List UInt8 → Nat → Nat → Except Nat (Nat × Nat)
  | [], _, _ => .error 1
  | c :: r, i, a => if i = 10 then .error 1 else if i = 9 ∧ 1 < c.toNat then .error 4 else
    if c.toNat < 128 then .ok (a + c.toNat % 128 * 2 ^ (7 * i), i + 1) else vrd r (i + 1) (a + c.toNat % 128 * 2 ^ (7 * i))
def rdT : Except Nat (Nat × Nat) → T
  | .ok (n, k) => .tup [.d (.int .u64 n), .d (.int .i64 k), .d .nili]
  | .error c => .tup [.d (.int .u64 0), .d (.int .i64 0), .d (Er.code c).d]
variable (B : Fr)

theorem vread_calls (s : List UInt8) : CallsA (cx B) 133 [sT s] [] (rdT (vrd s 0 0)) [] := by
  refine l_body (X := cx B) (fn := Tryz.f133) Tryz.func133 rfl rfl rfl rfl rfl 0 [] rfl rfl ?_
  refine walk ?_
  refine l_loop (fun x : Nat × Nat => 11 - x.1) (fun x => [(0, sT s), (5, uT x.2), (10, iT (if (10 : Int) < s.length then 10 else s.length)), (11, iT x.1)]) (fun _ => []) (fun x => vrd s 0 0 = vrd (s.drop x.1) x.1 x.2 ∧ x.1 ≤ 10 ∧ x.1 ≤ s.length ∧ x.2 < 2 ^ (7 * x.1)) (0, 0) ⟨rfl, by omega, by omega, by simp⟩ ⟨rfl, rfl, rfl, rfl, trivial⟩ rfl 0 rfl (fun _ => rfl) (fun _ => rfl) (fun _ => rfl) ?_
  rintro ⟨i, a⟩ ⟨h1, h2, h3, h4⟩
  dsimp only at h1 h2 h3 h4 ⊢
  refine walk ?_
  refine r_cond rfl (fun hc => ?_) (fun hc => ?_)
  · have hlt : i < s.length ∧ i < 10 := by have := of_decide_eq_true hc; split at this <;> omega
    obtain ⟨c, hci⟩ : ∃ c, s[i]? = some c := ⟨_, List.getElem?_eq_getElem hlt.1⟩
    have hdr : s.drop i = c :: s.drop (i + 1) := by
      rw [List.drop_eq_getElem_cons hlt.1]; rw [List.getElem?_eq_getElem hlt.1] at hci; injection hci with hci; rw [hci]
    refine walk ?_
    refine l_step (.index (k := .i64) (n := i) (s := s) (c := c) rfl rfl rfl rfl rfl (by omega) (by simpa using hci)) rfl rfl ?_
    refine stp ?_
    refine l_join [(0, sT s), (5, uT a), (6, iT i), (7, .d (.int .u8 c.toNat)), (10, iT (if (10 : Int) < s.length then 10 else s.length)), (11, iT i)] [] (¬ (i = 9 ∧ 1 < c.toNat)) ?_ (fun h9 e => ?_)
    · have hfin : (i = 9 ∧ 1 < c.toNat) → vrd s 0 0 = .error 4 := fun hh => by
        rw [h1, hdr]; unfold vrd; rw [if_neg (by omega), if_pos hh]
      refine walk ?_
      cases hb : ((i : Int) == 9) with
      | true =>
        have hi9 : i = 9 := by have := eq_of_beq hb; omega
        refine walk ?_
        refine r_cond rfl (fun hd => ?_) (fun hd => ?_)
        · refine walk ?_
          rw [hfin ⟨hi9, by have := of_decide_eq_true hd; omega⟩]
          exact l_end trivial (by decide) rfl rfl rfl rfl rfl
        · refine walk ?_
          exact ⟨fun hh => by have := of_decide_eq_false hd; omega, ⟨rfl, rfl, rfl, rfl, rfl, rfl, trivial⟩, rfl⟩
      | false =>
        refine walk ?_
        exact ⟨fun hh => by have := ne_of_beq_false hb; omega, ⟨rfl, rfl, rfl, rfl, rfl, rfl, trivial⟩, rfl⟩
    · have hw : IntKind.i64.wrap (7 * (i : Int)) = ((7 * i : Nat) : Int) := by rw [wrapI (by omega) (by omega)]; omega
      have hlo : IntKind.u64.wrap (IntKind.u8.wrap ((BitVec.ofInt IntKind.u8.bits (c.toNat : Int) &&& ~~~BitVec.ofInt IntKind.u8.bits 128).toNat : Int)) = ((c.toNat % 128 : Nat) : Int) := by
        rw [low7]; exact wrapN (by omega)
      have hbd : c.toNat % 128 * 2 ^ (7 * i) < 18446744073709551616 ∧ a + c.toNat % 128 * 2 ^ (7 * i) < 18446744073709551616 ∧ a + c.toNat % 128 * 2 ^ (7 * i) < 2 ^ (7 * (i + 1)) := by
        have hp : 2 ^ (7 * (i + 1)) = 128 * 2 ^ (7 * i) := by rw [show 7 * (i + 1) = 7 * i + 7 by omega, Nat.pow_add]; omega
        have hm : c.toNat % 128 * 2 ^ (7 * i) ≤ 127 * 2 ^ (7 * i) := Nat.mul_le_mul_right _ (by omega)
        by_cases h : i = 9
        · subst h
          have : c.toNat ≤ 1 := by have := not_and.1 h9 rfl; omega
          have hm' : c.toNat % 128 * 2 ^ (7 * 9) ≤ 1 * 2 ^ (7 * 9) := Nat.mul_le_mul_right _ (by omega)
          simp at hm' h4 ⊢; omega
        · have h2' : 2 ^ (7 * i) ≤ 2 ^ 56 := Nat.pow_le_pow_right (by omega) (by omega)
          simp at h2'; omega
      refine walk ?_
      refine l_step (.shl (k := .u64) (j := .i64) rfl rfl rfl (by rw [hw]; omega)) rfl rfl ?_
      have hsh : IntKind.u64.wrap (IntKind.u64.wrap (IntKind.u8.wrap ((BitVec.ofInt IntKind.u8.bits (c.toNat : Int) &&& ~~~BitVec.ofInt IntKind.u8.bits 128).toNat : Int)) * 2 ^ min (IntKind.i64.wrap (7 * (i : Int))).toNat IntKind.u64.bits) = ((c.toNat % 128 * 2 ^ (7 * i) : Nat) : Int) := by
        rw [hlo, hw, show IntKind.u64.bits = 64 from rfl, show min ((7 * i : Nat) : Int).toNat 64 = 7 * i by omega]
        have := wrapN hbd.1
        rw [← this]; congr 1
      rw [hsh]
      refine walk ?_
      have hor := or64 h4 hbd.2.1
      rw [hor]
      have hst : vrd s 0 0 = if c.toNat < 128 then .ok (a + c.toNat % 128 * 2 ^ (7 * i), i + 1) else vrd (s.drop (i + 1)) (i + 1) (a + c.toNat % 128 * 2 ^ (7 * i)) := by
        rw [h1, hdr]; show (if i = 10 then _ else _) = _
        rw [if_neg (by omega), if_neg h9]
      refine r_cond rfl (fun hd => ?_) (fun hd => ?_)
      · refine walk ?_
        rw [hst, if_pos (by have := of_decide_eq_true hd; omega)]
        have : IntKind.i64.wrap ((i : Int) + 1) = ((i + 1 : Nat) : Int) := by rw [wrapI (by omega) (by omega)]; omega
        rw [this]
        exact l_end trivial (by decide) rfl rfl rfl rfl rfl
      · refine walk ?_
        have : IntKind.i64.wrap ((i : Int) + 1) = ((i + 1 : Nat) : Int) := by rw [wrapI (by omega) (by omega)]; omega
        rw [this]
        exact ⟨(i + 1, a + c.toNat % 128 * 2 ^ (7 * i)), by simp only; omega, ⟨by rw [hst, if_neg (by have := of_decide_eq_false hd; omega)], by simp only; omega, by simp only; omega, hbd.2.2⟩, ⟨rfl, rfl, rfl, rfl, trivial⟩, rfl, wk_eq rfl⟩
  · refine walk ?_
    have hv : vrd s 0 0 = .error 1 := by
      rw [h1]
      rcases Nat.lt_or_ge i s.length with g | g
      · have : i = 10 := by have := of_decide_eq_false hc; split at this <;> omega
        subst this
        rw [List.drop_eq_getElem_cons g]; rfl
      · rw [List.drop_eq_nil_of_le g]; rfl
    rw [hv]
    exact l_end trivial (by decide) rfl rfl rfl rfl rfl
end Go.Proofs.YtfbckigcelmopaaGreatDoor
