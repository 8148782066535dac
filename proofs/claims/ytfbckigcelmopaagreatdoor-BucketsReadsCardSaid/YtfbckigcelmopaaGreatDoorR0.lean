/- The reference: numbers in few bytes; numbers of so many bytes. -/
import Derived.Test.YtfbckigcelmopaaGreatDoorX28
set_option linter.unusedSimpArgs false
set_option linter.unusedVariables false
set_option maxRecDepth 100000
namespace Go.Proofs.YtfbckigcelmopaaGreatDoor
open Go Go.Abs
variable (B : Fr)
def rgT (s : List UInt8) (p : Nat) : T :=
  match vrd (s.drop p) 0 0 with
  | .ok (n, k) => .tup [uT n, iT ((p + k : Nat) : Int), iT 0]
  | .error c => .tup [uT 0, iT 0, iT (c : Int)]
theorem low7' (c : UInt8) : IntKind.u8.wrap ((BitVec.ofInt IntKind.u8.bits (c.toNat : Int) &&& BitVec.ofInt IntKind.u8.bits 127).toNat : Int) = ((c.toNat % 128 : Nat) : Int) := by
  have h : ∀ b : BitVec 8, (b &&& (BitVec.ofInt 8 127)).toNat = b.toNat % 128 := by decide
  have h2 := h (BitVec.ofInt 8 (c.toNat : Int))
  rw [ofN, BitVec.toNat_ofNat, Nat.mod_eq_of_lt (show c.toNat < 2 ^ 8 from c.toNat_lt)] at h2
  rw [show (BitVec.ofInt IntKind.u8.bits (c.toNat : Int) &&& BitVec.ofInt IntKind.u8.bits 127).toNat = c.toNat % 128 from h2]
  exact wrapB (by omega) (by omega)
theorem rGet_calls (s : List UInt8) (p : Nat) (hp : p ≤ s.length) (hl : s.length < big) : CallsA (cx B) 71 [sT s, iT p] [] (rgT s p) [] := by
  unfold big at hl
  refine l_body (X := cx B) (fn := Tryz.f71) Tryz.func71 rfl rfl rfl rfl rfl 0 [] rfl rfl ?_
  refine walk ?_
  rw [show decide ((p : Int) < 0) = false from decide_eq_false (by omega)]
  refine walk ?_
  rw [show decide ((p : Int) > s.length) = false from decide_eq_false (by omega)]
  refine walk ?_
  refine l_loop (fun x : Nat × Nat => 11 - x.1) (fun x => [(0, sT s), (1, iT p), (7, uT x.2), (8, iT x.1)]) (fun _ => []) (fun x => vrd (s.drop p) 0 0 = vrd (s.drop (p + x.1)) x.1 x.2 ∧ x.1 ≤ 9 ∧ p + x.1 ≤ s.length ∧ x.2 < 2 ^ (7 * x.1)) (0, 0) ⟨rfl, by omega, by omega, by simp⟩ ⟨rfl, rfl, rfl, rfl, trivial⟩ rfl 0 rfl (fun _ => rfl) (fun _ => rfl) (fun _ => rfl) ?_
  rintro ⟨i, a⟩ ⟨h1, h2, h3, h4⟩
  dsimp only at h1 h2 h3 h4 ⊢
  refine walk ?_
  · rw [show decide ((i : Int) < 10) = true from decide_eq_true (by omega)]
    refine walk ?_
    have hpi : IntKind.i64.wrap ((p : Int) + i) = ((p + i : Nat) : Int) := by rw [wrapI (by omega) (by omega)]; omega
    rw [hpi]
    by_cases hlt : p + i < s.length
    · rw [show decide (((p + i : Nat) : Int) ≥ s.length) = false from decide_eq_false (by omega)]
      obtain ⟨c, hci⟩ : ∃ c, s[p + i]? = some c := ⟨_, List.getElem?_eq_getElem hlt⟩
      have hcc := byte_lt c
      have hdr : s.drop (p + i) = c :: s.drop (p + (i + 1)) := by
        rw [List.drop_eq_getElem_cons hlt]; rw [List.getElem?_eq_getElem hlt] at hci; injection hci with hci; rw [hci, Nat.add_assoc]
      refine walk ?_
      rw [hpi]
      refine l_step (.index (k := .i64) (n := ((p + i : Nat) : Int)) (s := s) (c := c) rfl rfl rfl rfl rfl (by omega) (by rw [Int.toNat_natCast]; exact hci)) rfl rfl ?_
      refine walk ?_
      have stuck : ∀ (h9 : ¬ (i = 9 ∧ 1 < c.toNat)), (c.toNat % 128 * 2 ^ (7 * i) < 18446744073709551616 ∧ a + c.toNat % 128 * 2 ^ (7 * i) < 18446744073709551616 ∧ a + c.toNat % 128 * 2 ^ (7 * i) < 2 ^ (7 * (i + 1))) ∧
          vrd (s.drop p) 0 0 = if c.toNat < 128 then .ok (a + c.toNat % 128 * 2 ^ (7 * i), i + 1) else vrd (s.drop (p + (i + 1))) (i + 1) (a + c.toNat % 128 * 2 ^ (7 * i)) := by
        intro h9
        refine ⟨?_, ?_⟩
        · have hp : 2 ^ (7 * (i + 1)) = 128 * 2 ^ (7 * i) := by rw [show 7 * (i + 1) = 7 * i + 7 by omega, Nat.pow_add]; omega
          have hm : c.toNat % 128 * 2 ^ (7 * i) ≤ 127 * 2 ^ (7 * i) := Nat.mul_le_mul_right _ (by omega)
          by_cases h : i = 9
          · subst h
            have : c.toNat ≤ 1 := by have := not_and.1 h9 rfl; omega
            have hm' : c.toNat % 128 * 2 ^ (7 * 9) ≤ 1 * 2 ^ (7 * 9) := Nat.mul_le_mul_right _ (by omega)
            simp at hm' h4 ⊢; omega
          · have h2' : 2 ^ (7 * i) ≤ 2 ^ 56 := Nat.pow_le_pow_right (by omega) (by omega)
            simp at h2'; omega
        · rw [h1, hdr]; show (if i = 10 then _ else _) = _
          rw [if_neg (by omega), if_neg h9]
      have fin : ∀ (e9 : Bool), (i = 9 ∧ 1 < c.toNat) → vrd (s.drop p) 0 0 = .error 4 := fun _ hh => by
        rw [h1, hdr]; unfold vrd; rw [if_neg (by omega), if_pos hh]
      have hw7 : IntKind.u64.wrap (IntKind.i64.wrap (7 * (i : Int))) = ((7 * i : Nat) : Int) := by rw [wrapI (by omega) (by omega), wrapU (by omega) (by omega)]; omega
      have hi1 : IntKind.i64.wrap ((i : Int) + 1) = ((i + 1 : Nat) : Int) := by rw [wrapI (by omega) (by omega)]; omega
      have hpi1 : IntKind.i64.wrap (((p + i : Nat) : Int) + 1) = ((p + (i + 1) : Nat) : Int) := by rw [wrapI (by omega) (by omega)]; omega
      cases hb : ((i : Int) == 9) with
      | true =>
        have hi9 : i = 9 := by have := eq_of_beq hb; omega
        refine walk ?_
        by_cases hd : 1 < c.toNat
        · rw [show decide ((c.toNat : Int) > 1) = true from decide_eq_true (by omega)]
          refine walk ?_
          unfold rgT
          rw [fin true ⟨hi9, hd⟩]
          exact l_end trivial (by decide) rfl rfl rfl rfl rfl
        · rw [show decide ((c.toNat : Int) > 1) = false from decide_eq_false (by omega)]
          obtain ⟨hbd, hst⟩ := stuck (fun hh => hd hh.2)
          refine walk ?_
          rw [low7', wrapN (n := c.toNat % 128) (by omega), hw7]
          refine l_step (.shl (k := .u64) (j := .u64) rfl rfl rfl (by omega)) rfl rfl ?_
          rw [show IntKind.u64.wrap (((c.toNat % 128 : Nat) : Int) * 2 ^ min ((7 * i : Nat) : Int).toNat IntKind.u64.bits) = ((c.toNat % 128 * 2 ^ (7 * i) : Nat) : Int) by
            rw [show IntKind.u64.bits = 64 from rfl, show min ((7 * i : Nat) : Int).toNat 64 = 7 * i by omega]
            have := wrapN hbd.1
            rw [← this]; congr 1]
          refine walk ?_
          rw [or64 h4 hbd.2.1]
          have hlt2 : c.toNat < 128 := by omega
          rw [show decide ((c.toNat : Int) < 128) = true from decide_eq_true (by omega)]
          refine walk ?_
          rw [hpi, hpi1]
          unfold rgT
          rw [hst, if_pos hlt2]
          exact l_end trivial (by decide) rfl rfl rfl rfl rfl
      | false =>
        have hi9 : ¬ (i = 9 ∧ 1 < c.toNat) := fun hh => by have := ne_of_beq_false hb; omega
        obtain ⟨hbd, hst⟩ := stuck hi9
        refine walk ?_
        rw [low7', wrapN (n := c.toNat % 128) (by omega), hw7]
        refine l_step (.shl (k := .u64) (j := .u64) rfl rfl rfl (by omega)) rfl rfl ?_
        rw [show IntKind.u64.wrap (((c.toNat % 128 : Nat) : Int) * 2 ^ min ((7 * i : Nat) : Int).toNat IntKind.u64.bits) = ((c.toNat % 128 * 2 ^ (7 * i) : Nat) : Int) by
          rw [show IntKind.u64.bits = 64 from rfl, show min ((7 * i : Nat) : Int).toNat 64 = 7 * i by omega]
          have := wrapN hbd.1
          rw [← this]; congr 1]
        refine walk ?_
        rw [or64 h4 hbd.2.1]
        refine r_cond rfl (fun hd => ?_) (fun hd => ?_)
        · refine walk ?_
          rw [hpi, hpi1]
          unfold rgT
          rw [hst, if_pos (by have := of_decide_eq_true hd; omega)]
          exact l_end trivial (by decide) rfl rfl rfl rfl rfl
        · refine walk ?_
          rw [hi1]
          exact ⟨(i + 1, a + c.toNat % 128 * 2 ^ (7 * i)), by simp only; omega, ⟨by rw [hst, if_neg (by have := of_decide_eq_false hd; omega)], by have := of_decide_eq_false hd; simp only; omega, by simp only; omega, hbd.2.2⟩, ⟨rfl, rfl, rfl, rfl, trivial⟩, rfl, wk_eq rfl⟩
    · rw [show decide (((p + i : Nat) : Int) ≥ s.length) = true from decide_eq_true (by omega)]
      refine walk ?_
      have hv : vrd (s.drop p) 0 0 = .error 1 := by rw [h1, List.drop_eq_nil_of_le (by omega)]; rfl
      unfold rgT
      rw [hv]
      exact l_end trivial (by decide) rfl rfl rfl rfl rfl
/-- The least byte first. -/
theorem leN_cons (c : UInt8) (l : List UInt8) : leN (c :: l) = c.toNat + 256 * leN l := rfl
theorem fixed2_calls (s : List UInt8) (hl : s.length ≤ 8) : CallsA (cx B) 117 [sT s] [] (uT (leN s)) [] := by
  refine l_body (X := cx B) (fn := Tryz.f117) Tryz.func117 rfl rfl rfl rfl rfl 0 [] rfl rfl ?_
  refine walk ?_
  rw [show IntKind.i64.wrap ((s.length : Int) - 1) = (s.length : Int) - 1 from wrapI (by omega) (by omega)]
  refine l_loop (fun i : Nat => i) (fun i => [(0, sT s), (3, uT (leN (s.drop i))), (4, .d (.int .i64 ((i : Int) - 1)))]) (fun _ => []) (fun i => i ≤ s.length) s.length (by omega) ⟨rfl, by rw [List.drop_length]; rfl, rfl, trivial⟩ rfl 0 rfl (fun _ => rfl) (fun _ => rfl) (fun _ => rfl) ?_
  intro i i1
  cases i with
  | zero =>
    refine walk ?_
    exact l_end trivial (by decide) rfl rfl rfl rfl rfl
  | succ i =>
    rw [show (((i + 1 : Nat) : Int) - 1) = (i : Int) by omega]
    obtain ⟨c, hci⟩ : ∃ c, s[i]? = some c := ⟨_, List.getElem?_eq_getElem (by omega)⟩
    have hcc := byte_lt c
    have hdr : s.drop i = c :: s.drop (i + 1) := by
      rw [List.drop_eq_getElem_cons (by omega)]; rw [List.getElem?_eq_getElem (by omega)] at hci; injection hci with hci; rw [hci]
    have hlt := leN_lt (s.drop (i + 1))
    have hpw : 256 ^ (s.drop (i + 1)).length ≤ 256 ^ 7 := Nat.pow_le_pow_right (by omega) (by simp; omega)
    simp only [show (256 : Nat) ^ 7 = 72057594037927936 from rfl] at hpw
    refine walk ?_
    rw [show decide ((i : Int) ≥ 0) = true from decide_eq_true (by omega)]
    refine walk ?_
    refine l_step (.index (k := .i64) (n := i) (s := s) (c := c) rfl rfl rfl rfl rfl (by omega) (by simpa using hci)) rfl rfl ?_
    refine walk ?_
    rw [wrapN (n := c.toNat) (by omega)]
    rw [show IntKind.u64.wrap ((leN (s.drop (i + 1)) : Int) * 2 ^ min 8 IntKind.u64.bits) = ((leN (s.drop (i + 1)) * 2 ^ 8 : Nat) : Int) by
      rw [show IntKind.u64.bits = 64 from rfl, show min 8 64 = 8 from rfl]
      have := wrapN (n := leN (s.drop (i + 1)) * 2 ^ 8) (by omega)
      rw [← this]; congr 1]
    rw [BitVec.or_comm, or64 (i := 8) (by omega) (by omega)]
    rw [show c.toNat + leN (s.drop (i + 1)) * 2 ^ 8 = leN (s.drop i) by rw [hdr, leN_cons]; omega]
    rw [show IntKind.i64.wrap ((i : Int) - 1) = (i : Int) - 1 from wrapI (by omega) (by omega)]
    exact ⟨i, Nat.lt_succ_self i, by omega, ⟨rfl, rfl, rfl, trivial⟩, rfl, wk_eq rfl⟩
end Go.Proofs.YtfbckigcelmopaaGreatDoor
