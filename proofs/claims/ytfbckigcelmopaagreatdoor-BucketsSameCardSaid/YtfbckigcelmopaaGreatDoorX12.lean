/- varint.Put. -/
import Derived.Test.YtfbckigcelmopaaGreatDoorX11
set_option linter.unusedSimpArgs false
set_option linter.unusedVariables false
set_option maxRecDepth 100000
namespace Go.Proofs.YtfbckigcelmopaaGreatDoor
open Go Go.Abs
variable (B : Fr)
def vput : Nat → Nat → List UInt8
  | 0, n => [UInt8.ofNat n]
  | f + 1, n => if n < 128 then [UInt8.ofNat n] else UInt8.ofNat (n % 128 + 128) :: vput f (n / 128)
def putV (n : Nat) : List UInt8 := vput 9 n
theorem byte_of {n : Nat} (h : n < 256) : (UInt8.ofNat n).toNat = n := by simp; omega
theorem or128 (m : Nat) : IntKind.u8.wrap ((BitVec.ofInt IntKind.u8.bits (IntKind.u8.wrap (m : Int)) ||| BitVec.ofInt IntKind.u8.bits 128).toNat : Int) = ((UInt8.ofNat (m % 128 + 128)).toNat : Int) := by
  have h : ∀ b : BitVec 8, (b ||| BitVec.ofInt 8 128).toNat = b.toNat % 128 + 128 := by decide
  rw [byte_of (by omega)]
  have h1 : IntKind.u8.wrap (m : Int) = ((m % 256 : Nat) : Int) := by rw [IntKind.wrap_u8]; omega
  have h2 := h (BitVec.ofInt 8 ((m % 256 : Nat) : Int))
  rw [ofN, BitVec.toNat_ofNat] at h2
  rw [h1, show (BitVec.ofInt IntKind.u8.bits ((m % 256 : Nat) : Int) ||| BitVec.ofInt IntKind.u8.bits 128).toNat = m % 256 % 2 ^ 8 % 128 + 128 from h2, wrapB (by omega) (by omega)]
  congr 1; omega
theorem byte_fits (l : List UInt8) : ∀ a ∈ l.map byteD, a.fits 1 = true := by
  intro a ha
  obtain ⟨c, -, rfl⟩ := List.mem_map.1 ha
  rfl
theorem vput_len : ∀ (f n : Nat), (vput f n).length ≤ f + 1
  | 0, n => by simp [vput]
  | f + 1, n => by
    unfold vput
    split
    · simp
    · have := vput_len f (n / 128); simp; omega
theorem Put_calls (n : Nat) (hn : n < 2 ^ 64) : CallsA (cx B) 39 [uT n] [] (sT (putV n)) [] := by
  refine l_body (X := cx B) (fn := Tryz.f39) Tryz.func39 rfl rfl rfl rfl rfl 0 [] rfl rfl ?_
  refine walk ?_
  refine l_loop (fun x : Nat × Nat × List UInt8 => x.2.1) (fun x => [(0, uT x.2.1), (3, owT (x.2.2.map byteD))]) (fun _ => []) (fun x => putV n = x.2.2 ++ vput x.1 x.2.1 ∧ x.2.1 < 128 ^ (x.1 + 1) ∧ x.2.2.length + x.1 = 9 ∧ x.2.1 < 2 ^ 64) (9, n, []) ⟨rfl, by show n < 128 ^ 10; omega, rfl, hn⟩ ⟨rfl, rfl, trivial⟩ rfl 0 rfl (fun _ => rfl) (fun _ => rfl) (fun _ => rfl) ?_
  rintro ⟨f, m, acc⟩ ⟨i1, i2, i3, i4⟩
  dsimp only at i1 i2 i3 i4 ⊢
  refine walk ?_
  refine r_cond rfl (fun hc => ?_) (fun hc => ?_)
  · have hm : 128 ≤ m := by have := of_decide_eq_true hc; omega
    cases f with
    | zero => omega
    | succ f =>
    have hst : vput (f + 1) m = UInt8.ofNat (m % 128 + 128) :: vput f (m / 128) := by show (if m < 128 then _ else _) = _; rw [if_neg (by omega)]
    refine walk ?_
    (try refine l_open rfl ?_)
    refine l_step (.assignOwn (.inr rfl) rfl) rfl rfl ?_
    refine walk ?_
    rw [or128]
    refine l_step (.buildSlice (es := [byteD (UInt8.ofNat (m % 128 + 128))]) rfl rfl rfl rfl rfl rfl (by intro x hx; simp at hx; subst hx; rfl) (by simp) (by decide) (by decide)) rfl rfl ?_
    have hml : (acc.map byteD).length + [byteD (UInt8.ofNat (m % 128 + 128))].length ≤ most := by simp [most]; omega
    refine l_step (.append' rfl rfl rfl rfl ⟨_, _, rfl, rfl, by intro q; simp⟩ rfl rfl rfl rfl rfl (by rw [show [byteD (UInt8.ofNat (m % 128 + 128))] = [UInt8.ofNat (m % 128 + 128)].map byteD from rfl, ← List.map_append]; exact byte_fits _) (by decide) rfl hml rfl) rfl rfl ?_
    refine l_step (.assignOwn (.inl rfl) rfl) rfl rfl ?_
    refine walk ?_
    rw [show Int.fdiv (m : Int) (2 ^ min 7 IntKind.u64.bits) = ((m / 128 : Nat) : Int) from shrN m 7 (by omega)]
    exact ⟨(f, m / 128, acc ++ [UInt8.ofNat (m % 128 + 128)]), by show m / 128 < m; omega, ⟨by rw [i1, hst]; simp, by show m / 128 < 128 ^ (f + 1); rw [Nat.pow_succ] at i2; omega, by show (acc ++ [_]).length + f = 9; simp; omega, by show m / 128 < 2 ^ 64; omega⟩, ⟨rfl, by show T.own _ _ = owT _; rw [List.map_append]; rfl, trivial⟩, rfl, wk_eq rfl⟩
  · have hm : m < 128 := by have := of_decide_eq_false hc; omega
    have hst : vput f m = [UInt8.ofNat m] := by
      cases f with
      | zero => rfl
      | succ f => show (if m < 128 then _ else _) = _; rw [if_pos hm]
    have hb : IntKind.u8.wrap (m : Int) = ((UInt8.ofNat m).toNat : Int) := by rw [byte_of (by omega)]; exact wrapB (by omega) (by omega)
    refine walk ?_
    (try refine l_open rfl ?_)
    refine l_step (.assignOwn (.inr rfl) rfl) rfl rfl ?_
    refine walk ?_
    rw [hb]
    refine l_step (.buildSlice (es := [byteD (UInt8.ofNat m)]) rfl rfl rfl rfl rfl rfl (by intro x hx; simp at hx; subst hx; rfl) (by simp) (by decide) (by decide)) rfl rfl ?_
    have hml : (acc.map byteD).length + [byteD (UInt8.ofNat m)].length ≤ most := by simp [most]; omega
    refine l_step (.append' rfl rfl rfl rfl ⟨_, _, rfl, rfl, by intro q; simp⟩ rfl rfl rfl rfl rfl (by rw [show [byteD (UInt8.ofNat m)] = [UInt8.ofNat m].map byteD from rfl, ← List.map_append]; exact byte_fits _) (by decide) rfl hml rfl) rfl rfl ?_
    refine l_step (.toStr (l := acc ++ [UInt8.ofNat m]) rfl rfl rfl rfl rfl rfl rfl (by show some _ = some _; rw [List.map_append]; rfl) (by intro s h; cases h)) rfl rfl ?_
    rw [i1, hst]
    refine walk ?_
    exact l_end trivial (by decide) rfl rfl rfl rfl rfl
end Go.Proofs.YtfbckigcelmopaaGreatDoor
