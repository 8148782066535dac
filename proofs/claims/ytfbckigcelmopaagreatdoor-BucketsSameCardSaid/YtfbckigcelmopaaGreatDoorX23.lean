/- msg.Reader: numbers; a number that may lack; numbers unfolded. -/
import Derived.Test.YtfbckigcelmopaaGreatDoorX22
set_option linter.unusedSimpArgs false
set_option linter.unusedVariables false
set_option maxRecDepth 100000
namespace Go.Proofs.YtfbckigcelmopaaGreatDoor
open Go Go.Abs
variable (B : Fr)
theorem vars_len {s : List UInt8} {l : List Nat} (h : vars s = .ok l) : l.length ≤ s.length := by
  have key : ∀ (f p : Nat) (l : List Nat), varsE s f p = .ok l → l.length ≤ s.length - p := by
    intro f
    induction f with
    | zero => intro p l h; simp [varsE] at h; subst h; simp
    | succ f ih =>
      intro p l h
      unfold varsE at h
      split at h
      · split at h <;> (try (simp at h; done))
        rename_i e
        obtain ⟨a, b, -⟩ := vE_ok e
        split at h <;> (try (simp at h; done))
        rename_i e2
        injection h with h; subst h
        have := ih _ _ e2
        simp; omega
      · injection h with h; subst h; simp
  have := key _ _ _ h; omega
theorem vars_rd : NumsRd B 68 vars := ⟨fun s hs => varints_calls B s hs, fun s l h => vars_len h⟩
theorem rVars_calls (hB : BOk B) (e : Option Er) (u : List UInt8) (d n : Int) (l : List Fld) (num : Nat) (hl : LOk l) :
    CallsA (cx B) 31 [.ptr 0 0, iT num] [rO e u d n l] (.d (slD ((packF vars n num l e).1.map uD))) [rO (packF vars n num l e).2 u d n l] := by
  have h1 := packed_calls B hB 68 vars (vars_rd B) e u d n l num hl
  refine l_body (X := cx B) (fn := Tryz.f31) Tryz.func31 rfl rfl rfl rfl rfl 1 [] rfl rfl ?_
  refine walk ?_
  refine l_call [0] (h1) rfl rfl rfl rfl rfl rfl rfl (by decide) rfl rfl rfl rfl rfl ?_
  refine walk ?_
  exact l_end trivial (by decide) rfl rfl rfl rfl rfl
def hasL (l : List Fld) (num : Nat) : Bool := (lastF l num).num == num
def optD (b : Bool) (n : Nat) : D := .agg [.bool b, .int .u64 n]
theorem Opt_calls (e : Option Er) (u : List UInt8) (d n : Int) (l : List Fld) (num : Nat) (hl : l.length ≤ most) : CallsA (cx B) 58 [.ptr 0 0, iT num] [rO e u d n l] (.d (optD (hasL l num) (lastF l num).n)) [rO e u d n l] := by
  have h1 := last_calls B e u d n l num hl
  have hb : (((lastF l num).num : Int) == num) = hasL l num := by
    unfold hasL
    by_cases h : (lastF l num).num = num
    · rw [h]; simp
    · rw [show ((lastF l num).num == num) = false by simpa using h]; simp; omega
  refine l_body (X := cx B) (fn := Tryz.f58) Tryz.func58 rfl rfl rfl rfl rfl 1 [] rfl rfl ?_
  refine walk ?_
  refine l_call [0] (h1) rfl rfl rfl rfl rfl rfl rfl (by decide) rfl rfl rfl rfl rfl ?_
  refine walk ?_
  rw [hb]
  exact l_end trivial (by decide) rfl rfl rfl rfl rfl
/-- A number of 32 bits, unfolded. -/
def zag32 (n : Nat) : Int := if n % 2 = 0 then ((n % 4294967296 / 2 : Nat) : Int) else -((n % 4294967296 / 2 : Nat) : Int) - 1
theorem zag32_lt (n : Nat) : -2147483648 ≤ zag32 n ∧ zag32 n < 2147483648 := by unfold zag32; split <;> omega
theorem and1 (m : Nat) (hm : m < 2 ^ 64) : (BitVec.ofInt IntKind.u64.bits (m : Int) &&& BitVec.ofInt IntKind.u64.bits 1).toNat = m % 2 := by
  show (BitVec.ofInt 64 (m : Int) &&& BitVec.ofInt 64 1).toNat = m % 2
  rw [ofN, BitVec.toNat_and, BitVec.toNat_ofNat, Nat.mod_eq_of_lt hm]
  simp
theorem xorI0 (a : Int) (h1 : 0 ≤ a) (h2 : a < 2147483648) : IntKind.i32.wrap ((BitVec.ofInt IntKind.i32.bits a ^^^ BitVec.ofInt IntKind.i32.bits 0).toNat : Int) = a := by
  show IntKind.i32.wrap ((BitVec.ofInt 32 a ^^^ BitVec.ofInt 32 0).toNat : Int) = a
  rw [show BitVec.ofInt 32 0 = 0#32 from rfl, BitVec.xor_zero, BitVec.toNat_ofInt]
  rw [IntKind.wrap_i32]; omega
theorem xorI1 (a : Int) (h1 : 0 ≤ a) (h2 : a < 2147483648) : IntKind.i32.wrap ((BitVec.ofInt IntKind.i32.bits a ^^^ BitVec.ofInt IntKind.i32.bits (-1)).toNat : Int) = -a - 1 := by
  show IntKind.i32.wrap ((BitVec.ofInt 32 a ^^^ BitVec.ofInt 32 (-1)).toNat : Int) = -a - 1
  rw [show BitVec.ofInt 32 (-1) = BitVec.allOnes 32 by decide, BitVec.xor_allOnes, BitVec.toNat_not, BitVec.toNat_ofInt]
  rw [IntKind.wrap_i32]; omega
theorem Zag32_calls (n : Nat) (hn : n < 2 ^ 64) : CallsA (cx B) 29 [uT n] [] (.d (.int .i32 (zag32 n))) [] := by
  refine l_body (X := cx B) (fn := Tryz.f29) Tryz.func29 rfl rfl rfl rfl rfl 0 [] rfl rfl ?_
  refine walk ?_
  have key : IntKind.i32.wrap ((BitVec.ofInt IntKind.i32.bits (IntKind.i32.wrap (Int.fdiv (IntKind.u32.wrap (n : Int)) (2 ^ min 1 IntKind.u32.bits))) ^^^ BitVec.ofInt IntKind.i32.bits (IntKind.i32.wrap (0 - IntKind.i32.wrap (IntKind.u64.wrap ((BitVec.ofInt IntKind.u64.bits (n : Int) &&& BitVec.ofInt IntKind.u64.bits 1).toNat : Int))))).toNat : Int) = zag32 n := by
    rw [and1 n hn, show min 1 IntKind.u32.bits = 1 from rfl, Int.fdiv_eq_ediv_of_nonneg _ (by decide)]
    have e1 : IntKind.i32.wrap (IntKind.u32.wrap (n : Int) / 2 ^ 1) = ((n % 4294967296 / 2 : Nat) : Int) := by rw [IntKind.wrap_u32, IntKind.wrap_i32]; omega
    rw [e1]
    unfold zag32
    by_cases h : n % 2 = 0
    · rw [if_pos h, h]
      rw [show IntKind.i32.wrap (0 - IntKind.i32.wrap (IntKind.u64.wrap ((0 : Nat) : Int))) = 0 from rfl]
      exact xorI0 _ (by omega) (by omega)
    · rw [if_neg h, show n % 2 = 1 by omega]
      rw [show IntKind.i32.wrap (0 - IntKind.i32.wrap (IntKind.u64.wrap ((1 : Nat) : Int))) = -1 from rfl]
      exact xorI1 _ (by omega) (by omega)
  rw [key]
  exact l_end trivial (by decide) rfl rfl rfl rfl rfl
end Go.Proofs.YtfbckigcelmopaaGreatDoor
