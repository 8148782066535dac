/- What is not computed but told: a builder's methods, eight bytes of a number. -/
import Derived.Test.YtnaojdjhjkendaaGreatDoorIA
import Derived.Test.YtnaojdjhjkendaaGreatDoorPW
set_option linter.unusedSimpArgs false
set_option linter.unusedVariables false
set_option maxRecDepth 100000
namespace Go.Proofs.YtnaojdjhjkendaaGreatDoor
open Go Go.Abs
variable (B : Fr)
def unBf : T → Option (List UInt8)
 | .own true [] => some []
 | .buf t (c :: l) => bif Nat.beq t 5 then some (c :: l) else none
 | _ => none
theorem unBf_ok {t : T} {l : List UInt8} (h : unBf t = some l) : t = bT l := by
 unfold unBf at h
 split at h
 ·injection h with h; subst h; rfl
 ·rename_i t c l'
  cases hb : Nat.beq t 5 with
  | false => rw [hb] at h; simp at h
  | true =>
   rw [hb] at h
   simp only [cond_true, Option.some.injEq] at h; subst h
   rw [Nat.eq_of_beq_eq_true hb]; rfl
 ·simp at h
def adBf : T → Bool
 | .me => true
 | .nw t n => (Nat.beq t 120 || Nat.beq t 122) && Nat.beq n 2
 | _ => false
theorem adBf_ok {a : T} (h : adBf a = true) : adOk a := by
 unfold adBf at h
 split at h
 ·exact .inl rfl
 ·simp only [Bool.and_eq_true, Bool.or_eq_true] at h
  obtain ⟨h1 | h1, h2⟩ := h <;> rw [Nat.eq_of_beq_eq_true h1, Nat.eq_of_beq_eq_true h2]
  ·exact .inr (.inl rfl)
  ·exact .inr (.inr rfl)
 ·simp at h
def orB : Cf := fun f args H =>
 bif Nat.beq f 74 then (match args, H with
  | [.ptr 0 0, .d (.str s)], [.mu [a, x]] => (match unBf x with
   | some l => bif adBf a && Nat.ble (l.length + s.length) most then some (.tup [iT s.length, .d .nili], [.mu [.me, bT (l ++ s)]]) else none
   | none => none)
  | _, _ => none)
 else bif Nat.beq f 75 then (match args, H with
  | [.ptr 0 0], [.mu [a, x]] => (match unBf x with
   | some l => bif adBf a && Nat.ble l.length most then some (sT l, [.mu [a, .undef]]) else none
   | none => none)
  | _, _ => none)
 else bif Nat.beq f 315 then (match args, H with
  | [.d (.int .u64 (.ofNat n))], [] => some (sT (le8 n), [])
  | _, _ => none)
 else none
theorem orB_ok : CfOk (cx B) orB := fun f args H r H' h => by
 unfold orB at h
 cases h1 : Nat.beq f 74
 rotate_left
 ·rw [h1] at h; simp only [cond_true] at h
  rw [Nat.eq_of_beq_eq_true h1]
  split at h <;> (try (simp at h; done))
  rename_i s a x
  split at h <;> (try (simp at h; done))
  rename_i l hl
  cases hc : (adBf a && Nat.ble (l.length + s.length) most) with
  | false => rw [hc] at h; simp at h
  | true =>
   rw [hc] at h; simp only [cond_true, Option.some.injEq, Prod.mk.injEq] at h
   obtain ⟨rfl, rfl⟩ := h
   simp only [Bool.and_eq_true] at hc
   rw [unBf_ok hl]
   exact k'2a B a l s (adBf_ok hc.1) (Nat.le_of_ble_eq_true hc.2)
 rw [h1] at h; simp only [cond_false] at h
 cases h2 : Nat.beq f 75
 rotate_left
 ·rw [h2] at h; simp only [cond_true] at h
  rw [Nat.eq_of_beq_eq_true h2]
  split at h <;> (try (simp at h; done))
  rename_i a x
  split at h <;> (try (simp at h; done))
  rename_i l hl
  cases hc : (adBf a && Nat.ble l.length most) with
  | false => rw [hc] at h; simp at h
  | true =>
   rw [hc] at h; simp only [cond_true, Option.some.injEq, Prod.mk.injEq] at h
   obtain ⟨rfl, rfl⟩ := h
   simp only [Bool.and_eq_true] at hc
   rw [unBf_ok hl]
   exact k'4l B a l (adBf_ok hc.1) (Nat.le_of_ble_eq_true hc.2)
 rw [h2] at h; simp only [cond_false] at h
 cases h3 : Nat.beq f 315 with
 | true =>
  rw [h3] at h; simp only [cond_true] at h
  rw [Nat.eq_of_beq_eq_true h3]
  split at h <;> (try (simp at h; done))
  simp only [Option.some.injEq, Prod.mk.injEq] at h
  obtain ⟨rfl, rfl⟩ := h
  exact eight_calls B _
 | false => rw [h3] at h; simp at h
