/- Where and how a reader's errors are; hyglaw8.Wrong. -/
import Derived.Test.YtpioginipokfiaaGreatDoorX29
set_option linter.unusedSimpArgs false
set_option linter.unusedVariables false
set_option maxRecDepth 100000
namespace Go.Proofs.YtpioginipokfiaaGreatDoor
open Go Go.Abs
variable (B : Fr)
def gc (c : Int) : Prop := c = 1 ∨ c = 4 ∨ c = 3 ∨ c = 5 ∨ c = 6
def EIn (n : Nat) (e : Er) : Prop := (∃ p : Nat, p ≤ n ∧ placeOf e = ((p : Int), true)) ∧ gc (codeOf e)
theorem ein_loc {n p : Nat} {c : Int} (h : p ≤ n) (hc : gc c) : EIn n (.loc p (.code c)) := ⟨⟨p, h, rfl⟩, hc⟩
theorem vrd_code : ∀ {l : List UInt8} {i a c : Nat}, vrd l i a = .error c → gc c
 | [], i, a, c, h => by simp [vrd] at h; subst h; exact .inl rfl
 | x :: l, i, a, c, h => by
  unfold vrd at h
  split at h
  ·injection h with h; subst h; exact .inl rfl
  ·split at h
   ·injection h with h; subst h; exact .inr (.inl rfl)
   ·split at h
    ·simp at h
    ·exact vrd_code h
theorem vE_err {s : List UInt8} {p : Nat} {e : Er} (h : vE s p = .error e) (hp : p ≤ s.length) : EIn s.length e := by
 unfold vE at h
 split at h <;> (try (simp at h; done))
 rename_i c hc
 injection h with h; subst h
 exact ein_loc hp (vrd_code hc)
theorem tagE_err {s : List UInt8} {p : Nat} {e : Er} (h : tagE s p = .error e) (hp : p ≤ s.length) : EIn s.length e := by
 unfold tagE at h
 split at h
 ·rename_i e' h1; injection h with h; subst h; exact vE_err h1 hp
 ·split at h
  ·injection h with h; subst h; exact ein_loc hp (.inr (.inr (.inl rfl)))
  ·simp at h
theorem takeE_err {s : List UInt8} {p n : Nat} {e : Er} (h : takeE s p n = .error e) (hp : p ≤ s.length) : EIn s.length e := by
 unfold takeE at h
 split at h
 ·injection h with h; subst h; exact ein_loc hp (.inl rfl)
 ·simp at h
theorem restG_err {g : Int → Nat → Nat → Except Er Nat} {s : List UInt8} {d : Int} {num kind a p : Nat} {e : Er} (hg : ∀ d num p e, g d num p = .error e → p ≤ s.length → EIn s.length e) (h : k'1o g s d num kind a p = .error e) (ha : a ≤ s.length) (hp : p ≤ s.length) : EIn s.length e := by
 unfold k'1o at h
 split at h
 ·split at h <;> (try (simp at h; done))
  rename_i h1; injection h with h; subst h; exact vE_err h1 hp
 split at h
 ·split at h <;> (try (simp at h; done))
  rename_i h1; injection h with h; subst h; exact takeE_err h1 hp
 split at h
 ·split at h <;> (try (simp at h; done))
  rename_i h1; injection h with h; subst h; exact takeE_err h1 hp
 split at h
 ·split at h
  ·rename_i h1
   split at h <;> (try (simp at h; done))
   rename_i h2; injection h with h; subst h; exact takeE_err h2 (vE_ok h1).2.1
  ·rename_i h1; injection h with h; subst h; exact vE_err h1 hp
 split at h
 ·split at h <;> (try (simp at h; done))
  rename_i h1
  injection h with h; subst h
  split at h1
  ·injection h1 with h1; subst h1; exact ein_loc hp (.inr (.inr (.inr (.inr rfl))))
  ·exact hg _ _ _ _ h1 hp
 ·injection h with h; subst h; exact ein_loc ha (.inr (.inr (.inl rfl)))
theorem grp_err {s : List UInt8} : ∀ (f : Nat) (d : Int) (num p : Nat) (e : Er), grp s f d num p = .error e → p ≤ s.length → EIn s.length e
 | 0, _, _, _, _, h, hp => by simp [grp] at h; subst h; exact ein_loc hp (.inl rfl)
 | f + 1, d, num, p, e, h, hp => by
  rw [k'1j] at h
  split at h
  ·rename_i h1; injection h with h; subst h; exact tagE_err h1 hp
  ·rename_i n k q h1
   obtain ⟨t1, t2, -⟩ := k'1m h1
   split at h
   ·split at h
    ·simp at h
    ·injection h with h; subst h; exact ein_loc hp (.inr (.inr (.inl rfl)))
   ·split at h
    ·rename_i h2; injection h with h; subst h
     exact restG_err (fun d n p e => grp_err f d n p e) h2 hp t2
    ·rename_i a b q' h2
     obtain ⟨-, b2, -⟩ := k'17 (fun d n p q => grp_ok _ d n p q) h2 t2
     exact grp_err f d num q' e h b2
theorem recE_err {s : List UInt8} {d : Int} {p : Nat} {e : Er} (h : recE s d p = .error e) (hp : p ≤ s.length) : EIn s.length e := by
 unfold recE at h
 split at h
 ·rename_i h1; injection h with h; subst h; exact tagE_err h1 hp
 ·rename_i n k q h1
  obtain ⟨t1, t2, -⟩ := k'1m h1
  split at h
  ·rename_i h2; injection h with h; subst h
   exact restG_err (fun d n p e => grp_err _ d n p e) h2 hp t2
  ·simp at h
theorem allE_err {s : List UInt8} {d : Int} : ∀ {f p : Nat} {e : Er}, allE s d f p = .error e → EIn s.length e
 | 0, p, e, h => by simp [allE] at h
 | f + 1, p, e, h => by
  unfold allE at h
  split at h
  ·split at h
   ·rename_i h1; injection h with h; subst h; exact recE_err h1 (by omega)
   ·split at h
    ·rename_i h2; injection h with h; subst h; exact allE_err h2
    ·simp at h
  ·simp at h
theorem clamp_in (n : Nat) (a : Int) : ∃ p : Nat, p ≤ n ∧ clampE n a = p := by
 unfold clampE
 dsimp only
 refine ⟨(if (n : Int) < if (0 : Int) > a then 0 else a then (n : Int) else if (0 : Int) > a then 0 else a).toNat, ?_, ?_⟩ <;> split <;> split <;> omega
theorem fail_in (n : Nat) (num : Nat) (x : Er) (hc : gc (codeOf x)) : ∃ e, k'2k n num none (some x) = some e ∧ EIn n e := by
 obtain ⟨p, hp, h⟩ := clamp_in n (placeOf x).1
 refine ⟨_, rfl, ⟨p, hp, ?_⟩, hc⟩
 show (clampE n (placeOf x).1, true) = _
 rw [h]
theorem k'26 {s : List UInt8} {d : Int} {e : Er} (h : k'w s d = some e) : EIn s.length e := by
 unfold k'w at h
 split at h
 ·obtain ⟨e', h1, h2⟩ := fail_in s.length 0 (.code 6) (.inr (.inr (.inr (.inr rfl))))
  rw [h1] at h; injection h with h; subst h; exact h2
 ·split at h
  ·simp at h
  ·rename_i h1; injection h with h; subst h; exact allE_err h1
