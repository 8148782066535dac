/- Records, as plain lists: what stands ahead and behind does not matter. And more. -/
import Derived.Test.YtnaojdjhjkendaaGreatDoorXG3
set_option linter.unusedSimpArgs false
set_option linter.unusedVariables false
set_option maxRecDepth 100000
/-! Records, as plain lists: what stands ahead and behind does not matter. -/
namespace Go.Proofs.YtnaojdjhjkendaaGreatDoor
open Go Go.Abs
def Er.sh (k : Nat) : Er → Er
 | .loc n e => .loc (n + k) e
 | e => e
def shE {α : Type} (k : Nat) (f : α → α) : Except Er α → Except Er α
 | .ok x => .ok (f x)
 | .error e => .error (e.sh k)
theorem drop_pre (x s : List UInt8) (p : Nat) : (x ++ s).drop (x.length + p) = s.drop p := by
 rw [List.drop_append]; simp
theorem vE_sh (x s : List UInt8) (p : Nat) : vE (x ++ s) (x.length + p) = shE x.length (fun r => (r.1, r.2 + x.length)) (vE s p) := by
 unfold vE
 rw [drop_pre]
 cases vrd (s.drop p) 0 0 with
 | ok r => simp only [shE]; congr 2; omega
 | error c => simp only [shE, Er.sh]; congr 2; push_cast; omega
theorem takeE_sh (x s : List UInt8) (p n : Nat) : k'36 (x ++ s) (x.length + p) n = shE x.length (fun r => (r.1, r.2 + x.length)) (k'36 s p n) := by
 unfold k'36
 rw [drop_pre, List.length_append, show x.length + s.length - (x.length + p) = s.length - p by omega]
 split
 ·simp only [shE, Er.sh]; congr 2; push_cast; omega
 ·simp only [shE]; congr 2; omega
theorem tagE_sh (x s : List UInt8) (p : Nat) : tagE (x ++ s) (x.length + p) = shE x.length (fun r => (r.1, r.2.1, r.2.2 + x.length)) (tagE s p) := by
 unfold tagE
 rw [vE_sh]
 cases vE s p with
 | error e => rfl
 | ok r =>
  obtain ⟨n, q⟩ := r
  simp only [shE]
  split
  ·simp only [Er.sh]; congr 2; push_cast; omega
  ·rfl
theorem restG_sh (x s : List UInt8) (g g' : Int → Nat → Nat → Except Er Nat) (d : Int) (num kind a p : Nat) (hg : g' (d - 1) num (x.length + p) = shE x.length (fun q => q + x.length) (g (d - 1) num p)) :
  k'28 g' (x ++ s) d num kind (x.length + a) (x.length + p) = shE x.length (fun r => (r.1, r.2.1, r.2.2 + x.length)) (k'28 g s d num kind a p) := by
 unfold k'28
 rw [vE_sh, takeE_sh, takeE_sh, hg]
 split
 ·cases vE s p <;> rfl
 split
 ·cases k'36 s p 8 <;> rfl
 split
 ·cases k'36 s p 4 <;> rfl
 split
 ·cases vE s p with
  | error e => rfl
  | ok r =>
   obtain ⟨n, q⟩ := r
   simp only [shE]
   rw [show q + x.length = x.length + q by omega, takeE_sh]
   cases k'36 s q n <;> rfl
 split
 ·by_cases hd : d < 1
  ·rw [if_pos hd, if_pos hd]; simp only [shE, Er.sh]; congr 2; push_cast; omega
  ·rw [if_neg hd, if_neg hd]; cases g (d - 1) num p <;> rfl
 ·simp only [shE, Er.sh]; congr 2; push_cast; omega
theorem grp_sh (x s : List UInt8) : ∀ (f : Nat) (d : Int) (num p : Nat), grp (x ++ s) f d num (x.length + p) = shE x.length (fun q => q + x.length) (grp s f d num p)
 | 0, d, num, p => by simp only [grp, shE, Er.sh]; congr 2; push_cast; omega
 | f + 1, d, num, p => by
  rw [k'2k, k'2k, tagE_sh]
  cases tagE s p with
  | error e => rfl
  | ok r =>
   obtain ⟨n, k, q⟩ := r
   simp only [shE]
   split
   ·split
    ·rfl
    ·simp only [Er.sh]; congr 2; push_cast; omega
   ·rw [show q + x.length = x.length + q by omega, restG_sh x s (grp s f) (grp (x ++ s) f) d n k p q (grp_sh x s f (d - 1) n q)]
    cases k'28 (grp s f) s d n k p q with
    | error e => rfl
    | ok r =>
     obtain ⟨N, t, q'⟩ := r
     simp only [shE]
     rw [show q' + x.length = x.length + q' by omega, grp_sh x s f]
     rfl
theorem restG_congr (s : List UInt8) (g g' : Int → Nat → Nat → Except Er Nat) (d : Int) (num kind a p : Nat) (hg : g' (d - 1) num p = g (d - 1) num p) : k'28 g' s d num kind a p = k'28 g s d num kind a p := by
 unfold k'28; rw [hg]
theorem grp_fuel (s : List UInt8) : ∀ (f f' : Nat) (d : Int) (num p : Nat), p ≤ s.length → s.length - p < f → s.length - p < f' → grp s f' d num p = grp s f d num p
 | 0, f', d, num, p, _, h, _ => by omega
 | f + 1, 0, d, num, p, _, _, h => by omega
 | f + 1, f' + 1, d, num, p, hp, h1, h2 => by
  rw [k'2k, k'2k]
  cases ht : tagE s p with
  | error e => rfl
  | ok r =>
   obtain ⟨n, k, q⟩ := r
   obtain ⟨a, b, -⟩ := k'2g ht
   simp only
   split
   ·rfl
   ·rw [restG_congr s (grp s f) (grp s f') d n k p q (grp_fuel s f f' (d - 1) n q b (by omega) (by omega))]
    cases hr : k'28 (grp s f) s d n k p q with
    | error e => rfl
    | ok r =>
     obtain ⟨N, t, q'⟩ := r
     obtain ⟨a2, b2, -⟩ := k'20 (fun d n p q => k'49 f d n p q) hr b
     exact grp_fuel s f f' d num q' b2 (by omega) (by omega)
theorem recE_sh (x s : List UInt8) (d : Int) (p : Nat) (hp : p ≤ s.length) : recE (x ++ s) d (x.length + p) = shE x.length (fun r => (r.1, r.2 + x.length)) (recE s d p) := by
 unfold recE
 rw [tagE_sh]
 cases ht : tagE s p with
 | error e => rfl
 | ok r =>
  obtain ⟨n, k, q⟩ := r
  obtain ⟨a, b, -⟩ := k'2g ht
  simp only [shE]
  have hg : grp (x ++ s) ((x ++ s).length + 1) (d - 1) n (x.length + q) = shE x.length (fun q => q + x.length) (grp s (s.length + 1) (d - 1) n q) := by
   rw [grp_fuel (x ++ s) (s.length + 1) _ (d - 1) n (x.length + q) (by simp; omega) (by simp; omega) (by simp; omega), grp_sh]
  rw [show q + x.length = x.length + q by omega, restG_sh x s (grp s (s.length + 1)) _ d n k p q hg]
  cases k'28 (grp s (s.length + 1)) s d n k p q with
  | error e => rfl
  | ok r =>
   obtain ⟨N, t, q'⟩ := r
   simp only [shE]
   rw [drop_pre, show q' + x.length - (x.length + p) = q' - p by omega]
theorem allE_fuel (s : List UInt8) (d : Int) : ∀ (f f' p : Nat), s.length - p < f → s.length - p < f' → allE s d f' p = allE s d f p
 | 0, f', p, h, _ => by omega
 | f + 1, 0, p, _, h => by omega
 | f + 1, f' + 1, p, h1, h2 => by
  unfold allE
  split
  ·cases hr : recE s d p with
   | error e => rfl
   | ok r =>
    obtain ⟨x, q⟩ := r
    obtain ⟨a, b, -⟩ := k'3s hr
    simp only
    rw [allE_fuel s d f f' q (by omega) (by omega)]
  ·rfl
theorem allE_sh (x s : List UInt8) (d : Int) : ∀ (f p : Nat), p ≤ s.length → allE (x ++ s) d f (x.length + p) = shE x.length id (allE s d f p)
 | 0, p, _ => rfl
 | f + 1, p, hp => by
  unfold allE
  rw [recE_sh x s d p hp, List.length_append]
  by_cases h : p < s.length
  ·rw [if_pos h, if_pos (by omega)]
   cases hr : recE s d p with
   | error e => rfl
   | ok r =>
    obtain ⟨y, q⟩ := r
    obtain ⟨a, b, -⟩ := k'3s hr
    simp only [shE]
    rw [show q + x.length = x.length + q by omega, allE_sh x s d f q b]
    cases allE s d f q <;> rfl
  ·rw [if_neg h, if_neg (by omega)]; rfl
/-! What stands behind does not matter to what could be read. -/
theorem vrd_ext (y : List UInt8) : ∀ (l : List UInt8) (i a : Nat) (r : Nat × Nat), vrd l i a = .ok r → vrd (l ++ y) i a = .ok r
 | [], i, a, r, h => by simp [vrd] at h
 | c :: l, i, a, r, h => by
  rw [List.cons_append]
  unfold vrd at h ⊢
  split at h
  ·simp at h
  ·rw [if_neg ‹_›]
   split at h
   ·simp at h
   ·rw [if_neg ‹_›]
    split at h
    ·rw [if_pos ‹_›]; exact h
    ·rw [if_neg ‹_›]; exact vrd_ext y l _ _ _ h
theorem k'41 (s y : List UInt8) (p : Nat) (hp : p ≤ s.length) : (s ++ y).drop p = s.drop p ++ y := by
 rw [List.drop_append_of_le_length hp]
theorem vE_ext (s y : List UInt8) (p : Nat) (hp : p ≤ s.length) {r : Nat × Nat} (h : vE s p = .ok r) : vE (s ++ y) p = .ok r := by
 unfold vE at h ⊢
 rw [k'41 s y p hp]
 cases hv : vrd (s.drop p) 0 0 with
 | error c => rw [hv] at h; simp at h
 | ok q => rw [hv] at h; rw [vrd_ext y _ _ _ _ hv]; exact h
theorem takeE_ext (s y : List UInt8) (p n : Nat) (hp : p ≤ s.length) {r : List UInt8 × Nat} (h : k'36 s p n = .ok r) : k'36 (s ++ y) p n = .ok r := by
 unfold k'36 at h ⊢
 split at h
 ·simp at h
 ·rw [if_neg (by simp; omega), k'41 s y p hp, List.take_append_of_le_length (by simp; omega)]; exact h
theorem tagE_ext (s y : List UInt8) (p : Nat) (hp : p ≤ s.length) {r : Nat × Nat × Nat} (h : tagE s p = .ok r) : tagE (s ++ y) p = .ok r := by
 unfold tagE at h ⊢
 cases hv : vE s p with
 | error c => rw [hv] at h; simp at h
 | ok q => rw [hv] at h; rw [vE_ext s y p hp hv]; exact h
theorem restG_ext (s y : List UInt8) (g g' : Int → Nat → Nat → Except Er Nat) (d : Int) (num kind a p : Nat) (hp : p ≤ s.length) (hg : ∀ q, g (d - 1) num p = .ok q → g' (d - 1) num p = .ok q) {r : Nat × List UInt8 × Nat} (h : k'28 g s d num kind a p = .ok r) : k'28 g' (s ++ y) d num kind a p = .ok r := by
 unfold k'28 at h ⊢
 split at h
 ·rw [if_pos ‹_›]
  cases hv : vE s p with
  | error c => rw [hv] at h; simp at h
  | ok q => rw [hv] at h; rw [vE_ext s y p hp hv]; exact h
 ·rw [if_neg ‹_›]
  split at h
  ·rw [if_pos ‹_›]
   cases hv : k'36 s p 8 with
   | error c => rw [hv] at h; simp at h
   | ok q => rw [hv] at h; rw [takeE_ext s y p 8 hp hv]; exact h
  ·rw [if_neg ‹_›]
   split at h
   ·rw [if_pos ‹_›]
    cases hv : k'36 s p 4 with
    | error c => rw [hv] at h; simp at h
    | ok q => rw [hv] at h; rw [takeE_ext s y p 4 hp hv]; exact h
   ·rw [if_neg ‹_›]
    split at h
    ·rw [if_pos ‹_›]
     cases hv : vE s p with
     | error c => rw [hv] at h; simp at h
     | ok q =>
      obtain ⟨n, q⟩ := q
      rw [hv] at h; rw [vE_ext s y p hp hv]
      obtain ⟨a1, b1, -⟩ := vE_ok hv
      simp only at h ⊢
      cases hw : k'36 s q n with
      | error c => rw [hw] at h; simp at h
      | ok z => rw [hw] at h; rw [takeE_ext s y q n b1 hw]; exact h
    ·rw [if_neg ‹_›]
     split at h
     ·rw [if_pos ‹_›]
      split at h
      ·rename_i q hq
       split at hq
       ·simp at hq
       ·rw [if_neg ‹_›, hg q hq]; exact h
      ·simp at h
     ·simp at h
theorem grp_ext (s y : List UInt8) : ∀ (f : Nat) (d : Int) (num p q : Nat), p ≤ s.length → grp s f d num p = .ok q → grp (s ++ y) f d num p = .ok q
 | 0, d, num, p, q, _, h => by simp [grp] at h
 | f + 1, d, num, p, q, hp, h => by
  rw [k'2k] at h ⊢
  cases ht : tagE s p with
  | error e => rw [ht] at h; simp at h
  | ok r =>
   obtain ⟨n, k, q1⟩ := r
   rw [ht] at h
   rw [tagE_ext s y p hp ht]
   obtain ⟨a, b, -⟩ := k'2g ht
   simp only at h ⊢
   split at h
   ·rw [if_pos ‹_›]; exact h
   ·rw [if_neg ‹_›]
    cases hr : k'28 (grp s f) s d n k p q1 with
    | error e => rw [hr] at h; simp at h
    | ok r =>
     obtain ⟨N, t, q2⟩ := r
     rw [hr] at h
     obtain ⟨a2, b2, -⟩ := k'20 (fun d n p q => k'49 f d n p q) hr b
     rw [restG_ext s y (grp s f) (grp (s ++ y) f) d n k p q1 b (fun q hq => grp_ext s y f _ _ _ _ b hq) hr]
     exact grp_ext s y f d num q2 q b2 h
theorem recE_ext (s y : List UInt8) (d : Int) (p : Nat) (hp : p ≤ s.length) {r : Fld × Nat} (h : recE s d p = .ok r) : recE (s ++ y) d p = .ok r := by
 obtain ⟨r, q⟩ := r
 have h0 := k'3s h
 unfold recE at h ⊢
 cases ht : tagE s p with
 | error e => rw [ht] at h; simp at h
 | ok z =>
  obtain ⟨n, k, q1⟩ := z
  rw [ht] at h
  rw [tagE_ext s y p hp ht]
  obtain ⟨a, b, -⟩ := k'2g ht
  simp only at h ⊢
  cases hr : k'28 (grp s (s.length + 1)) s d n k p q1 with
  | error e => rw [hr] at h; simp at h
  | ok z =>
   obtain ⟨N, t, q2⟩ := z
   rw [hr] at h
   have hg : ∀ q, grp s (s.length + 1) (d - 1) n q1 = .ok q → grp (s ++ y) ((s ++ y).length + 1) (d - 1) n q1 = .ok q := fun q hq => by
    have := grp_ext s y _ _ _ _ _ b hq
    rw [grp_fuel (s ++ y) ((s ++ y).length + 1) ((s ++ y).length + 1) (d - 1) n q1 (by simp; omega) (by omega) (by omega)]
    have hm : ∀ (f f' : Nat), f ≤ f' → ∀ (d : Int) (num p q : Nat), p ≤ (s ++ y).length → grp (s ++ y) f d num p = .ok q → grp (s ++ y) f' d num p = .ok q := by
     intro f
     induction f with
     | zero => intro f' _ d num p q _ h; simp [grp] at h
     | succ f ih =>
      intro f' hf d num p q hp h
      cases f' with
      | zero => omega
      | succ f' =>
       rw [k'2k] at h ⊢
       cases ht : tagE (s ++ y) p with
       | error e => rw [ht] at h; simp at h
       | ok r =>
        obtain ⟨n, k, q1⟩ := r
        rw [ht] at h
        obtain ⟨a, b, -⟩ := k'2g ht
        simp only at h ⊢
        split at h
        ·rw [if_pos ‹_›]; exact h
        ·rw [if_neg ‹_›]
         cases hr : k'28 (grp (s ++ y) f) (s ++ y) d n k p q1 with
         | error e => rw [hr] at h; simp at h
         | ok r =>
          obtain ⟨N, t, q2⟩ := r
          rw [hr] at h
          obtain ⟨a2, b2, -⟩ := k'20 (fun d n p q => k'49 f d n p q) hr b
          have := restG_ext (s ++ y) [] (grp (s ++ y) f) (grp (s ++ y) f') d n k p q1 b (fun q hq => ih f' (by omega) _ _ _ _ b hq) hr
          rw [List.append_nil] at this
          rw [this]
          exact ih f' (by omega) d num q2 q b2 h
    exact hm _ _ (by simp) _ _ _ _ (by simp; omega) this
   rw [restG_ext s y _ (grp (s ++ y) ((s ++ y).length + 1)) d n k p q1 b hg hr]
   injection h with h; injection h with h1 h2
   subst h1; subst h2
   simp only
   rw [k'41 s y p hp, List.take_append_of_le_length (by simp; omega)]
theorem allE_app (s t : List UInt8) (d : Int) : ∀ (f f' p : Nat) (a : List Fld), p ≤ s.length → s.length - p < f → (s ++ t).length - p < f' → allE s d f p = .ok a → allE (s ++ t) d f' p = (match shE s.length id (all t d) with | .ok b => .ok (a ++ b) | .error e => .error e)
 | 0, f', p, a, _, h, _, _ => by omega
 | f + 1, 0, p, a, _, _, h, _ => by omega
 | f + 1, f' + 1, p, a, hp, h1, h2, h => by
  by_cases hl : p < s.length
  ·unfold allE at h ⊢
   rw [if_pos hl] at h
   rw [if_pos (by simp; omega)]
   cases hr : recE s d p with
   | error e => rw [hr] at h; simp at h
   | ok r =>
    obtain ⟨x, q⟩ := r
    rw [hr] at h
    obtain ⟨a1, b1, -⟩ := k'3s hr
    rw [recE_ext s t d p hp hr]
    simp only at h ⊢
    cases ha : allE s d f q with
    | error e => rw [ha] at h; simp at h
    | ok l =>
     rw [ha] at h
     injection h with h; subst h
     rw [allE_app s t d f f' q l b1 (by omega) (by simp at h2 ⊢; omega) ha]
     cases shE s.length id (all t d) <;> rfl
  ·have hpe : p = s.length := by omega
   subst hpe
   unfold allE at h
   rw [if_neg hl] at h
   injection h with h; subst h
   have h3 : allE (s ++ t) d (f' + 1) s.length = shE s.length id (allE t d (f' + 1) 0) := allE_sh s t d (f' + 1) 0 (by omega)
   rw [h3]
   unfold all
   rw [allE_fuel t d (t.length + 1) (f' + 1) 0 (by omega) (by simp at h2; omega)]
   cases allE t d (t.length + 1) 0 <;> rfl
theorem all_app {s : List UInt8} {d : Int} {a : List Fld} (t : List UInt8) (h : all s d = .ok a) : all (s ++ t) d = (match shE s.length id (all t d) with | .ok b => .ok (a ++ b) | .error e => .error e) :=
 allE_app s t d (s.length + 1) ((s ++ t).length + 1) 0 a (by omega) (by omega) (by omega) h
theorem k'9 {s t : List UInt8} {d : Int} {a b : List Fld} (h : all s d = .ok a) (h2 : all t d = .ok b) : all (s ++ t) d = .ok (a ++ b) := by
 rw [all_app t h, h2]; rfl
theorem all_nil (d : Int) : all [] d = .ok [] := rfl
end Go.Proofs.YtnaojdjhjkendaaGreatDoor
/-! Records of a message: what two lists, one behind the other, tell; numbers that may be packed. -/
namespace Go.Proofs.YtnaojdjhjkendaaGreatDoor
open Go Go.Abs
theorem knownL_app (tb : Nat → Nat → Bool) (a b : List Fld) : k'1 tb (a ++ b) = k'1 tb a ++ k'1 tb b := by unfold k'1; rw [List.filter_append]
theorem k'n (a b : List Fld) (num : Nat) : anyL (a ++ b) num = (anyL a num || anyL b num) := by unfold anyL; rw [List.any_append]
theorem k'f (a b : List Fld) (num : Nat) : k'c (a ++ b) num = k'c a num ++ k'c b num := by unfold k'c; rw [List.filter_append, List.flatMap_append]
theorem anyL_cons (x : Fld) (l : List Fld) (num : Nat) : anyL (x :: l) num = (x.num == num || anyL l num) := rfl
theorem k'33 (x : Fld) (l : List Fld) (num : Nat) : k'a (x :: l) num = if anyL l num then k'a l num else if x.num = num then x else noFld := rfl
theorem lastF_no {l : List Fld} {num : Nat} (h : anyL l num = false) : k'a l num = noFld := by
 induction l with
 | nil => rfl
 | cons x l ih =>
  rw [anyL_cons, Bool.or_eq_false_iff] at h
  unfold k'a
  have h2 : l.any (fun x => x.num == num) = false := h.2
  have h1 : ¬ x.num = num := by simpa using h.1
  rw [h2, if_neg h1]; simp
theorem lastF_app (a b : List Fld) (num : Nat) : k'a (a ++ b) num = if anyL b num then k'a b num else k'a a num := by
 induction a with
 | nil =>
  cases h : anyL b num with
  | true => simp
  | false => simp [lastF_no h, k'a]
 | cons x a ih =>
  rw [List.cons_append, k'33, k'33, ih, k'n]
  cases h : anyL b num with
  | true => simp
  | false => simp
theorem lastF_num {l : List Fld} {num : Nat} (h : anyL l num = true) : (k'a l num).num = num ∧ k'a l num ∈ l := by
 induction l with
 | nil => simp [anyL] at h
 | cons x l ih =>
  rw [anyL_cons] at h
  unfold k'a
  have e : ∀ l : List Fld, l.any (fun x => x.num == num) = anyL l num := fun _ => rfl
  rw [e]
  cases h2 : anyL l num with
  | true => simp only [if_true]; exact ⟨(ih h2).1, List.mem_cons_of_mem _ (ih h2).2⟩
  | false =>
   rw [h2] at h
   have h1 : x.num = num := by simpa using h
   rw [if_neg (by simp), if_pos h1]; exact ⟨h1, List.mem_cons_self ..⟩
def k'p (rd : List UInt8 → Except Er (List Nat)) (num : Nat) : List Fld → Option (List Nat)
 | [] => some []
 | x :: l => if x.num = num then (if x.kind = 2 then (match rd x.s with | .ok a => (k'p rd num l).map (a ++ ·) | .error _ => none) else (k'p rd num l).map (x.n :: ·)) else k'p rd num l
theorem failE_nn (n : Int) (num : Nat) (e : Option Er) : k'4c n num e none = e := by cases e <;> rfl
theorem fold_err (rd : List UInt8 → Except Er (List Nat)) (n : Int) (num : Nat) (e : Er) : ∀ (l : List Fld) (a : List Nat), (l.foldl (k'r rd n num) (a, some e)).2 = some e
 | [], _ => rfl
 | x :: l, a => by
  rw [List.foldl_cons]
  have : ∃ a', k'r rd n num (a, some e) x = (a', some e) := by
   unfold k'r
   split
   ·split
    ·split
     ·exact ⟨_, rfl⟩
     ·exact ⟨_, rfl⟩
    ·exact ⟨_, rfl⟩
   ·exact ⟨_, rfl⟩
  obtain ⟨a', h⟩ := this
  rw [h]; exact fold_err rd n num e l a'
theorem fold_pack (rd : List UInt8 → Except Er (List Nat)) (n : Int) (num : Nat) : ∀ (l : List Fld) (a : List Nat), (match k'p rd num l with
  | some b => l.foldl (k'r rd n num) (a, none) = (a ++ b, none)
  | none => ∃ s e, (∃ x ∈ l, x.num = num ∧ x.kind = 2 ∧ x.s = s) ∧ rd s = .error e ∧ (l.foldl (k'r rd n num) (a, none)).2 = k'4c n num none (some e))
 | [], a => by simp [k'p]
 | x :: l, a => by
  unfold k'p
  rw [List.foldl_cons]
  by_cases hn : x.num = num
  ·rw [if_pos hn]
   by_cases hk : x.kind = 2
   ·rw [if_pos hk]
    cases hr : rd x.s with
    | error e =>
     simp only
     refine ⟨x.s, e, ⟨x, List.mem_cons_self .., hn, hk, rfl⟩, hr, ?_⟩
     have : k'r rd n num (a, none) x = (a, k'4c n num none (some e)) := by unfold k'r; rw [if_pos hn, if_pos hk, hr]
     rw [this]
     exact fold_err rd n num _ l a
    | ok ns =>
     have hs : k'r rd n num (a, none) x = (a ++ ns, none) := by unfold k'r; rw [if_pos hn, if_pos hk, hr]; rfl
     rw [hs]
     have ih := fold_pack rd n num l (a ++ ns)
     cases hp : k'p rd num l with
     | some b => rw [hp] at ih; simp only [Option.map_some] at ih ⊢; rw [ih, List.append_assoc]
     | none =>
      rw [hp] at ih; simp only [Option.map_none] at ih ⊢
      obtain ⟨s, e, ⟨y, h1, h2⟩, h3⟩ := ih
      exact ⟨s, e, ⟨y, List.mem_cons_of_mem _ h1, h2⟩, h3⟩
   ·rw [if_neg hk]
    have hs : k'r rd n num (a, none) x = (a ++ [x.n], none) := by unfold k'r; rw [if_pos hn, if_neg hk]
    rw [hs]
    have ih := fold_pack rd n num l (a ++ [x.n])
    cases hp : k'p rd num l with
    | some b => rw [hp] at ih; simp only [Option.map_some] at ih ⊢; rw [ih, List.append_assoc]; rfl
    | none =>
     rw [hp] at ih; simp only [Option.map_none] at ih ⊢
     obtain ⟨s, e, ⟨y, h1, h2⟩, h3⟩ := ih
     exact ⟨s, e, ⟨y, List.mem_cons_of_mem _ h1, h2⟩, h3⟩
  ·rw [if_neg hn]
   have hs : k'r rd n num (a, none) x = (a, none) := by unfold k'r; rw [if_neg hn]
   rw [hs]
   have ih := fold_pack rd n num l a
   cases hp : k'p rd num l with
   | some b => rw [hp] at ih; exact ih
   | none =>
    rw [hp] at ih
    obtain ⟨s, e, ⟨y, h1, h2⟩, h3⟩ := ih
    exact ⟨s, e, ⟨y, List.mem_cons_of_mem _ h1, h2⟩, h3⟩
theorem packF_some {rd : List UInt8 → Except Er (List Nat)} {num : Nat} {l : List Fld} {b : List Nat} (n : Int) (h : k'p rd num l = some b) : packF rd n num l none = (b, none) := by
 have := fold_pack rd n num l []
 rw [h] at this
 simpa [packF] using this
theorem packF_none {rd : List UInt8 → Except Er (List Nat)} {num : Nat} {l : List Fld} (n : Int) (h : k'p rd num l = none) : ∃ s e, (∃ x ∈ l, x.num = num ∧ x.kind = 2 ∧ x.s = s) ∧ rd s = .error e ∧ (packF rd n num l none).2 = k'4c n num none (some e) := by
 have := fold_pack rd n num l []
 rw [h] at this
 simpa [packF] using this
theorem packF_err (rd : List UInt8 → Except Er (List Nat)) (n : Int) (num : Nat) (l : List Fld) (e : Er) : (packF rd n num l (some e)).2 = some e := fold_err rd n num e l []
theorem k'k {rd : List UInt8 → Except Er (List Nat)} {num : Nat} : ∀ {a b : List Fld} {x y : List Nat}, k'p rd num a = some x → k'p rd num b = some y → k'p rd num (a ++ b) = some (x ++ y)
 | [], b, x, y, h, k => by simp [k'p] at h; subst h; simpa using k
 | c :: a, b, x, y, h, k => by
  rw [List.cons_append]
  unfold k'p at h ⊢
  split at h
  ·rw [if_pos ‹_›]
   split at h
   ·rw [if_pos ‹_›]
    split at h
    ·rename_i ns hr
     cases hp : k'p rd num a with
     | none => rw [hp] at h; simp at h
     | some z =>
      rw [hp] at h; simp at h; subst h
      rw [k'k hp k]; simp
    ·simp at h
   ·rw [if_neg ‹_›]
    cases hp : k'p rd num a with
    | none => rw [hp] at h; simp at h
    | some z =>
     rw [hp] at h; simp at h; subst h
     rw [k'k hp k]; simp
  ·rw [if_neg ‹_›]; exact k'k h k
theorem k'1m {rd : List UInt8 → Except Er (List Nat)} {num : Nat} : ∀ {a b : List Fld} {x : List Nat}, k'p rd num a = some x → k'p rd num b = none → k'p rd num (a ++ b) = none
 | [], b, x, h, k => k
 | c :: a, b, x, h, k => by
  rw [List.cons_append]
  unfold k'p at h ⊢
  split at h
  ·rw [if_pos ‹_›]
   split at h
   ·rw [if_pos ‹_›]
    split at h
    ·cases hp : k'p rd num a with
     | none => rw [hp] at h; simp at h
     | some z => rw [k'1m hp k]; rfl
    ·simp at h
   ·rw [if_neg ‹_›]
    cases hp : k'p rd num a with
    | none => rw [hp] at h; simp at h
    | some z => rw [k'1m hp k]; rfl
  ·rw [if_neg ‹_›]; exact k'1m h k
/-! Buckets. -/
def okL (s : List UInt8) (d : Int) : Option (List Fld) :=
 if d < 0 then none else match all s d with
  | .ok l => some l
  | .error _ => none
theorem k'1n {s : List UInt8} {d : Int} {l : List Fld} (h : okL s d = some l) : k't s d = none ∧ fldsE s d = l ∧ all s d = .ok l ∧ 0 ≤ d := by
 unfold okL at h
 split at h
 ·simp at h
 ·rename_i hd
  split at h <;> simp at h
  rename_i a; subst h
  unfold k't fldsE
  rw [if_neg hd, if_neg hd, a]
  exact ⟨rfl, rfl, rfl, by omega⟩
theorem okL_none {s : List UInt8} {d : Int} (h : okL s d = none) : (∃ e, k't s d = some e) ∧ fldsE s d = [] := by
 unfold okL at h
 unfold k't fldsE
 split at h
 ·rename_i hd; rw [if_pos hd, if_pos hd]; exact ⟨⟨_, rfl⟩, rfl⟩
 ·rename_i hd
  rw [if_neg hd, if_neg hd]
  split at h <;> simp at h
  rename_i a; rw [a]; exact ⟨⟨_, rfl⟩, rfl⟩
def okB (s : List UInt8) (d : Int) : Option Bk :=
 match okL s d with
 | none => none
 | some l => match k'p vars 2 (k'1 tbB l) with
  | none => none
  | some ns => some ⟨zag32 (k'a (k'1 tbB l) 1).n, ns, unkL tbB l⟩
theorem ubB_okB (s : List UInt8) (d : Int) : (match okB s d with
  | some b => ubB s d = (b, none)
  | none => ∃ e, ubB s d = (noBk, some e)) := by
 unfold okB
 cases h : okL s d with
 | none =>
  obtain ⟨⟨e, he⟩, hf⟩ := okL_none h
  simp only
  have : (bkOf s d).2 = some e := by unfold bkOf; rw [he]; exact packF_err _ _ _ _ _
  unfold ubB; rw [this]; exact ⟨e, rfl⟩
 | some l =>
  obtain ⟨h1, h2, -⟩ := k'1n h
  simp only
  have hk : knB tbB s d = k'1 tbB l := by unfold knB; rw [h2]
  have hu : unB tbB s d = unkL tbB l := by unfold unB; rw [h2]
  cases hp : k'p vars 2 (k'1 tbB l) with
  | some ns =>
   have : bkOf s d = (ns, none) := by unfold bkOf; rw [h1, hk]; exact packF_some _ hp
   unfold ubB; rw [this, hk, hu]
  | none =>
   obtain ⟨t, e, -, -, h3⟩ := packF_none (s.length : Int) hp
   have : ∃ e', (bkOf s d).2 = some e' := by unfold bkOf; rw [h1, hk, h3]; exact ⟨_, rfl⟩
   obtain ⟨e', h4⟩ := this
   unfold ubB; rw [h4]; exact ⟨e', rfl⟩
theorem okB_some {s : List UInt8} {d : Int} {b : Bk} (h : okB s d = some b) : ubB s d = (b, none) := by have := ubB_okB s d; rw [h] at this; exact this
theorem okB_none {s : List UInt8} {d : Int} (h : okB s d = none) : ∃ e, ubB s d = (noBk, some e) := by have := ubB_okB s d; rw [h] at this; exact this
theorem k'38 {rd : List UInt8 → Except Er (List Nat)} (hr : ∀ s l, rd s = .ok l → l.length ≤ s.length) {num : Nat} : ∀ {l : List Fld} {ns : List Nat}, (∀ x ∈ l, FOk x) → k'p rd num l = some ns → ns.length ≤ wt l
 | [], ns, _, h => by simp [k'p] at h; subst h; simp [wt]
 | x :: l, ns, hl, h => by
  have h1 := (hl x (List.mem_cons_self ..)).s
  have ih := fun {m} => k'38 hr (num := num) (l := l) (ns := m) fun y hy => hl y (List.mem_cons_of_mem _ hy)
  have hw : wt (x :: l) = x.raw.length + wt l := by simp [wt]
  unfold k'p at h
  split at h
  ·split at h
   ·split at h
    ·rename_i a e
     have := hr _ _ e
     cases hp : k'p rd num l with
     | none => rw [hp] at h; simp at h
     | some m => rw [hp] at h; simp at h; subst h; have := ih hp; simp; omega
    ·simp at h
   ·cases hp : k'p rd num l with
    | none => rw [hp] at h; simp at h
    | some m => rw [hp] at h; simp at h; subst h; have := ih hp; simp; omega
  ·have := ih h; omega
theorem k'47 {s : List UInt8} {d : Int} {l : List Fld} (h : okL s d = some l) : wt l ≤ s.length ∧ ∀ x ∈ l, FOk x := by
 obtain ⟨-, -, h1, -⟩ := k'1n h
 exact ⟨by have := allE_raw h1; unfold wt; omega, allE_fok h1⟩
theorem k'1y (tb : Nat → Nat → Bool) (l : List Fld) : (unkL tb l).length ≤ wt l := unk_le tb l
theorem okB_len {s : List UInt8} {d : Int} {b : Bk} (h : okB s d = some b) : b.u.length ≤ s.length ∧ b.cs.length ≤ s.length := by
 unfold okB at h
 cases h1 : okL s d with
 | none => rw [h1] at h; simp at h
 | some l =>
  obtain ⟨w1, w2⟩ := k'47 h1
  rw [h1] at h
  simp only at h
  cases h2 : k'p vars 2 (k'1 tbB l) with
  | none => rw [h2] at h; simp at h
  | some ns =>
   rw [h2] at h
   simp only [Option.some.injEq] at h
   subst h
   have a1 := k'1y tbB l
   have a2 := k'38 (fun s l h => vars_len h) (fun x hx => w2 x (List.mem_filter.1 hx).1) h2
   have a3 := k'1l (isT tbB) l
   unfold k'1 at a2
   simp only
   omega
end Go.Proofs.YtnaojdjhjkendaaGreatDoor
/-! What is written is read: numbers, tags, records, buckets. -/
namespace Go.Proofs.YtnaojdjhjkendaaGreatDoor
open Go Go.Abs
theorem vrd_put (y : List UInt8) : ∀ (f n i a : Nat), f + i = 9 → n * 2 ^ (7 * i) < 2 ^ 64 → vrd (vput f n ++ y) i a = .ok (a + n * 2 ^ (7 * i), i + (vput f n).length)
 | 0, n, i, a, hi, hn => by
  have hi9 : i = 9 := by omega
  subst hi9
  have h2 : n < 2 := by
   have : n * 2 ^ 63 < 2 * 2 ^ 63 := by simpa using hn
   exact Nat.lt_of_mul_lt_mul_right this
  have hb := byte_of (show n < 256 by omega)
  show vrd (UInt8.ofNat n :: y) 9 a = _
  unfold vrd
  rw [hb, if_neg (by omega), if_neg (by omega), if_pos (by omega), Nat.mod_eq_of_lt (by omega : n < 128)]
  rfl
 | f + 1, n, i, a, hi, hn => by
  unfold vput
  by_cases hs : n < 128
  ·rw [if_pos hs]
   have hb := byte_of (show n < 256 by omega)
   show vrd (UInt8.ofNat n :: y) i a = _
   unfold vrd
   rw [hb, if_neg (by omega), if_neg (by omega), if_pos hs, Nat.mod_eq_of_lt hs]
   rfl
  ·rw [if_neg hs]
   have hb := byte_of (show n % 128 + 128 < 256 by omega)
   show vrd (UInt8.ofNat (n % 128 + 128) :: (vput f (n / 128) ++ y)) i a = _
   unfold vrd
   rw [hb, if_neg (by omega), if_neg (by omega), if_neg (by omega)]
   have hp : 2 ^ (7 * (i + 1)) = 128 * 2 ^ (7 * i) := by rw [show 7 * (i + 1) = 7 * i + 7 by omega, Nat.pow_add]; omega
   have hd : n / 128 * (128 * 2 ^ (7 * i)) = (n / 128 * 128) * 2 ^ (7 * i) := by rw [Nat.mul_assoc]
   have hle : n / 128 * 128 ≤ n := Nat.div_mul_le_self n 128
   have hm := Nat.mul_le_mul_right (2 ^ (7 * i)) hle
   rw [vrd_put y f (n / 128) (i + 1) _ (by omega) (by rw [hp, hd]; omega)]
   have e1 : (n % 128 + 128) % 128 = n % 128 := by omega
   have e2 : n % 128 * 2 ^ (7 * i) + n / 128 * 128 * 2 ^ (7 * i) = n * 2 ^ (7 * i) := by
    rw [← Nat.add_mul]; congr 1; omega
   rw [e1, hp, hd, List.length_cons, show a + n % 128 * 2 ^ (7 * i) + n / 128 * 128 * 2 ^ (7 * i) = a + n * 2 ^ (7 * i) by omega, show i + 1 + (vput f (n / 128)).length = i + ((vput f (n / 128)).length + 1) by omega]
theorem vrd_putV (y : List UInt8) {n : Nat} (hn : n < 2 ^ 64) : vrd (putV n ++ y) 0 0 = .ok (n, (putV n).length) := by
 have := vrd_put y 9 n 0 0 rfl (by simpa using hn)
 rw [show 0 + n * 2 ^ (7 * 0) = n by simp, Nat.zero_add] at this
 exact this
theorem vE_putV (x y : List UInt8) {n p : Nat} (hn : n < 2 ^ 64) (hp : p = x.length) : vE (x ++ (putV n ++ y)) p = .ok (n, p + (putV n).length) := by
 subst hp
 unfold vE
 rw [List.drop_left, vrd_putV y hn]
theorem tagE_tagV (x y : List UInt8) {n k p : Nat} (h1 : 1 ≤ n) (h2 : n ≤ 536870911) (hk : k < 8) (hp : p = x.length) : tagE (x ++ (tagV n k ++ y)) p = .ok (n, k, p + (tagV n k).length) := by
 unfold tagE tagV
 rw [vE_putV x y (by omega) hp]
 dsimp only
 rw [show (8 * n + k) / 8 = n by omega, show (8 * n + k) % 8 = k by omega, if_neg (by omega)]
theorem rec_all {s : List UInt8} {d : Int} {r : Fld} (h : recE s d 0 = .ok (r, s.length)) : all s d = .ok [r] := by
 have h0 := k'3s h
 unfold all
 obtain ⟨n, hn⟩ : ∃ n, s.length = n + 1 := ⟨s.length - 1, by omega⟩
 rw [hn]
 unfold allE
 rw [if_pos (by omega), h]
 dsimp only
 unfold allE
 rw [if_neg (by omega)]
theorem recE_var {n m : Nat} (d : Int) (h1 : 1 ≤ n) (h2 : n ≤ 536870911) (hm : m < 2 ^ 64) : recE (tagV n 0 ++ putV m) d 0 = .ok (⟨n, 0, m, [], tagV n 0 ++ putV m⟩, (tagV n 0 ++ putV m).length) := by
 unfold recE
 have ht := tagE_tagV [] (putV m) h1 h2 (show 0 < 8 by omega) (p := 0) rfl
 rw [List.nil_append, Nat.zero_add] at ht
 rw [ht]
 dsimp only
 unfold k'28
 have hv := vE_putV (tagV n 0) [] hm (p := (tagV n 0).length) rfl
 rw [List.append_nil] at hv
 rw [if_pos rfl, hv]
 dsimp only
 rw [← List.length_append, List.drop_zero, Nat.sub_zero, List.take_length]
theorem recE_str {n : Nat} (d : Int) (t : List UInt8) (h1 : 1 ≤ n) (h2 : n ≤ 536870911) (ht : t.length < 2 ^ 64) : recE (tagV n 2 ++ (putV t.length ++ t)) d 0 = .ok (⟨n, 2, 0, t, tagV n 2 ++ (putV t.length ++ t)⟩, (tagV n 2 ++ (putV t.length ++ t)).length) := by
 unfold recE
 have hg := tagE_tagV [] (putV t.length ++ t) h1 h2 (show 2 < 8 by omega) (p := 0) rfl
 rw [List.nil_append, Nat.zero_add] at hg
 rw [hg]
 dsimp only
 unfold k'28
 have hv := vE_putV (tagV n 2) t ht (p := (tagV n 2).length) rfl
 rw [if_neg (by omega), if_neg (by omega), if_neg (by omega), if_pos rfl, hv]
 dsimp only
 unfold k'36
 have hl : (tagV n 2 ++ (putV t.length ++ t)).length = (tagV n 2).length + (putV t.length).length + t.length := by simp; omega
 rw [if_neg (by omega)]
 dsimp only
 have hd : (tagV n 2 ++ (putV t.length ++ t)).drop ((tagV n 2).length + (putV t.length).length) = t := by
  rw [← List.append_assoc, ← List.length_append, List.drop_left]
 rw [hd, List.take_length, ← hl, List.drop_zero, Nat.sub_zero, List.take_length]
theorem zag_zig {o : Int} (h1 : -2147483648 ≤ o) (h2 : o < 2147483648) : zag32 (zig32 o) = o := by
 unfold zag32 zig32
 by_cases h : 0 ≤ o
 ·rw [if_pos h, if_pos (by omega)]; omega
 ·rw [if_neg h, if_neg (by omega)]; omega
end Go.Proofs.YtnaojdjhjkendaaGreatDoor
/-! Records alone; deeper: what can be read can be read deeper. -/
namespace Go.Proofs.YtnaojdjhjkendaaGreatDoor
open Go Go.Abs
theorem vrd_lt : ∀ {l : List UInt8} {i a n k : Nat}, vrd l i a = .ok (n, k) → i < k
 | [], i, a, n, k, h => by simp [vrd] at h
 | c :: l, i, a, n, k, h => by
  unfold vrd at h
  split at h
  ·simp at h
  ·split at h
   ·simp at h
   ·split at h
    ·injection h with h; injection h with h1 h2; omega
    ·have := vrd_lt h; omega
theorem vrd_cut (y : List UInt8) : ∀ (l : List UInt8) (i a n k : Nat), vrd (l ++ y) i a = .ok (n, k) → k ≤ i + l.length → vrd l i a = .ok (n, k)
 | [], i, a, n, k, h, hk => by have := vrd_lt h; simp at hk; omega
 | c :: l, i, a, n, k, h, hk => by
  rw [List.cons_append] at h
  unfold vrd at h ⊢
  split at h
  ·simp at h
  ·rw [if_neg ‹_›]
   split at h
   ·simp at h
   ·rw [if_neg ‹_›]
    split at h
    ·rw [if_pos ‹_›]; exact h
    ·rw [if_neg ‹_›]; exact vrd_cut y l _ _ n k h (by simp at hk; omega)
theorem vE_cut (s y : List UInt8) (p : Nat) (hp : p ≤ s.length) {n k : Nat} (h : vE (s ++ y) p = .ok (n, k)) (hk : k ≤ s.length) : vE s p = .ok (n, k) := by
 unfold vE at h ⊢
 rw [k'41 s y p hp] at h
 cases hv : vrd (s.drop p ++ y) 0 0 with
 | error c => rw [hv] at h; simp at h
 | ok q =>
  obtain ⟨m, j⟩ := q
  rw [hv] at h
  injection h with h; injection h with h1 h2
  subst h1; subst h2
  rw [vrd_cut y _ _ _ _ _ hv (by simp; omega)]
theorem takeE_cut (s y : List UInt8) (p n : Nat) (hp : p ≤ s.length) {t : List UInt8} {q : Nat} (h : k'36 (s ++ y) p n = .ok (t, q)) (hq : q ≤ s.length) : k'36 s p n = .ok (t, q) := by
 obtain ⟨-, -, -, e, -⟩ := k'3n h (by simp; omega)
 unfold k'36 at h ⊢
 split at h
 ·simp at h
 ·rw [if_neg (by omega)]
  rw [k'41 s y p hp, List.take_append_of_le_length (by simp; omega)] at h
  exact h
theorem tagE_cut (s y : List UInt8) (p : Nat) (hp : p ≤ s.length) {n k q : Nat} (h : tagE (s ++ y) p = .ok (n, k, q)) (hq : q ≤ s.length) : tagE s p = .ok (n, k, q) := by
 unfold tagE at h ⊢
 cases hv : vE (s ++ y) p with
 | error c => rw [hv] at h; simp at h
 | ok r =>
  obtain ⟨m, r⟩ := r
  rw [hv] at h
  dsimp only at h
  split at h
  ·simp at h
  ·have e : r = q := by injection h with h; injection h with h1 h2; injection h2
   subst e
   rw [vE_cut s y p hp hv hq]
   dsimp only
   rw [if_neg ‹_›]; exact h
theorem restG_cut (s y : List UInt8) (g g' : Int → Nat → Nat → Except Er Nat) (d : Int) (num kind a p : Nat) (hp : p ≤ s.length) {N q : Nat} {t : List UInt8} (hg : ∀ q, g (d - 1) num p = .ok q → q ≤ s.length → g' (d - 1) num p = .ok q) (h : k'28 g (s ++ y) d num kind a p = .ok (N, t, q)) (hq : q ≤ s.length) : k'28 g' s d num kind a p = .ok (N, t, q) := by
 unfold k'28 at h ⊢
 split at h
 ·rw [if_pos ‹_›]
  cases hv : vE (s ++ y) p with
  | error c => rw [hv] at h; simp at h
  | ok r =>
   obtain ⟨m, r⟩ := r
   rw [hv] at h
   have e : r = q := by injection h with h; injection h with h1 h2; injection h2
   subst e
   rw [vE_cut s y p hp hv hq]; exact h
 ·rw [if_neg ‹_›]
  split at h
  ·rw [if_pos ‹_›]
   cases hv : k'36 (s ++ y) p 8 with
   | error c => rw [hv] at h; simp at h
   | ok r =>
    obtain ⟨m, r⟩ := r
    rw [hv] at h
    have e : r = q := by injection h with h; injection h with h1 h2; injection h2
    subst e
    rw [takeE_cut s y p 8 hp hv hq]; exact h
  ·rw [if_neg ‹_›]
   split at h
   ·rw [if_pos ‹_›]
    cases hv : k'36 (s ++ y) p 4 with
    | error c => rw [hv] at h; simp at h
    | ok r =>
     obtain ⟨m, r⟩ := r
     rw [hv] at h
     have e : r = q := by injection h with h; injection h with h1 h2; injection h2
     subst e
     rw [takeE_cut s y p 4 hp hv hq]; exact h
   ·rw [if_neg ‹_›]
    split at h
    ·rw [if_pos ‹_›]
     cases hv : vE (s ++ y) p with
     | error c => rw [hv] at h; simp at h
     | ok r =>
      obtain ⟨n, r⟩ := r
      rw [hv] at h
      obtain ⟨a1, b1, -⟩ := vE_ok hv
      dsimp only at h
      cases hw : k'36 (s ++ y) r n with
      | error c => rw [hw] at h; simp at h
      | ok z =>
       obtain ⟨m, z⟩ := z
       rw [hw] at h
       have e : z = q := by injection h with h; injection h with h1 h2; injection h2
       subst e
       obtain ⟨c1, -⟩ := k'3n hw b1
       rw [vE_cut s y p hp hv (by omega)]
       dsimp only
       rw [takeE_cut s y r n (by omega) hw hq]; exact h
    ·rw [if_neg ‹_›]
     split at h
     ·rw [if_pos ‹_›]
      split at h
      ·rename_i r hr
       split at hr
       ·simp at hr
       ·have e : r = q := by injection h with h; injection h with h1 h2; injection h2
        subst e
        rw [if_neg ‹_›, hg r hr hq]; exact h
      ·simp at h
     ·simp at h
theorem grp_cut (s y : List UInt8) : ∀ (f : Nat) (d : Int) (num p q : Nat), p ≤ s.length → grp (s ++ y) f d num p = .ok q → q ≤ s.length → grp s f d num p = .ok q
 | 0, d, num, p, q, _, h, _ => by simp [grp] at h
 | f + 1, d, num, p, q, hp, h, hq => by
  rw [k'2k] at h ⊢
  cases ht : tagE (s ++ y) p with
  | error e => rw [ht] at h; simp at h
  | ok r =>
   obtain ⟨n, k, q1⟩ := r
   rw [ht] at h
   obtain ⟨a, b, -⟩ := k'2g ht
   dsimp only at h
   split at h
   ·rename_i hk
    split at h
    ·rename_i hn
     injection h with h; subst h
     rw [tagE_cut s y p hp ht hq]
     dsimp only
     rw [if_pos hk, if_pos hn]
    ·simp at h
   ·rename_i hk
    cases hr : k'28 (grp (s ++ y) f) (s ++ y) d n k p q1 with
    | error e => rw [hr] at h; simp at h
    | ok r =>
     obtain ⟨N, t, q2⟩ := r
     rw [hr] at h
     dsimp only at h
     obtain ⟨a2, b2, -⟩ := k'20 (fun d n p q => k'49 f d n p q) hr b
     obtain ⟨a3, b3⟩ := k'49 f d num q2 q h b2
     rw [tagE_cut s y p hp ht (by omega)]
     dsimp only
     rw [if_neg hk, restG_cut s y (grp (s ++ y) f) (grp s f) d n k p q1 (by omega) (fun q hq hq2 => grp_cut s y f _ _ _ _ (by omega) hq hq2) hr (by omega)]
     exact grp_cut s y f d num q2 q (by omega) h hq
theorem recE_cut (s y : List UInt8) (d : Int) (p : Nat) (hp : p ≤ s.length) {r : Fld} {q : Nat} (h : recE (s ++ y) d p = .ok (r, q)) (hq : q ≤ s.length) : recE s d p = .ok (r, q) := by
 unfold recE at h ⊢
 cases ht : tagE (s ++ y) p with
 | error e => rw [ht] at h; simp at h
 | ok z =>
  obtain ⟨n, k, q1⟩ := z
  rw [ht] at h
  obtain ⟨a, b, -⟩ := k'2g ht
  dsimp only at h
  cases hr : k'28 (grp (s ++ y) ((s ++ y).length + 1)) (s ++ y) d n k p q1 with
  | error e => rw [hr] at h; simp at h
  | ok z =>
   obtain ⟨N, t, q2⟩ := z
   rw [hr] at h
   dsimp only at h
   obtain ⟨a2, b2, -⟩ := k'20 (fun d n p q => k'49 _ d n p q) hr b
   have e2 : q2 = q := by injection h with h; injection h with h1 h2
   subst e2
   rw [tagE_cut s y p hp ht (by omega)]
   dsimp only
   rw [restG_cut s y _ (grp s (s.length + 1)) d n k p q1 (by omega) (fun q hq hq2 => by
    have := grp_cut s y _ _ _ _ _ (show q1 ≤ s.length by omega) hq hq2
    rw [grp_fuel s ((s ++ y).length + 1) (s.length + 1) (d - 1) n q1 (by omega) (by simp; omega) (by omega)]
    exact this) hr hq]
   dsimp only
   rw [k'41 s y p hp, List.take_append_of_le_length (by simp; omega)] at h
   exact h
theorem rec_raw {s : List UInt8} {d : Int} {p q : Nat} {r : Fld} (h : recE s d p = .ok (r, q)) : all r.raw d = .ok [r] := by
 obtain ⟨h1, h2, -⟩ := k'3s h
 have hr : r.raw = (s.drop p).take (q - p) := by
  unfold recE at h
  split at h <;> (try (simp at h; done))
  split at h <;> (try (simp at h; done))
  injection h with h; injection h with e3 e4
  subst e3; subst e4; rfl
 have hl : r.raw.length = q - p := by rw [hr]; simp; omega
 have hx : (s.take p).length = p := by simp; omega
 have hsh := recE_sh (s.take p) (s.drop p) d 0 (by omega)
 rw [List.take_append_drop, hx, Nat.add_zero, h] at hsh
 cases hd : recE (s.drop p) d 0 with
 | error e => rw [hd] at hsh; simp [shE] at hsh
 | ok z =>
  obtain ⟨r', q'⟩ := z
  rw [hd] at hsh
  simp only [shE] at hsh
  injection hsh with hsh; injection hsh with e1 e2
  subst e1
  rw [← List.take_append_drop (q - p) (s.drop p), ← hr] at hd
  have := recE_cut _ _ d 0 (by omega) hd (by omega)
  rw [show q' = r.raw.length by omega] at this
  exact rec_all this
theorem allE_raws {s : List UInt8} {d : Int} : ∀ {f p : Nat} {l : List Fld}, allE s d f p = .ok l → ∀ x ∈ l, all x.raw d = .ok [x]
 | 0, p, l, h => by simp [allE] at h; subst h; simp
 | f + 1, p, l, h => by
  unfold allE at h
  split at h
  ·split at h <;> (try (simp at h; done))
   rename_i e
   split at h <;> (try (simp at h; done))
   rename_i e2
   injection h with h; subst h
   intro x hx
   rcases List.mem_cons.1 hx with rfl | hx
   ·exact rec_raw e
   ·exact allE_raws e2 x hx
  ·injection h with h; subst h; simp
theorem raws_all (d : Int) : ∀ (l : List Fld), (∀ x ∈ l, all x.raw d = .ok [x]) → all (l.flatMap Fld.raw) d = .ok l
 | [], _ => all_nil d
 | x :: l, h => by
  rw [List.flatMap_cons]
  exact k'9 (h x (List.mem_cons_self ..)) (raws_all d l fun y hy => h y (List.mem_cons_of_mem _ hy))
theorem unk_all {s : List UInt8} {d : Int} {l : List Fld} (tb : Nat → Nat → Bool) (h : all s d = .ok l) : all (unkL tb l) d = .ok (l.filter fun x => !isT tb x) :=
 raws_all d _ fun x hx => allE_raws h x (List.mem_filter.1 hx).1
theorem unk_rest {s : List UInt8} {d : Int} {l : List Fld} (tb : Nat → Nat → Bool) (h : all s d = .ok l) : restB tb (unkL tb l) d = true := by
 unfold restB
 rw [unk_all tb h]
 simp only [Bool.not_eq_true']
 rw [List.any_eq_false]
 intro x hx
 have := (List.mem_filter.1 hx).2
 simpa [isT] using this
theorem okB_may {s : List UInt8} {d : Int} {b : Bk} (h : okB s d = some b) : mayB b.u d = true := by
 unfold okB at h
 cases ho : okL s d with
 | none => rw [ho] at h; simp at h
 | some l =>
  obtain ⟨-, -, h1, hd⟩ := k'1n ho
  rw [ho] at h
  simp only at h
  split at h
  ·simp at h
  ·injection h with h; subst h
   unfold mayB
   rw [unk_rest tbB h1, decide_eq_true hd]; rfl
theorem varsE_lt {s : List UInt8} : ∀ {f p : Nat} {l : List Nat}, varsE s f p = .ok l → ∀ n ∈ l, n < 2 ^ 64
 | 0, p, l, h => by simp [varsE] at h; subst h; simp
 | f + 1, p, l, h => by
  unfold varsE at h
  split at h
  ·split at h <;> (try (simp at h; done))
   rename_i e
   split at h <;> (try (simp at h; done))
   rename_i e2
   injection h with h; subst h
   intro n hn
   rcases List.mem_cons.1 hn with rfl | hn
   ·exact (vE_ok e).2.2
   ·exact varsE_lt e2 n hn
  ·injection h with h; subst h; simp
theorem packO_lt {num : Nat} : ∀ {l : List Fld} {ns : List Nat}, (∀ x ∈ l, FOk x) → k'p vars num l = some ns → ∀ n ∈ ns, n < 2 ^ 64
 | [], ns, _, h => by simp [k'p] at h; subst h; simp
 | x :: l, ns, hl, h => by
  have ih := fun {m} => packO_lt (num := num) (l := l) (ns := m) fun y hy => hl y (List.mem_cons_of_mem _ hy)
  unfold k'p at h
  split at h
  ·split at h
   ·split at h
    ·rename_i a e
     cases hp : k'p vars num l with
     | none => rw [hp] at h; simp at h
     | some m =>
      rw [hp] at h; simp at h; subst h
      intro n hn
      rcases List.mem_append.1 hn with hn | hn
      ·exact varsE_lt e n hn
      ·exact ih hp n hn
    ·simp at h
   ·cases hp : k'p vars num l with
    | none => rw [hp] at h; simp at h
    | some m =>
     rw [hp] at h; simp at h; subst h
     intro n hn
     rcases List.mem_cons.1 hn with rfl | hn
     ·exact (hl x (List.mem_cons_self ..)).n
     ·exact ih hp n hn
  ·exact ih h
theorem okB_rng {s : List UInt8} {d : Int} {b : Bk} (h : okB s d = some b) : (-2147483648 ≤ b.off ∧ b.off < 2147483648) ∧ ∀ n ∈ b.cs, n < 2 ^ 64 := by
 unfold okB at h
 cases ho : okL s d with
 | none => rw [ho] at h; simp at h
 | some l =>
  obtain ⟨w1, w2⟩ := k'47 ho
  rw [ho] at h
  simp only at h
  cases h2 : k'p vars 2 (k'1 tbB l) with
  | none => rw [h2] at h; simp at h
  | some ns =>
   rw [h2] at h
   simp only [Option.some.injEq] at h
   subst h
   exact ⟨zag32_lt _, packO_lt (fun x hx => w2 x (List.mem_filter.1 hx).1) h2⟩
/-! Deeper. -/
/-! As deep as it is long is deep enough. -/
