/- msg.Reader: an error noted; numbers unfolded. And more. -/
import Derived.Test.YtcfkbpddmdfbaaaGreatDoorXG2
import Derived.Test.YtcfkbpddmdfbaaaGreatDoorXAF
set_option linter.unusedSimpArgs false
set_option linter.unusedVariables false
set_option maxRecDepth 100000
namespace Go.Proofs.YtcfkbpddmdfbaaaGreatDoor
open Go Go.Abs
variable (B : Fr)
/-! msg.Reader: an error noted; numbers unfolded. -/
section
def BOk (B : Fr) : Prop := B 0 0 = some (rty 30)
def clampE (n at' : Int) : Int :=
 let m := if (0 : Int) > at' then 0 else at'
 if n < m then n else m
def failE (n : Int) (num : Nat) : Option Er → Option Er → Option Er
 | none, some x => some (.loc (clampE n (placeOf x).1) (.fld num x))
 | e, _ => e
end
/-! msg.Read: a message taken apart. -/
section
def readE (s : List UInt8) (d : Int) : Option Er :=
 if d < 0 then failE s.length 0 none (some (.code 6)) else match all s d with
  | .ok _ => none
  | .error e => some e
def fldsE (s : List UInt8) (d : Int) : List Fld :=
 if d < 0 then [] else match all s d with
  | .ok l => l
  | .error _ => []
def isT (tb : Nat → Nat → Bool) (x : Fld) : Bool := tb x.num x.kind
def knownL (tb : Nat → Nat → Bool) (l : List Fld) : List Fld := l.filter (isT tb)
def unkL (tb : Nat → Nat → Bool) (l : List Fld) : List UInt8 := (l.filter fun x => !isT tb x).flatMap Fld.raw
theorem grpS_pos {s : List UInt8} {d : Int} {p q : Nat} {r : Fld} (h : recE s d p = .ok (r, q)) : r.raw = (s.drop p).take (q - p) := by
 unfold recE at h
 split at h <;> (try (simp at h; done))
 split at h <;> (try (simp at h; done))
 injection h with h; injection h with h1 h2
 subst h1; subst h2; rfl
theorem allE_raw {s : List UInt8} {d : Int} : ∀ {f p : Nat} {l : List Fld}, allE s d f p = .ok l → (l.map fun x => x.raw.length).sum ≤ s.length - p
 | 0, p, l, h => by simp [allE] at h; subst h; simp
 | f + 1, p, l, h => by
  unfold allE at h
  split at h
  ·split at h <;> (try (simp at h; done))
   rename_i r q e
   obtain ⟨a, b, -⟩ := k'4d e
   have hr := grpS_pos e
   split at h <;> (try (simp at h; done))
   rename_i e2
   injection h with h; subst h
   have := allE_raw e2
   have h3 : r.raw.length ≤ q - p := by rw [hr]; simp; omega
   simp; omega
  ·injection h with h; subst h; simp
end
/-! msg.Reader: packed numbers; a number that may lack; numbers unfolded. -/
section
structure FOk (x : Fld) : Prop where
 s : x.s.length < x.raw.length
 n : x.n < 2 ^ 64
 num : x.num ≤ 536870911
 one : 1 ≤ x.num
 kind : x.kind < 8
def wt (l : List Fld) : Nat := (l.map fun x => x.raw.length).sum
def LOk (l : List Fld) : Prop := (∀ x ∈ l, FOk x) ∧ wt l < big
theorem restG_len {g : Int → Nat → Nat → Except Er Nat} {s : List UInt8} {d : Int} {num kind a p n q : Nat} {t : List UInt8} (hg : ∀ d num p q, g d num p = .ok q → p ≤ s.length → p ≤ q ∧ q ≤ s.length) (h : k'2w g s d num kind a p = .ok (n, t, q)) (hp : p ≤ s.length) : t.length ≤ q - p := by
 have h0 := k'32 hg h hp
 unfold k'2w at h
 split at h
 ·split at h <;> (try (simp at h; done))
  injection h with h; injection h with h1 h2; injection h2 with h2 h3
  subst h2; simp
 split at h
 ·split at h <;> (try (simp at h; done))
  injection h with h; injection h with h1 h2; injection h2 with h2 h3
  subst h2; simp
 split at h
 ·split at h <;> (try (simp at h; done))
  injection h with h; injection h with h1 h2; injection h2 with h2 h3
  subst h2; simp
 split at h
 ·split at h <;> (try (simp at h; done))
  rename_i e1
  split at h <;> (try (simp at h; done))
  rename_i e; injection h with h; injection h with h1 h2; injection h2 with h2 h3
  subst h2; subst h3
  obtain ⟨a1, b1, c1⟩ := vE_ok e1
  obtain ⟨a, b, c, d, -⟩ := takeE_ok e b1; omega
 split at h
 ·split at h <;> (try (simp at h; done))
  injection h with h; injection h with h1 h2; injection h2 with h2 h3
  subst h2; simp
 ·simp at h
theorem recE_fok {s : List UInt8} {d : Int} {p q : Nat} {r : Fld} (h : recE s d p = .ok (r, q)) : FOk r := by
 have h0 := k'4d h
 unfold recE at h
 split at h <;> (try (simp at h; done))
 rename_i e
 obtain ⟨a, b, c, d1, e1⟩ := k'3n e
 split at h <;> (try (simp at h; done))
 rename_i e2
 have h3 := restG_len (fun d n p q => grp_ok _ d n p q) e2 b
 obtain ⟨a2, b2, c2⟩ := k'32 (fun d n p q => grp_ok _ d n p q) e2 b
 injection h with h; injection h with h1 h2
 subst h1; subst h2
 refine ⟨?_, c2, c, d1, e1⟩
 simp; omega
theorem allE_fok {s : List UInt8} {d : Int} : ∀ {f p : Nat} {l : List Fld}, allE s d f p = .ok l → ∀ x ∈ l, FOk x
 | 0, p, l, h => by simp [allE] at h; subst h; simp
 | f + 1, p, l, h => by
  unfold allE at h
  split at h
  ·split at h <;> (try (simp at h; done))
   rename_i e
   split at h <;> (try (simp at h; done))
   rename_i e2
   injection h with h; subst h
   intro x hx
   rcases List.mem_cons.1 hx with rfl | hx
   ·exact recE_fok e
   ·exact allE_fok e2 x hx
  ·injection h with h; subst h; simp
theorem wt_filter (p : Fld → Bool) (l : List Fld) : wt (l.filter p) ≤ wt l := by
 induction l with
 | nil => simp [wt]
 | cons x l ih => unfold wt at *; cases h : p x <;> simp [h] <;> omega
theorem LOk.filter {l : List Fld} (h : LOk l) (p : Fld → Bool) : LOk (l.filter p) := ⟨fun x hx => h.1 x (List.mem_filter.1 hx).1, Nat.lt_of_le_of_lt (wt_filter p l) h.2⟩
theorem LOk.len {l : List Fld} (h : LOk l) : l.length ≤ wt l := by
 obtain ⟨h, -⟩ := h
 induction l with
 | nil => simp [wt]
 | cons x l ih =>
  have h1 := (h x (List.mem_cons_self ..)).s
  have := ih fun y hy => h y (List.mem_cons_of_mem _ hy)
  unfold wt at *; simp; omega
end
/-! msg.Reader: numbers; a number that may lack; numbers unfolded. -/
section
def hasL (l : List Fld) (num : Nat) : Bool := (k'19 l num).num == num
def zag32 (n : Nat) : Int := if n % 2 = 0 then ((n % 4294967296 / 2 : Nat) : Int) else -((n % 4294967296 / 2 : Nat) : Int) - 1
end
/-! msg.Reader: parts and lists of parts; buckets read. -/
section
def anyL (l : List Fld) (num : Nat) : Bool := l.any fun x => x.num == num
def bytesL (l : List Fld) (num : Nat) : List UInt8 := (l.filter fun x => x.num == num).flatMap Fld.s
structure Bk where
 off : Int
 cs : List Nat
 u : List UInt8
def Bk.d (b : Bk) : D := bkD b.off b.cs b.u
def noBk : Bk := ⟨0, [], []⟩
end
/-! Buckets read. -/
/-! Records, as plain lists: what stands ahead and behind does not matter. -/
section
def Er.sh (k : Nat) : Er → Er
 | .loc n e => .loc (n + k) e
 | e => e
def shE {α : Type} (k : Nat) (f : α → α) : Except Er α → Except Er α
 | .ok x => .ok (f x)
 | .error e => .error (e.sh k)
theorem drop_pre (x s : List UInt8) (p : Nat) : (x ++ s).drop (x.length + p) = s.drop p := by
 rw [List.drop_append]; simp
theorem vE_sh (x s : List UInt8) (p : Nat) : vE (x ++ s) (x.length + p) = shE x.length (fun r => (r.1, r.2 + x.length)) (vE s p) := by
 unfold vE
 rw [drop_pre]
 cases vrd (s.drop p) 0 0 with
 | ok r => simp only [shE]; congr 2; omega
 | error c => simp only [shE, Er.sh]; congr 2; push_cast; omega
theorem takeE_sh (x s : List UInt8) (p n : Nat) : takeE (x ++ s) (x.length + p) n = shE x.length (fun r => (r.1, r.2 + x.length)) (takeE s p n) := by
 unfold takeE
 rw [drop_pre, List.length_append, show x.length + s.length - (x.length + p) = s.length - p by omega]
 split
 ·simp only [shE, Er.sh]; congr 2; push_cast; omega
 ·simp only [shE]; congr 2; omega
theorem tagE_sh (x s : List UInt8) (p : Nat) : tagE (x ++ s) (x.length + p) = shE x.length (fun r => (r.1, r.2.1, r.2.2 + x.length)) (tagE s p) := by
 unfold tagE
 rw [vE_sh]
 cases vE s p with
 | error e => rfl
 | ok r =>
  obtain ⟨n, q⟩ := r
  simp only [shE]
  split
  ·simp only [Er.sh]; congr 2; push_cast; omega
  ·rfl
theorem restG_sh (x s : List UInt8) (g g' : Int → Nat → Nat → Except Er Nat) (d : Int) (num kind a p : Nat) (hg : g' (d - 1) num (x.length + p) = shE x.length (fun q => q + x.length) (g (d - 1) num p)) :
  k'2w g' (x ++ s) d num kind (x.length + a) (x.length + p) = shE x.length (fun r => (r.1, r.2.1, r.2.2 + x.length)) (k'2w g s d num kind a p) := by
 unfold k'2w
 rw [vE_sh, takeE_sh, takeE_sh, hg]
 split
 ·cases vE s p <;> rfl
 split
 ·cases takeE s p 8 <;> rfl
 split
 ·cases takeE s p 4 <;> rfl
 split
 ·cases vE s p with
  | error e => rfl
  | ok r =>
   obtain ⟨n, q⟩ := r
   simp only [shE]
   rw [show q + x.length = x.length + q by omega, takeE_sh]
   cases takeE s q n <;> rfl
 split
 ·by_cases hd : d < 1
  ·rw [if_pos hd, if_pos hd]; simp only [shE, Er.sh]; congr 2; push_cast; omega
  ·rw [if_neg hd, if_neg hd]; cases g (d - 1) num p <;> rfl
 ·simp only [shE, Er.sh]; congr 2; push_cast; omega
theorem grp_sh (x s : List UInt8) : ∀ (f : Nat) (d : Int) (num p : Nat), grp (x ++ s) f d num (x.length + p) = shE x.length (fun q => q + x.length) (grp s f d num p)
 | 0, d, num, p => by simp only [grp, shE, Er.sh]; congr 2; push_cast; omega
 | f + 1, d, num, p => by
  rw [k'3a, k'3a, tagE_sh]
  cases tagE s p with
  | error e => rfl
  | ok r =>
   obtain ⟨n, k, q⟩ := r
   simp only [shE]
   split
   ·split
    ·rfl
    ·simp only [Er.sh]; congr 2; push_cast; omega
   ·rw [show q + x.length = x.length + q by omega, restG_sh x s (grp s f) (grp (x ++ s) f) d n k p q (grp_sh x s f (d - 1) n q)]
    cases k'2w (grp s f) s d n k p q with
    | error e => rfl
    | ok r =>
     obtain ⟨N, t, q'⟩ := r
     simp only [shE]
     rw [show q' + x.length = x.length + q' by omega, grp_sh x s f]
     rfl
theorem restG_congr (s : List UInt8) (g g' : Int → Nat → Nat → Except Er Nat) (d : Int) (num kind a p : Nat) (hg : g' (d - 1) num p = g (d - 1) num p) : k'2w g' s d num kind a p = k'2w g s d num kind a p := by
 unfold k'2w; rw [hg]
theorem grp_fuel (s : List UInt8) : ∀ (f f' : Nat) (d : Int) (num p : Nat), p ≤ s.length → s.length - p < f → s.length - p < f' → grp s f' d num p = grp s f d num p
 | 0, f', d, num, p, _, h, _ => by omega
 | f + 1, 0, d, num, p, _, _, h => by omega
 | f + 1, f' + 1, d, num, p, hp, h1, h2 => by
  rw [k'3a, k'3a]
  cases ht : tagE s p with
  | error e => rfl
  | ok r =>
   obtain ⟨n, k, q⟩ := r
   obtain ⟨a, b, -⟩ := k'3n ht
   simp only
   split
   ·rfl
   ·rw [restG_congr s (grp s f) (grp s f') d n k p q (grp_fuel s f f' (d - 1) n q b (by omega) (by omega))]
    cases hr : k'2w (grp s f) s d n k p q with
    | error e => rfl
    | ok r =>
     obtain ⟨N, t, q'⟩ := r
     obtain ⟨a2, b2, -⟩ := k'32 (fun d n p q => grp_ok f d n p q) hr b
     exact grp_fuel s f f' d num q' b2 (by omega) (by omega)
theorem recE_sh (x s : List UInt8) (d : Int) (p : Nat) (hp : p ≤ s.length) : recE (x ++ s) d (x.length + p) = shE x.length (fun r => (r.1, r.2 + x.length)) (recE s d p) := by
 unfold recE
 rw [tagE_sh]
 cases ht : tagE s p with
 | error e => rfl
 | ok r =>
  obtain ⟨n, k, q⟩ := r
  obtain ⟨a, b, -⟩ := k'3n ht
  simp only [shE]
  have hg : grp (x ++ s) ((x ++ s).length + 1) (d - 1) n (x.length + q) = shE x.length (fun q => q + x.length) (grp s (s.length + 1) (d - 1) n q) := by
   rw [grp_fuel (x ++ s) (s.length + 1) _ (d - 1) n (x.length + q) (by simp; omega) (by simp; omega) (by simp; omega), grp_sh]
  rw [show q + x.length = x.length + q by omega, restG_sh x s (grp s (s.length + 1)) _ d n k p q hg]
  cases k'2w (grp s (s.length + 1)) s d n k p q with
  | error e => rfl
  | ok r =>
   obtain ⟨N, t, q'⟩ := r
   simp only [shE]
   rw [drop_pre, show q' + x.length - (x.length + p) = q' - p by omega]
theorem allE_fuel (s : List UInt8) (d : Int) : ∀ (f f' p : Nat), s.length - p < f → s.length - p < f' → allE s d f' p = allE s d f p
 | 0, f', p, h, _ => by omega
 | f + 1, 0, p, _, h => by omega
 | f + 1, f' + 1, p, h1, h2 => by
  unfold allE
  split
  ·cases hr : recE s d p with
   | error e => rfl
   | ok r =>
    obtain ⟨x, q⟩ := r
    obtain ⟨a, b, -⟩ := k'4d hr
    simp only
    rw [allE_fuel s d f f' q (by omega) (by omega)]
  ·rfl
theorem allE_sh (x s : List UInt8) (d : Int) : ∀ (f p : Nat), p ≤ s.length → allE (x ++ s) d f (x.length + p) = shE x.length id (allE s d f p)
 | 0, p, _ => rfl
 | f + 1, p, hp => by
  unfold allE
  rw [recE_sh x s d p hp, List.length_append]
  by_cases h : p < s.length
  ·rw [if_pos h, if_pos (by omega)]
   cases hr : recE s d p with
   | error e => rfl
   | ok r =>
    obtain ⟨y, q⟩ := r
    obtain ⟨a, b, -⟩ := k'4d hr
    simp only [shE]
    rw [show q + x.length = x.length + q by omega, allE_sh x s d f q b]
    cases allE s d f q <;> rfl
  ·rw [if_neg h, if_neg (by omega)]; rfl
/-! What stands behind does not matter to what could be read. -/
theorem vrd_ext (y : List UInt8) : ∀ (l : List UInt8) (i a : Nat) (r : Nat × Nat), vrd l i a = .ok r → vrd (l ++ y) i a = .ok r
 | [], i, a, r, h => by simp [vrd] at h
 | c :: l, i, a, r, h => by
  rw [List.cons_append]
  unfold vrd at h ⊢
  split at h
  ·simp at h
  ·rw [if_neg ‹_›]
   split at h
   ·simp at h
   ·rw [if_neg ‹_›]
    split at h
    ·rw [if_pos ‹_›]; exact h
    ·rw [if_neg ‹_›]; exact vrd_ext y l _ _ _ h
theorem drop_post (s y : List UInt8) (p : Nat) (hp : p ≤ s.length) : (s ++ y).drop p = s.drop p ++ y := by
 rw [List.drop_append_of_le_length hp]
theorem vE_ext (s y : List UInt8) (p : Nat) (hp : p ≤ s.length) {r : Nat × Nat} (h : vE s p = .ok r) : vE (s ++ y) p = .ok r := by
 unfold vE at h ⊢
 rw [drop_post s y p hp]
 cases hv : vrd (s.drop p) 0 0 with
 | error c => rw [hv] at h; simp at h
 | ok q => rw [hv] at h; rw [vrd_ext y _ _ _ _ hv]; exact h
theorem takeE_ext (s y : List UInt8) (p n : Nat) (hp : p ≤ s.length) {r : List UInt8 × Nat} (h : takeE s p n = .ok r) : takeE (s ++ y) p n = .ok r := by
 unfold takeE at h ⊢
 split at h
 ·simp at h
 ·rw [if_neg (by simp; omega), drop_post s y p hp, List.take_append_of_le_length (by simp; omega)]; exact h
theorem tagE_ext (s y : List UInt8) (p : Nat) (hp : p ≤ s.length) {r : Nat × Nat × Nat} (h : tagE s p = .ok r) : tagE (s ++ y) p = .ok r := by
 unfold tagE at h ⊢
 cases hv : vE s p with
 | error c => rw [hv] at h; simp at h
 | ok q => rw [hv] at h; rw [vE_ext s y p hp hv]; exact h
theorem restG_ext (s y : List UInt8) (g g' : Int → Nat → Nat → Except Er Nat) (d : Int) (num kind a p : Nat) (hp : p ≤ s.length) (hg : ∀ q, g (d - 1) num p = .ok q → g' (d - 1) num p = .ok q) {r : Nat × List UInt8 × Nat} (h : k'2w g s d num kind a p = .ok r) : k'2w g' (s ++ y) d num kind a p = .ok r := by
 unfold k'2w at h ⊢
 split at h
 ·rw [if_pos ‹_›]
  cases hv : vE s p with
  | error c => rw [hv] at h; simp at h
  | ok q => rw [hv] at h; rw [vE_ext s y p hp hv]; exact h
 ·rw [if_neg ‹_›]
  split at h
  ·rw [if_pos ‹_›]
   cases hv : takeE s p 8 with
   | error c => rw [hv] at h; simp at h
   | ok q => rw [hv] at h; rw [takeE_ext s y p 8 hp hv]; exact h
  ·rw [if_neg ‹_›]
   split at h
   ·rw [if_pos ‹_›]
    cases hv : takeE s p 4 with
    | error c => rw [hv] at h; simp at h
    | ok q => rw [hv] at h; rw [takeE_ext s y p 4 hp hv]; exact h
   ·rw [if_neg ‹_›]
    split at h
    ·rw [if_pos ‹_›]
     cases hv : vE s p with
     | error c => rw [hv] at h; simp at h
     | ok q =>
      obtain ⟨n, q⟩ := q
      rw [hv] at h; rw [vE_ext s y p hp hv]
      obtain ⟨a1, b1, -⟩ := vE_ok hv
      simp only at h ⊢
      cases hw : takeE s q n with
      | error c => rw [hw] at h; simp at h
      | ok z => rw [hw] at h; rw [takeE_ext s y q n b1 hw]; exact h
    ·rw [if_neg ‹_›]
     split at h
     ·rw [if_pos ‹_›]
      split at h
      ·rename_i q hq
       split at hq
       ·simp at hq
       ·rw [if_neg ‹_›, hg q hq]; exact h
      ·simp at h
     ·simp at h
theorem grp_ext (s y : List UInt8) : ∀ (f : Nat) (d : Int) (num p q : Nat), p ≤ s.length → grp s f d num p = .ok q → grp (s ++ y) f d num p = .ok q
 | 0, d, num, p, q, _, h => by simp [grp] at h
 | f + 1, d, num, p, q, hp, h => by
  rw [k'3a] at h ⊢
  cases ht : tagE s p with
  | error e => rw [ht] at h; simp at h
  | ok r =>
   obtain ⟨n, k, q1⟩ := r
   rw [ht] at h
   rw [tagE_ext s y p hp ht]
   obtain ⟨a, b, -⟩ := k'3n ht
   simp only at h ⊢
   split at h
   ·rw [if_pos ‹_›]; exact h
   ·rw [if_neg ‹_›]
    cases hr : k'2w (grp s f) s d n k p q1 with
    | error e => rw [hr] at h; simp at h
    | ok r =>
     obtain ⟨N, t, q2⟩ := r
     rw [hr] at h
     obtain ⟨a2, b2, -⟩ := k'32 (fun d n p q => grp_ok f d n p q) hr b
     rw [restG_ext s y (grp s f) (grp (s ++ y) f) d n k p q1 b (fun q hq => grp_ext s y f _ _ _ _ b hq) hr]
     exact grp_ext s y f d num q2 q b2 h
theorem recE_ext (s y : List UInt8) (d : Int) (p : Nat) (hp : p ≤ s.length) {r : Fld × Nat} (h : recE s d p = .ok r) : recE (s ++ y) d p = .ok r := by
 obtain ⟨r, q⟩ := r
 have h0 := k'4d h
 unfold recE at h ⊢
 cases ht : tagE s p with
 | error e => rw [ht] at h; simp at h
 | ok z =>
  obtain ⟨n, k, q1⟩ := z
  rw [ht] at h
  rw [tagE_ext s y p hp ht]
  obtain ⟨a, b, -⟩ := k'3n ht
  simp only at h ⊢
  cases hr : k'2w (grp s (s.length + 1)) s d n k p q1 with
  | error e => rw [hr] at h; simp at h
  | ok z =>
   obtain ⟨N, t, q2⟩ := z
   rw [hr] at h
   have hg : ∀ q, grp s (s.length + 1) (d - 1) n q1 = .ok q → grp (s ++ y) ((s ++ y).length + 1) (d - 1) n q1 = .ok q := fun q hq => by
    have := grp_ext s y _ _ _ _ _ b hq
    rw [grp_fuel (s ++ y) ((s ++ y).length + 1) ((s ++ y).length + 1) (d - 1) n q1 (by simp; omega) (by omega) (by omega)]
    have hm : ∀ (f f' : Nat), f ≤ f' → ∀ (d : Int) (num p q : Nat), p ≤ (s ++ y).length → grp (s ++ y) f d num p = .ok q → grp (s ++ y) f' d num p = .ok q := by
     intro f
     induction f with
     | zero => intro f' _ d num p q _ h; simp [grp] at h
     | succ f ih =>
      intro f' hf d num p q hp h
      cases f' with
      | zero => omega
      | succ f' =>
       rw [k'3a] at h ⊢
       cases ht : tagE (s ++ y) p with
       | error e => rw [ht] at h; simp at h
       | ok r =>
        obtain ⟨n, k, q1⟩ := r
        rw [ht] at h
        obtain ⟨a, b, -⟩ := k'3n ht
        simp only at h ⊢
        split at h
        ·rw [if_pos ‹_›]; exact h
        ·rw [if_neg ‹_›]
         cases hr : k'2w (grp (s ++ y) f) (s ++ y) d n k p q1 with
         | error e => rw [hr] at h; simp at h
         | ok r =>
          obtain ⟨N, t, q2⟩ := r
          rw [hr] at h
          obtain ⟨a2, b2, -⟩ := k'32 (fun d n p q => grp_ok f d n p q) hr b
          have := restG_ext (s ++ y) [] (grp (s ++ y) f) (grp (s ++ y) f') d n k p q1 b (fun q hq => ih f' (by omega) _ _ _ _ b hq) hr
          rw [List.append_nil] at this
          rw [this]
          exact ih f' (by omega) d num q2 q b2 h
    exact hm _ _ (by simp) _ _ _ _ (by simp; omega) this
   rw [restG_ext s y _ (grp (s ++ y) ((s ++ y).length + 1)) d n k p q1 b hg hr]
   injection h with h; injection h with h1 h2
   subst h1; subst h2
   simp only
   rw [drop_post s y p hp, List.take_append_of_le_length (by simp; omega)]
theorem allE_app (s t : List UInt8) (d : Int) : ∀ (f f' p : Nat) (a : List Fld), p ≤ s.length → s.length - p < f → (s ++ t).length - p < f' → allE s d f p = .ok a → allE (s ++ t) d f' p = (match shE s.length id (all t d) with | .ok b => .ok (a ++ b) | .error e => .error e)
 | 0, f', p, a, _, h, _, _ => by omega
 | f + 1, 0, p, a, _, _, h, _ => by omega
 | f + 1, f' + 1, p, a, hp, h1, h2, h => by
  by_cases hl : p < s.length
  ·unfold allE at h ⊢
   rw [if_pos hl] at h
   rw [if_pos (by simp; omega)]
   cases hr : recE s d p with
   | error e => rw [hr] at h; simp at h
   | ok r =>
    obtain ⟨x, q⟩ := r
    rw [hr] at h
    obtain ⟨a1, b1, -⟩ := k'4d hr
    rw [recE_ext s t d p hp hr]
    simp only at h ⊢
    cases ha : allE s d f q with
    | error e => rw [ha] at h; simp at h
    | ok l =>
     rw [ha] at h
     injection h with h; subst h
     rw [allE_app s t d f f' q l b1 (by omega) (by simp at h2 ⊢; omega) ha]
     cases shE s.length id (all t d) <;> rfl
  ·have hpe : p = s.length := by omega
   subst hpe
   unfold allE at h
   rw [if_neg hl] at h
   injection h with h; subst h
   have h3 : allE (s ++ t) d (f' + 1) s.length = shE s.length id (allE t d (f' + 1) 0) := allE_sh s t d (f' + 1) 0 (by omega)
   rw [h3]
   unfold all
   rw [allE_fuel t d (t.length + 1) (f' + 1) 0 (by omega) (by simp at h2; omega)]
   cases allE t d (t.length + 1) 0 <;> rfl
theorem all_app {s : List UInt8} {d : Int} {a : List Fld} (t : List UInt8) (h : all s d = .ok a) : all (s ++ t) d = (match shE s.length id (all t d) with | .ok b => .ok (a ++ b) | .error e => .error e) :=
 allE_app s t d (s.length + 1) ((s ++ t).length + 1) 0 a (by omega) (by omega) (by omega) h
theorem k'4 {s t : List UInt8} {d : Int} {a b : List Fld} (h : all s d = .ok a) (h2 : all t d = .ok b) : all (s ++ t) d = .ok (a ++ b) := by
 rw [all_app t h, h2]; rfl
theorem all_nil (d : Int) : all [] d = .ok [] := rfl
end
/-! Records of a message: what two lists, one behind the other, tell; numbers that may be packed. -/
section
theorem anyL_cons (x : Fld) (l : List Fld) (num : Nat) : anyL (x :: l) num = (x.num == num || anyL l num) := rfl
theorem lastF_cons (x : Fld) (l : List Fld) (num : Nat) : k'19 (x :: l) num = if anyL l num then k'19 l num else if x.num = num then x else noFld := rfl
theorem lastF_no {l : List Fld} {num : Nat} (h : anyL l num = false) : k'19 l num = noFld := by
 induction l with
 | nil => rfl
 | cons x l ih =>
  rw [anyL_cons, Bool.or_eq_false_iff] at h
  unfold k'19
  have h2 : l.any (fun x => x.num == num) = false := h.2
  have h1 : ¬ x.num = num := by simpa using h.1
  rw [h2, if_neg h1]; simp
def packO (rd : List UInt8 → Except Er (List Nat)) (num : Nat) : List Fld → Option (List Nat)
 | [] => some []
 | x :: l => if x.num = num then (if x.kind = 2 then (match rd x.s with | .ok a => (packO rd num l).map (a ++ ·) | .error _ => none) else (packO rd num l).map (x.n :: ·)) else packO rd num l
/-! Buckets. -/
def okL (s : List UInt8) (d : Int) : Option (List Fld) :=
 if d < 0 then none else match all s d with
  | .ok l => some l
  | .error _ => none
theorem okL_some {s : List UInt8} {d : Int} {l : List Fld} (h : okL s d = some l) : readE s d = none ∧ fldsE s d = l ∧ all s d = .ok l ∧ 0 ≤ d := by
 unfold okL at h
 split at h
 ·simp at h
 ·rename_i hd
  split at h <;> simp at h
  rename_i a; subst h
  unfold readE fldsE
  rw [if_neg hd, if_neg hd, a]
  exact ⟨rfl, rfl, rfl, by omega⟩
theorem okL_mk {s : List UInt8} {d : Int} {l : List Fld} (hd : 0 ≤ d) (h : all s d = .ok l) : okL s d = some l := by
 unfold okL; rw [if_neg (by omega), h]
def okB (s : List UInt8) (d : Int) : Option Bk :=
 match okL s d with
 | none => none
 | some l => match packO vars 2 (knownL tbB l) with
  | none => none
  | some ns => some ⟨zag32 (k'19 (knownL tbB l) 1).n, ns, unkL tbB l⟩
theorem okL_wt {s : List UInt8} {d : Int} {l : List Fld} (h : okL s d = some l) : wt l ≤ s.length ∧ ∀ x ∈ l, FOk x := by
 obtain ⟨-, -, h1, -⟩ := okL_some h
 exact ⟨by have := allE_raw h1; unfold wt; omega, allE_fok h1⟩
end
/-! What is written is read: numbers, tags, records, buckets. -/
section
theorem vrd_put (y : List UInt8) : ∀ (f n i a : Nat), f + i = 9 → n * 2 ^ (7 * i) < 2 ^ 64 → vrd (vput f n ++ y) i a = .ok (a + n * 2 ^ (7 * i), i + (vput f n).length)
 | 0, n, i, a, hi, hn => by
  have hi9 : i = 9 := by omega
  subst hi9
  have h2 : n < 2 := by
   have : n * 2 ^ 63 < 2 * 2 ^ 63 := by simpa using hn
   exact Nat.lt_of_mul_lt_mul_right this
  have hb := k'3z (show n < 256 by omega)
  show vrd (UInt8.ofNat n :: y) 9 a = _
  unfold vrd
  rw [hb, if_neg (by omega), if_neg (by omega), if_pos (by omega), Nat.mod_eq_of_lt (by omega : n < 128)]
  rfl
 | f + 1, n, i, a, hi, hn => by
  unfold vput
  by_cases hs : n < 128
  ·rw [if_pos hs]
   have hb := k'3z (show n < 256 by omega)
   show vrd (UInt8.ofNat n :: y) i a = _
   unfold vrd
   rw [hb, if_neg (by omega), if_neg (by omega), if_pos hs, Nat.mod_eq_of_lt hs]
   rfl
  ·rw [if_neg hs]
   have hb := k'3z (show n % 128 + 128 < 256 by omega)
   show vrd (UInt8.ofNat (n % 128 + 128) :: (vput f (n / 128) ++ y)) i a = _
   unfold vrd
   rw [hb, if_neg (by omega), if_neg (by omega), if_neg (by omega)]
   have hp : 2 ^ (7 * (i + 1)) = 128 * 2 ^ (7 * i) := by rw [show 7 * (i + 1) = 7 * i + 7 by omega, Nat.pow_add]; omega
   have hd : n / 128 * (128 * 2 ^ (7 * i)) = (n / 128 * 128) * 2 ^ (7 * i) := by rw [Nat.mul_assoc]
   have hle : n / 128 * 128 ≤ n := Nat.div_mul_le_self n 128
   have hm := Nat.mul_le_mul_right (2 ^ (7 * i)) hle
   rw [vrd_put y f (n / 128) (i + 1) _ (by omega) (by rw [hp, hd]; omega)]
   have e1 : (n % 128 + 128) % 128 = n % 128 := by omega
   have e2 : n % 128 * 2 ^ (7 * i) + n / 128 * 128 * 2 ^ (7 * i) = n * 2 ^ (7 * i) := by
    rw [← Nat.add_mul]; congr 1; omega
   rw [e1, hp, hd, List.length_cons, show a + n % 128 * 2 ^ (7 * i) + n / 128 * 128 * 2 ^ (7 * i) = a + n * 2 ^ (7 * i) by omega, show i + 1 + (vput f (n / 128)).length = i + ((vput f (n / 128)).length + 1) by omega]
theorem vrd_putV (y : List UInt8) {n : Nat} (hn : n < 2 ^ 64) : vrd (putV n ++ y) 0 0 = .ok (n, (putV n).length) := by
 have := vrd_put y 9 n 0 0 rfl (by simpa using hn)
 rw [show 0 + n * 2 ^ (7 * 0) = n by simp, Nat.zero_add] at this
 exact this
theorem vE_putV (x y : List UInt8) {n p : Nat} (hn : n < 2 ^ 64) (hp : p = x.length) : vE (x ++ (putV n ++ y)) p = .ok (n, p + (putV n).length) := by
 subst hp
 unfold vE
 rw [List.drop_left, vrd_putV y hn]
theorem tagE_tagV (x y : List UInt8) {n k p : Nat} (h1 : 1 ≤ n) (h2 : n ≤ 536870911) (hk : k < 8) (hp : p = x.length) : tagE (x ++ (tagV n k ++ y)) p = .ok (n, k, p + (tagV n k).length) := by
 unfold tagE tagV
 rw [vE_putV x y (by omega) hp]
 dsimp only
 rw [show (8 * n + k) / 8 = n by omega, show (8 * n + k) % 8 = k by omega, if_neg (by omega)]
theorem rec_all {s : List UInt8} {d : Int} {r : Fld} (h : recE s d 0 = .ok (r, s.length)) : all s d = .ok [r] := by
 have h0 := k'4d h
 unfold all
 obtain ⟨n, hn⟩ : ∃ n, s.length = n + 1 := ⟨s.length - 1, by omega⟩
 rw [hn]
 unfold allE
 rw [if_pos (by omega), h]
 dsimp only
 unfold allE
 rw [if_neg (by omega)]
theorem recE_var {n m : Nat} (d : Int) (h1 : 1 ≤ n) (h2 : n ≤ 536870911) (hm : m < 2 ^ 64) : recE (tagV n 0 ++ putV m) d 0 = .ok (⟨n, 0, m, [], tagV n 0 ++ putV m⟩, (tagV n 0 ++ putV m).length) := by
 unfold recE
 have ht := tagE_tagV [] (putV m) h1 h2 (show 0 < 8 by omega) (p := 0) rfl
 rw [List.nil_append, Nat.zero_add] at ht
 rw [ht]
 dsimp only
 unfold k'2w
 have hv := vE_putV (tagV n 0) [] hm (p := (tagV n 0).length) rfl
 rw [List.append_nil] at hv
 rw [if_pos rfl, hv]
 dsimp only
 rw [← List.length_append, List.drop_zero, Nat.sub_zero, List.take_length]
theorem recE_str {n : Nat} (d : Int) (t : List UInt8) (h1 : 1 ≤ n) (h2 : n ≤ 536870911) (ht : t.length < 2 ^ 64) : recE (tagV n 2 ++ (putV t.length ++ t)) d 0 = .ok (⟨n, 2, 0, t, tagV n 2 ++ (putV t.length ++ t)⟩, (tagV n 2 ++ (putV t.length ++ t)).length) := by
 unfold recE
 have hg := tagE_tagV [] (putV t.length ++ t) h1 h2 (show 2 < 8 by omega) (p := 0) rfl
 rw [List.nil_append, Nat.zero_add] at hg
 rw [hg]
 dsimp only
 unfold k'2w
 have hv := vE_putV (tagV n 2) t ht (p := (tagV n 2).length) rfl
 rw [if_neg (by omega), if_neg (by omega), if_neg (by omega), if_pos rfl, hv]
 dsimp only
 unfold takeE
 have hl : (tagV n 2 ++ (putV t.length ++ t)).length = (tagV n 2).length + (putV t.length).length + t.length := by simp; omega
 rw [if_neg (by omega)]
 dsimp only
 have hd : (tagV n 2 ++ (putV t.length ++ t)).drop ((tagV n 2).length + (putV t.length).length) = t := by
  rw [← List.append_assoc, ← List.length_append, List.drop_left]
 rw [hd, List.take_length, ← hl, List.drop_zero, Nat.sub_zero, List.take_length]
theorem zag_zig {o : Int} (h1 : -2147483648 ≤ o) (h2 : o < 2147483648) : zag32 (k'2o o) = o := by
 unfold zag32 k'2o
 by_cases h : 0 ≤ o
 ·rw [if_pos h, if_pos (by omega)]; omega
 ·rw [if_neg h, if_neg (by omega)]; omega
end
/-! Records alone; deeper: what can be read can be read deeper. -/
section
/-! Deeper. -/
/-! As deep as it is long is deep enough. -/
end
