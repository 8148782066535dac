/- msg.Reader: an error noted; numbers unfolded. And more. -/
import Derived.Test.YtnaojdjhjkendaaGreatDoorXG2
import Derived.Test.YtnaojdjhjkendaaGreatDoorXAF
set_option linter.unusedSimpArgs false
set_option linter.unusedVariables false
set_option maxRecDepth 100000
/-! msg.Reader: an error noted; numbers unfolded. -/
namespace Go.Proofs.YtnaojdjhjkendaaGreatDoor
open Go Go.Abs
variable (B : Fr)
def BOk (B : Fr) : Prop := B 0 0 = some (rty 31)
def clampE (n at' : Int) : Int :=
 let m := if (0 : Int) > at' then 0 else at'
 if n < m then n else m
def failE (n : Int) (num : Nat) : Option Er → Option Er → Option Er
 | none, some x => some (.loc (clampE n (placeOf x).1) (.fld num x))
 | e, _ => e
end Go.Proofs.YtnaojdjhjkendaaGreatDoor
/-! msg.Read: a message taken apart. -/
namespace Go.Proofs.YtnaojdjhjkendaaGreatDoor
open Go Go.Abs
variable (B : Fr)
def readE (s : List UInt8) (d : Int) : Option Er :=
 if d < 0 then failE s.length 0 none (some (.code 6)) else match all s d with
  | .ok _ => none
  | .error e => some e
def fldsE (s : List UInt8) (d : Int) : List Fld :=
 if d < 0 then [] else match all s d with
  | .ok l => l
  | .error _ => []
def isT (tb : Nat → Nat → Bool) (x : Fld) : Bool := tb x.num x.kind
def knownL (tb : Nat → Nat → Bool) (l : List Fld) : List Fld := l.filter (isT tb)
def unkL (tb : Nat → Nat → Bool) (l : List Fld) : List UInt8 := (l.filter fun x => !isT tb x).flatMap Fld.raw
theorem grpS_pos {s : List UInt8} {d : Int} {p q : Nat} {r : Fld} (h : recE s d p = .ok (r, q)) : r.raw = (s.drop p).take (q - p) := by
 unfold recE at h
 split at h <;> (try (simp at h; done))
 split at h <;> (try (simp at h; done))
 injection h with h; injection h with h1 h2
 subst h1; subst h2; rfl
theorem allE_raw {s : List UInt8} {d : Int} : ∀ {f p : Nat} {l : List Fld}, allE s d f p = .ok l → (l.map fun x => x.raw.length).sum ≤ s.length - p
 | 0, p, l, h => by simp [allE] at h; subst h; simp
 | f + 1, p, l, h => by
  unfold allE at h
  split at h
  ·split at h <;> (try (simp at h; done))
   rename_i r q e
   obtain ⟨a, b, -⟩ := k'3y e
   have hr := grpS_pos e
   split at h <;> (try (simp at h; done))
   rename_i e2
   injection h with h; subst h
   have := allE_raw e2
   have h3 : r.raw.length ≤ q - p := by rw [hr]; simp; omega
   simp; omega
  ·injection h with h; subst h; simp
end Go.Proofs.YtnaojdjhjkendaaGreatDoor
/-! msg.Reader: packed numbers; a number that may lack; numbers unfolded. -/
namespace Go.Proofs.YtnaojdjhjkendaaGreatDoor
open Go Go.Abs
variable (B : Fr)
structure FOk (x : Fld) : Prop where
 s : x.s.length < x.raw.length
 n : x.n < 2 ^ 64
 num : x.num ≤ 536870911
 one : 1 ≤ x.num
 kind : x.kind < 8
def wt (l : List Fld) : Nat := (l.map fun x => x.raw.length).sum
def LOk (l : List Fld) : Prop := (∀ x ∈ l, FOk x) ∧ wt l < big
theorem restG_len {g : Int → Nat → Nat → Except Er Nat} {s : List UInt8} {d : Int} {num kind a p n q : Nat} {t : List UInt8} (hg : ∀ d num p q, g d num p = .ok q → p ≤ s.length → p ≤ q ∧ q ≤ s.length) (h : k'2c g s d num kind a p = .ok (n, t, q)) (hp : p ≤ s.length) : t.length ≤ q - p := by
 have h0 := k'2k hg h hp
 unfold k'2c at h
 split at h
 ·split at h <;> (try (simp at h; done))
  injection h with h; injection h with h1 h2; injection h2 with h2 h3
  subst h2; simp
 split at h
 ·split at h <;> (try (simp at h; done))
  injection h with h; injection h with h1 h2; injection h2 with h2 h3
  subst h2; simp
 split at h
 ·split at h <;> (try (simp at h; done))
  injection h with h; injection h with h1 h2; injection h2 with h2 h3
  subst h2; simp
 split at h
 ·split at h <;> (try (simp at h; done))
  rename_i e1
  split at h <;> (try (simp at h; done))
  rename_i e; injection h with h; injection h with h1 h2; injection h2 with h2 h3
  subst h2; subst h3
  obtain ⟨a1, b1, c1⟩ := vE_ok e1
  obtain ⟨a, b, c, d, -⟩ := takeE_ok e b1; omega
 split at h
 ·split at h <;> (try (simp at h; done))
  injection h with h; injection h with h1 h2; injection h2 with h2 h3
  subst h2; simp
 ·simp at h
theorem recE_fok {s : List UInt8} {d : Int} {p q : Nat} {r : Fld} (h : recE s d p = .ok (r, q)) : FOk r := by
 have h0 := k'3y h
 unfold recE at h
 split at h <;> (try (simp at h; done))
 rename_i e
 obtain ⟨a, b, c, d1, e1⟩ := k'2y e
 split at h <;> (try (simp at h; done))
 rename_i e2
 have h3 := restG_len (fun d n p q => grp_ok _ d n p q) e2 b
 obtain ⟨a2, b2, c2⟩ := k'2k (fun d n p q => grp_ok _ d n p q) e2 b
 injection h with h; injection h with h1 h2
 subst h1; subst h2
 refine ⟨?_, c2, c, d1, e1⟩
 simp; omega
theorem allE_fok {s : List UInt8} {d : Int} : ∀ {f p : Nat} {l : List Fld}, allE s d f p = .ok l → ∀ x ∈ l, FOk x
 | 0, p, l, h => by simp [allE] at h; subst h; simp
 | f + 1, p, l, h => by
  unfold allE at h
  split at h
  ·split at h <;> (try (simp at h; done))
   rename_i e
   split at h <;> (try (simp at h; done))
   rename_i e2
   injection h with h; subst h
   intro x hx
   rcases List.mem_cons.1 hx with rfl | hx
   ·exact recE_fok e
   ·exact allE_fok e2 x hx
  ·injection h with h; subst h; simp
theorem wt_filter (p : Fld → Bool) (l : List Fld) : wt (l.filter p) ≤ wt l := by
 induction l with
 | nil => simp [wt]
 | cons x l ih => unfold wt at *; cases h : p x <;> simp [h] <;> omega
theorem LOk.filter {l : List Fld} (h : LOk l) (p : Fld → Bool) : LOk (l.filter p) := ⟨fun x hx => h.1 x (List.mem_filter.1 hx).1, Nat.lt_of_le_of_lt (wt_filter p l) h.2⟩
theorem LOk.len {l : List Fld} (h : LOk l) : l.length ≤ wt l := by
 obtain ⟨h, -⟩ := h
 induction l with
 | nil => simp [wt]
 | cons x l ih =>
  have h1 := (h x (List.mem_cons_self ..)).s
  have := ih fun y hy => h y (List.mem_cons_of_mem _ hy)
  unfold wt at *; simp; omega
end Go.Proofs.YtnaojdjhjkendaaGreatDoor
/-! msg.Reader: numbers; a number that may lack; numbers unfolded. -/
namespace Go.Proofs.YtnaojdjhjkendaaGreatDoor
open Go Go.Abs
variable (B : Fr)
def hasL (l : List Fld) (num : Nat) : Bool := (k'z l num).num == num
def zag32 (n : Nat) : Int := if n % 2 = 0 then ((n % 4294967296 / 2 : Nat) : Int) else -((n % 4294967296 / 2 : Nat) : Int) - 1
end Go.Proofs.YtnaojdjhjkendaaGreatDoor
/-! msg.Reader: parts and lists of parts; buckets read. -/
namespace Go.Proofs.YtnaojdjhjkendaaGreatDoor
open Go Go.Abs
variable (B : Fr)
def anyL (l : List Fld) (num : Nat) : Bool := l.any fun x => x.num == num
def bytesL (l : List Fld) (num : Nat) : List UInt8 := (l.filter fun x => x.num == num).flatMap Fld.s
structure Bk where
 off : Int
 cs : List Nat
 u : List UInt8
def Bk.d (b : Bk) : D := bkD b.off b.cs b.u
def noBk : Bk := ⟨0, [], []⟩
end Go.Proofs.YtnaojdjhjkendaaGreatDoor
/-! Buckets read. -/
namespace Go.Proofs.YtnaojdjhjkendaaGreatDoor
open Go Go.Abs
variable (B : Fr)
