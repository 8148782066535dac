/- varint.Get and the reader's small steps: what they answer. -/
import Derived.Test.YtfbckigcelmopaaGreatDoorX1
set_option linter.unusedSimpArgs false
set_option linter.unusedVariables false
set_option maxRecDepth 100000
namespace Go.Proofs.YtfbckigcelmopaaGreatDoor
open Go Go.Abs
theorem vrd_ok : ∀ {l : List UInt8} {i a n k : Nat}, vrd l i a = .ok (n, k) → i ≤ 10 → a < 2 ^ (7 * i) → i < k ∧ k ≤ i + l.length ∧ n < 2 ^ 64 ∧ k ≤ 10
  | [], _, _, _, _, h, _, _ => by simp [vrd] at h
  | c :: r, i, a, n, k, h, hi, ha => by
    have hc := byte_lt c
    unfold vrd at h
    split at h
    · simp at h
    · split at h
      · simp at h
      · rename_i h1 h2
        have hp : 2 ^ (7 * (i + 1)) = 128 * 2 ^ (7 * i) := by rw [show 7 * (i + 1) = 7 * i + 7 by omega, Nat.pow_add]; omega
        have hm : c.toNat % 128 * 2 ^ (7 * i) ≤ 127 * 2 ^ (7 * i) := Nat.mul_le_mul_right _ (by omega)
        split at h
        · injection h with h; injection h with h3 h4
          subst h3; subst h4
          refine ⟨by omega, by simp, ?_, by omega⟩
          by_cases h9 : i = 9
          · subst h9
            have : c.toNat ≤ 1 := by omega
            have hm' : c.toNat % 128 * 2 ^ (7 * 9) ≤ 1 * 2 ^ (7 * 9) := Nat.mul_le_mul_right _ (by omega)
            simp at hm' ha ⊢; omega
          · have h2' : 2 ^ (7 * i) ≤ 2 ^ 56 := Nat.pow_le_pow_right (by omega) (by omega)
            simp at h2'; omega
        · obtain ⟨g1, g2, g3, g4⟩ := vrd_ok h (by omega) (by omega)
          exact ⟨by omega, by simp; omega, g3, g4⟩

def big : Nat := 34359738368
variable (B : Fr)
theorem drop_take_all (s : List UInt8) (n : Nat) : (s.drop n).take (s.length - n) = s.drop n := by
  rw [List.take_of_length_le (by simp)]

/-- varint.Get: the number and where it ends, or the error with its place. -/
def vE (s : List UInt8) (p : Nat) : Except Er (Nat × Nat) :=
  match vrd (s.drop p) 0 0 with
  | .ok (n, k) => .ok (n, p + k)
  | .error c => .error (.loc p (.code c))
def geT : Except Er (Nat × Nat) → T
  | .ok (n, k) => .tup [.d (.int .u64 n), .d (.int .i64 k), .d .nili]
  | .error c => .tup [.d (.int .u64 0), .d (.int .i64 0), .d c.d]
theorem vE_ok {s : List UInt8} {p n k : Nat} (h : vE s p = .ok (n, k)) : p < k ∧ k ≤ s.length ∧ n < 2 ^ 64 := by
  unfold vE at h
  split at h <;> (try (simp at h; done))
  rename_i n' k' e
  injection h with h; injection h with h1 h2
  obtain ⟨g1, g2, g3, -⟩ := vrd_ok e (by omega) (by simp)
  simp at g2
  exact ⟨by omega, by omega, by omega⟩

theorem vget_calls (s : List UInt8) (p : Nat) (hp : p ≤ s.length) (hl : s.length < big) : CallsA (cx B) 116 [sT s, iT p] [] (geT (vE s p)) [] := by
  unfold big at hl
  refine l_body (X := cx B) (fn := Tryz.f116) Tryz.func116 rfl rfl rfl rfl rfl 0 [] rfl rfl ?_
  refine walk ?_
  rw [show decide ((p : Int) < 0) = false from decide_eq_false (by omega)]
  refine walk ?_
  rw [show decide ((p : Int) > s.length) = false from decide_eq_false (by omega)]
  refine walk ?_
  refine l_step (.sliceStr (s := s) (l := p) (h := s.length) rfl rfl rfl rfl ⟨.i64, rfl⟩ rfl hp (Nat.le_refl _)) rfl rfl ?_
  rw [drop_take_all]
  have h1 := vread_calls B (s.drop p)
  unfold vE
  cases hv : vrd (s.drop p) 0 0 with
  | ok nk =>
    obtain ⟨n, k⟩ := nk
    obtain ⟨g1, g2, g3, g4⟩ := vrd_ok hv (by omega) (by simp)
    simp at g2
    rw [hv] at h1
    refine l_call [] (h1) rfl rfl rfl rfl rfl rfl rfl (by decide) rfl rfl rfl rfl rfl ?_
    refine walk ?_
    rw [show IntKind.i64.wrap ((p : Int) + k) = ((p + k : Nat) : Int) by rw [wrapI (by omega) (by omega)]; omega]
    exact l_end trivial (by decide) rfl rfl rfl rfl rfl
  | error c =>
    rw [hv] at h1
    refine l_call [] (h1) rfl rfl rfl rfl rfl rfl rfl (by decide) rfl rfl rfl rfl rfl ?_
    refine walk ?_
    refine l_call [] (At_calls B p (some (.code c))) rfl rfl rfl rfl rfl rfl rfl (by decide) rfl rfl rfl rfl rfl ?_
    refine walk ?_
    exact l_end trivial (by decide) rfl rfl rfl rfl rfl

/-- The reader: what it reads, where it stands, its error, how deep it may go. -/
def rdOb (s : List UInt8) (p : Nat) (e : Option Er) (d : Int) : Ob := .mu [sT s, iT p, .d (eD e), iT d]

theorem rfails_calls (s : List UInt8) (p : Nat) (d : Int) (q : Nat) (c : Int) : CallsA (cx B) 129 [.ptr 0 0, iT q, .d (Er.code c).d] [rdOb s p none d] (.tup []) [rdOb s p (some (.loc q (.code c))) d] := by
  refine l_body (X := cx B) (fn := Tryz.f129) Tryz.func129 rfl rfl rfl rfl rfl 1 [] rfl rfl ?_
  refine walk ?_
  refine l_call [] (At_calls B q (some (.code c))) rfl rfl rfl rfl rfl rfl rfl (by decide) rfl rfl rfl rfl rfl ?_
  refine walk ?_
  exact l_end trivial (by decide) rfl rfl rfl rfl rfl

/-- Behind an error nothing is read. -/
theorem rvarint_err (s : List UInt8) (p : Nat) (e : Er) (d : Int) : CallsA (cx B) 96 [.ptr 0 0] [rdOb s p (some e) d] (uT 0) [rdOb s p (some e) d] := by
  refine l_body (X := cx B) (fn := Tryz.f96) Tryz.func96 rfl rfl rfl rfl rfl 1 [] rfl rfl ?_
  cases e <;>
  (refine walk ?_) <;>
  exact l_end trivial (by decide) rfl rfl rfl rfl rfl

def vR (s : List UInt8) (p : Nat) : Nat × Nat × Option Er :=
  match vE s p with
  | .ok (n, k) => (n, k, none)
  | .error e => (0, p, some e)
theorem rvarint_calls (s : List UInt8) (p : Nat) (d : Int) (hp : p ≤ s.length) (hl : s.length < big) : CallsA (cx B) 96 [.ptr 0 0] [rdOb s p none d] (uT (vR s p).1) [rdOb s (vR s p).2.1 (vR s p).2.2 d] := by
  have h1 := vget_calls B s p hp hl
  unfold vR
  refine l_body (X := cx B) (fn := Tryz.f96) Tryz.func96 rfl rfl rfl rfl rfl 1 [] rfl rfl ?_
  refine walk ?_
  cases hv : vE s p with
  | ok nk =>
    rw [hv] at h1
    refine x_call [] (h1) rfl rfl rfl rfl rfl rfl (by decide) rfl rfl rfl rfl rfl rfl ?_
    refine walk ?_
    exact l_end trivial (by decide) rfl rfl rfl rfl rfl
  | error e =>
    rw [hv] at h1
    unfold vE at hv
    split at hv <;> (try (simp at hv; done))
    injection hv with hv; subst hv
    refine x_call [] (h1) rfl rfl rfl rfl rfl rfl (by decide) rfl rfl rfl rfl rfl rfl ?_
    refine walk ?_
    exact l_end trivial (by decide) rfl rfl rfl rfl rfl

/-- So many bytes. -/
def tR (s : List UInt8) (p n : Nat) : List UInt8 × Nat × Option Er :=
  if s.length - p < n then ([], p, some (.loc p (.code 1))) else ((s.drop p).take n, p + n, none)
theorem rtake_err (s : List UInt8) (p : Nat) (e : Er) (d : Int) (n : Nat) : CallsA (cx B) 131 [.ptr 0 0, uT n] [rdOb s p (some e) d] (sT []) [rdOb s p (some e) d] := by
  refine l_body (X := cx B) (fn := Tryz.f131) Tryz.func131 rfl rfl rfl rfl rfl 1 [] rfl rfl ?_
  cases e <;>
  (refine walk ?_) <;>
  exact l_end trivial (by decide) rfl rfl rfl rfl rfl
theorem rtake_calls (s : List UInt8) (p : Nat) (d : Int) (n : Nat) (hn : n < 2 ^ 64) (hp : p ≤ s.length) (hl : s.length < big) : CallsA (cx B) 131 [.ptr 0 0, uT n] [rdOb s p none d] (sT (tR s p n).1) [rdOb s (tR s p n).2.1 (tR s p n).2.2 d] := by
  unfold big at hl
  refine l_body (X := cx B) (fn := Tryz.f131) Tryz.func131 rfl rfl rfl rfl rfl 1 [] rfl rfl ?_
  refine walk ?_
  have hw : IntKind.u64.wrap (IntKind.i64.wrap ((s.length : Int) - p)) = ((s.length - p : Nat) : Int) := by
    rw [wrapI (by omega) (by omega), wrapU (by omega) (by omega)]; omega
  rw [hw]
  unfold tR
  by_cases hc : s.length - p < n
  · rw [if_pos hc]
    rw [show decide ((n : Int) > ((s.length - p : Nat) : Int)) = true from decide_eq_true (by omega)]
    refine walk ?_
    refine l_call [0] (rfails_calls B s p d p 1) rfl rfl rfl rfl rfl rfl rfl (by decide) rfl rfl rfl rfl rfl ?_
    refine walk ?_
    exact l_end trivial (by decide) rfl rfl rfl rfl rfl
  · rw [if_neg hc]
    rw [show decide ((n : Int) > ((s.length - p : Nat) : Int)) = false from decide_eq_false (by omega)]
    refine walk ?_
    have hw2 : IntKind.i64.wrap (n : Int) = n := wrapI (by omega) (by omega)
    have hw3 : IntKind.i64.wrap ((p : Int) + IntKind.i64.wrap (n : Int)) = ((p + n : Nat) : Int) := by rw [hw2, wrapI (by omega) (by omega)]; omega
    have hw4 : IntKind.i64.wrap (((p + n : Nat) : Int) - IntKind.i64.wrap (n : Int)) = (p : Int) := by rw [hw2, wrapI (by omega) (by omega)]; omega
    rw [hw3, hw4]
    refine x_mob (.sliceStr (s := s) (l := p) (h := p + n) rfl rfl rfl rfl ⟨.i64, rfl⟩ ⟨.i64, rfl⟩ (by omega) (by omega)) rfl rfl rfl ?_
    rw [show p + n - p = n by omega]
    refine walk ?_
    exact l_end trivial (by decide) rfl rfl rfl rfl rfl

/-- A number of so many bytes, the least first. -/
def leN : List UInt8 → Nat
  | [] => 0
  | c :: r => c.toNat + 256 * leN r
theorem leN_lt : ∀ (l : List UInt8), leN l < 256 ^ l.length
  | [] => by simp [leN]
  | c :: r => by
    have h1 := leN_lt r
    have h2 := byte_lt c
    simp only [leN, List.length_cons, Nat.pow_succ]; omega
theorem leN_snoc (c : UInt8) : ∀ (l : List UInt8), leN (l ++ [c]) = leN l + c.toNat * 256 ^ l.length
  | [] => by simp [leN]
  | d :: r => by
    simp only [leN, List.cons_append, leN_snoc c r, List.length_cons, Nat.pow_succ]
    rw [Nat.mul_add, Nat.add_assoc]
    congr 2
    rw [← Nat.mul_assoc, Nat.mul_comm 256, Nat.mul_assoc, Nat.mul_comm 256]
def lR (s : List UInt8) (p w : Nat) : Nat × Nat × Option Er := (leN (tR s p w).1, (tR s p w).2.1, (tR s p w).2.2)
theorem rlittle_calls (s : List UInt8) (p : Nat) (d : Int) (w : Nat) (hw : w ≤ 8) (hp : p ≤ s.length) (hl : s.length < big) : CallsA (cx B) 130 [.ptr 0 0, iT w] [rdOb s p none d] (uT (lR s p w).1) [rdOb s (lR s p w).2.1 (lR s p w).2.2 d] := by
  have hl' := hl
  unfold big at hl
  refine l_body (X := cx B) (fn := Tryz.f130) Tryz.func130 rfl rfl rfl rfl rfl 1 [] rfl rfl ?_
  refine walk ?_
  rw [show IntKind.u64.wrap (w : Int) = w from wrapN (by omega)]
  have h1 := rtake_calls B s p d w (by omega) hp hl'
  refine l_call [0] (h1) rfl rfl rfl rfl rfl rfl rfl (by decide) rfl rfl rfl rfl rfl ?_
  refine walk ?_
  have hle : (tR s p w).1.length ≤ 8 := by unfold tR; split <;> simp; omega
  unfold lR
  generalize (tR s p w).1 = q at *
  generalize (tR s p w).2.1 = p'
  generalize (tR s p w).2.2 = e'
  refine l_loop (fun i : Nat => 9 - i) (fun i => [(5, uT (leN (q.take i))), (12, .d (.sl false (q.map byteD))), (13, iT (q.map byteD).length), (14, iT i)]) (fun _ => [rdOb s p' e' d]) (fun i => i ≤ q.length) 0 (by omega) ⟨rfl, rfl, rfl, rfl, trivial⟩ rfl 1 rfl (fun _ => rfl) (fun _ => rfl) (fun _ => rfl) ?_
  intro i hi
  refine walk ?_
  refine r_cond rfl (fun hc => ?_) (fun hc => ?_)
  · have hlt : i < q.length := by have := of_decide_eq_true hc; simp at this; omega
    obtain ⟨c, hci⟩ : ∃ c, q[i]? = some c := ⟨_, List.getElem?_eq_getElem hlt⟩
    have hcc := byte_lt c
    refine walk ?_
    refine l_step (.indexAddr (k := .i64) (n := i) (es := q.map byteD) (u := byteD c) rfl rfl rfl rfl (.inl ⟨_, rfl⟩) rfl (by omega) (by simp [hci]) rfl (by decide)) rfl rfl ?_
    refine walk ?_
    have hw8 : IntKind.i64.wrap (8 * (i : Int)) = ((8 * i : Nat) : Int) := by rw [wrapI (by omega) (by omega)]; omega
    refine l_step (.shl (k := .u64) (j := .i64) rfl rfl rfl (by rw [hw8]; omega)) rfl rfl ?_
    have htl : (q.take i).length = i := by simp; omega
    have hlo := leN_lt (q.take i)
    have hpw : 256 ^ i = 2 ^ (8 * i) := by rw [show 256 = 2 ^ 8 from rfl, ← Nat.pow_mul]
    rw [htl, hpw] at hlo
    have hb2 : c.toNat * 2 ^ (8 * i) ≤ 255 * 2 ^ (8 * i) := Nat.mul_le_mul_right _ (by omega)
    have hb3 : 2 ^ (8 * i) ≤ 2 ^ 56 := Nat.pow_le_pow_right (by omega) (by omega)
    simp at hb3
    have hsh : IntKind.u64.wrap (IntKind.u64.wrap (c.toNat : Int) * 2 ^ min (IntKind.i64.wrap (8 * (i : Int))).toNat IntKind.u64.bits) = ((c.toNat * 2 ^ (8 * i) : Nat) : Int) := by
      rw [hw8, show IntKind.u64.bits = 64 from rfl, show min ((8 * i : Nat) : Int).toNat 64 = 8 * i by omega, wrapN (n := c.toNat) (by omega)]
      have := wrapN (n := c.toNat * 2 ^ (8 * i)) (by omega)
      rw [← this]; congr 1
    rw [hsh]
    refine walk ?_
    rw [or64 (i := 8 * i) hlo (by omega)]
    have hsn : leN (q.take i) + c.toNat * 2 ^ (8 * i) = leN (q.take (i + 1)) := by
      rw [List.take_add_one, hci, Option.toList_some, leN_snoc, htl, hpw]
    rw [hsn, show IntKind.i64.wrap ((i : Int) + 1) = ((i + 1 : Nat) : Int) by rw [wrapI (by omega) (by omega)]; omega]
    exact ⟨i + 1, by omega, by omega, ⟨rfl, rfl, rfl, rfl, trivial⟩, rfl, wk_eq rfl⟩
  · have hge : i = q.length := by have := of_decide_eq_false hc; simp at this; omega
    refine walk ?_
    rw [hge, List.take_length]
    exact l_end trivial (by decide) rfl rfl rfl rfl rfl
end Go.Proofs.YtfbckigcelmopaaGreatDoor
