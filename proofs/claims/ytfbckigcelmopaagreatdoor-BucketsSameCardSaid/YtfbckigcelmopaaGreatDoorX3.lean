/- Tags, records, groups: what the reader answers. -/
import Derived.Test.YtfbckigcelmopaaGreatDoorX2
set_option linter.unusedSimpArgs false
set_option linter.unusedVariables false
set_option maxRecDepth 100000
namespace Go.Proofs.YtfbckigcelmopaaGreatDoor
open Go Go.Abs
variable (B : Fr)
/-- A tag: number, type, where it ends. -/
def tagE (s : List UInt8) (p : Nat) : Except Er (Nat × Nat × Nat) :=
  match vE s p with
  | .error e => .error e
  | .ok (n, q) => if n / 8 < 1 ∨ 536870911 < n / 8 then .error (.loc p (.code 3)) else .ok (n / 8, n % 8, q)
/-- The reader behind an error. -/
def rdErr (s : List UInt8) (e : Er) (d : Int) : Ob := .mu [sT s, .undef, .d (eD (some e)), iT d]
theorem tagE_ok {s : List UInt8} {p n k q : Nat} (h : tagE s p = .ok (n, k, q)) : p < q ∧ q ≤ s.length ∧ n ≤ 536870911 ∧ 1 ≤ n ∧ k < 8 := by
  unfold tagE at h
  split at h <;> (try (simp at h; done))
  rename_i m r e
  split at h <;> (try (simp at h; done))
  obtain ⟨g1, g2, g3⟩ := vE_ok e
  injection h with h; injection h with h1 h2; injection h2 with h2 h3
  subst h1; subst h2; subst h3
  refine ⟨g1, g2, by omega, by omega, by omega⟩

theorem shr3 (n : Nat) : Int.fdiv (n : Int) (2 ^ min 3 IntKind.u64.bits) = ((n / 8 : Nat) : Int) := shrN n 3 (by omega)
theorem and7 {m : Nat} (hm : m < 2 ^ 64) : IntKind.i64.wrap (IntKind.u64.wrap ((BitVec.ofInt IntKind.u64.bits (m : Int) &&& BitVec.ofInt IntKind.u64.bits 7).toNat : Int)) = ((m % 8 : Nat) : Int) := by
  have := and64 hm 3 (by omega)
  rw [show ((2 ^ 3 - 1 : Nat) : Int) = 7 from rfl, show 2 ^ 3 = 8 from rfl] at this
  rw [this]; exact wrapI (by omega) (by omega)
theorem andBig {m : Nat} (hm : m ≤ 536870911) : IntKind.i64.wrap (IntKind.u64.wrap ((BitVec.ofInt IntKind.u64.bits (m : Int) &&& BitVec.ofInt IntKind.u64.bits 536870911).toNat : Int)) = (m : Int) := by
  have := and64 (m := m) (by omega) 29 (by omega)
  rw [show ((2 ^ 29 - 1 : Nat) : Int) = 536870911 from rfl, show 2 ^ 29 = 536870912 from rfl, Nat.mod_eq_of_lt (by omega)] at this
  rw [this]; exact wrapI (by omega) (by omega)

def tgA (m : Nat) : Int := IntKind.i64.wrap (IntKind.u64.wrap ((BitVec.ofInt IntKind.u64.bits (Int.fdiv (m : Int) (2 ^ min 3 IntKind.u64.bits)) &&& BitVec.ofInt IntKind.u64.bits 536870911).toNat : Int))
def tgB (m : Nat) : Int := IntKind.i64.wrap (IntKind.u64.wrap ((BitVec.ofInt IntKind.u64.bits (m : Int) &&& BitVec.ofInt IntKind.u64.bits 7).toNat : Int))

/-- At a tag that may be the reader tells it; else it has an error, and what it tells does not count. -/
theorem rtag_calls (s : List UInt8) (p : Nat) (d : Int) (hp : p ≤ s.length) (hl : s.length < big) :
    (∀ n k q, tagE s p = .ok (n, k, q) → CallsA (cx B) 113 [.ptr 0 0] [rdOb s p none d] (.tup [iT n, iT k]) [rdOb s q none d]) ∧
    (∀ e, tagE s p = .error e → ∃ (a b : Int) (p' : Nat), CallsA (cx B) 113 [.ptr 0 0] [rdOb s p none d] (.tup [.d (.int .i64 a), .d (.int .i64 b)]) [rdOb s p' (some e) d]) := by
  have hl' := hl
  unfold big at hl
  have h1 := rvarint_calls B s p d hp hl'
  unfold vR at h1
  constructor
  · intro n k q ht
    unfold tagE at ht
    cases hv : vE s p with
    | error e => rw [hv] at ht; simp at ht
    | ok mq =>
      obtain ⟨m, r⟩ := mq
      rw [hv] at ht h1
      dsimp only at ht h1
      split at ht <;> (try (simp at ht; done))
      rename_i hc
      injection ht with ht; injection ht with e1 e2; injection e2 with e2 e3
      subst e1; subst e2; subst e3
      obtain ⟨g1, g2, g3⟩ := vE_ok hv
      refine l_body (X := cx B) (fn := Tryz.f113) Tryz.func113 rfl rfl rfl rfl rfl 1 [] rfl rfl ?_
      refine walk ?_
      refine l_call [0] (h1) rfl rfl rfl rfl rfl rfl rfl (by decide) rfl rfl rfl rfl rfl ?_
      refine walk ?_
      rw [shr3, show decide (((m / 8 : Nat) : Int) < 1) = false from decide_eq_false (by omega)]
      refine walk ?_
      rw [shr3, show decide (((m / 8 : Nat) : Int) > 536870911) = false from decide_eq_false (by omega)]
      refine walk ?_
      rw [and7 g3, shr3, andBig (by omega)]
      exact l_end trivial (by decide) rfl rfl rfl rfl rfl
  · intro e ht
    unfold tagE at ht
    cases hv : vE s p with
    | error e =>
      rw [hv] at ht h1
      dsimp only at ht h1
      injection ht with ht; subst ht
      refine ⟨tgA 0, tgB 0, p, ?_⟩
      refine l_body (X := cx B) (fn := Tryz.f113) Tryz.func113 rfl rfl rfl rfl rfl 1 [] rfl rfl ?_
      refine walk ?_
      refine l_call [0] (h1) rfl rfl rfl rfl rfl rfl rfl (by decide) rfl rfl rfl rfl rfl ?_
      cases e <;> (
      refine walk ?_
      exact l_end trivial (by decide) rfl rfl rfl rfl rfl)
    | ok mq =>
      obtain ⟨m, r⟩ := mq
      rw [hv] at ht h1
      dsimp only at ht h1
      split at ht <;> (try (simp at ht; done))
      rename_i hc
      injection ht with ht; subst ht
      refine ⟨tgA m, tgB m, r, ?_⟩
      refine l_body (X := cx B) (fn := Tryz.f113) Tryz.func113 rfl rfl rfl rfl rfl 1 [] rfl rfl ?_
      refine walk ?_
      refine l_call [0] (h1) rfl rfl rfl rfl rfl rfl rfl (by decide) rfl rfl rfl rfl rfl ?_
      refine walk ?_
      rw [shr3]
      cases hb : decide (((m / 8 : Nat) : Int) < 1) with
      | true =>
        refine walk ?_
        refine l_call [0] (rfails_calls B s r d p 3) rfl rfl rfl rfl rfl rfl rfl (by decide) rfl rfl rfl rfl rfl ?_
        refine walk ?_
        exact l_end trivial (by decide) rfl rfl rfl rfl rfl
      | false =>
        have := of_decide_eq_false hb
        refine walk ?_
        rw [shr3, show decide (((m / 8 : Nat) : Int) > 536870911) = true from decide_eq_true (by omega)]
        refine walk ?_
        refine l_call [0] (rfails_calls B s r d p 3) rfl rfl rfl rfl rfl rfl rfl (by decide) rfl rfl rfl rfl rfl ?_
        refine walk ?_
        exact l_end trivial (by decide) rfl rfl rfl rfl rfl
/-- Behind an error: nothing turns. -/
theorem rfails_err (s : List UInt8) (p : Nat) (e : Er) (d : Int) (q c : Int) : CallsA (cx B) 129 [.ptr 0 0, .d (.int .i64 q), .d (Er.code c).d] [rdOb s p (some e) d] (.tup []) [rdOb s p (some e) d] := by
  refine l_body (X := cx B) (fn := Tryz.f129) Tryz.func129 rfl rfl rfl rfl rfl 1 [] rfl rfl ?_
  cases e <;>
  (refine walk ?_) <;>
  exact l_end trivial (by decide) rfl rfl rfl rfl rfl
theorem rlittle_err (s : List UInt8) (p : Nat) (e : Er) (d : Int) (w : Nat) (hw : w ≤ 8) : CallsA (cx B) 130 [.ptr 0 0, iT w] [rdOb s p (some e) d] (uT 0) [rdOb s p (some e) d] := by
  refine l_body (X := cx B) (fn := Tryz.f130) Tryz.func130 rfl rfl rfl rfl rfl 1 [] rfl rfl ?_
  refine walk ?_
  rw [show IntKind.u64.wrap (w : Int) = w from wrapN (by omega)]
  refine l_call [0] (rtake_err B s p e d w) rfl rfl rfl rfl rfl rfl rfl (by decide) rfl rfl rfl rfl rfl ?_
  refine walk ?_
  refine l_loop (fun _ : Unit => 0) (fun _ => [(5, uT 0), (13, iT 0), (14, iT 0)]) (fun _ => [rdOb s p (some e) d]) (fun _ => True) () trivial ⟨rfl, rfl, rfl, trivial⟩ rfl 1 rfl (fun _ => rfl) (fun _ => rfl) (fun _ => rfl) ?_
  intro _ _
  refine walk ?_
  exact l_end trivial (by decide) rfl rfl rfl rfl rfl
theorem group_err (s : List UInt8) (p : Nat) (e : Er) (d : Int) (num : Int) (hd1 : -9223372036854775808 ≤ d) (hd2 : d < 9223372036854775808) : CallsA (cx B) 132 [.ptr 0 0, .d (.int .i64 num)] [rdOb s p (some e) d] (.tup []) [rdOb s p (some e) d] := by
  refine l_body (X := cx B) (fn := Tryz.f132) Tryz.func132 rfl rfl rfl rfl rfl 1 [] rfl rfl ?_
  refine walk ?_
  refine r_cond rfl (fun h => ?_) (fun h => ?_)
  · refine walk ?_
    refine l_call [0] (rfails_err B s p e d p 6) rfl rfl rfl rfl rfl rfl rfl (by decide) rfl rfl rfl rfl rfl ?_
    refine walk ?_
    exact l_end trivial (by decide) rfl rfl rfl rfl rfl
  · have h' := of_decide_eq_false h
    refine walk ?_
    refine l_loop (fun _ : Unit => 0) (fun _ => [(0, .ptr 0 0)]) (fun _ => [rdOb s p (some e) (IntKind.i64.wrap (d - 1))]) (fun _ => True) () trivial ⟨rfl, trivial⟩ rfl 1 rfl (fun _ => rfl) (fun _ => rfl) (fun _ => rfl) ?_
    intro _ _
    have hw : IntKind.i64.wrap (IntKind.i64.wrap (d - 1) + 1) = d := by rw [wrapI (n := d - 1) (by omega) (by omega), wrapI (by omega) (by omega)]; omega
    cases e <;> (
    refine walk ?_
    rw [hw]
    exact l_end trivial (by decide) rfl rfl rfl rfl rfl)
def rcO (a b : Int) : Ob := .mu [.d (.int .i64 a), .d (.int .i64 b), uT 0, sT [], sT []]
theorem rest_err (s : List UInt8) (p : Nat) (e : Er) (d : Int) (a b : Int) (q : Nat) (hd1 : -9223372036854775808 ≤ d) (hd2 : d < 9223372036854775808) : CallsA (cx B) 114 [.ptr 0 0, .ptr 1 0, iT q] [rdOb s p (some e) d, rcO a b] (.tup []) [rdOb s p (some e) d, rcO a b] := by
  refine l_body (X := cx B) (fn := Tryz.f114) Tryz.func114 rfl rfl rfl rfl rfl 2 [] rfl rfl ?_
  refine walk ?_
  refine r_cond rfl (fun h0 => ?_) (fun h0 => ?_)
  · refine walk ?_
    refine l_call [0] (rvarint_err B s p e d) rfl rfl rfl rfl rfl rfl rfl (by decide) rfl rfl rfl rfl rfl ?_
    refine walk ?_
    exact l_end trivial (by decide) rfl rfl rfl rfl rfl
  refine walk ?_
  refine r_cond rfl (fun h1 => ?_) (fun h1 => ?_)
  · refine walk ?_
    refine l_call [0] (rlittle_err B s p e d 8 (by omega)) rfl rfl rfl rfl rfl rfl rfl (by decide) rfl rfl rfl rfl rfl ?_
    refine walk ?_
    exact l_end trivial (by decide) rfl rfl rfl rfl rfl
  refine walk ?_
  refine r_cond rfl (fun h5 => ?_) (fun h5 => ?_)
  · refine walk ?_
    refine l_call [0] (rlittle_err B s p e d 4 (by omega)) rfl rfl rfl rfl rfl rfl rfl (by decide) rfl rfl rfl rfl rfl ?_
    refine walk ?_
    exact l_end trivial (by decide) rfl rfl rfl rfl rfl
  refine walk ?_
  refine r_cond rfl (fun h2 => ?_) (fun h2 => ?_)
  · refine walk ?_
    refine l_call [0] (rvarint_err B s p e d) rfl rfl rfl rfl rfl rfl rfl (by decide) rfl rfl rfl rfl rfl ?_
    refine l_call [0] (rtake_err B s p e d 0) rfl rfl rfl rfl rfl rfl rfl (by decide) rfl rfl rfl rfl rfl ?_
    refine walk ?_
    exact l_end trivial (by decide) rfl rfl rfl rfl rfl
  refine walk ?_
  refine r_cond rfl (fun h3 => ?_) (fun h3 => ?_)
  · refine walk ?_
    refine l_call [0] (group_err B s p e d a hd1 hd2) rfl rfl rfl rfl rfl rfl rfl (by decide) rfl rfl rfl rfl rfl ?_
    refine walk ?_
    exact l_end trivial (by decide) rfl rfl rfl rfl rfl
  refine walk ?_
  refine l_call [0] (rfails_err B s p e d q 3) rfl rfl rfl rfl rfl rfl rfl (by decide) rfl rfl rfl rfl rfl ?_
  refine walk ?_
  exact l_end trivial (by decide) rfl rfl rfl rfl rfl
end Go.Proofs.YtfbckigcelmopaaGreatDoor
