/- The reference: records. -/
import Derived.Test.YtfbckigcelmopaaGreatDoorR0
set_option linter.unusedSimpArgs false
set_option linter.unusedVariables false
set_option maxRecDepth 100000
namespace Go.Proofs.YtfbckigcelmopaaGreatDoor
open Go Go.Abs
variable (B : Fr)
theorem vrd_ne : ∀ {l : List UInt8} {i a c : Nat}, vrd l i a = .error c → c ≠ 0
  | [], i, a, c, h => by simp [vrd] at h; omega
  | x :: l, i, a, c, h => by
    unfold vrd at h
    split at h
    · injection h with h; omega
    · split at h
      · injection h with h; omega
      · split at h
        · simp at h
        · exact vrd_ne h
/-- What the reference tells of a record. -/
def rnT : Except Er (Fld × Nat) → T
  | .ok (r, q) => .tup [.d r.d, iT q, .d (.bool true)]
  | .error _ => .tup [.d zFld, iT 0, .d (.bool false)]
def rgpT : Except Er Nat → T
  | .ok q => .tup [iT q, .d (.bool true)]
  | .error _ => .tup [.d (.int .i64 0), .d (.bool false)]
/-- What is asked of the reference's walk over a group. -/
def RGrp (s : List UInt8) (f : Nat) (d : Int) (num p : Nat) : Prop :=
  (∀ q, grpE s f d num p = .ok q → CallsA (cx B) 118 [sT s, iT p, iT num, .d (.int .i64 d)] [] (.tup [iT q, .d (.bool true)]) []) ∧
  (∀ e, grpE s f d num p = .error e → ∃ z : Int, CallsA (cx B) 118 [sT s, iT p, iT num, .d (.int .i64 d)] [] (.tup [.d (.int .i64 z), .d (.bool false)]) [])
def recF (s : List UInt8) (f : Nat) (d : Int) (p : Nat) : Except Er (Fld × Nat) :=
  match tagE s p with
  | .error e => .error e
  | .ok (n, k, q) => match restG (grp s f) s d n k p q with
    | .error e => .error e
    | .ok (N, t, r) => .ok (⟨n, k, N, t, (s.drop p).take (r - p)⟩, r)
theorem recF_recE (s : List UInt8) (d : Int) (p : Nat) : recF s (s.length + 1) d p = recE s d p := rfl
theorem rNext_calls (s : List UInt8) (f : Nat) (d : Int) (p : Nat) (hp : p ≤ s.length) (hl : s.length < big) (hg : ∀ n q, 1 ≤ n → n ≤ 536870911 → q ≤ s.length → p < q → RGrp B s f d n q) :
    CallsA (cx B) 97 [sT s, iT p, .d (.int .i64 d)] [] (rnT (recF s f d p)) [] := by
  have hl' := hl
  unfold big at hl'
  have h1 := rGet_calls B s p hp hl
  unfold rgT at h1
  unfold recF tagE vE
  cases hv : vrd (s.drop p) 0 0 with
  | error c =>
    rw [hv] at h1
    dsimp only at h1 ⊢
    have hc : ((c : Int) != 0) = true := by
      have : c ≠ 0 := vrd_ne hv
      simp; omega
    refine l_body (X := cx B) (fn := Tryz.f97) Tryz.func97 rfl rfl rfl rfl rfl 0 [] rfl rfl ?_
    refine walk ?_
    refine l_call [] (h1) rfl rfl rfl rfl rfl rfl rfl (by decide) rfl rfl rfl rfl rfl ?_
    refine walk ?_
    rw [hc]
    refine walk ?_
    exact l_end trivial (by decide) rfl rfl rfl rfl rfl
  | ok nk =>
    obtain ⟨n, k⟩ := nk
    have hve : vE s p = .ok (n, p + k) := by unfold vE; rw [hv]
    obtain ⟨g1, g2, g3⟩ := vE_ok hve
    rw [hv] at h1
    dsimp only at h1 ⊢
    have hd8 : n / 8 < 2 ^ 64 := by omega
    by_cases ht : n / 8 < 1 ∨ 536870911 < n / 8
    · rw [if_pos ht]
      refine l_body (X := cx B) (fn := Tryz.f97) Tryz.func97 rfl rfl rfl rfl rfl 0 [] rfl rfl ?_
      refine walk ?_
      refine l_call [] (h1) rfl rfl rfl rfl rfl rfl rfl (by decide) rfl rfl rfl rfl rfl ?_
      refine walk ?_
      rw [shr3]
      by_cases ha : n / 8 < 1
      · rw [show decide (((n / 8 : Nat) : Int) < 1) = true from decide_eq_true (by omega)]
        refine walk ?_
        exact l_end trivial (by decide) rfl rfl rfl rfl rfl
      · rw [show decide (((n / 8 : Nat) : Int) < 1) = false from decide_eq_false (by omega)]
        refine walk ?_
        rw [shr3, show decide (((n / 8 : Nat) : Int) ≥ 536870912) = true from decide_eq_true (by omega)]
        refine walk ?_
        exact l_end trivial (by decide) rfl rfl rfl rfl rfl
    · rw [if_neg ht]
      dsimp only
      have hnm : IntKind.i64.wrap ((n / 8 : Nat) : Int) = ((n / 8 : Nat) : Int) := wrapI (by omega) (by omega)
      have hk7 := and7 g3
      have hkd : n % 8 < 8 := Nat.mod_lt _ (by omega)
      have h2 := rGet_calls B s (p + k) (by omega) hl
      unfold rgT at h2
      refine l_body (X := cx B) (fn := Tryz.f97) Tryz.func97 rfl rfl rfl rfl rfl 0 [] rfl rfl ?_
      refine walk ?_
      refine l_call [] (h1) rfl rfl rfl rfl rfl rfl rfl (by decide) rfl rfl rfl rfl rfl ?_
      refine walk ?_
      rw [shr3, show decide (((n / 8 : Nat) : Int) < 1) = false from decide_eq_false (by omega)]
      refine walk ?_
      rw [shr3, show decide (((n / 8 : Nat) : Int) ≥ 536870912) = false from decide_eq_false (by omega)]
      refine walk ?_
      rw [shr3, hnm, hk7]
      generalize hn8 : n / 8 = nm at *
      generalize hn7 : n % 8 = kd at *
      have key : ∀ (c : Nat), kd = c → c ≠ 0 → c ≠ 1 → c ≠ 5 → c ≠ 2 → c ≠ 3 → restG (grp s f) s d nm kd p (p + k) = .error (.loc p (.code 3)) := by
        rintro c rfl a1 a2 a3 a4 a5
        unfold restG
        rw [if_neg a1, if_neg a2, if_neg a3, if_neg a4, if_neg a5]
      by_cases k0 : kd = 0
      · subst k0
        unfold restG
        rw [if_pos rfl]
        cases hv2 : vrd (s.drop (p + k)) 0 0 with
        | error c =>
          have hve2 : vE s (p + k) = .error (.loc (p + k : Nat) (.code c)) := by unfold vE; rw [hv2]
          rw [hv2] at h2
          rw [hve2]
          dsimp only at h2 ⊢
          have hc : ((c : Int) != 0) = true := by have : c ≠ 0 := vrd_ne hv2; simp; omega
          refine walk ?_
          refine l_call [] (h2) rfl rfl rfl rfl rfl rfl rfl (by decide) rfl rfl rfl rfl rfl ?_
          refine walk ?_
          rw [hc]
          refine walk ?_
          exact l_end trivial (by decide) rfl rfl rfl rfl rfl
        | ok m =>
          obtain ⟨m, j⟩ := m
          have hve2 : vE s (p + k) = .ok (m, p + k + j) := by unfold vE; rw [hv2]
          obtain ⟨q1, q2, q3⟩ := vE_ok hve2
          rw [hv2] at h2
          rw [hve2]
          dsimp only at h2 ⊢
          refine walk ?_
          refine l_call [] (h2) rfl rfl rfl rfl rfl rfl rfl (by decide) rfl rfl rfl rfl rfl ?_
          refine walk ?_
          refine l_step (.sliceStr (s := s) (l := p) (h := p + k + j) rfl rfl rfl rfl ⟨.i64, rfl⟩ ⟨.i64, rfl⟩ (by omega) (by omega)) rfl rfl ?_
          refine walk ?_
          exact l_end trivial (by decide) rfl rfl rfl rfl rfl
      by_cases k1 : kd = 1
      · subst k1
        unfold restG takeE
        rw [if_neg (by decide)]; rw [if_pos rfl]
        refine walk ?_
        rw [show IntKind.i64.wrap ((s.length : Int) - ((p + k : Nat) : Int)) = ((s.length - (p + k) : Nat) : Int) by rw [wrapI (by omega) (by omega)]; omega]
        by_cases hc : s.length - (p + k) < 8
        · rw [if_pos hc, show decide (((s.length - (p + k) : Nat) : Int) < 8) = true from decide_eq_true (by omega)]
          refine walk ?_
          exact l_end trivial (by decide) rfl rfl rfl rfl rfl
        · rw [if_neg hc, show decide (((s.length - (p + k) : Nat) : Int) < 8) = false from decide_eq_false (by omega)]
          have hf := fixed2_calls B ((s.drop (p + k)).take 8) (by simp; omega)
          have ha : IntKind.i64.wrap (((p + k : Nat) : Int) + 8) = ((p + k + 8 : Nat) : Int) := by rw [wrapI (by omega) (by omega)]; omega
          refine walk ?_
          rw [ha]
          refine l_step (.sliceStr (s := s) (l := p + k) (h := p + k + 8) rfl rfl rfl rfl ⟨.i64, rfl⟩ ⟨.i64, rfl⟩ (by omega) (by omega)) rfl rfl ?_
          rw [show p + k + 8 - (p + k) = 8 by omega]
          refine l_call [] (hf) rfl rfl rfl rfl rfl rfl rfl (by decide) rfl rfl rfl rfl rfl ?_
          refine walk ?_
          rw [ha]
          refine l_step (.sliceStr (s := s) (l := p) (h := p + k + 8) rfl rfl rfl rfl ⟨.i64, rfl⟩ ⟨.i64, rfl⟩ (by omega) (by omega)) rfl rfl ?_
          refine walk ?_
          exact l_end trivial (by decide) rfl rfl rfl rfl rfl
      by_cases k5 : kd = 5
      · subst k5
        unfold restG takeE
        rw [if_neg (by decide), if_neg (by decide)]; rw [if_pos rfl]
        refine walk ?_
        rw [show IntKind.i64.wrap ((s.length : Int) - ((p + k : Nat) : Int)) = ((s.length - (p + k) : Nat) : Int) by rw [wrapI (by omega) (by omega)]; omega]
        by_cases hc : s.length - (p + k) < 4
        · rw [if_pos hc, show decide (((s.length - (p + k) : Nat) : Int) < 4) = true from decide_eq_true (by omega)]
          refine walk ?_
          exact l_end trivial (by decide) rfl rfl rfl rfl rfl
        · rw [if_neg hc, show decide (((s.length - (p + k) : Nat) : Int) < 4) = false from decide_eq_false (by omega)]
          have hf := fixed2_calls B ((s.drop (p + k)).take 4) (by simp; omega)
          have ha : IntKind.i64.wrap (((p + k : Nat) : Int) + 4) = ((p + k + 4 : Nat) : Int) := by rw [wrapI (by omega) (by omega)]; omega
          refine walk ?_
          rw [ha]
          refine l_step (.sliceStr (s := s) (l := p + k) (h := p + k + 4) rfl rfl rfl rfl ⟨.i64, rfl⟩ ⟨.i64, rfl⟩ (by omega) (by omega)) rfl rfl ?_
          rw [show p + k + 4 - (p + k) = 4 by omega]
          refine l_call [] (hf) rfl rfl rfl rfl rfl rfl rfl (by decide) rfl rfl rfl rfl rfl ?_
          refine walk ?_
          rw [ha]
          refine l_step (.sliceStr (s := s) (l := p) (h := p + k + 4) rfl rfl rfl rfl ⟨.i64, rfl⟩ ⟨.i64, rfl⟩ (by omega) (by omega)) rfl rfl ?_
          refine walk ?_
          exact l_end trivial (by decide) rfl rfl rfl rfl rfl
      by_cases k2 : kd = 2
      · subst k2
        unfold restG takeE
        rw [if_neg (by decide), if_neg (by decide), if_neg (by decide), if_pos rfl]
        cases hv2 : vrd (s.drop (p + k)) 0 0 with
        | error c =>
          have hve2 : vE s (p + k) = .error (.loc (p + k : Nat) (.code c)) := by unfold vE; rw [hv2]
          rw [hv2] at h2
          rw [hve2]
          dsimp only at h2 ⊢
          have hc : ((c : Int) != 0) = true := by have : c ≠ 0 := vrd_ne hv2; simp; omega
          refine walk ?_
          refine l_call [] (h2) rfl rfl rfl rfl rfl rfl rfl (by decide) rfl rfl rfl rfl rfl ?_
          refine walk ?_
          rw [hc]
          refine walk ?_
          exact l_end trivial (by decide) rfl rfl rfl rfl rfl
        | ok m =>
          obtain ⟨m, j⟩ := m
          have hve2 : vE s (p + k) = .ok (m, p + k + j) := by unfold vE; rw [hv2]
          obtain ⟨q1, q2, q3⟩ := vE_ok hve2
          rw [hv2] at h2
          rw [hve2]
          dsimp only at h2 ⊢
          have hlen : IntKind.u64.wrap (IntKind.i64.wrap ((s.length : Int) - ((p + k + j : Nat) : Int))) = ((s.length - (p + k + j) : Nat) : Int) := by rw [wrapI (by omega) (by omega), wrapU (by omega) (by omega)]; omega
          refine walk ?_
          refine l_call [] (h2) rfl rfl rfl rfl rfl rfl rfl (by decide) rfl rfl rfl rfl rfl ?_
          refine walk ?_
          rw [hlen]
          by_cases hc : s.length - (p + k + j) < m
          · rw [if_pos hc, show decide ((m : Int) > ((s.length - (p + k + j) : Nat) : Int)) = true from decide_eq_true (by omega)]
            refine walk ?_
            exact l_end trivial (by decide) rfl rfl rfl rfl rfl
          · rw [if_neg hc, show decide ((m : Int) > ((s.length - (p + k + j) : Nat) : Int)) = false from decide_eq_false (by omega)]
            have hm : IntKind.i64.wrap (m : Int) = m := wrapI (by omega) (by omega)
            have ha : IntKind.i64.wrap (((p + k + j : Nat) : Int) + m) = ((p + k + j + m : Nat) : Int) := by rw [wrapI (by omega) (by omega)]; omega
            refine walk ?_
            rw [hm, ha]
            refine l_step (.sliceStr (s := s) (l := p + k + j) (h := p + k + j + m) rfl rfl rfl rfl ⟨.i64, rfl⟩ ⟨.i64, rfl⟩ (by omega) (by omega)) rfl rfl ?_
            rw [show p + k + j + m - (p + k + j) = m by omega]
            refine walk ?_
            rw [hm, ha]
            refine l_step (.sliceStr (s := s) (l := p) (h := p + k + j + m) rfl rfl rfl rfl ⟨.i64, rfl⟩ ⟨.i64, rfl⟩ (by omega) (by omega)) rfl rfl ?_
            refine walk ?_
            exact l_end trivial (by decide) rfl rfl rfl rfl rfl
      by_cases k3 : kd = 3
      · subst k3
        obtain ⟨hg1, hg2⟩ := hg nm (p + k) (by omega) (by omega) (by omega) (by omega)
        unfold grpE at hg1 hg2
        unfold restG
        rw [if_neg (by decide), if_neg (by decide), if_neg (by decide), if_neg (by decide), if_pos rfl]
        have hgo : ∀ q, (if d < 1 then Except.error (Er.loc ((p + k : Nat) : Int) (Er.code 6)) else grp s f (d - 1) nm (p + k)) = .ok q → p + k ≤ q ∧ q ≤ s.length := fun q hq => by
          split at hq
          · simp at hq
          · exact grp_ok f _ _ _ _ hq (by omega)
        generalize (if d < 1 then Except.error (Er.loc ((p + k : Nat) : Int) (Er.code 6)) else grp s f (d - 1) nm (p + k)) = G at *
        cases G with
        | ok q0 =>
          have h3 := hg1 q0 rfl
          obtain ⟨o1, o2⟩ := hgo q0 rfl
          refine walk ?_
          refine l_call [] (h3) rfl rfl rfl rfl rfl rfl rfl (by decide) rfl rfl rfl rfl rfl ?_
          refine walk ?_
          refine l_step (.sliceStr (s := s) (l := p) (h := q0) rfl rfl rfl rfl ⟨.i64, rfl⟩ ⟨.i64, rfl⟩ (by omega) (by omega)) rfl rfl ?_
          refine walk ?_
          exact l_end trivial (by decide) rfl rfl rfl rfl rfl
        | error e0 =>
          obtain ⟨z, h3⟩ := hg2 e0 rfl
          refine walk ?_
          refine l_call [] (h3) rfl rfl rfl rfl rfl rfl rfl (by decide) rfl rfl rfl rfl rfl ?_
          refine walk ?_
          exact l_end trivial (by decide) rfl rfl rfl rfl rfl
      rw [key kd rfl k0 k1 k5 k2 k3]
      dsimp only
      have hk' : kd = 4 ∨ kd = 6 ∨ kd = 7 := by omega
      rcases hk' with rfl | rfl | rfl <;> (
        refine walk ?_
        exact l_end trivial (by decide) rfl rfl rfl rfl rfl)
end Go.Proofs.YtfbckigcelmopaaGreatDoor
