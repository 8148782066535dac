/- Numbers, one behind the other. -/
import Derived.Test.YtfbckigcelmopaaGreatDoorX5
set_option linter.unusedSimpArgs false
set_option linter.unusedVariables false
set_option maxRecDepth 100000
namespace Go.Proofs.YtfbckigcelmopaaGreatDoor
open Go Go.Abs
variable (B : Fr)
def uD (n : Nat) : D := .int .u64 n
theorem u_fits (l : List Nat) : ∀ a ∈ l.map uD, a.fits 1 = true := by
  intro a ha
  obtain ⟨c, -, rfl⟩ := List.mem_map.1 ha
  rfl
def varsE (s : List UInt8) : Nat → Nat → Except Er (List Nat)
  | 0, _ => .ok []
  | f + 1, p => if p < s.length then (match vE s p with
      | .error e => .error e
      | .ok (n, q) => match varsE s f q with
        | .error e => .error e
        | .ok l => .ok (n :: l)) else .ok []
def vars (s : List UInt8) : Except Er (List Nat) := varsE s (s.length + 1) 0
def numsT : Except Er (List Nat) → T
  | .ok l => .tup [.d (slD (l.map uD)), .d .nili]
  | .error e => .tup [.d (.sl true []), .d e.d]
theorem varints_calls (s : List UInt8) (hl : s.length < big) : CallsA (cx B) 68 [sT s] [] (numsT (vars s)) [] := by
  have hl' := hl
  unfold big at hl'
  refine l_body (X := cx B) (fn := Tryz.f68) Tryz.func68 rfl rfl rfl rfl rfl 0 [] rfl rfl ?_
  refine walk ?_
  refine l_loop (fun x : Nat × Nat × List Nat => x.2.1) (fun x => [(0, sT s), (4, owT (x.2.2.map uD)), (5, .ptr 0 0)]) (fun x => [rdOb s x.1 none 0])
    (fun x => x.1 ≤ s.length ∧ s.length - x.1 < x.2.1 ∧ x.2.2.length ≤ x.1 ∧ vars s = (match varsE s x.2.1 x.1 with | .ok l => .ok (x.2.2 ++ l) | .error e => .error e)) (0, s.length + 1, []) ⟨by omega, by show s.length - 0 < s.length + 1; omega, by simp, ?_⟩ ⟨rfl, rfl, rfl, trivial⟩ rfl 1 rfl (fun _ => rfl) (fun _ => rfl) (fun _ => rfl) ?_
  · show vars s = _
    unfold vars
    dsimp only
    split <;> (rename_i h; rw [h]) <;> rfl
  rintro ⟨p, g, acc⟩ ⟨i1, i2, i3, i4⟩
  dsimp only at i1 i2 i3 i4 ⊢
  cases g with
  | zero => omega
  | succ g =>
  unfold varsE at i4
  refine walk ?_
  by_cases hp : p < s.length
  · rw [show decide ((p : Int) < s.length) = true from decide_eq_true (by omega)]
    rw [if_pos hp] at i4
    have h1 := rvarint_calls B s p 0 i1 hl
    unfold vR at h1
    cases hr : vE s p with
    | error e =>
      rw [hr] at i4 h1
      dsimp only at i4 h1
      rw [i4]
      refine walk ?_
      refine l_call [0] (h1) rfl rfl rfl rfl rfl rfl rfl (by decide) rfl rfl rfl rfl rfl ?_
      cases e <;> (
      refine walk ?_
      exact l_end trivial (by decide) rfl rfl rfl rfl rfl)
    | ok rq =>
      obtain ⟨n, q⟩ := rq
      obtain ⟨b1, b2, b3⟩ := vE_ok hr
      rw [hr] at i4 h1
      dsimp only at i4 h1
      refine walk ?_
      refine l_call [0] (h1) rfl rfl rfl rfl rfl rfl rfl (by decide) rfl rfl rfl rfl rfl ?_
      refine walk ?_
      (try refine l_open rfl ?_)
      refine l_step (.assignOwn (.inr rfl) rfl) rfl rfl ?_
      refine walk ?_
      refine l_step (.buildSlice (es := [uD n]) rfl rfl rfl rfl rfl rfl (by intro x hx; simp at hx; subst hx; rfl) (by simp) (by decide) (by decide)) rfl rfl ?_
      have hm : (acc.map uD).length + [uD n].length ≤ most := by simp [most]; omega
      refine l_step (.append' rfl rfl rfl rfl ⟨_, _, rfl, rfl, by intro q; simp⟩ rfl rfl rfl rfl rfl (by rw [show [uD n] = [n].map uD from rfl, ← List.map_append]; exact u_fits _) (by decide) rfl hm rfl) rfl rfl ?_
      refine l_step (.assignOwn (.inl rfl) rfl) rfl rfl ?_
      refine walk ?_
      exact ⟨(q, g, acc ++ [n]), Nat.lt_succ_self g, ⟨b2, by show s.length - q < g; omega, by show (acc ++ [n]).length ≤ q; simp; omega, by rw [i4]; cases varsE s g q <;> simp⟩, ⟨rfl, by show T.own _ _ = owT _; rw [List.map_append]; rfl, rfl, trivial⟩, rfl, wk_eq rfl⟩
  · rw [show decide ((p : Int) < s.length) = false from decide_eq_false (by omega)]
    rw [if_neg hp] at i4
    dsimp only at i4
    rw [List.append_nil] at i4
    rw [i4]
    refine walk ?_
    (try refine l_open rfl ?_)
    refine l_step (.moveShare rfl rfl) rfl rfl ?_
    refine walk ?_
    exact l_end trivial (by decide) rfl rfl rfl rfl rfl
end Go.Proofs.YtfbckigcelmopaaGreatDoor
