/- What stands behind a tag; groups: what the reader answers. -/
import Derived.Test.YtfbckigcelmopaaGreatDoorX3
set_option linter.unusedSimpArgs false
set_option linter.unusedVariables false
set_option maxRecDepth 100000
namespace Go.Proofs.YtfbckigcelmopaaGreatDoor
open Go Go.Abs
/-- So many bytes, told or not. -/
def takeE (s : List UInt8) (p n : Nat) : Except Er (List UInt8 × Nat) := if s.length - p < n then .error (.loc p (.code 1)) else .ok ((s.drop p).take n, p + n)
/-- What stands behind a tag; 'g': what a group's content comes to. -/
def restG (g : Int → Nat → Nat → Except Er Nat) (s : List UInt8) (d : Int) (num kind a p : Nat) : Except Er (Nat × List UInt8 × Nat) :=
  if kind = 0 then (match vE s p with | .ok (n, q) => .ok (n, [], q) | .error e => .error e)
  else if kind = 1 then (match takeE s p 8 with | .ok (l, q) => .ok (leN l, [], q) | .error e => .error e)
  else if kind = 5 then (match takeE s p 4 with | .ok (l, q) => .ok (leN l, [], q) | .error e => .error e)
  else if kind = 2 then (match vE s p with | .ok (n, q) => (match takeE s q n with | .ok (l, q') => .ok (0, l, q') | .error e => .error e) | .error e => .error e)
  else if kind = 3 then (match (if d < 1 then .error (.loc p (.code 6)) else g (d - 1) num p) with | .ok q => .ok (0, [], q) | .error e => .error e)
  else .error (.loc a (.code 3))
/-- A group's content: where it ends. -/
def grp (s : List UInt8) : Nat → Int → Nat → Nat → Except Er Nat
  | 0 => fun _ _ p => .error (.loc p (.code 1))
  | f + 1 => fun d num p => match tagE s p with
    | .error e => .error e
    | .ok (n, k, q) => if k = 4 then (if n = num then .ok q else .error (.loc p (.code 3)))
      else match restG (grp s f) s d n k p q with
        | .error e => .error e
        | .ok (_, _, q') => grp s f d num q'
theorem grp_succ (s : List UInt8) (f : Nat) (d : Int) (num p : Nat) : grp s (f + 1) d num p = (match tagE s p with
    | .error e => .error e
    | .ok (n, k, q) => if k = 4 then (if n = num then .ok q else .error (.loc p (.code 3)))
      else match restG (grp s f) s d n k p q with
        | .error e => .error e
        | .ok (_, _, q') => grp s f d num q') := rfl
theorem takeE_ok {s : List UInt8} {p n q : Nat} {l : List UInt8} (h : takeE s p n = .ok (l, q)) (hp : p ≤ s.length) : p ≤ q ∧ q ≤ s.length ∧ l.length = n ∧ q = p + n ∧ l = (s.drop p).take n := by
  unfold takeE at h
  split at h <;> (try (simp at h; done))
  injection h with h; injection h with h1 h2
  subst h1; subst h2
  refine ⟨by omega, by omega, by simp; omega, rfl, rfl⟩
theorem leN_lt8 {l : List UInt8} (h : l.length ≤ 8) : leN l < 2 ^ 64 := by
  have h1 := leN_lt l
  have : 256 ^ l.length ≤ 256 ^ 8 := Nat.pow_le_pow_right (by omega) h
  simp at this; omega
theorem restG_ok {g : Int → Nat → Nat → Except Er Nat} {s : List UInt8} {d : Int} {num kind a p n q : Nat} {t : List UInt8} (hg : ∀ d num p q, g d num p = .ok q → p ≤ s.length → p ≤ q ∧ q ≤ s.length) (h : restG g s d num kind a p = .ok (n, t, q)) (hp : p ≤ s.length) : p ≤ q ∧ q ≤ s.length ∧ n < 2 ^ 64 := by
  unfold restG at h
  split at h
  · split at h <;> (try (simp at h; done))
    rename_i e; injection h with h; injection h with h1 h2; injection h2 with h2 h3
    subst h1; subst h3
    obtain ⟨a, b, c⟩ := vE_ok e; exact ⟨by omega, b, c⟩
  split at h
  · split at h <;> (try (simp at h; done))
    rename_i e; injection h with h; injection h with h1 h2; injection h2 with h2 h3
    subst h1; subst h3
    obtain ⟨a, b, c, -⟩ := takeE_ok e hp; exact ⟨a, b, leN_lt8 (by omega)⟩
  split at h
  · split at h <;> (try (simp at h; done))
    rename_i e; injection h with h; injection h with h1 h2; injection h2 with h2 h3
    subst h1; subst h3
    obtain ⟨a, b, c, -⟩ := takeE_ok e hp; exact ⟨a, b, leN_lt8 (by omega)⟩
  split at h
  · split at h <;> (try (simp at h; done))
    rename_i e1
    split at h <;> (try (simp at h; done))
    rename_i e; injection h with h; injection h with h1 h2; injection h2 with h2 h3
    subst h1; subst h3
    obtain ⟨a1, b1, c1⟩ := vE_ok e1
    obtain ⟨a, b, c, -⟩ := takeE_ok e b1; exact ⟨by omega, b, by omega⟩
  split at h
  · split at h <;> (try (simp at h; done))
    rename_i e; injection h with h; injection h with h1 h2; injection h2 with h2 h3
    subst h1; subst h3
    split at e <;> (try (simp at e; done))
    obtain ⟨a, b⟩ := hg _ _ _ _ e hp
    exact ⟨a, b, by omega⟩
  · simp at h
theorem grp_ok {s : List UInt8} : ∀ (f : Nat) (d : Int) (num p q : Nat), grp s f d num p = .ok q → p ≤ s.length → p ≤ q ∧ q ≤ s.length
  | 0, _, _, _, _, h, _ => by simp [grp] at h
  | f + 1, d, num, p, q, h, hp => by
    rw [grp_succ] at h
    split at h <;> (try (simp at h; done))
    rename_i n k r e
    obtain ⟨a, b, -⟩ := tagE_ok e
    split at h
    · split at h <;> (try (simp at h; done))
      injection h with h; subst h; exact ⟨by omega, b⟩
    · split at h <;> (try (simp at h; done))
      rename_i e2
      obtain ⟨a2, b2, -⟩ := restG_ok (fun d n p q => grp_ok f d n p q) e2 b
      obtain ⟨a3, b3⟩ := grp_ok f _ _ _ _ h b2
      exact ⟨by omega, b3⟩
def rcOb (num kind n : Nat) (t raw : List UInt8) : Ob := .mu [iT num, iT kind, uT n, sT t, sT raw]
def rcErr (num kind : Nat) (raw : List UInt8) : Ob := .mu [iT num, iT kind, .undef, .undef, sT raw]
variable (B : Fr)
def grpE (s : List UInt8) (f : Nat) (d : Int) (num p : Nat) : Except Er Nat := if d < 1 then .error (.loc p (.code 6)) else grp s f (d - 1) num p
/-- What is asked of a group's walk. -/
def GrpOk (s : List UInt8) (f : Nat) (d : Int) (num p : Nat) : Prop :=
  (∀ q, grpE s f d num p = .ok q → CallsA (cx B) 132 [.ptr 0 0, iT num] [rdOb s p none d] (.tup []) [rdOb s q none d]) ∧
  (∀ e, grpE s f d num p = .error e → CallsA (cx B) 132 [.ptr 0 0, iT num] [rdOb s p none d] (.tup []) [rdErr s e d])

theorem rest_calls (s : List UInt8) (f : Nat) (d : Int) (num kind a p : Nat) (hp : p ≤ s.length) (hl : s.length < big) (hk : kind < 8) (hg : kind = 3 → GrpOk B s f d num p) :
    (∀ n t q, restG (grp s f) s d num kind a p = .ok (n, t, q) → CallsA (cx B) 114 [.ptr 0 0, .ptr 1 0, iT a] [rdOb s p none d, rcOb num kind 0 [] []] (.tup []) [rdOb s q none d, rcOb num kind n t []]) ∧
    (∀ e, restG (grp s f) s d num kind a p = .error e → CallsA (cx B) 114 [.ptr 0 0, .ptr 1 0, iT a] [rdOb s p none d, rcOb num kind 0 [] []] (.tup []) [rdErr s e d, rcErr num kind []]) := by
  have hl' := hl
  unfold big at hl
  have h1 := rvarint_calls B s p d hp hl'
  unfold vR at h1
  have key : ∀ (c : Nat), kind = c → c ≠ 0 → c ≠ 1 → c ≠ 5 → c ≠ 2 → c ≠ 3 → restG (grp s f) s d num kind a p = .error (.loc a (.code 3)) := by
    rintro c rfl a1 a2 a3 a4 a5
    unfold restG
    rw [if_neg a1, if_neg a2, if_neg a3, if_neg a4, if_neg a5]
  by_cases k0 : kind = 0
  · subst k0
    unfold restG
    rw [if_pos rfl]
    cases hv : vE s p with
    | ok mq =>
      obtain ⟨m, r⟩ := mq
      rw [hv] at h1
      dsimp only at h1 ⊢
      refine ⟨fun n t q e => ?_, fun e h => by simp at h⟩
      injection e with e; injection e with e1 e2; injection e2 with e2 e3
      subst e1; subst e2; subst e3
      refine l_body (X := cx B) (fn := Tryz.f114) Tryz.func114 rfl rfl rfl rfl rfl 2 [] rfl rfl ?_
      refine walk ?_
      refine l_call [0] (h1) rfl rfl rfl rfl rfl rfl rfl (by decide) rfl rfl rfl rfl rfl ?_
      refine walk ?_
      exact l_end trivial (by decide) rfl rfl rfl rfl rfl
    | error e0 =>
      rw [hv] at h1
      dsimp only at h1 ⊢
      refine ⟨fun n t q e => by simp at e, fun e h => ?_⟩
      injection h with h; subst h
      refine l_body (X := cx B) (fn := Tryz.f114) Tryz.func114 rfl rfl rfl rfl rfl 2 [] rfl rfl ?_
      refine walk ?_
      refine l_call [0] (h1) rfl rfl rfl rfl rfl rfl rfl (by decide) rfl rfl rfl rfl rfl ?_
      refine walk ?_
      exact l_endW trivial (by decide) rfl rfl rfl rfl rfl ⟨⟨.inr (.inl rfl), .inl rfl, .inr (.inl rfl), .inr (.inl rfl), trivial⟩, ⟨.inr (.inl rfl), .inr (.inl rfl), .inl rfl, .inl rfl, .inr (.inl rfl), trivial⟩, trivial⟩
  by_cases k1 : kind = 1
  · subst k1
    unfold restG
    rw [if_neg (by decide)]; rw [if_pos rfl]
    have h2 := rlittle_calls B s p d 8 (by omega) hp hl'
    unfold lR tR at h2
    unfold takeE
    by_cases hc : s.length - p < 8
    · rw [if_pos hc] at h2 ⊢
      refine ⟨fun n t q e => by simp at e, fun e h => ?_⟩
      injection h with h; subst h
      refine l_body (X := cx B) (fn := Tryz.f114) Tryz.func114 rfl rfl rfl rfl rfl 2 [] rfl rfl ?_
      refine walk ?_
      refine l_call [0] (h2) rfl rfl rfl rfl rfl rfl rfl (by decide) rfl rfl rfl rfl rfl ?_
      refine walk ?_
      exact l_endW trivial (by decide) rfl rfl rfl rfl rfl ⟨⟨.inr (.inl rfl), .inl rfl, .inr (.inl rfl), .inr (.inl rfl), trivial⟩, ⟨.inr (.inl rfl), .inr (.inl rfl), .inl rfl, .inl rfl, .inr (.inl rfl), trivial⟩, trivial⟩
    · rw [if_neg hc] at h2 ⊢
      refine ⟨fun n t q e => ?_, fun e h => by simp at h⟩
      injection e with e; injection e with e1 e2; injection e2 with e2 e3
      subst e1; subst e2; subst e3
      refine l_body (X := cx B) (fn := Tryz.f114) Tryz.func114 rfl rfl rfl rfl rfl 2 [] rfl rfl ?_
      refine walk ?_
      refine l_call [0] (h2) rfl rfl rfl rfl rfl rfl rfl (by decide) rfl rfl rfl rfl rfl ?_
      refine walk ?_
      exact l_end trivial (by decide) rfl rfl rfl rfl rfl
  by_cases k5 : kind = 5
  · subst k5
    unfold restG
    rw [if_neg (by decide), if_neg (by decide)]; rw [if_pos rfl]
    have h2 := rlittle_calls B s p d 4 (by omega) hp hl'
    unfold lR tR at h2
    unfold takeE
    by_cases hc : s.length - p < 4
    · rw [if_pos hc] at h2 ⊢
      refine ⟨fun n t q e => by simp at e, fun e h => ?_⟩
      injection h with h; subst h
      refine l_body (X := cx B) (fn := Tryz.f114) Tryz.func114 rfl rfl rfl rfl rfl 2 [] rfl rfl ?_
      refine walk ?_
      refine l_call [0] (h2) rfl rfl rfl rfl rfl rfl rfl (by decide) rfl rfl rfl rfl rfl ?_
      refine walk ?_
      exact l_endW trivial (by decide) rfl rfl rfl rfl rfl ⟨⟨.inr (.inl rfl), .inl rfl, .inr (.inl rfl), .inr (.inl rfl), trivial⟩, ⟨.inr (.inl rfl), .inr (.inl rfl), .inl rfl, .inl rfl, .inr (.inl rfl), trivial⟩, trivial⟩
    · rw [if_neg hc] at h2 ⊢
      refine ⟨fun n t q e => ?_, fun e h => by simp at h⟩
      injection e with e; injection e with e1 e2; injection e2 with e2 e3
      subst e1; subst e2; subst e3
      refine l_body (X := cx B) (fn := Tryz.f114) Tryz.func114 rfl rfl rfl rfl rfl 2 [] rfl rfl ?_
      refine walk ?_
      refine l_call [0] (h2) rfl rfl rfl rfl rfl rfl rfl (by decide) rfl rfl rfl rfl rfl ?_
      refine walk ?_
      exact l_end trivial (by decide) rfl rfl rfl rfl rfl
  by_cases k2 : kind = 2
  · subst k2
    unfold restG
    rw [if_neg (by decide), if_neg (by decide), if_neg (by decide), if_pos rfl]
    cases hv : vE s p with
    | ok mq =>
      obtain ⟨m, r⟩ := mq
      rw [hv] at h1
      dsimp only at h1 ⊢
      obtain ⟨g1, g2, g3⟩ := vE_ok hv
      have h2 := rtake_calls B s r d m g3 g2 hl'
      unfold tR at h2
      unfold takeE
      by_cases hc : s.length - r < m
      · rw [if_pos hc] at h2 ⊢
        refine ⟨fun n t q e => by simp at e, fun e h => ?_⟩
        injection h with h; subst h
        refine l_body (X := cx B) (fn := Tryz.f114) Tryz.func114 rfl rfl rfl rfl rfl 2 [] rfl rfl ?_
        refine walk ?_
        refine l_call [0] (h1) rfl rfl rfl rfl rfl rfl rfl (by decide) rfl rfl rfl rfl rfl ?_
        refine l_call [0] (h2) rfl rfl rfl rfl rfl rfl rfl (by decide) rfl rfl rfl rfl rfl ?_
        refine walk ?_
        exact l_endW trivial (by decide) rfl rfl rfl rfl rfl ⟨⟨.inr (.inl rfl), .inl rfl, .inr (.inl rfl), .inr (.inl rfl), trivial⟩, ⟨.inr (.inl rfl), .inr (.inl rfl), .inl rfl, .inl rfl, .inr (.inl rfl), trivial⟩, trivial⟩
      · rw [if_neg hc] at h2 ⊢
        refine ⟨fun n t q e => ?_, fun e h => by simp at h⟩
        injection e with e; injection e with e1 e2; injection e2 with e2 e3
        subst e1; subst e2; subst e3
        refine l_body (X := cx B) (fn := Tryz.f114) Tryz.func114 rfl rfl rfl rfl rfl 2 [] rfl rfl ?_
        refine walk ?_
        refine l_call [0] (h1) rfl rfl rfl rfl rfl rfl rfl (by decide) rfl rfl rfl rfl rfl ?_
        refine l_call [0] (h2) rfl rfl rfl rfl rfl rfl rfl (by decide) rfl rfl rfl rfl rfl ?_
        refine walk ?_
        exact l_end trivial (by decide) rfl rfl rfl rfl rfl
    | error e0 =>
      rw [hv] at h1
      dsimp only at h1 ⊢
      refine ⟨fun n t q e => by simp at e, fun e h => ?_⟩
      injection h with h; subst h
      refine l_body (X := cx B) (fn := Tryz.f114) Tryz.func114 rfl rfl rfl rfl rfl 2 [] rfl rfl ?_
      refine walk ?_
      refine l_call [0] (h1) rfl rfl rfl rfl rfl rfl rfl (by decide) rfl rfl rfl rfl rfl ?_
      refine l_call [0] (rtake_err B s p e0 d 0) rfl rfl rfl rfl rfl rfl rfl (by decide) rfl rfl rfl rfl rfl ?_
      refine walk ?_
      exact l_endW trivial (by decide) rfl rfl rfl rfl rfl ⟨⟨.inr (.inl rfl), .inl rfl, .inr (.inl rfl), .inr (.inl rfl), trivial⟩, ⟨.inr (.inl rfl), .inr (.inl rfl), .inl rfl, .inl rfl, .inr (.inl rfl), trivial⟩, trivial⟩
  by_cases k3 : kind = 3
  · subst k3
    unfold restG
    rw [if_neg (by decide), if_neg (by decide), if_neg (by decide), if_neg (by decide), if_pos rfl]
    obtain ⟨hg1, hg2⟩ := hg rfl
    unfold grpE at hg1 hg2
    generalize (if d < 1 then Except.error (Er.loc p (Er.code 6)) else grp s f (d - 1) num p) = G at *
    cases G with
    | ok q0 =>
      refine ⟨fun n t q e => ?_, fun e h => by simp at h⟩
      injection e with e; injection e with e1 e2; injection e2 with e2 e3
      subst e1; subst e2; subst e3
      have h2 := hg1 q0 rfl
      refine l_body (X := cx B) (fn := Tryz.f114) Tryz.func114 rfl rfl rfl rfl rfl 2 [] rfl rfl ?_
      refine walk ?_
      refine l_call [0] (h2) rfl rfl rfl rfl rfl rfl rfl (by decide) rfl rfl rfl rfl rfl ?_
      refine walk ?_
      exact l_end trivial (by decide) rfl rfl rfl rfl rfl
    | error e0 =>
      refine ⟨fun n t q e => by simp at e, fun e h => ?_⟩
      injection h with h; subst h
      have h2 := hg2 e0 rfl
      refine l_body (X := cx B) (fn := Tryz.f114) Tryz.func114 rfl rfl rfl rfl rfl 2 [] rfl rfl ?_
      refine walk ?_
      refine l_call [0] (h2) rfl rfl rfl rfl rfl rfl rfl (by decide) rfl rfl rfl rfl rfl ?_
      refine walk ?_
      exact l_endW trivial (by decide) rfl rfl rfl rfl rfl ⟨⟨.inr (.inl rfl), .inl rfl, .inr (.inl rfl), .inr (.inl rfl), trivial⟩, ⟨.inr (.inl rfl), .inr (.inl rfl), .inl rfl, .inl rfl, .inr (.inl rfl), trivial⟩, trivial⟩
  rw [key kind rfl k0 k1 k5 k2 k3]
  refine ⟨fun n t q e => by simp at e, fun e h => ?_⟩
  injection h with h; subst h
  have hk' : kind = 4 ∨ kind = 6 ∨ kind = 7 := by omega
  rcases hk' with rfl | rfl | rfl <;> (
    refine l_body (X := cx B) (fn := Tryz.f114) Tryz.func114 rfl rfl rfl rfl rfl 2 [] rfl rfl ?_
    refine walk ?_
    refine l_call [0] (rfails_calls B s p d a 3) rfl rfl rfl rfl rfl rfl rfl (by decide) rfl rfl rfl rfl rfl ?_
    refine walk ?_
    exact l_endW trivial (by decide) rfl rfl rfl rfl rfl ⟨⟨.inr (.inl rfl), .inl rfl, .inr (.inl rfl), .inr (.inl rfl), trivial⟩, ⟨.inr (.inl rfl), .inr (.inl rfl), .inl rfl, .inl rfl, .inr (.inl rfl), trivial⟩, trivial⟩)

theorem group_calls (s : List UInt8) (hl : s.length < big) (f : Nat) : ∀ (d : Int) (num p : Nat), p ≤ s.length → s.length - p < f → -9223372036854775808 ≤ d → d < 9223372036854775808 → GrpOk B s f d num p := by
  induction f using Nat.strongRecOn with
  | ind f ih =>
    intro d num p hp hf hd1 hd2
    unfold GrpOk
    have hl' := hl
    unfold big at hl'
    by_cases hd : d < 1
    · unfold grpE
      rw [if_pos hd]
      refine ⟨fun q e => by simp at e, fun e h => ?_⟩
      injection h with h; subst h
      refine l_body (X := cx B) (fn := Tryz.f132) Tryz.func132 rfl rfl rfl rfl rfl 1 [] rfl rfl ?_
      refine walk ?_
      rw [show decide (d < 1) = true from decide_eq_true hd]
      refine walk ?_
      refine l_call [0] (rfails_calls B s p d p 6) rfl rfl rfl rfl rfl rfl rfl (by decide) rfl rfl rfl rfl rfl ?_
      refine walk ?_
      exact l_endW trivial (by decide) rfl rfl rfl rfl rfl ⟨⟨.inr (.inl rfl), .inl rfl, .inr (.inl rfl), .inr (.inl rfl), trivial⟩, trivial⟩
    · have hw1 : IntKind.i64.wrap (d - 1) = d - 1 := wrapI (by omega) (by omega)
      have hw2 : IntKind.i64.wrap (d - 1 + 1) = d := by rw [wrapI (by omega) (by omega)]; omega
      -- both answers at once: 'J' is the reader at the end
      have main : ∀ (J : Ob), (match grpE s f d num p with | .ok q => J = rdOb s q none d | .error e => J = rdErr s e d) → CallsA (cx B) 132 [.ptr 0 0, iT num] [rdOb s p none d] (.tup []) [J] := by
        intro J hJ
        unfold grpE at hJ
        rw [if_neg hd] at hJ
        refine l_body (X := cx B) (fn := Tryz.f132) Tryz.func132 rfl rfl rfl rfl rfl 1 [] rfl rfl ?_
        refine walk ?_
        rw [show decide (d < 1) = false from decide_eq_false hd]
        refine walk ?_
        rw [hw1]
        refine l_loop (fun x : Nat × Nat × Option Er => match x.2.2 with | none => x.2.1 + 1 | some _ => 0) (fun x => [(0, .ptr 0 0), (1, iT num)]) (fun x => match x.2.2 with | none => [rdOb s x.1 none (d - 1)] | some e => [rdErr s e (d - 1)])
          (fun x => match x.2.2 with | none => x.1 ≤ s.length ∧ s.length - x.1 < x.2.1 ∧ x.2.1 ≤ f ∧ grp s f (d - 1) num p = grp s x.2.1 (d - 1) num x.1 | some e => grp s f (d - 1) num p = .error e) (p, f, none) ⟨hp, hf, Nat.le_refl _, rfl⟩ ⟨rfl, rfl, trivial⟩ rfl 1 rfl (by rintro ⟨_, _, _ | _⟩ <;> rfl) (by rintro ⟨_, _, _ | _⟩ <;> rfl) (fun _ => rfl) ?_
        rintro ⟨q, g, err⟩ hI
        cases err with
        | some e =>
          dsimp only at hI ⊢
          rw [hI] at hJ
          dsimp only at hJ
          subst hJ
          cases e <;> (
          refine walk ?_
          rw [hw2]
          exact l_end trivial (by decide) rfl rfl rfl rfl rfl)
        | none =>
          dsimp only at hI ⊢
          obtain ⟨i1, i2, i3, i4⟩ := hI
          obtain ⟨ht1, ht2⟩ := rtag_calls B s q (d - 1) i1 hl
          cases g with
          | zero => omega
          | succ g =>
          rw [grp_succ] at i4
          cases htag : tagE s q with
          | error e =>
            rw [htag] at i4
            dsimp only at i4
            obtain ⟨a, b, q', h1⟩ := ht2 e htag
            refine walk ?_
            refine l_call [0] (h1) rfl rfl rfl rfl rfl rfl rfl (by decide) rfl rfl rfl rfl rfl ?_
            have h2 := rest_err B s q' e (d - 1) a b q (by omega) (by omega)
            cases e <;> (
            refine walk ?_
            refine l_call [0,1] (h2) rfl rfl rfl rfl rfl rfl rfl (by decide) rfl rfl rfl rfl rfl ?_
            refine walk ?_
            exact ⟨(q', 0, some _), by show 0 < g + 1 + 1; omega, i4, ⟨rfl, rfl, trivial⟩, rfl, ⟨⟨.inr (.inl rfl), .inl rfl, .inr (.inl rfl), .inr (.inl rfl), trivial⟩, trivial⟩⟩)
          | ok nkq =>
            obtain ⟨n, k, r⟩ := nkq
            obtain ⟨t1, t2, t3, t4, t5⟩ := tagE_ok htag
            have h1 := ht1 n k r htag
            rw [htag] at i4
            dsimp only at i4
            by_cases hk : k = 4
            · subst hk
              rw [if_pos rfl] at i4
              by_cases hn : n = num
              · subst hn
                rw [if_pos rfl] at i4
                rw [i4] at hJ
                dsimp only at hJ
                subst hJ
                refine walk ?_
                refine l_call [0] (h1) rfl rfl rfl rfl rfl rfl rfl (by decide) rfl rfl rfl rfl rfl ?_
                refine walk ?_
                rw [show ((n : Int) != n) = false by simp]
                refine walk ?_
                rw [hw2]
                exact l_end trivial (by decide) rfl rfl rfl rfl rfl
              · rw [if_neg hn] at i4
                rw [i4] at hJ
                dsimp only at hJ
                subst hJ
                refine walk ?_
                refine l_call [0] (h1) rfl rfl rfl rfl rfl rfl rfl (by decide) rfl rfl rfl rfl rfl ?_
                refine walk ?_
                rw [show ((n : Int) != num) = true by simp; omega]
                refine walk ?_
                refine l_call [0] (rfails_calls B s r (d - 1) q 3) rfl rfl rfl rfl rfl rfl rfl (by decide) rfl rfl rfl rfl rfl ?_
                refine walk ?_
                rw [hw2]
                exact l_endW trivial (by decide) rfl rfl rfl rfl rfl ⟨⟨.inr (.inl rfl), .inl rfl, .inr (.inl rfl), .inr (.inl rfl), trivial⟩, trivial⟩
            · rw [if_neg hk] at i4
              obtain ⟨hr1, hr2⟩ := rest_calls B s g (d - 1) n k q r t2 hl t5 (fun _ => ih g (by omega) (d - 1) n r t2 (by omega) (by omega) (by omega))
              refine walk ?_
              refine l_call [0] (h1) rfl rfl rfl rfl rfl rfl rfl (by decide) rfl rfl rfl rfl rfl ?_
              refine walk ?_
              rw [show (((k : Nat) : Int) == 4) = false by simp; omega]
              refine walk ?_
              cases hr : restG (grp s g) s (d - 1) n k q r with
              | error e =>
                rw [hr] at i4
                dsimp only at i4
                have h2 := hr2 e hr
                refine l_call [0,1] (h2) rfl rfl rfl rfl rfl rfl rfl (by decide) rfl rfl rfl rfl rfl ?_
                refine walk ?_
                exact ⟨(r, 0, some e), by show 0 < g + 1 + 1; omega, i4, ⟨rfl, rfl, trivial⟩, rfl, wk_eq rfl⟩
              | ok ntq =>
                obtain ⟨N, t, q'⟩ := ntq
                rw [hr] at i4
                dsimp only at i4
                have h2 := hr1 N t q' hr
                refine l_call [0,1] (h2) rfl rfl rfl rfl rfl rfl rfl (by decide) rfl rfl rfl rfl rfl ?_
                refine walk ?_
                obtain ⟨b1, b2, b3⟩ := restG_ok (fun d n p q => grp_ok g d n p q) hr t2
                exact ⟨(q', g, none), by show g + 1 < g + 1 + 1; omega, ⟨b2, by show s.length - q' < g; omega, by show g ≤ f; omega, i4⟩, ⟨rfl, rfl, trivial⟩, rfl, wk_eq rfl⟩
      cases hG : grpE s f d num p with
      | ok q0 => exact ⟨fun q e => by injection e with e; subst e; exact main _ (by rw [hG]), fun e h => by simp at h⟩
      | error e0 => exact ⟨fun q e => by simp at e, fun e h => by injection h with h; subst h; exact main _ (by rw [hG])⟩
end Go.Proofs.YtfbckigcelmopaaGreatDoor
