/- Records, one behind the other: what the reader answers. -/
import Derived.Test.YtfbckigcelmopaaGreatDoorX4
set_option linter.unusedSimpArgs false
set_option linter.unusedVariables false
set_option maxRecDepth 100000
namespace Go.Proofs.YtfbckigcelmopaaGreatDoor
open Go Go.Abs
/-- A record. -/
structure Fld where
  num : Nat
  kind : Nat
  n : Nat
  s : List UInt8
  raw : List UInt8
def Fld.d (r : Fld) : D := .agg [.int .i64 r.num, .int .i64 r.kind, .int .u64 r.n, .str r.s, .str r.raw]
def recE (s : List UInt8) (d : Int) (p : Nat) : Except Er (Fld × Nat) :=
  match tagE s p with
  | .error e => .error e
  | .ok (n, k, q) => match restG (grp s (s.length + 1)) s d n k p q with
    | .error e => .error e
    | .ok (N, t, r) => .ok (⟨n, k, N, t, (s.drop p).take (r - p)⟩, r)
theorem recE_ok {s : List UInt8} {d : Int} {p q : Nat} {r : Fld} (h : recE s d p = .ok (r, q)) : p < q ∧ q ≤ s.length ∧ r.n < 2 ^ 64 := by
  unfold recE at h
  split at h <;> (try (simp at h; done))
  rename_i e
  obtain ⟨a, b, -⟩ := tagE_ok e
  split at h <;> (try (simp at h; done))
  rename_i e2
  obtain ⟨a2, b2, c2⟩ := restG_ok (fun d n p q => grp_ok _ d n p q) e2 b
  injection h with h; injection h with h1 h2
  subst h1; subst h2
  exact ⟨by omega, b2, c2⟩
variable (B : Fr)
def zFld : D := .agg [.int .i64 0, .int .i64 0, .int .u64 0, .str [], .str []]
theorem record_calls (s : List UInt8) (p : Nat) (d : Int) (hp : p ≤ s.length) (hl : s.length < big) (hd1 : -9223372036854775808 ≤ d) (hd2 : d < 9223372036854775808) :
    (∀ r q, recE s d p = .ok (r, q) → CallsA (cx B) 94 [.ptr 0 0] [rdOb s p none d] (.d r.d) [rdOb s q none d]) ∧
    (∀ e, recE s d p = .error e → CallsA (cx B) 94 [.ptr 0 0] [rdOb s p none d] (.d zFld) [rdErr s e d]) := by
  obtain ⟨ht1, ht2⟩ := rtag_calls B s p d hp hl
  unfold recE
  cases htag : tagE s p with
  | error e =>
    obtain ⟨a, b, p', h1⟩ := ht2 e htag
    refine ⟨fun r q e => by simp at e, fun e h => ?_⟩
    injection h with h; subst h
    refine l_body (X := cx B) (fn := Tryz.f94) Tryz.func94 rfl rfl rfl rfl rfl 1 [] rfl rfl ?_
    refine walk ?_
    refine l_call [0] (h1) rfl rfl rfl rfl rfl rfl rfl (by decide) rfl rfl rfl rfl rfl ?_
    cases e <;> (
    refine walk ?_
    exact l_endW trivial (by decide) rfl rfl rfl rfl rfl ⟨⟨.inr (.inl rfl), .inl rfl, .inr (.inl rfl), .inr (.inl rfl), trivial⟩, trivial⟩)
  | ok nkq =>
    obtain ⟨n, k, q⟩ := nkq
    obtain ⟨t1, t2, t3, t4, t5⟩ := tagE_ok htag
    have h1 := ht1 n k q htag
    obtain ⟨hr1, hr2⟩ := rest_calls B s (s.length + 1) d n k p q t2 hl t5 (fun _ => group_calls B s hl _ d n q t2 (by omega) hd1 hd2)
    dsimp only
    cases hr : restG (grp s (s.length + 1)) s d n k p q with
    | error e =>
      have h2 := hr2 e hr
      refine ⟨fun r q e => by simp at e, fun e h => ?_⟩
      injection h with h; subst h
      refine l_body (X := cx B) (fn := Tryz.f94) Tryz.func94 rfl rfl rfl rfl rfl 1 [] rfl rfl ?_
      refine walk ?_
      refine l_call [0] (h1) rfl rfl rfl rfl rfl rfl rfl (by decide) rfl rfl rfl rfl rfl ?_
      refine walk ?_
      refine l_call [0,2] (h2) rfl rfl rfl rfl rfl rfl rfl (by decide) rfl rfl rfl rfl rfl ?_
      cases e <;> (
      refine walk ?_
      exact l_endW trivial (by decide) rfl rfl rfl rfl rfl ⟨⟨.inr (.inl rfl), .inl rfl, .inr (.inl rfl), .inr (.inl rfl), trivial⟩, trivial⟩)
    | ok ntq =>
      obtain ⟨N, t, r⟩ := ntq
      have h2 := hr1 N t r hr
      obtain ⟨b1, b2, b3⟩ := restG_ok (fun d n p q => grp_ok _ d n p q) hr t2
      dsimp only
      refine ⟨fun r q e => ?_, fun e h => by simp at h⟩
      injection e with e; injection e with e1 e2
      subst e1; subst e2
      refine l_body (X := cx B) (fn := Tryz.f94) Tryz.func94 rfl rfl rfl rfl rfl 1 [] rfl rfl ?_
      refine walk ?_
      refine l_call [0] (h1) rfl rfl rfl rfl rfl rfl rfl (by decide) rfl rfl rfl rfl rfl ?_
      refine walk ?_
      refine l_call [0,2] (h2) rfl rfl rfl rfl rfl rfl rfl (by decide) rfl rfl rfl rfl rfl ?_
      refine walk ?_
      refine x_mob (.sliceStr (s := s) (l := p) (h := r) rfl rfl rfl rfl ⟨.i64, rfl⟩ ⟨.i64, rfl⟩ (by omega) (by omega)) rfl rfl rfl ?_
      refine walk ?_
      exact l_end trivial (by decide) rfl rfl rfl rfl rfl

/-- Records, one behind the other. -/
def allE (s : List UInt8) (d : Int) : Nat → Nat → Except Er (List Fld)
  | 0, _ => .ok []
  | f + 1, p => if p < s.length then (match recE s d p with
      | .error e => .error e
      | .ok (r, q) => match allE s d f q with
        | .error e => .error e
        | .ok l => .ok (r :: l)) else .ok []
def all (s : List UInt8) (d : Int) : Except Er (List Fld) := allE s d (s.length + 1) 0
def allT : Except Er (List Fld) → T
  | .ok l => .tup [.d (slD (l.map Fld.d)), .d .nili]
  | .error e => .tup [.d (.sl true []), .d e.d]
theorem fld_fits (l : List Fld) : ∀ a ∈ l.map Fld.d, a.fits 5 = true := by
  intro a ha
  obtain ⟨c, -, rfl⟩ := List.mem_map.1 ha
  rfl
theorem all_calls (s : List UInt8) (d : Int) (hl : s.length < big) (hd1 : -9223372036854775808 ≤ d) (hd2 : d < 9223372036854775808) : CallsA (cx B) 63 [sT s, .d (.int .i64 d)] [] (allT (all s d)) [] := by
  have hl' := hl
  unfold big at hl'
  refine l_body (X := cx B) (fn := Tryz.f63) Tryz.func63 rfl rfl rfl rfl rfl 0 [] rfl rfl ?_
  refine walk ?_
  refine l_loop (fun x : Nat × Nat × List Fld => x.2.1) (fun x => [(0, sT s), (6, owT (x.2.2.map Fld.d)), (7, .ptr 0 0)]) (fun x => [rdOb s x.1 none d])
    (fun x => x.1 ≤ s.length ∧ s.length - x.1 < x.2.1 ∧ x.2.2.length ≤ x.1 ∧ all s d = (match allE s d x.2.1 x.1 with | .ok l => .ok (x.2.2 ++ l) | .error e => .error e)) (0, s.length + 1, []) ⟨by omega, by show s.length - 0 < s.length + 1; omega, by simp, ?_⟩ ⟨rfl, rfl, rfl, trivial⟩ rfl 1 rfl (fun _ => rfl) (fun _ => rfl) (fun _ => rfl) ?_
  · show all s d = _
    unfold all
    dsimp only
    split <;> (rename_i h; rw [h]) <;> rfl
  rintro ⟨p, g, acc⟩ ⟨i1, i2, i3, i4⟩
  dsimp only at i1 i2 i3 i4 ⊢
  cases g with
  | zero => omega
  | succ g =>
  unfold allE at i4
  refine walk ?_
  by_cases hp : p < s.length
  · rw [show decide ((p : Int) < s.length) = true from decide_eq_true (by omega)]
    rw [if_pos hp] at i4
    obtain ⟨hr1, hr2⟩ := record_calls B s p d i1 hl hd1 hd2
    cases hr : recE s d p with
    | error e =>
      have h1 := hr2 e hr
      rw [hr] at i4
      dsimp only at i4
      rw [i4]
      refine walk ?_
      refine l_call [0] (h1) rfl rfl rfl rfl rfl rfl rfl (by decide) rfl rfl rfl rfl rfl ?_
      cases e <;> (
      refine walk ?_
      exact l_end trivial (by decide) rfl rfl rfl rfl rfl)
    | ok rq =>
      obtain ⟨r, q⟩ := rq
      obtain ⟨b1, b2, b3⟩ := recE_ok hr
      have h1 := hr1 r q hr
      rw [hr] at i4
      dsimp only at i4
      refine walk ?_
      refine l_call [0] (h1) rfl rfl rfl rfl rfl rfl rfl (by decide) rfl rfl rfl rfl rfl ?_
      refine walk ?_
      (try refine l_open rfl ?_)
      refine l_step (.assignOwn (.inr rfl) rfl) rfl rfl ?_
      refine walk ?_
      refine l_step (.buildSlice (es := [r.d]) rfl rfl rfl rfl rfl rfl (by intro x hx; simp at hx; subst hx; rfl) (by simp) (by decide) (by decide)) rfl rfl ?_
      have hm : (acc.map Fld.d).length + [r.d].length ≤ most := by simp [most]; omega
      refine l_step (.append' rfl rfl rfl rfl ⟨_, _, rfl, rfl, by intro q; simp⟩ rfl rfl rfl rfl rfl (by rw [show [r.d] = [r].map Fld.d from rfl, ← List.map_append]; exact fld_fits _) (by decide) rfl hm rfl) rfl rfl ?_
      refine l_step (.assignOwn (.inl rfl) rfl) rfl rfl ?_
      refine walk ?_
      exact ⟨(q, g, acc ++ [r]), Nat.lt_succ_self g, ⟨b2, by show s.length - q < g; omega, by show (acc ++ [r]).length ≤ q; simp; omega, by rw [i4]; cases allE s d g q <;> simp⟩, ⟨rfl, by show T.own _ _ = owT _; rw [List.map_append]; rfl, rfl, trivial⟩, rfl, wk_eq rfl⟩
  · rw [show decide ((p : Int) < s.length) = false from decide_eq_false (by omega)]
    rw [if_neg hp] at i4
    dsimp only at i4
    rw [List.append_nil] at i4
    rw [i4]
    refine walk ?_
    (try refine l_open rfl ?_)
    refine l_step (.moveShare rfl rfl) rfl rfl ?_
    refine walk ?_
    exact l_end trivial (by decide) rfl rfl rfl rfl rfl
end Go.Proofs.YtfbckigcelmopaaGreatDoor
