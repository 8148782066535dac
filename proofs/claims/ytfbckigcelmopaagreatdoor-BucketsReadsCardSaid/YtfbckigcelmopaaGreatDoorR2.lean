/- The reference: groups; records, one behind the other. -/
import Derived.Test.YtfbckigcelmopaaGreatDoorR1
set_option linter.unusedSimpArgs false
set_option linter.unusedVariables false
set_option maxRecDepth 100000
namespace Go.Proofs.YtfbckigcelmopaaGreatDoor
open Go Go.Abs
variable (B : Fr)
def badT : T := .tup [.d (.int .i64 0), .d (.bool false)]
def rgr (s : List UInt8) : Nat → Int → Nat → Nat → T
  | 0 => fun _ _ _ => badT
  | f + 1 => fun d num p => match vE s p with
    | .error _ => badT
    | .ok (m, q) => if m % 8 = 4 then .tup [iT q, .d (.bool (m / 8 == num))] else match recF s f d p with
      | .error _ => badT
      | .ok (_, q') => rgr s f d num q'
theorem rgr_succ (s : List UInt8) (f : Nat) (d : Int) (num p : Nat) : rgr s (f + 1) d num p = (match vE s p with
    | .error _ => badT
    | .ok (m, q) => if m % 8 = 4 then .tup [iT q, .d (.bool (m / 8 == num))] else match recF s f d p with
      | .error _ => badT
      | .ok (_, q') => rgr s f d num q') := rfl
theorem rgr_grp (s : List UInt8) : ∀ (f : Nat) (d : Int) (num p : Nat), 1 ≤ num → num ≤ 536870911 → (∀ q, grp s f d num p = .ok q → rgr s f d num p = .tup [iT q, .d (.bool true)]) ∧ (∀ e, grp s f d num p = .error e → ∃ z : Int, rgr s f d num p = .tup [.d (.int .i64 z), .d (.bool false)])
  | 0, d, num, p, _, _ => ⟨fun q h => by simp [grp] at h, fun e h => ⟨0, rfl⟩⟩
  | f + 1, d, num, p, h1, h2 => by
    rw [grp_succ, rgr_succ]
    unfold recF tagE
    cases hv : vE s p with
    | error e => exact ⟨fun q h => by simp at h, fun e h => ⟨0, rfl⟩⟩
    | ok mq =>
      obtain ⟨m, q⟩ := mq
      dsimp only
      by_cases hr : m / 8 < 1 ∨ 536870911 < m / 8
      · rw [if_pos hr]
        refine ⟨fun q h => by simp at h, fun e h => ?_⟩
        by_cases h4 : m % 8 = 4
        · rw [if_pos h4]
          exact ⟨q, by rw [show (m / 8 == num) = false by simp; omega]; rfl⟩
        · rw [if_neg h4]; exact ⟨0, rfl⟩
      · rw [if_neg hr]
        dsimp only
        by_cases h4 : m % 8 = 4
        · rw [if_pos h4, if_pos h4]
          by_cases hn : m / 8 = num
          · rw [if_pos hn]
            refine ⟨fun q' h => ?_, fun e h => by simp at h⟩
            injection h with h; subst h
            rw [show (m / 8 == num) = true by simp [hn]]
          · rw [if_neg hn]
            exact ⟨fun q' h => by simp at h, fun e h => ⟨q, by rw [show (m / 8 == num) = false by simp [hn]]; rfl⟩⟩
        · rw [if_neg h4, if_neg h4]
          cases hg : restG (grp s f) s d (m / 8) (m % 8) p q with
          | error e => exact ⟨fun q' h => by simp at h, fun e h => ⟨0, rfl⟩⟩
          | ok r =>
            obtain ⟨N, t, q'⟩ := r
            exact rgr_grp s f d num q' h1 h2
theorem rGroup_calls (s : List UInt8) (hl : s.length < big) (f : Nat) : ∀ (d : Int) (num p : Nat), 1 ≤ num → num ≤ 536870911 → p ≤ s.length → s.length - p < f → -9223372036854775808 ≤ d → d < 9223372036854775808 → RGrp B s f d num p := by
  induction f using Nat.strongRecOn with
  | ind f ih =>
    intro d num p n1 n2 hp hf hd1 hd2
    have hl' := hl
    unfold big at hl'
    have main : CallsA (cx B) 118 [sT s, iT p, iT num, .d (.int .i64 d)] [] (if d < 1 then badT else rgr s f (d - 1) num p) [] := by
      by_cases hd : d < 1
      · rw [if_pos hd]
        refine l_body (X := cx B) (fn := Tryz.f118) Tryz.func118 rfl rfl rfl rfl rfl 0 [] rfl rfl ?_
        refine walk ?_
        rw [show decide (d < 1) = true from decide_eq_true hd]
        refine walk ?_
        exact l_end trivial (by decide) rfl rfl rfl rfl rfl
      · rw [if_neg hd]
        have hw1 : IntKind.i64.wrap (d - 1) = d - 1 := wrapI (by omega) (by omega)
        refine l_body (X := cx B) (fn := Tryz.f118) Tryz.func118 rfl rfl rfl rfl rfl 0 [] rfl rfl ?_
        refine walk ?_
        rw [show decide (d < 1) = false from decide_eq_false hd]
        refine walk ?_
        refine l_loop (fun x : Nat × Nat => x.2) (fun x => [(0, sT s), (1, iT x.1), (2, iT num), (3, .d (.int .i64 d))]) (fun _ => []) (fun x => x.1 ≤ s.length ∧ s.length - x.1 < x.2 ∧ x.2 ≤ f ∧ rgr s f (d - 1) num p = rgr s x.2 (d - 1) num x.1) (p, f) ⟨hp, hf, Nat.le_refl _, rfl⟩ ⟨rfl, rfl, rfl, rfl, trivial⟩ rfl 0 rfl (fun _ => rfl) (fun _ => rfl) (fun _ => rfl) ?_
        rintro ⟨q, g⟩ ⟨i1, i2, i3, i4⟩
        dsimp only at i1 i2 i3 i4 ⊢
        cases g with
        | zero => omega
        | succ g =>
        rw [i4, rgr_succ]
        have h1 := rGet_calls B s q i1 hl
        unfold rgT at h1
        unfold vE
        cases hv : vrd (s.drop q) 0 0 with
        | error c =>
          rw [hv] at h1
          dsimp only at h1 ⊢
          have hc : ((c : Int) != 0) = true := by have : c ≠ 0 := vrd_ne hv; simp; omega
          refine walk ?_
          refine l_call [] (h1) rfl rfl rfl rfl rfl rfl rfl (by decide) rfl rfl rfl rfl rfl ?_
          refine walk ?_
          rw [hc]
          refine walk ?_
          exact l_end trivial (by decide) rfl rfl rfl rfl rfl
        | ok mk =>
          obtain ⟨m, k⟩ := mk
          have hve : vE s q = .ok (m, q + k) := by unfold vE; rw [hv]
          obtain ⟨g1, g2, g3⟩ := vE_ok hve
          rw [hv] at h1
          dsimp only at h1 ⊢
          have h7 : IntKind.u64.wrap ((BitVec.ofInt IntKind.u64.bits (m : Int) &&& BitVec.ofInt IntKind.u64.bits 7).toNat : Int) = ((m % 8 : Nat) : Int) := and64 g3 3 (by omega)
          refine walk ?_
          refine l_call [] (h1) rfl rfl rfl rfl rfl rfl rfl (by decide) rfl rfl rfl rfl rfl ?_
          refine walk ?_
          rw [h7]
          by_cases h4 : m % 8 = 4
          · rw [if_pos h4, show (((m % 8 : Nat) : Int) == 4) = true by rw [h4]; rfl]
            refine walk ?_
            rw [shr3, show IntKind.u64.wrap (num : Int) = num from wrapN (by omega), ibeq]
            exact l_end trivial (by decide) rfl rfl rfl rfl rfl
          · rw [if_neg h4, show (((m % 8 : Nat) : Int) == 4) = false by simp; omega]
            have hN := rNext_calls B s g (d - 1) q i1 hl (fun n q' a1 a2 a3 a4 => ih g (by omega) (d - 1) n q' a1 a2 a3 (by omega) (by omega) (by omega))
            unfold rnT at hN
            refine walk ?_
            rw [hw1]
            cases hr : recF s g (d - 1) q with
            | error e =>
              rw [hr] at hN
              dsimp only at hN
              refine l_call [] (hN) rfl rfl rfl rfl rfl rfl rfl (by decide) rfl rfl rfl rfl rfl ?_
              refine walk ?_
              exact l_end trivial (by decide) rfl rfl rfl rfl rfl
            | ok rq =>
              obtain ⟨r, q'⟩ := rq
              have hb : q < q' ∧ q' ≤ s.length := by
                unfold recF at hr
                split at hr <;> (try (simp at hr; done))
                rename_i e1
                obtain ⟨t1, t2, -⟩ := tagE_ok e1
                split at hr <;> (try (simp at hr; done))
                rename_i e2
                obtain ⟨b1, b2, b3⟩ := restG_ok (fun d n p q => grp_ok g d n p q) e2 t2
                injection hr with hr; injection hr with e3 e4
                omega
              rw [hr] at hN
              dsimp only at hN ⊢
              refine l_call [] (hN) rfl rfl rfl rfl rfl rfl rfl (by decide) rfl rfl rfl rfl rfl ?_
              refine walk ?_
              exact ⟨(q', g), Nat.lt_succ_self g, ⟨hb.2, by show s.length - q' < g; omega, by show g ≤ f; omega, rfl⟩, ⟨rfl, rfl, rfl, rfl, trivial⟩, rfl, wk_eq rfl⟩
    obtain ⟨a1, a2⟩ := rgr_grp s f (d - 1) num p n1 n2
    unfold RGrp grpE
    by_cases hd : d < 1
    · rw [if_pos hd] at main ⊢
      exact ⟨fun q h => by simp at h, fun e h => ⟨0, main⟩⟩
    · rw [if_neg hd] at main ⊢
      refine ⟨fun q h => by rw [a1 q h] at main; exact main, fun e h => ?_⟩
      obtain ⟨z, hz⟩ := a2 e h
      rw [hz] at main
      exact ⟨z, main⟩
theorem rNext (s : List UInt8) (d : Int) (p : Nat) (hp : p ≤ s.length) (hl : s.length < big) (hd1 : -9223372036854775808 ≤ d) (hd2 : d < 9223372036854775808) : CallsA (cx B) 97 [sT s, iT p, .d (.int .i64 d)] [] (rnT (recE s d p)) [] := by
  rw [← recF_recE]
  exact rNext_calls B s (s.length + 1) d p hp hl (fun n q a1 a2 a3 a4 => rGroup_calls B s hl (s.length + 1) d n q a1 a2 a3 (by omega) hd1 hd2)
def rallT : Except Er (List Fld) → T
  | .ok l => .tup [.d (slD (l.map Fld.d)), .d (.bool true)]
  | .error e => .tup [.d (.sl true []), .d (.bool false)]
theorem rAll_calls (s : List UInt8) (d : Int) (hl : s.length < big) (hd1 : -9223372036854775808 ≤ d) (hd2 : d < 9223372036854775808) : CallsA (cx B) 69 [sT s, .d (.int .i64 d)] [] (rallT (all s d)) [] := by
  have hl' := hl
  unfold big at hl'
  refine l_body (X := cx B) (fn := Tryz.f69) Tryz.func69 rfl rfl rfl rfl rfl 0 [] rfl rfl ?_
  refine walk ?_
  refine l_loop (fun x : Nat × Nat × List Fld => x.2.1) (fun x => [(0, sT s), (1, .d (.int .i64 d)), (6, owT (x.2.2.map Fld.d)), (7, iT x.1)]) (fun _ => [])
    (fun x => x.1 ≤ s.length ∧ s.length - x.1 < x.2.1 ∧ x.2.2.length ≤ x.1 ∧ all s d = (match allE s d x.2.1 x.1 with | .ok l => .ok (x.2.2 ++ l) | .error e => .error e)) (0, s.length + 1, []) ⟨by omega, by show s.length - 0 < s.length + 1; omega, by simp, ?_⟩ ⟨rfl, rfl, rfl, rfl, trivial⟩ rfl 0 rfl (fun _ => rfl) (fun _ => rfl) (fun _ => rfl) ?_
  · show all s d = _
    unfold all
    dsimp only
    split <;> (rename_i h; rw [h]) <;> rfl
  rintro ⟨p, g, acc⟩ ⟨i1, i2, i3, i4⟩
  dsimp only at i1 i2 i3 i4 ⊢
  cases g with
  | zero => omega
  | succ g =>
  unfold allE at i4
  refine walk ?_
  by_cases hp : p < s.length
  · rw [show decide ((p : Int) < s.length) = true from decide_eq_true (by omega)]
    rw [if_pos hp] at i4
    have h1 := rNext B s d p i1 hl hd1 hd2
    unfold rnT at h1
    cases hr : recE s d p with
    | error e =>
      rw [hr] at i4 h1
      dsimp only at i4 h1
      rw [i4]
      refine walk ?_
      refine l_call [] (h1) rfl rfl rfl rfl rfl rfl rfl (by decide) rfl rfl rfl rfl rfl ?_
      refine walk ?_
      exact l_end trivial (by decide) rfl rfl rfl rfl rfl
    | ok rq =>
      obtain ⟨r, q⟩ := rq
      obtain ⟨b1, b2, b3⟩ := recE_ok hr
      rw [hr] at i4 h1
      dsimp only at i4 h1
      refine walk ?_
      refine l_call [] (h1) rfl rfl rfl rfl rfl rfl rfl (by decide) rfl rfl rfl rfl rfl ?_
      refine walk ?_
      (try refine l_open rfl ?_)
      refine l_step (.assignOwn (.inr rfl) rfl) rfl rfl ?_
      refine walk ?_
      refine l_step (.buildSlice (es := [r.d]) rfl rfl rfl rfl rfl rfl (by intro x hx; simp at hx; subst hx; rfl) (by simp) (by decide) (by decide)) rfl rfl ?_
      have hm : (acc.map Fld.d).length + [r.d].length ≤ most := by simp [most]; omega
      refine l_step (.append' rfl rfl rfl rfl ⟨_, _, rfl, rfl, by intro q; simp⟩ rfl rfl rfl rfl rfl (by rw [show [r.d] = [r].map Fld.d from rfl, ← List.map_append]; exact fld_fits _) (by decide) rfl hm rfl) rfl rfl ?_
      refine l_step (.assignOwn (.inl rfl) rfl) rfl rfl ?_
      refine walk ?_
      exact ⟨(q, g, acc ++ [r]), Nat.lt_succ_self g, ⟨b2, by show s.length - q < g; omega, by show (acc ++ [r]).length ≤ q; simp; omega, by rw [i4]; cases allE s d g q <;> simp⟩, ⟨rfl, rfl, by show T.own _ _ = owT _; rw [List.map_append]; rfl, rfl, trivial⟩, rfl, wk_eq rfl⟩
  · rw [show decide ((p : Int) < s.length) = false from decide_eq_false (by omega)]
    rw [if_neg hp] at i4
    dsimp only at i4
    rw [List.append_nil] at i4
    rw [i4]
    refine walk ?_
    (try refine l_open rfl ?_)
    refine l_step (.moveShare rfl rfl) rfl rfl ?_
    refine walk ?_
    exact l_end trivial (by decide) rfl rfl rfl rfl rfl
end Go.Proofs.YtfbckigcelmopaaGreatDoor
