/- The reference: packed numbers, numbers unfolded, a message's records, tables. -/
import Derived.Test.YtfbckigcelmopaaGreatDoorRG
import Derived.Test.YtfbckigcelmopaaGreatDoorX29
set_option linter.unusedSimpArgs false
set_option linter.unusedVariables false
set_option maxRecDepth 100000
namespace Go.Proofs.YtfbckigcelmopaaGreatDoor
open Go Go.Abs
variable (B : Fr)
def rvT : Except Er (List Nat) → T
  | .ok l => .tup [.d (slD (l.map uD)), iT 0]
  | .error e => .tup [.d (.sl true []), .d (.int .i64 (codeOf e))]
theorem varsE_code {s : List UInt8} : ∀ {f p : Nat} {e : Er}, varsE s f p = .error e → codeOf e ≠ 0
  | 0, p, e, h => by simp [varsE] at h
  | f + 1, p, e, h => by
    unfold varsE at h
    split at h
    · split at h
      · rename_i e' he
        injection h with h; subst h
        unfold vE at he
        split at he <;> (try (simp at he; done))
        rename_i c hc
        injection he with he; subst he
        have := vrd_ne hc
        show (c : Int) ≠ 0
        omega
      · rename_i n q he
        split at h
        · rename_i e' h2
          injection h with h; subst h
          exact varsE_code h2
        · simp at h
    · simp at h
theorem vars_code {s : List UInt8} {e : Er} (h : vars s = .error e) : codeOf e ≠ 0 := varsE_code h
theorem rVarints_calls (s : List UInt8) (hl : s.length < big) : CallsA (cx B) 36 [sT s] [] (rvT (vars s)) [] := by
  have hl' := hl
  unfold big at hl'
  refine l_body (X := cx B) (fn := Tryz.f36) Tryz.func36 rfl rfl rfl rfl rfl 0 [] rfl rfl ?_
  refine walk ?_
  refine l_loop (fun x : Nat × Nat × List Nat => x.2.1) (fun x => [(0, sT s), (4, owT (x.2.2.map uD)), (5, iT x.1)]) (fun _ => [])
    (fun x => x.1 ≤ s.length ∧ s.length - x.1 < x.2.1 ∧ x.2.2.length ≤ x.1 ∧ vars s = (match varsE s x.2.1 x.1 with | .ok l => .ok (x.2.2 ++ l) | .error e => .error e)) (0, s.length + 1, []) ⟨by omega, by show s.length - 0 < s.length + 1; omega, by simp, ?_⟩ ⟨rfl, rfl, rfl, trivial⟩ rfl 0 rfl (fun _ => rfl) (fun _ => rfl) (fun _ => rfl) ?_
  · show vars s = _
    unfold vars
    dsimp only
    split <;> (rename_i h; rw [h]) <;> rfl
  rintro ⟨p, g, acc⟩ ⟨i1, i2, i3, i4⟩
  dsimp only at i1 i2 i3 i4 ⊢
  cases g with
  | zero => omega
  | succ g =>
  unfold varsE at i4
  refine walk ?_
  by_cases hp : p < s.length
  · rw [show decide ((p : Int) < s.length) = true from decide_eq_true (by omega)]
    rw [if_pos hp] at i4
    have h1 := rGet_calls B s p i1 hl
    unfold rgT at h1
    unfold vE at i4
    cases hv : vrd (s.drop p) 0 0 with
    | error c =>
      rw [hv] at i4 h1
      dsimp only at i4 h1
      have hc : ((c : Int) != 0) = true := by have : c ≠ 0 := vrd_ne hv; simp; omega
      rw [i4]
      refine walk ?_
      refine l_call [] (h1) rfl rfl rfl rfl rfl rfl rfl (by decide) rfl rfl rfl rfl rfl ?_
      refine walk ?_
      rw [hc]
      refine walk ?_
      exact l_end trivial (by decide) rfl rfl rfl rfl rfl
    | ok rq =>
      obtain ⟨n, k⟩ := rq
      have hve : vE s p = .ok (n, p + k) := by unfold vE; rw [hv]
      obtain ⟨b1, b2, b3⟩ := vE_ok hve
      rw [hv] at i4 h1
      dsimp only at i4 h1
      refine walk ?_
      refine l_call [] (h1) rfl rfl rfl rfl rfl rfl rfl (by decide) rfl rfl rfl rfl rfl ?_
      refine walk ?_
      (try refine l_open rfl ?_)
      refine l_step (.assignOwn (.inr rfl) rfl) rfl rfl ?_
      refine walk ?_
      refine l_step (.buildSlice (es := [uD n]) rfl rfl rfl rfl rfl rfl (by intro x hx; simp at hx; subst hx; rfl) (by simp) (by decide) (by decide)) rfl rfl ?_
      have hm : (acc.map uD).length + [uD n].length ≤ most := by simp [most]; omega
      refine l_step (.append' rfl rfl rfl rfl ⟨_, _, rfl, rfl, by intro q; simp⟩ rfl rfl rfl rfl rfl (by rw [show [uD n] = [n].map uD from rfl, ← List.map_append]; exact u_fits _) (by decide) rfl hm rfl) rfl rfl ?_
      refine l_step (.assignOwn (.inl rfl) rfl) rfl rfl ?_
      refine walk ?_
      exact ⟨(p + k, g, acc ++ [n]), Nat.lt_succ_self g, ⟨b2, by show s.length - (p + k) < g; omega, by show (acc ++ [n]).length ≤ p + k; simp; omega, by rw [i4]; cases varsE s g (p + k) <;> simp⟩, ⟨rfl, by show T.own _ _ = owT _; rw [List.map_append]; rfl, rfl, trivial⟩, rfl, wk_eq rfl⟩
  · rw [show decide ((p : Int) < s.length) = false from decide_eq_false (by omega)]
    rw [if_neg hp] at i4
    dsimp only at i4
    rw [List.append_nil] at i4
    rw [i4]
    refine walk ?_
    (try refine l_open rfl ?_)
    refine l_step (.moveShare rfl rfl) rfl rfl ?_
    refine walk ?_
    exact l_end trivial (by decide) rfl rfl rfl rfl rfl
def zagV (n : Nat) : Int := if n % 2 = 1 then -((n / 2 : Nat) : Int) - 1 else ((n / 2 : Nat) : Int)
theorem rZag_calls (n : Nat) (hn : n < 2 ^ 64) : CallsA (cx B) 70 [uT n] [] (.d (.int .i64 (zagV n))) [] := by
  have hq : Int.tdiv (n : Int) 2 = ((n / 2 : Nat) : Int) := by rw [Int.tdiv_eq_ediv_of_nonneg (by omega)]; omega
  have hr : Int.tmod (n : Int) 2 = ((n % 2 : Nat) : Int) := by rw [Int.tmod_eq_emod_of_nonneg (by omega)]; omega
  unfold zagV
  refine l_body (X := cx B) (fn := Tryz.f70) Tryz.func70 rfl rfl rfl rfl rfl 0 [] rfl rfl ?_
  refine walk ?_
  refine l_step (.rem (k := .u64) (a := n) (b := 2) rfl rfl rfl (by decide)) rfl rfl ?_
  rw [hr]
  refine walk ?_
  by_cases h : n % 2 = 1
  · rw [if_pos h, show (((n % 2 : Nat) : Int) == 1) = true by rw [h]; rfl]
    refine walk ?_
    refine l_step (.quo (k := .u64) (a := n) (b := 2) rfl rfl rfl (by decide)) rfl rfl ?_
    rw [hq]
    rw [show IntKind.u64.wrap ((n / 2 : Nat) : Int) = ((n / 2 : Nat) : Int) from wrapN (by omega)]
    refine walk ?_
    rw [show IntKind.i64.wrap ((n / 2 : Nat) : Int) = ((n / 2 : Nat) : Int) from wrapI (by omega) (by omega), show IntKind.i64.wrap (0 - ((n / 2 : Nat) : Int)) = -((n / 2 : Nat) : Int) by rw [wrapI (by omega) (by omega)]; omega, show IntKind.i64.wrap (-((n / 2 : Nat) : Int) - 1) = -((n / 2 : Nat) : Int) - 1 from wrapI (by omega) (by omega)]
    exact l_end trivial (by decide) rfl rfl rfl rfl rfl
  · rw [if_neg h, show (((n % 2 : Nat) : Int) == 1) = false by simp; omega]
    refine walk ?_
    refine l_step (.quo (k := .u64) (a := n) (b := 2) rfl rfl rfl (by decide)) rfl rfl ?_
    rw [hq]
    rw [show IntKind.u64.wrap ((n / 2 : Nat) : Int) = ((n / 2 : Nat) : Int) from wrapN (by omega)]
    refine walk ?_
    rw [show IntKind.i64.wrap ((n / 2 : Nat) : Int) = ((n / 2 : Nat) : Int) from wrapI (by omega) (by omega)]
    exact l_end trivial (by decide) rfl rfl rfl rfl rfl
theorem rZag32_calls (n : Nat) (hn : n < 2 ^ 64) : CallsA (cx B) 35 [uT n] [] (.d (.int .i32 (zag32 n))) [] := by
  have ha : IntKind.u64.wrap ((BitVec.ofInt IntKind.u64.bits (n : Int) &&& BitVec.ofInt IntKind.u64.bits 4294967295).toNat : Int) = ((n % 4294967296 : Nat) : Int) := and64 hn 32 (by omega)
  have h1 := rZag_calls B (n % 4294967296) (by omega)
  have hz := zag32_lt n
  have hzz : IntKind.i32.wrap (zagV (n % 4294967296)) = zag32 n := by
    unfold zagV zag32
    rw [IntKind.wrap_i32]
    have : n % 4294967296 % 2 = n % 2 := by omega
    rw [this]
    by_cases h : n % 2 = 0
    · rw [if_neg (by omega), if_pos h]; omega
    · rw [if_pos (by omega), if_neg h]; omega
  refine l_body (X := cx B) (fn := Tryz.f35) Tryz.func35 rfl rfl rfl rfl rfl 0 [] rfl rfl ?_
  refine walk ?_
  rw [ha]
  refine l_call [] (h1) rfl rfl rfl rfl rfl rfl rfl (by decide) rfl rfl rfl rfl rfl ?_
  refine walk ?_
  rw [hzz]
  exact l_end trivial (by decide) rfl rfl rfl rfl rfl
def fieldsT (s : List UInt8) (d : Int) : T :=
  match okL s d with
  | some l => .tup [.d (slD (l.map Fld.d)), .d (.bool true)]
  | none => .tup [.d (.sl true []), .d (.bool false)]
theorem Fields_calls (s : List UInt8) (d : Int) (hl : s.length < big) (hd1 : -9223372036854775808 ≤ d) (hd2 : d < 9223372036854775808) : CallsA (cx B) 32 [sT s, .d (.int .i64 d)] [] (fieldsT s d) [] := by
  have h1 := rAll_calls B s d hl hd1 hd2
  unfold fieldsT okL
  by_cases hd : d < 0
  · rw [if_pos hd]
    refine l_body (X := cx B) (fn := Tryz.f32) Tryz.func32 rfl rfl rfl rfl rfl 0 [] rfl rfl ?_
    refine walk ?_
    rw [show decide (d < 0) = true from decide_eq_true hd]
    refine walk ?_
    exact l_end trivial (by decide) rfl rfl rfl rfl rfl
  · rw [if_neg hd]
    unfold rallT at h1
    cases ha : all s d with
    | ok l =>
      rw [ha] at h1
      dsimp only at h1 ⊢
      refine l_body (X := cx B) (fn := Tryz.f32) Tryz.func32 rfl rfl rfl rfl rfl 0 [] rfl rfl ?_
      refine walk ?_
      rw [show decide (d < 0) = false from decide_eq_false hd]
      refine walk ?_
      refine l_call [] (h1) rfl rfl rfl rfl rfl rfl rfl (by decide) rfl rfl rfl rfl rfl ?_
      refine walk ?_
      exact l_end trivial (by decide) rfl rfl rfl rfl rfl
    | error e =>
      rw [ha] at h1
      dsimp only at h1 ⊢
      refine l_body (X := cx B) (fn := Tryz.f32) Tryz.func32 rfl rfl rfl rfl rfl 0 [] rfl rfl ?_
      refine walk ?_
      rw [show decide (d < 0) = false from decide_eq_false hd]
      refine walk ?_
      refine l_call [] (h1) rfl rfl rfl rfl rfl rfl rfl (by decide) rfl rfl rfl rfl rfl ?_
      refine walk ?_
      exact l_end trivial (by decide) rfl rfl rfl rfl rfl
def iD (n : Nat) : D := .int .i64 n
def tkB (tbl : List Nat) (n k : Nat) : Bool := tbl.any fun t => t / 8 == n && t % 8 == k
theorem Takes_calls (tbl : List Nat) (x : Fld) (hb : tbl.length < 1000) (ht : ∀ t ∈ tbl, t < 100000) : CallsA (cx B) 33 [.d (.sl false (tbl.map iD)), .d x.d] [] (.d (.bool (tkB tbl x.num x.kind))) [] := by
  have hlen : (tbl.map iD).length = tbl.length := by simp
  refine l_body (X := cx B) (fn := Tryz.f33) Tryz.func33 rfl rfl rfl rfl rfl 0 [] rfl rfl ?_
  refine walk ?_
  refine l_loop (fun i : Nat => tbl.length - i) (fun i => [(0, .d (.sl false (tbl.map iD))), (3, .ptr 0 0), (5, iT i)]) (fun _ => [.mu (x.d.cells.map T.d)]) (fun i => i ≤ tbl.length ∧ tkB (tbl.take i) x.num x.kind = false) 0 ⟨by omega, rfl⟩ ⟨rfl, rfl, rfl, trivial⟩ rfl 1 rfl (fun _ => rfl) (fun _ => rfl) (fun _ => rfl) ?_
  rintro i ⟨i1, i2⟩
  refine walk ?_
  rw [hlen]
  by_cases hlt : i < tbl.length
  · rw [show decide ((i : Int) < tbl.length) = true from decide_eq_true (by omega)]
    obtain ⟨t, hti⟩ : ∃ t, tbl[i]? = some t := ⟨_, List.getElem?_eq_getElem hlt⟩
    have hdt : (tbl.map iD)[i]? = some (iD t) := by rw [List.getElem?_map, hti]; rfl
    have htb := ht t (List.mem_of_getElem? hti)
    have hq : IntKind.i64.wrap (Int.tdiv (t : Int) 8) = ((t / 8 : Nat) : Int) := by rw [Int.tdiv_eq_ediv_of_nonneg (by omega), wrapI (by omega) (by omega)]; omega
    have hr : Int.tmod (t : Int) 8 = ((t % 8 : Nat) : Int) := by rw [Int.tmod_eq_emod_of_nonneg (by omega)]; omega
    have htk : tkB (tbl.take (i + 1)) x.num x.kind = (t / 8 == x.num && t % 8 == x.kind) := by
      unfold tkB at i2 ⊢
      rw [List.take_add_one, hti, Option.toList_some, List.any_append, i2]; simp
    have hany : (t / 8 == x.num && t % 8 == x.kind) = true → tkB tbl x.num x.kind = true := fun h => List.any_eq_true.2 ⟨t, List.mem_of_getElem? hti, h⟩
    refine adm ?_
    refine x_open rfl rfl ?_
    refine walk ?_
    refine x_mob (.indexAddr (k := .i64) (n := i) (es := tbl.map iD) (u := iD t) rfl rfl rfl rfl (.inl ⟨_, rfl⟩) rfl (by omega) (by simpa using hdt) rfl (by decide)) rfl rfl rfl ?_
    refine walk ?_
    refine x_mob (.quo (k := .i64) (a := t) (b := 8) rfl rfl rfl (by decide)) rfl rfl rfl ?_
    rw [hq]
    (repeat ((with_reducible refine is_runX ?_); first | refine x_skip rfl rfl ?_ | refine x_pure rfl rfl rfl ?_ | refine x_load rfl rfl rfl rfl rfl rfl ?_))
    rw [ibeq]
    cases h1 : (t / 8 == x.num) with
    | false =>
      rw [h1] at htk hany
      refine walk ?_
      rw [show IntKind.i64.wrap ((i : Int) + 1) = ((i + 1 : Nat) : Int) by rw [wrapI (by omega) (by omega)]; omega]
      exact ⟨i + 1, by omega, ⟨by omega, htk⟩, ⟨rfl, rfl, rfl, trivial⟩, rfl, wk_eq rfl⟩
    | true =>
      rw [h1] at htk hany
      refine walk ?_
      refine x_mob (.indexAddr (k := .i64) (n := i) (es := tbl.map iD) (u := iD t) rfl rfl rfl rfl (.inl ⟨_, rfl⟩) rfl (by omega) (by simpa using hdt) rfl (by decide)) rfl rfl rfl ?_
      refine walk ?_
      refine x_mob (.rem (k := .i64) (a := t) (b := 8) rfl rfl rfl (by decide)) rfl rfl rfl ?_
      rw [hr]
      refine walk ?_
      rw [ibeq]
      cases h2 : (t % 8 == x.kind) with
      | false =>
        rw [h2] at htk
        refine walk ?_
        rw [show IntKind.i64.wrap ((i : Int) + 1) = ((i + 1 : Nat) : Int) by rw [wrapI (by omega) (by omega)]; omega]
        exact ⟨i + 1, by omega, ⟨by omega, htk⟩, ⟨rfl, rfl, rfl, trivial⟩, rfl, wk_eq rfl⟩
      | true =>
        rw [h2] at hany
        rw [hany rfl]
        refine walk ?_
        exact l_end trivial (by decide) rfl rfl rfl rfl rfl
  · rw [show decide ((i : Int) < tbl.length) = false from decide_eq_false (by omega)]
    have : i = tbl.length := by omega
    subst this
    rw [List.take_length] at i2
    rw [i2]
    refine walk ?_
    exact l_end trivial (by decide) rfl rfl rfl rfl rfl
end Go.Proofs.YtfbckigcelmopaaGreatDoor
