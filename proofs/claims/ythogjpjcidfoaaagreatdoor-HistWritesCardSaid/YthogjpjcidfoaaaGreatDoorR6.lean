/- The reference: numbers and records written. -/
import Derived.Test.YthogjpjcidfoaaaGreatDoorR4
set_option linter.unusedSimpArgs false
set_option linter.unusedVariables false
set_option maxRecDepth 100000
namespace Go.Proofs.YthogjpjcidfoaaaGreatDoor
open Go Go.Abs
variable (B : Fr)
theorem rVarint_calls (n : Nat) (hn : n < 2 ^ 64) : CallsA (cx B) 157 [uT n] [] (sT (putV n)) [] := by
  refine l_body (X := cx B) (fn := Tryz.f157) Tryz.func157 rfl rfl rfl rfl rfl 0 [] rfl rfl ?_
  refine walk ?_
  refine l_loop (fun x : Nat × Nat × List UInt8 => x.2.1) (fun x => [(0, uT x.2.1), (3, owT (x.2.2.map byteD))]) (fun _ => []) (fun x => putV n = x.2.2 ++ vput x.1 x.2.1 ∧ x.2.1 < 128 ^ (x.1 + 1) ∧ x.2.2.length + x.1 = 9 ∧ x.2.1 < 2 ^ 64) (9, n, []) ⟨rfl, by show n < 128 ^ 10; omega, rfl, hn⟩ ⟨rfl, rfl, trivial⟩ rfl 0 rfl (fun _ => rfl) (fun _ => rfl) (fun _ => rfl) ?_
  rintro ⟨f, m, acc⟩ ⟨i1, i2, i3, i4⟩
  dsimp only at i1 i2 i3 i4 ⊢
  refine walk ?_
  refine r_cond rfl (fun hc => ?_) (fun hc => ?_)
  · have hm : 128 ≤ m := by have := of_decide_eq_true hc; omega
    cases f with
    | zero => omega
    | succ f =>
    have hst : vput (f + 1) m = UInt8.ofNat (m % 128 + 128) :: vput f (m / 128) := by show (if m < 128 then _ else _) = _; rw [if_neg (by omega)]
    have ha : IntKind.u64.wrap ((BitVec.ofInt IntKind.u64.bits (m : Int) &&& BitVec.ofInt IntKind.u64.bits 127).toNat : Int) = ((m % 128 : Nat) : Int) := and64 i4 7 (by omega)
    have ho : IntKind.u64.wrap ((BitVec.ofInt IntKind.u64.bits ((m % 128 : Nat) : Int) ||| BitVec.ofInt IntKind.u64.bits 128).toNat : Int) = ((m % 128 + 128 : Nat) : Int) := or64 (b := 1) (i := 7) (by omega) (by omega)
    have hb : IntKind.u8.wrap ((m % 128 + 128 : Nat) : Int) = ((UInt8.ofNat (m % 128 + 128)).toNat : Int) := by rw [byte_of (by omega)]; exact wrapB (by omega) (by omega)
    refine walk ?_
    (try refine l_open rfl ?_)
    refine l_step (.assignOwn (.inr rfl) rfl) rfl rfl ?_
    refine walk ?_
    rw [ha, ho, hb]
    refine l_step (.buildSlice (es := [byteD (UInt8.ofNat (m % 128 + 128))]) rfl rfl rfl rfl rfl rfl (by intro x hx; simp at hx; subst hx; rfl) (by simp) (by decide) (by decide)) rfl rfl ?_
    have hml : (acc.map byteD).length + [byteD (UInt8.ofNat (m % 128 + 128))].length ≤ most := by simp [most]; omega
    refine l_step (.append' rfl rfl rfl rfl ⟨_, _, rfl, rfl, by intro q; simp⟩ rfl rfl rfl rfl rfl (by rw [show [byteD (UInt8.ofNat (m % 128 + 128))] = [UInt8.ofNat (m % 128 + 128)].map byteD from rfl, ← List.map_append]; exact byte_fits _) (by decide) rfl hml rfl) rfl rfl ?_
    refine l_step (.assignOwn (.inl rfl) rfl) rfl rfl ?_
    refine walk ?_
    rw [show Int.fdiv (m : Int) (2 ^ min 7 IntKind.u64.bits) = ((m / 128 : Nat) : Int) from shrN m 7 (by omega)]
    exact ⟨(f, m / 128, acc ++ [UInt8.ofNat (m % 128 + 128)]), by show m / 128 < m; omega, ⟨by rw [i1, hst]; simp, by show m / 128 < 128 ^ (f + 1); rw [Nat.pow_succ] at i2; omega, by show (acc ++ [_]).length + f = 9; simp; omega, by show m / 128 < 2 ^ 64; omega⟩, ⟨rfl, by show T.own _ _ = owT _; rw [List.map_append]; rfl, trivial⟩, rfl, wk_eq rfl⟩
  · have hm : m < 128 := by have := of_decide_eq_false hc; omega
    have hst : vput f m = [UInt8.ofNat m] := by
      cases f with
      | zero => rfl
      | succ f => show (if m < 128 then _ else _) = _; rw [if_pos hm]
    have hb : IntKind.u8.wrap (m : Int) = ((UInt8.ofNat m).toNat : Int) := by rw [byte_of (by omega)]; exact wrapB (by omega) (by omega)
    refine walk ?_
    (try refine l_open rfl ?_)
    refine l_step (.assignOwn (.inr rfl) rfl) rfl rfl ?_
    refine walk ?_
    rw [hb]
    refine l_step (.buildSlice (es := [byteD (UInt8.ofNat m)]) rfl rfl rfl rfl rfl rfl (by intro x hx; simp at hx; subst hx; rfl) (by simp) (by decide) (by decide)) rfl rfl ?_
    have hml : (acc.map byteD).length + [byteD (UInt8.ofNat m)].length ≤ most := by simp [most]; omega
    refine l_step (.append' rfl rfl rfl rfl ⟨_, _, rfl, rfl, by intro q; simp⟩ rfl rfl rfl rfl rfl (by rw [show [byteD (UInt8.ofNat m)] = [UInt8.ofNat m].map byteD from rfl, ← List.map_append]; exact byte_fits _) (by decide) rfl hml rfl) rfl rfl ?_
    refine l_step (.toStr (l := acc ++ [UInt8.ofNat m]) rfl rfl rfl rfl rfl rfl rfl (by show some _ = some _; rw [List.map_append]; rfl) (by intro s h; cases h)) rfl rfl ?_
    rw [i1, hst]
    refine walk ?_
    exact l_end trivial (by decide) rfl rfl rfl rfl rfl
theorem rTag_calls (n k : Nat) (h1 : 1 ≤ n) (h2 : n ≤ 536870911) (h3 : k ≤ 5) : CallsA (cx B) 111 [iT n, iT k] [] (sT (tagV n k)) [] := by
  have hor : IntKind.u64.wrap ((BitVec.ofInt IntKind.u64.bits (IntKind.u64.wrap (IntKind.u64.wrap (n : Int) * 2 ^ min 3 IntKind.u64.bits)) ||| BitVec.ofInt IntKind.u64.bits (IntKind.u64.wrap (k : Int))).toNat : Int) = ((8 * n + k : Nat) : Int) := by
    have e1 : IntKind.u64.wrap (IntKind.u64.wrap (n : Int) * 2 ^ min 3 IntKind.u64.bits) = ((n * 2 ^ 3 : Nat) : Int) := by
      rw [wrapN (n := n) (by omega), show (n : Int) * 2 ^ min 3 IntKind.u64.bits = ((n * 2 ^ 3 : Nat) : Int) by simp [IntKind.bits]]
      exact wrapN (by omega)
    rw [e1, wrapN (n := k) (by omega), BitVec.or_comm, or64 (i := 3) (by omega) (by omega)]
    congr 1; omega
  refine l_body (X := cx B) (fn := Tryz.f111) Tryz.func111 rfl rfl rfl rfl rfl 0 [] rfl rfl ?_
  refine walk ?_
  rw [show decide ((n : Int) < 1) = false from decide_eq_false (by omega)]
  refine walk ?_
  rw [show decide ((n : Int) ≥ 536870912) = false from decide_eq_false (by omega)]
  refine walk ?_
  rw [show decide ((k : Int) < 0) = false from decide_eq_false (by omega)]
  refine walk ?_
  rw [show decide ((k : Int) > 5) = false from decide_eq_false (by omega)]
  refine walk ?_
  rw [hor]
  refine l_call [] (rVarint_calls B (8 * n + k) (by omega)) rfl rfl rfl rfl rfl rfl rfl (by decide) rfl rfl rfl rfl rfl ?_
  refine walk ?_
  exact l_end trivial (by decide) rfl rfl rfl rfl rfl
theorem tagV_nil (n k : Nat) : (tagV n k == []) = false := by cases h : tagV n k with | nil => exact absurd h (putV_ne _) | cons _ _ => rfl
theorem rNum_calls (n m : Nat) (h1 : 1 ≤ n) (h2 : n ≤ 536870911) (hm : m < 2 ^ 64) : CallsA (cx B) 116 [iT n, uT m] [] (sT (tagV n 0 ++ putV m)) [] := by
  have l1 := putV_len m
  have l2 := putV_len (8 * n + 0)
  refine l_body (X := cx B) (fn := Tryz.f116) Tryz.func116 rfl rfl rfl rfl rfl 0 [] rfl rfl ?_
  refine walk ?_
  refine l_call [] (rTag_calls B n 0 h1 h2 (by omega)) rfl rfl rfl rfl rfl rfl rfl (by decide) rfl rfl rfl rfl rfl ?_
  refine walk ?_
  rw [tagV_nil]
  refine walk ?_
  refine l_call [] (rVarint_calls B m hm) rfl rfl rfl rfl rfl rfl rfl (by decide) rfl rfl rfl rfl rfl ?_
  refine walk ?_
  refine l_step (.addStr (a := tagV n 0) (b := putV m) rfl rfl rfl (by unfold tagV; omega)) rfl rfl ?_
  refine walk ?_
  exact l_end trivial (by decide) rfl rfl rfl rfl rfl
theorem rBytes_calls (n : Nat) (s : List UInt8) (h1 : 1 ≤ n) (h2 : n ≤ 536870911) (hs : s.length < big) : CallsA (cx B) 113 [iT n, sT s] [] (sT (tagV n 2 ++ (putV s.length ++ s))) [] := by
  have l1 := putV_len s.length
  have l2 := putV_len (8 * n + 2)
  unfold big at hs
  refine l_body (X := cx B) (fn := Tryz.f113) Tryz.func113 rfl rfl rfl rfl rfl 0 [] rfl rfl ?_
  refine walk ?_
  refine l_call [] (rTag_calls B n 2 h1 h2 (by omega)) rfl rfl rfl rfl rfl rfl rfl (by decide) rfl rfl rfl rfl rfl ?_
  refine walk ?_
  rw [tagV_nil]
  refine walk ?_
  rw [wrapN (n := s.length) (by omega)]
  refine l_call [] (rVarint_calls B s.length (by omega)) rfl rfl rfl rfl rfl rfl rfl (by decide) rfl rfl rfl rfl rfl ?_
  refine walk ?_
  refine l_step (.addStr (a := tagV n 2) (b := putV s.length) rfl rfl rfl (by unfold tagV; omega)) rfl rfl ?_
  refine walk ?_
  refine l_step (.addStr (a := tagV n 2 ++ putV s.length) (b := s) rfl rfl rfl (by unfold tagV; simp; omega)) rfl rfl ?_
  rw [List.append_assoc]
  refine walk ?_
  exact l_end trivial (by decide) rfl rfl rfl rfl rfl
theorem PutVar_calls (n m : Nat) (h1 : 1 ≤ n) (h2 : n ≤ 536870911) (hm : m < 2 ^ 64) : CallsA (cx B) 61 [iT n, uT m] [] (sT (vrV n m)) [] := by
  unfold vrV
  refine l_body (X := cx B) (fn := Tryz.f61) Tryz.func61 rfl rfl rfl rfl rfl 0 [] rfl rfl ?_
  refine walk ?_
  by_cases h : m = 0
  · rw [if_pos h, show ((m : Int) == 0) = true by rw [h]; rfl]
    refine walk ?_
    exact l_end trivial (by decide) rfl rfl rfl rfl rfl
  · rw [if_neg h, show ((m : Int) == 0) = false by simp; omega]
    refine walk ?_
    refine l_call [] (rNum_calls B n m h1 h2 hm) rfl rfl rfl rfl rfl rfl rfl (by decide) rfl rfl rfl rfl rfl ?_
    refine walk ?_
    exact l_end trivial (by decide) rfl rfl rfl rfl rfl
theorem PutText_calls (n : Nat) (s : List UInt8) (h1 : 1 ≤ n) (h2 : n ≤ 536870911) (hs : s.length < big) : CallsA (cx B) 143 [iT n, sT s] [] (sT (if s = [] then [] else tagV n 2 ++ (putV s.length ++ s))) [] := by
  refine l_body (X := cx B) (fn := Tryz.f143) Tryz.func143 rfl rfl rfl rfl rfl 0 [] rfl rfl ?_
  refine walk ?_
  by_cases h : s = []
  · rw [if_pos h, show (s == []) = true by rw [h]; rfl]
    refine walk ?_
    exact l_end trivial (by decide) rfl rfl rfl rfl rfl
  · rw [if_neg h, show (s == []) = false by cases s with | nil => exact absurd rfl h | cons _ _ => rfl]
    refine walk ?_
    refine l_call [] (rBytes_calls B n s h1 h2 hs) rfl rfl rfl rfl rfl rfl rfl (by decide) rfl rfl rfl rfl rfl ?_
    refine walk ?_
    exact l_end trivial (by decide) rfl rfl rfl rfl rfl
def unkOk (tbl : List Nat) (s : List UInt8) (d : Int) : Bool :=
  match okL s d with
  | some l => !(l.any fun r => tkB tbl r.num r.kind)
  | none => false
theorem Unknown_calls (tbl : List Nat) (hb : tbl.length < 1000) (ht : ∀ t ∈ tbl, t < 100000) (s : List UInt8) (d : Int) (hl : s.length < big) (hd1 : -9223372036854775808 ≤ d) (hd2 : d < 9223372036854775808) : CallsA (cx B) 39 [sT s, .d (.int .i64 d), .d (.sl false (tbl.map iD))] [] (.d (.bool (unkOk tbl s d))) [] := by
  have h1 := Fields_calls B s d hl hd1 hd2
  unfold big at hl
  unfold unkOk
  unfold fieldsT at h1
  cases ho : okL s d with
  | none =>
    rw [ho] at h1
    dsimp only at h1 ⊢
    refine l_body (X := cx B) (fn := Tryz.f39) Tryz.func39 rfl rfl rfl rfl rfl 0 [] rfl rfl ?_
    refine walk ?_
    refine l_call [] (h1) rfl rfl rfl rfl rfl rfl rfl (by decide) rfl rfl rfl rfl rfl ?_
    refine walk ?_
    refine l_loop (fun _ : Unit => 0) (fun _ => [(7, .d (.sl true [])), (8, .d (.bool false)), (9, iT 0)]) (fun _ => []) (fun _ => True) () trivial ⟨rfl, rfl, rfl, trivial⟩ rfl 0 rfl (fun _ => rfl) (fun _ => rfl) (fun _ => rfl) ?_
    intro _ _
    refine walk ?_
    exact l_end trivial (by decide) rfl rfl rfl rfl rfl
  | some l =>
    rw [ho] at h1
    obtain ⟨w1, w2⟩ := okL_wt ho
    dsimp only at h1 ⊢
    have hlen : (l.map Fld.d).length = l.length := by simp
    have hlok : LOk l := ⟨w2, by unfold big; omega⟩
    have hlb := hlok.len
    refine l_body (X := cx B) (fn := Tryz.f39) Tryz.func39 rfl rfl rfl rfl rfl 0 [] rfl rfl ?_
    refine walk ?_
    refine l_call [] (h1) rfl rfl rfl rfl rfl rfl rfl (by decide) rfl rfl rfl rfl rfl ?_
    refine walk ?_
    refine l_loop (fun i : Nat => l.length - i) (fun i => [(2, .d (.sl false (tbl.map iD))), (7, .d (slD (l.map Fld.d))), (8, .d (.bool true)), (9, iT i)]) (fun _ => []) (fun i => i ≤ l.length ∧ (l.take i).any (fun r => tkB tbl r.num r.kind) = false) 0 ⟨by omega, rfl⟩ ⟨rfl, rfl, rfl, rfl, trivial⟩ rfl 0 rfl (fun _ => rfl) (fun _ => rfl) (fun _ => rfl) ?_
    rintro i ⟨i1, i2⟩
    refine walk ?_
    rw [hlen]
    refine r_cond rfl (fun hc => ?_) (fun hc => ?_)
    · have hlt : i < l.length := by have := of_decide_eq_true hc; omega
      obtain ⟨x, hx⟩ : ∃ x, l[i]? = some x := ⟨_, List.getElem?_eq_getElem hlt⟩
      have hdx : (l.map Fld.d)[i]? = some x.d := by rw [List.getElem?_map, hx]; rfl
      have h3 := Takes_calls B tbl x hb ht
      refine walk ?_
      refine l_step (.indexAddr (k := .i64) (n := i) (es := l.map Fld.d) (u := x.d) rfl rfl rfl rfl (.inl ⟨_, rfl⟩) rfl (by omega) (by simpa using hdx) rfl (by decide)) rfl rfl ?_
      refine walk ?_
      refine l_call [] (h3) rfl rfl rfl rfl rfl rfl rfl (by decide) rfl rfl rfl rfl rfl ?_
      refine walk ?_
      cases hk : tkB tbl x.num x.kind with
      | true =>
        rw [show (l.any fun r => tkB tbl r.num r.kind) = true from List.any_eq_true.2 ⟨x, List.mem_of_getElem? hx, hk⟩]
        refine walk ?_
        exact l_end trivial (by decide) rfl rfl rfl rfl rfl
      | false =>
        refine walk ?_
        rw [show IntKind.i64.wrap ((i : Int) + 1) = ((i + 1 : Nat) : Int) by rw [wrapI (by omega) (by omega)]; omega]
        exact ⟨i + 1, by omega, ⟨by omega, by rw [List.take_add_one, hx, List.any_append, i2]; simp [hk]⟩, ⟨rfl, rfl, rfl, rfl, trivial⟩, rfl, wk_eq rfl⟩
    · have hge : i = l.length := by have := of_decide_eq_false hc; omega
      subst hge
      rw [List.take_length] at i2
      rw [i2]
      refine walk ?_
      exact l_end trivial (by decide) rfl rfl rfl rfl rfl
end Go.Proofs.YthogjpjcidfoaaaGreatDoor
