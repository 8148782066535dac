/- Values and attributes: may they be? -/
import Derived.Test.YtaenjdichndafaaGreatDoorW7
set_option linter.unusedSimpArgs false
set_option linter.unusedVariables false
set_option maxRecDepth 100000
namespace Go.Proofs.YtaenjdichndafaaGreatDoor
open Go Go.Abs
variable (B : Fr)
theorem nested_calls (kind : Int) (s : List UInt8) (b : Bool) (n : Nat) (zl : Bool) (ls : List D) (zm : Bool) (ms : List D) (inner u : List UInt8) :
    CallsA (cx B) 163 [.d (.agg [.int .i64 kind, .str s, .bool b, .int .u64 n, .sl zl ls, .sl zm ms, .str inner, .str u])] [] (.d (.bool (nestB ls.length ms.length inner))) [] := by
  unfold nestB
  refine l_body (X := cx B) (fn := Tryz.f163) Tryz.func163 rfl rfl rfl rfl rfl 0 [] rfl rfl ?_
  refine walk ?_
  rw [show (((ls.length : Nat) : Int) == 0) = (ls.length == 0) from ibeq ls.length 0]
  cases h1 : (ls.length == 0) with
  | false =>
    refine walk ?_
    exact l_end trivial (by decide) rfl rfl rfl rfl rfl
  | true =>
    refine walk ?_
    rw [show (((ms.length : Nat) : Int) == 0) = (ms.length == 0) from ibeq ms.length 0]
    cases h2 : (ms.length == 0) with
    | false =>
      refine walk ?_
      exact l_end trivial (by decide) rfl rfl rfl rfl rfl
    | true =>
      refine walk ?_
      exact l_end trivial (by decide) rfl rfl rfl rfl rfl
theorem plain_calls (kind : Int) (s : List UInt8) (b : Bool) (n : Nat) (zl : Bool) (ls : List D) (zm : Bool) (ms : List D) (inner u : List UInt8) :
    CallsA (cx B) 162 [.d (.agg [.int .i64 kind, .str s, .bool b, .int .u64 n, .sl zl ls, .sl zm ms, .str inner, .str u])] [] (.d (.bool (n == 0 && !b && nestB ls.length ms.length inner))) [] := by
  refine l_body (X := cx B) (fn := Tryz.f162) Tryz.func162 rfl rfl rfl rfl rfl 0 [] rfl rfl ?_
  refine walk ?_
  rw [show (((n : Nat) : Int) == 0) = (n == 0) from ibeq n 0]
  cases h1 : (n == 0) with
  | false =>
    refine walk ?_
    exact l_end trivial (by decide) rfl rfl rfl rfl rfl
  | true =>
    refine walk ?_
    cases b with
    | true =>
      refine walk ?_
      exact l_end trivial (by decide) rfl rfl rfl rfl rfl
    | false =>
      refine walk ?_
      refine l_callG [] (nested_calls B kind s false n zl ls zm ms inner u) rfl rfl rfl rfl rfl rfl rfl rfl rfl (by decide) rfl rfl rfl rfl rfl ?_
      refine walk ?_
      exact l_end trivial (by decide) rfl rfl rfl rfl rfl
theorem bare_calls (kind : Int) (s : List UInt8) (b : Bool) (n : Nat) (zl : Bool) (ls : List D) (zm : Bool) (ms : List D) (inner u : List UInt8) (hs : s.length < big) :
    CallsA (cx B) 151 [.d (.agg [.int .i64 kind, .str s, .bool b, .int .u64 n, .sl zl ls, .sl zm ms, .str inner, .str u])] [] (.d (.bool (bareV kind s b n ls.length ms.length inner))) [] := by
  have hp := plain_calls B kind s b n zl ls zm ms inner u
  have hn := nested_calls B kind s b n zl ls zm ms inner u
  have e0 : (((n : Nat) : Int) == 0) = (n == 0) := ibeq n 0
  have el : (((ls.length : Nat) : Int) == 0) = (ls.length == 0) := ibeq ls.length 0
  have em : (((ms.length : Nat) : Int) == 0) = (ms.length == 0) := ibeq ms.length 0
  by_cases k1 : kind = 1
  · subst k1
    simp only [bareV, if_true]
    refine l_body (X := cx B) (fn := Tryz.f151) Tryz.func151 rfl rfl rfl rfl rfl 0 [] rfl rfl ?_
    refine walk ?_
    refine l_call [] (Valid_calls B s hs) rfl rfl rfl rfl rfl rfl rfl (by decide) rfl rfl rfl rfl rfl ?_
    refine walk ?_
    cases h1 : txt s with
    | false =>
      refine walk ?_
      exact l_end trivial (by decide) rfl rfl rfl rfl rfl
    | true =>
      refine walk ?_
      refine l_callG [] (hp) rfl rfl rfl rfl rfl rfl rfl rfl rfl (by decide) rfl rfl rfl rfl rfl ?_
      refine walk ?_
      exact l_end trivial (by decide) rfl rfl rfl rfl rfl
  by_cases k7 : kind = 7
  · subst k7
    simp only [bareV]
    refine l_body (X := cx B) (fn := Tryz.f151) Tryz.func151 rfl rfl rfl rfl rfl 0 [] rfl rfl ?_
    refine walk ?_
    refine l_call [] (hp) rfl rfl rfl rfl rfl rfl rfl (by decide) rfl rfl rfl rfl rfl ?_
    refine walk ?_
    exact l_end trivial (by decide) rfl rfl rfl rfl rfl
  by_cases k2 : kind = 2
  · subst k2
    simp only [bareV]
    refine l_body (X := cx B) (fn := Tryz.f151) Tryz.func151 rfl rfl rfl rfl rfl 0 [] rfl rfl ?_
    refine walk ?_
    cases h1 : (s == []) with
    | false =>
      refine walk ?_
      exact l_end trivial (by decide) rfl rfl rfl rfl rfl
    | true =>
      refine walk ?_
      rw [e0]
      cases h2 : (n == 0) with
      | false =>
        refine walk ?_
        exact l_end trivial (by decide) rfl rfl rfl rfl rfl
      | true =>
        refine walk ?_
        refine l_callG [] (hn) rfl rfl rfl rfl rfl rfl rfl rfl rfl (by decide) rfl rfl rfl rfl rfl ?_
        refine walk ?_
        exact l_end trivial (by decide) rfl rfl rfl rfl rfl
  by_cases k34 : kind = 3 ∨ kind = 4
  · rcases k34 with rfl | rfl
    all_goals simp only [bareV]
    · refine l_body (X := cx B) (fn := Tryz.f151) Tryz.func151 rfl rfl rfl rfl rfl 0 [] rfl rfl ?_
      refine walk ?_
      cases h1 : (s == []) with
      | false =>
        refine walk ?_
        exact l_end trivial (by decide) rfl rfl rfl rfl rfl
      | true =>
        refine walk ?_
        cases b with
        | true =>
          refine walk ?_
          exact l_end trivial (by decide) rfl rfl rfl rfl rfl
        | false =>
          refine walk ?_
          refine l_callG [] (hn) rfl rfl rfl rfl rfl rfl rfl rfl rfl (by decide) rfl rfl rfl rfl rfl ?_
          refine walk ?_
          exact l_end trivial (by decide) rfl rfl rfl rfl rfl
    · refine l_body (X := cx B) (fn := Tryz.f151) Tryz.func151 rfl rfl rfl rfl rfl 0 [] rfl rfl ?_
      refine walk ?_
      cases h1 : (s == []) with
      | false =>
        refine walk ?_
        exact l_end trivial (by decide) rfl rfl rfl rfl rfl
      | true =>
        refine walk ?_
        cases b with
        | true =>
          refine walk ?_
          exact l_end trivial (by decide) rfl rfl rfl rfl rfl
        | false =>
          refine walk ?_
          refine l_callG [] (hn) rfl rfl rfl rfl rfl rfl rfl rfl rfl (by decide) rfl rfl rfl rfl rfl ?_
          refine walk ?_
          exact l_end trivial (by decide) rfl rfl rfl rfl rfl
  by_cases k0 : kind = 0
  · subst k0
    simp only [bareV]
    refine l_body (X := cx B) (fn := Tryz.f151) Tryz.func151 rfl rfl rfl rfl rfl 0 [] rfl rfl ?_
    refine walk ?_
    cases h1 : (s == []) with
    | false =>
      refine walk ?_
      exact l_end trivial (by decide) rfl rfl rfl rfl rfl
    | true =>
      refine walk ?_
      rw [e0]
      cases h2 : (n == 0) with
      | false =>
        refine walk ?_
        exact l_end trivial (by decide) rfl rfl rfl rfl rfl
      | true =>
        refine walk ?_
        cases b with
        | true =>
          refine walk ?_
          exact l_end trivial (by decide) rfl rfl rfl rfl rfl
        | false =>
          refine walk ?_
          refine l_callG [] (hn) rfl rfl rfl rfl rfl rfl rfl rfl rfl (by decide) rfl rfl rfl rfl rfl ?_
          refine walk ?_
          exact l_end trivial (by decide) rfl rfl rfl rfl rfl
  by_cases k5 : kind = 5
  · subst k5
    simp only [bareV]
    refine l_body (X := cx B) (fn := Tryz.f151) Tryz.func151 rfl rfl rfl rfl rfl 0 [] rfl rfl ?_
    refine walk ?_
    cases h1 : (s == []) with
    | false =>
      refine walk ?_
      exact l_end trivial (by decide) rfl rfl rfl rfl rfl
    | true =>
      refine walk ?_
      rw [e0]
      cases h2 : (n == 0) with
      | false =>
        refine walk ?_
        exact l_end trivial (by decide) rfl rfl rfl rfl rfl
      | true =>
        refine walk ?_
        cases b with
        | true =>
          refine walk ?_
          exact l_end trivial (by decide) rfl rfl rfl rfl rfl
        | false =>
          refine walk ?_
          rw [em]
          exact l_end trivial (by decide) rfl rfl rfl rfl rfl
  by_cases k6 : kind = 6
  · subst k6
    simp only [bareV]
    refine l_body (X := cx B) (fn := Tryz.f151) Tryz.func151 rfl rfl rfl rfl rfl 0 [] rfl rfl ?_
    refine walk ?_
    cases h1 : (s == []) with
    | false =>
      refine walk ?_
      exact l_end trivial (by decide) rfl rfl rfl rfl rfl
    | true =>
      refine walk ?_
      rw [e0]
      cases h2 : (n == 0) with
      | false =>
        refine walk ?_
        exact l_end trivial (by decide) rfl rfl rfl rfl rfl
      | true =>
        refine walk ?_
        cases b with
        | true =>
          refine walk ?_
          exact l_end trivial (by decide) rfl rfl rfl rfl rfl
        | false =>
          refine walk ?_
          rw [el]
          exact l_end trivial (by decide) rfl rfl rfl rfl rfl
  simp only [bareV, k1, k7, k2, k34, k0, k5, k6, if_false]
  have n1 : (kind == 1) = false := by simp [k1]
  have n7 : (kind == 7) = false := by simp [k7]
  have n2 : (kind == 2) = false := by simp [k2]
  have n3 : (kind == 3) = false := by simp; omega
  have n4 : (kind == 4) = false := by simp; omega
  have n0 : (kind == 0) = false := by simp [k0]
  have n5 : (kind == 5) = false := by simp [k5]
  have n6 : (kind == 6) = false := by simp [k6]
  refine l_body (X := cx B) (fn := Tryz.f151) Tryz.func151 rfl rfl rfl rfl rfl 0 [] rfl rfl ?_
  refine walk ?_
  rw [n1]
  refine walk ?_
  rw [n7]
  refine walk ?_
  rw [n2]
  refine walk ?_
  rw [n3]
  refine walk ?_
  rw [n4]
  refine walk ?_
  rw [n0]
  refine walk ?_
  rw [n5]
  refine walk ?_
  rw [n6]
  refine walk ?_
  exact l_end trivial (by decide) rfl rfl rfl rfl rfl
/-- At a place. -/
def atB {α : Type} (p : α → Bool) (a : List α) (i : Nat) : Bool :=
  match a[i]? with
  | some x => p x
  | none => true
theorem atB_all {α : Type} (p : α → Bool) : ∀ a : List α, a.all p = (List.range a.length).all (atB p a)
  | [] => rfl
  | x :: a => by
    rw [List.all_cons, atB_all p a, List.length_cons, List.range_succ_eq_map, List.all_cons, List.all_map]
    have e2 : (atB p (x :: a) ∘ Nat.succ) = atB p a := by funext i; rfl
    rw [e2]
    rfl
theorem wrap_sub {d : Int} (k : Int) (h0 : 0 ≤ k) (h1 : k ≤ 100) (hd : -9223372036854775000 ≤ d) (hd2 : d < 9223372036854775808) : IntKind.i64.wrap (d - k) = d - k := by rw [wrapI (by omega) (by omega)]
theorem noVl_R : noVl.R (.agg [.int .i64 0, .str [], .bool false, .int .u64 0, .sl true [], .sl true [], .str [], .str []]) := ⟨true, [], true, [], rfl, rfl, rfl⟩
theorem isNo_is (v : Vl) : v.isNo = v.eq noVl := by
  rcases v with ⟨kind, s, b, n, l, m, inner, u⟩
  have e1 : ∀ l : List Vl, Vl.eqs l [] = (l.length == 0) := fun l => by cases l <;> simp [Vl.eqs]
  have e2 : ∀ l : List Kv, Kv.eqs l [] = (l.length == 0) := fun l => by cases l <;> simp [Kv.eqs]
  unfold noVl Vl.isNo
  rw [show Vl.eq (.mk kind s b n l m inner u) (.mk 0 [] false 0 [] [] [] []) = (kind == 0 && s == [] && b == false && n == 0 && inner == [] && u == [] && Vl.eqs l [] && Kv.eqs m []) by simp only [Vl.eq], e1, e2]
theorem val_may (n : Nat) : (∀ (a : Vl) (xa : D) (d : Int), a.sz < n → a.sz < big → -9223372036854775000 ≤ d → d < 9223372036854775808 → a.R xa → CallsA (cx B) 128 [.d xa, .d (.int .i64 d)] [] (.d (.bool (a.may d))) []) ∧
    (∀ (a : Kv) (xa : D) (d : Int), a.sz < n → a.sz < big → -9223372036854775000 ≤ d → d < 9223372036854775808 → a.R xa → CallsA (cx B) 97 [.d xa, .d (.int .i64 d)] [] (.d (.bool (a.may d))) []) ∧
    (∀ (a : List Kv) (z : Bool) (xa : List D) (d : Int), Kv.szs a < n → Kv.szs a < big → -9223372036854775000 ≤ d → d < 9223372036854775808 → Kv.Rs a xa → CallsA (cx B) 60 [.d (.sl z xa), .d (.int .i64 d)] [] (.d (.bool (Kv.mays a d))) []) := by
  induction n with
  | zero => exact ⟨fun _ _ _ h => by omega, fun _ _ _ h => by omega, fun _ _ _ _ h => by omega⟩
  | succ n ih =>
    obtain ⟨ihV, ihK, ihS⟩ := ih
    have lists : ∀ (m : Nat) (a : List Kv) (z : Bool) (xa : List D) (d : Int), (∀ k ∈ a, k.sz < m) → Kv.szs a < big → -9223372036854775000 ≤ d → d < 9223372036854775808 → Kv.Rs a xa → (∀ (a : Kv) (xa : D) (d : Int), a.sz < m → a.sz < big → -9223372036854775000 ≤ d → d < 9223372036854775808 → a.R xa → CallsA (cx B) 97 [.d xa, .d (.int .i64 d)] [] (.d (.bool (a.may d))) []) →
        CallsA (cx B) 60 [.d (.sl z xa), .d (.int .i64 d)] [] (.d (.bool (Kv.mays a d))) [] := by
      intro m a z xs d hs hbig hd1 hd2 ha hK
      have hla := Kv.Rs_len ha
      have hls := Kv.len_szs a
      have hl : xs.length < 9223372036854775807 := by unfold big at hbig; omega
      rw [Kv.mays_all, atB_all, ← hla]
      have hf : ∀ (i : Nat) x, xs[i]? = some x → CallsA (cx B) 97 [.d x, .d (.int .i64 d)] [] (.d (.bool (atB (fun v => v.may d) a i))) [] := fun i x hx => by
        have hi : i < a.length := by rw [← hla]; exact (List.getElem?_eq_some_iff.1 hx).1
        obtain ⟨v, hv⟩ : ∃ v, a[i]? = some v := ⟨_, List.getElem?_eq_getElem hi⟩
        obtain ⟨x', e1, r1⟩ := Kv.Rs_get ha hv
        rw [hx] at e1; injection e1 with e1; subst e1
        have hm := List.mem_of_getElem? hv
        have := Kv.sz_mem hm
        have e : atB (fun v => v.may d) a i = v.may d := by unfold atB; rw [hv]
        rw [e]
        exact hK v x d (hs v hm) (by omega) hd1 hd2 r1
      have hsh := Kv.Rs_sh ha
      generalize atB (fun v : Kv => v.may d) a = r at hf ⊢
      refine l_body (X := cx B) (fn := Tryz.f60) Tryz.func60 rfl rfl rfl rfl rfl 0 [] rfl rfl ?_
      refine walk ?_
      refine l_loop (fun i : Nat => xs.length - i) (fun i => [(1, .d (.int .i64 d)), (7, .d (.sl z xs)), (8, iT xs.length), (9, iT i)]) (fun _ => []) (fun i => i ≤ xs.length ∧ (List.range i).all r = true) 0 ⟨by omega, rfl⟩ ⟨rfl, rfl, rfl, rfl, trivial⟩ rfl 0 rfl (fun _ => rfl) (fun _ => rfl) (fun _ => rfl) ?_
      rintro i ⟨i1, i2⟩
      refine walk ?_
      refine r_cond rfl (fun hd => ?_) (fun hd => ?_)
      · have hlt : i < xs.length := by have := of_decide_eq_true hd; omega
        obtain ⟨x, hxi⟩ : ∃ x, xs[i]? = some x := ⟨_, List.getElem?_eq_getElem hlt⟩
        have hc := hf i x hxi
        obtain ⟨a0, a1, a2, a3, a4, a5, a6, a7, a8, a9, a10, a11, a12, rfl⟩ := hsh x (List.mem_of_getElem? hxi)
        have hin : (List.range xs.length).all r = true → r i = true := fun h => List.all_eq_true.1 h i (List.mem_range.2 hlt)
        refine walk ?_
        refine l_step (.indexAddr (k := .i64) (n := i) (es := xs) rfl rfl rfl rfl (.inl ⟨_, rfl⟩) rfl (by omega) (by simpa using hxi) rfl (by decide)) rfl rfl ?_
        refine walk ?_
        refine l_call [] (hc) rfl rfl rfl rfl rfl rfl rfl (by decide) rfl rfl rfl rfl rfl ?_
        refine walk ?_
        cases hr : r i with
        | false =>
          rw [show (List.range xs.length).all r = false by cases hh : (List.range xs.length).all r with | false => rfl | true => rw [hin hh] at hr; simp at hr]
          refine walk ?_
          exact l_end trivial (by decide) rfl rfl rfl rfl rfl
        | true =>
          refine walk ?_
          rw [show IntKind.i64.wrap ((i : Int) + 1) = ((i + 1 : Nat) : Int) by rw [wrapI (by omega) (by omega)]; omega]
          exact ⟨i + 1, by omega, ⟨by omega, by rw [List.range_succ, List.all_append, i2]; simp [hr]⟩, ⟨rfl, rfl, rfl, rfl, trivial⟩, rfl, wk_eq rfl⟩
      · have hge : i = xs.length := by have := of_decide_eq_false hd; omega
        subst hge
        rw [i2]
        refine walk ?_
        exact l_end trivial (by decide) rfl rfl rfl rfl rfl
    have hV : ∀ (a : Vl) (xa : D) (d : Int), a.sz < n + 1 → a.sz < big → -9223372036854775000 ≤ d → d < 9223372036854775808 → a.R xa → CallsA (cx B) 128 [.d xa, .d (.int .i64 d)] [] (.d (.bool (a.may d))) [] := by
      rintro ⟨kind, s, bb, nn, l, m, inner, u⟩ xa d hsz hbig hd1 hd2 ⟨zl, ls, zm, ms, rfl, hl, hm⟩
      unfold Vl.sz at hsz hbig
      have hla := Vl.Rs_len hl
      have hlb := Kv.Rs_len hm
      have hlsz := Vl.len_szs l
      unfold Vl.may
      have h0 := bare_calls B kind s bb nn zl ls zm ms inner u (by omega)
      have h1 := Rest_calls B 112 tbV (tbV_calls B) u d (by omega) (by omega) hd2
      rw [hla, hlb] at h0
      by_cases hd0 : d < 0
      · rw [show decide (0 ≤ d) = false from decide_eq_false (by omega)]
        refine l_body (X := cx B) (fn := Tryz.f128) Tryz.func128 rfl rfl rfl rfl rfl 0 [] rfl rfl ?_
        refine walk ?_
        rw [show decide (d < 0) = true from decide_eq_true hd0]
        refine walk ?_
        exact l_end trivial (by decide) rfl rfl rfl rfl rfl
      rw [show decide (0 ≤ d) = true from decide_eq_true (by omega)]
      cases hb : bareV kind s bb nn l.length m.length inner with
      | false =>
        rw [hb] at h0
        refine l_body (X := cx B) (fn := Tryz.f128) Tryz.func128 rfl rfl rfl rfl rfl 0 [] rfl rfl ?_
        refine walk ?_
        rw [show decide (d < 0) = false from decide_eq_false hd0]
        refine walk ?_
        refine l_callG [] (h0) rfl rfl rfl rfl rfl rfl rfl rfl rfl (by decide) rfl rfl rfl rfl rfl ?_
        refine walk ?_
        exact l_end trivial (by decide) rfl rfl rfl rfl rfl
      | true =>
      rw [hb] at h0
      cases hr : restB tbV u d with
      | false =>
        rw [hr] at h1
        refine l_body (X := cx B) (fn := Tryz.f128) Tryz.func128 rfl rfl rfl rfl rfl 0 [] rfl rfl ?_
        refine walk ?_
        rw [show decide (d < 0) = false from decide_eq_false hd0]
        refine walk ?_
        refine l_callG [] (h0) rfl rfl rfl rfl rfl rfl rfl rfl rfl (by decide) rfl rfl rfl rfl rfl ?_
        refine walk ?_
        refine l_callG [] (h1) rfl rfl rfl rfl rfl rfl rfl rfl rfl (by decide) rfl rfl rfl rfl rfl ?_
        refine walk ?_
        exact l_end trivial (by decide) rfl rfl rfl rfl rfl
      | true =>
      rw [hr] at h1
      by_cases h56 : kind = 5 ∨ kind = 6
      rotate_left
      · rw [if_neg h56]
        have n5 : (kind != 5) = true := by simp; omega
        have n6 : (kind != 6) = true := by simp; omega
        refine l_body (X := cx B) (fn := Tryz.f128) Tryz.func128 rfl rfl rfl rfl rfl 0 [] rfl rfl ?_
        refine walk ?_
        rw [show decide (d < 0) = false from decide_eq_false hd0]
        refine walk ?_
        refine l_callG [] (h0) rfl rfl rfl rfl rfl rfl rfl rfl rfl (by decide) rfl rfl rfl rfl rfl ?_
        refine walk ?_
        refine l_callG [] (h1) rfl rfl rfl rfl rfl rfl rfl rfl rfl (by decide) rfl rfl rfl rfl rfl ?_
        refine walk ?_
        rw [n5]
        refine walk ?_
        rw [n6]
        refine walk ?_
        exact l_end trivial (by decide) rfl rfl rfl rfl rfl
      rw [if_pos h56]
      have k56 : (kind != 5 && kind != 6) = false := by rcases h56 with rfl | rfl <;> rfl
      by_cases hd3 : d < 1
      · rw [show decide (1 ≤ d) = false from decide_eq_false (by omega)]
        rcases h56 with rfl | rfl
        all_goals (
        refine l_body (X := cx B) (fn := Tryz.f128) Tryz.func128 rfl rfl rfl rfl rfl 0 [] rfl rfl ?_
        refine walk ?_
        rw [show decide (d < 0) = false from decide_eq_false hd0]
        refine walk ?_
        refine l_callG [] (h0) rfl rfl rfl rfl rfl rfl rfl rfl rfl (by decide) rfl rfl rfl rfl rfl ?_
        refine walk ?_
        refine l_callG [] (h1) rfl rfl rfl rfl rfl rfl rfl rfl rfl (by decide) rfl rfl rfl rfl rfl ?_
        refine walk ?_
        rw [show decide (d < 1) = true from decide_eq_true hd3]
        refine walk ?_
        exact l_end trivial (by decide) rfl rfl rfl rfl rfl)
      rw [show decide (1 ≤ d) = true from decide_eq_true (by omega)]
      have h2 := Rest_calls B 140 tbL (tbL_calls B) inner (d - 1) (by omega) (by omega) (by omega)
      have h3 := lists n m zm ms (d - 2) (fun k hk => by have := Kv.sz_mem hk; omega) (by omega) (by omega) (by omega) hm ihK
      cases hr2 : restB tbL inner (d - 1) with
      | false =>
        rw [hr2] at h2
        rcases h56 with rfl | rfl
        all_goals (
        refine l_body (X := cx B) (fn := Tryz.f128) Tryz.func128 rfl rfl rfl rfl rfl 0 [] rfl rfl ?_
        refine walk ?_
        rw [show decide (d < 0) = false from decide_eq_false hd0]
        refine walk ?_
        refine l_callG [] (h0) rfl rfl rfl rfl rfl rfl rfl rfl rfl (by decide) rfl rfl rfl rfl rfl ?_
        refine walk ?_
        refine l_callG [] (h1) rfl rfl rfl rfl rfl rfl rfl rfl rfl (by decide) rfl rfl rfl rfl rfl ?_
        refine walk ?_
        rw [show decide (d < 1) = false from decide_eq_false hd3]
        refine walk ?_
        rw [wrap_sub 1 (by omega) (by omega) (by omega) hd2]
        refine l_callG [] (h2) rfl rfl rfl rfl rfl rfl rfl rfl rfl (by decide) rfl rfl rfl rfl rfl ?_
        refine walk ?_
        exact l_end trivial (by decide) rfl rfl rfl rfl rfl)
      | true =>
      rw [hr2] at h2
      have hlen : ls.length < 9223372036854775807 := by unfold big at hbig; omega
      rw [Vl.mays_all, atB_all, ← hla]
      have hf : ∀ (i : Nat) x, ls[i]? = some x → CallsA (cx B) 128 [.d x, .d (.int .i64 (d - 2))] [] (.d (.bool (atB (fun v => v.may (d - 2)) l i))) [] := fun i x hx => by
        have hi : i < l.length := by rw [← hla]; exact (List.getElem?_eq_some_iff.1 hx).1
        obtain ⟨v, hv⟩ : ∃ v, l[i]? = some v := ⟨_, List.getElem?_eq_getElem hi⟩
        obtain ⟨x', e1, r1⟩ := Vl.Rs_get hl hv
        rw [hx] at e1; injection e1 with e1; subst e1
        have := Vl.sz_mem (List.mem_of_getElem? hv)
        have e : atB (fun v => v.may (d - 2)) l i = v.may (d - 2) := by unfold atB; rw [hv]
        rw [e]
        exact ihV v x (d - 2) (by omega) (by omega) (by omega) (by omega) r1
      have hsh := Vl.Rs_sh hl
      generalize atB (fun v : Vl => v.may (d - 2)) l = r at hf ⊢
      rcases h56 with rfl | rfl
      all_goals (
      refine l_body (X := cx B) (fn := Tryz.f128) Tryz.func128 rfl rfl rfl rfl rfl 0 [] rfl rfl ?_
      refine walk ?_
      rw [show decide (d < 0) = false from decide_eq_false hd0]
      refine walk ?_
      refine l_callG [] (h0) rfl rfl rfl rfl rfl rfl rfl rfl rfl (by decide) rfl rfl rfl rfl rfl ?_
      refine walk ?_
      refine l_callG [] (h1) rfl rfl rfl rfl rfl rfl rfl rfl rfl (by decide) rfl rfl rfl rfl rfl ?_
      refine walk ?_
      rw [show decide (d < 1) = false from decide_eq_false hd3]
      refine walk ?_
      rw [wrap_sub 1 (by omega) (by omega) (by omega) hd2]
      refine l_callG [] (h2) rfl rfl rfl rfl rfl rfl rfl rfl rfl (by decide) rfl rfl rfl rfl rfl ?_
      refine walk ?_
      refine l_loop (fun i : Nat => ls.length - i) (fun i => [(1, .d (.int .i64 d)), (2, .ptr 0 0), (40, .d (.sl zl ls)), (41, iT ls.length), (42, iT i)]) (fun _ => _) (fun i => i ≤ ls.length ∧ (List.range i).all r = true) 0 ⟨by omega, rfl⟩ ⟨rfl, rfl, rfl, rfl, rfl, trivial⟩ rfl 1 rfl (fun _ => rfl) (fun _ => rfl) (fun _ => rfl) ?_
      rintro i ⟨i1, i2⟩
      refine walk ?_
      refine r_cond rfl (fun hd => ?_) (fun hd => ?_)
      · have hlt : i < ls.length := by have := of_decide_eq_true hd; omega
        obtain ⟨x, hxi⟩ : ∃ x, ls[i]? = some x := ⟨_, List.getElem?_eq_getElem hlt⟩
        have hc := hf i x hxi
        obtain ⟨a0, a1, a2, a3, a4, a5, a6, a7, a8, a9, rfl⟩ := hsh x (List.mem_of_getElem? hxi)
        have hin : (List.range ls.length).all r = true → r i = true := fun h => List.all_eq_true.1 h i (List.mem_range.2 hlt)
        refine walk ?_
        refine l_step (.indexAddr (k := .i64) (n := i) (es := ls) rfl rfl rfl rfl (.inl ⟨_, rfl⟩) rfl (by omega) (by simpa using hxi) rfl (by decide)) rfl rfl ?_
        refine walk ?_
        rw [wrap_sub 2 (by omega) (by omega) (by omega) hd2]
        refine l_call [] (hc) rfl rfl rfl rfl rfl rfl rfl (by decide) rfl rfl rfl rfl rfl ?_
        refine walk ?_
        cases hr : r i with
        | false =>
          rw [show (List.range ls.length).all r = false by cases hh : (List.range ls.length).all r with | false => rfl | true => rw [hin hh] at hr; simp at hr]
          refine walk ?_
          exact l_end trivial (by decide) rfl rfl rfl rfl rfl
        | true =>
          refine walk ?_
          rw [show IntKind.i64.wrap ((i : Int) + 1) = ((i + 1 : Nat) : Int) by rw [wrapI (by omega) (by omega)]; omega]
          exact ⟨i + 1, by omega, ⟨by omega, by rw [List.range_succ, List.all_append, i2]; simp [hr]⟩, ⟨rfl, rfl, rfl, rfl, rfl, trivial⟩, rfl, wk_eq rfl⟩
      · have hge : i = ls.length := by have := of_decide_eq_false hd; omega
        subst hge
        rw [i2]
        refine walk ?_
        rw [wrap_sub 2 (by omega) (by omega) (by omega) hd2]
        refine l_call [] (h3) rfl rfl rfl rfl rfl rfl rfl (by decide) rfl rfl rfl rfl rfl ?_
        refine walk ?_
        exact l_end trivial (by decide) rfl rfl rfl rfl rfl)
    have hK : ∀ (a : Kv) (xa : D) (d : Int), a.sz < n + 1 → a.sz < big → -9223372036854775000 ≤ d → d < 9223372036854775808 → a.R xa → CallsA (cx B) 97 [.d xa, .d (.int .i64 d)] [] (.d (.bool (a.may d))) [] := by
      rintro ⟨key, has, ⟨kind, s, bb, nn, l, m, inner, vu⟩, u⟩ xa d hsz hbig hd1 hd2 ⟨zl, ls, zm, ms, rfl, hl, hm⟩
      unfold Kv.sz at hsz hbig
      have hR : (Vl.mk kind s bb nn l m inner vu).R (.agg [.int .i64 kind, .str s, .bool bb, .int .u64 nn, .sl zl ls, .sl zm ms, .str inner, .str vu]) := ⟨zl, ls, zm, ms, rfl, hl, hm⟩
      unfold Kv.may
      have h0 := Valid_calls B key (by omega)
      have h1 := Rest_calls B 81 tbK (tbK_calls B) u d (by omega) (by omega) hd2
      have h3 := (val_same B (n + 1)).1 (.mk kind s bb nn l m inner vu) noVl _ _ (by omega) (by omega) hR noVl_R
      rw [← isNo_is] at h3
      by_cases hd0 : d < 0
      · rw [show decide (0 ≤ d) = false from decide_eq_false (by omega)]
        refine l_body (X := cx B) (fn := Tryz.f97) Tryz.func97 rfl rfl rfl rfl rfl 0 [] rfl rfl ?_
        refine walk ?_
        rw [show decide (d < 0) = true from decide_eq_true hd0]
        refine walk ?_
        exact l_end trivial (by decide) rfl rfl rfl rfl rfl
      rw [show decide (0 ≤ d) = true from decide_eq_true (by omega)]
      have h2 := hV (.mk kind s bb nn l m inner vu) _ (d - 1) (by omega) (by omega) (by omega) (by omega) hR
      cases hb : txt key with
      | false =>
        rw [hb] at h0
        refine l_body (X := cx B) (fn := Tryz.f97) Tryz.func97 rfl rfl rfl rfl rfl 0 [] rfl rfl ?_
        refine walk ?_
        rw [show decide (d < 0) = false from decide_eq_false hd0]
        refine walk ?_
        refine l_callG [] (h0) rfl rfl rfl rfl rfl rfl rfl rfl rfl (by decide) rfl rfl rfl rfl rfl ?_
        refine walk ?_
        exact l_end trivial (by decide) rfl rfl rfl rfl rfl
      | true =>
      rw [hb] at h0
      cases hr : restB tbK u d with
      | false =>
        rw [hr] at h1
        refine l_body (X := cx B) (fn := Tryz.f97) Tryz.func97 rfl rfl rfl rfl rfl 0 [] rfl rfl ?_
        refine walk ?_
        rw [show decide (d < 0) = false from decide_eq_false hd0]
        refine walk ?_
        refine l_callG [] (h0) rfl rfl rfl rfl rfl rfl rfl rfl rfl (by decide) rfl rfl rfl rfl rfl ?_
        refine walk ?_
        refine l_callG [] (h1) rfl rfl rfl rfl rfl rfl rfl rfl rfl (by decide) rfl rfl rfl rfl rfl ?_
        refine walk ?_
        exact l_end trivial (by decide) rfl rfl rfl rfl rfl
      | true =>
      rw [hr] at h1
      cases has with
      | true =>
        refine l_body (X := cx B) (fn := Tryz.f97) Tryz.func97 rfl rfl rfl rfl rfl 0 [] rfl rfl ?_
        refine walk ?_
        rw [show decide (d < 0) = false from decide_eq_false hd0]
        refine walk ?_
        refine l_callG [] (h0) rfl rfl rfl rfl rfl rfl rfl rfl rfl (by decide) rfl rfl rfl rfl rfl ?_
        refine walk ?_
        refine l_callG [] (h1) rfl rfl rfl rfl rfl rfl rfl rfl rfl (by decide) rfl rfl rfl rfl rfl ?_
        refine walk ?_
        rw [wrap_sub 1 (by omega) (by omega) (by omega) hd2]
        refine l_call [] (h2) rfl rfl rfl rfl rfl rfl rfl (by decide) rfl rfl rfl rfl rfl ?_
        refine walk ?_
        exact l_end trivial (by decide) rfl rfl rfl rfl rfl
      | false =>
        refine l_body (X := cx B) (fn := Tryz.f97) Tryz.func97 rfl rfl rfl rfl rfl 0 [] rfl rfl ?_
        refine walk ?_
        rw [show decide (d < 0) = false from decide_eq_false hd0]
        refine walk ?_
        refine l_callG [] (h0) rfl rfl rfl rfl rfl rfl rfl rfl rfl (by decide) rfl rfl rfl rfl rfl ?_
        refine walk ?_
        refine l_callG [] (h1) rfl rfl rfl rfl rfl rfl rfl rfl rfl (by decide) rfl rfl rfl rfl rfl ?_
        refine walk ?_
        refine l_call [] (h3) rfl rfl rfl rfl rfl rfl rfl (by decide) rfl rfl rfl rfl rfl ?_
        refine walk ?_
        exact l_end trivial (by decide) rfl rfl rfl rfl rfl
    exact ⟨hV, hK, fun a z xa d hs hbig hd1 hd2 ha => lists (n + 1) a z xa d (fun k hk => by have := Kv.sz_mem hk; omega) hbig hd1 hd2 ha hK⟩
end Go.Proofs.YtaenjdichndafaaGreatDoor
