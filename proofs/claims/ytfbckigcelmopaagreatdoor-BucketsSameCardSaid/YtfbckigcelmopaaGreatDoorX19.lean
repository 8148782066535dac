/- Buckets compared; room counted. -/
import Derived.Test.YtfbckigcelmopaaGreatDoorX18
set_option linter.unusedSimpArgs false
set_option linter.unusedVariables false
set_option maxRecDepth 100000
namespace Go.Proofs.YtfbckigcelmopaaGreatDoor
open Go Go.Abs
variable (B : Fr)
theorem take_eq_succ {a b : List Nat} {i x y : Nat} (hx : a[i]? = some x) (hy : b[i]? = some y) (h : a.take i = b.take i) (e : x = y) : a.take (i + 1) = b.take (i + 1) := by
  rw [List.take_add_one, List.take_add_one, hx, hy, h, e]
theorem EqualZ (z w : Bool) (a b : List Nat) (hl : a.length < 9223372036854775807) : CallsA (cx B) 52 [.d (.sl z (a.map uD)), .d (.sl w (b.map uD))] [] (.d (.bool (a == b))) [] := by
  have hla : (a.map uD).length = a.length := by simp
  have hlb : (b.map uD).length = b.length := by simp
  refine l_body (X := cx B) (fn := Tryz.f52) Tryz.func52 rfl rfl rfl rfl rfl 0 [] rfl rfl ?_
  refine walk ?_
  rw [hla, hlb]
  cases hc : ((a.length : Int) != b.length) with
  | true =>
    have : (a == b) = false := by
      cases he : a == b with
      | false => rfl
      | true => have := eq_of_beq he; subst this; simp at hc
    rw [this]
    refine walk ?_
    exact l_end trivial (by decide) rfl rfl rfl rfl rfl
  | false =>
    have hab : a.length = b.length := by simp at hc; omega
    refine walk ?_
    rw [hla]
    refine l_loop (fun i : Nat => a.length - i) (fun i => [(0, .d (.sl z (a.map uD))), (1, .d (.sl w (b.map uD))), (12, iT a.length), (13, iT i)]) (fun _ => []) (fun i => i ≤ a.length ∧ a.take i = b.take i) 0 ⟨by omega, rfl⟩ ⟨rfl, rfl, rfl, rfl, trivial⟩ rfl 0 rfl (fun _ => rfl) (fun _ => rfl) (fun _ => rfl) ?_
    rintro i ⟨i1, i2⟩
    refine walk ?_
    refine r_cond rfl (fun hd => ?_) (fun hd => ?_)
    · have hlt : i < a.length := by have := of_decide_eq_true hd; omega
      obtain ⟨x, hx⟩ : ∃ x, a[i]? = some x := ⟨_, List.getElem?_eq_getElem hlt⟩
      obtain ⟨y, hy⟩ : ∃ y, b[i]? = some y := ⟨_, List.getElem?_eq_getElem (by omega)⟩
      have hdx : (a.map uD)[i]? = some (uD x) := by rw [List.getElem?_map, hx]; rfl
      have hdy : (b.map uD)[i]? = some (uD y) := by rw [List.getElem?_map, hy]; rfl
      refine walk ?_
      refine x_mob (.indexAddr (k := .i64) (n := i) (es := a.map uD) (u := uD x) rfl rfl rfl rfl (.inl ⟨_, rfl⟩) rfl (by omega) (by simpa using hdx) rfl (by decide)) rfl rfl rfl ?_
      refine walk ?_
      refine x_mob (.indexAddr (k := .i64) (n := i) (es := b.map uD) (u := uD y) rfl rfl rfl rfl (.inl ⟨_, rfl⟩) rfl (by omega) (by simpa using hdy) rfl (by decide)) rfl rfl rfl ?_
      refine walk ?_
      refine r_cond rfl (fun he => ?_) (fun he => ?_)
      · have hxy : x ≠ y := by rintro rfl; simp at he
        have : (a == b) = false := by
          cases hq : a == b with
          | false => rfl
          | true => have := eq_of_beq hq; subst this; rw [hx] at hy; injection hy with hy; exact absurd hy hxy
        rw [this]
        refine walk ?_
        exact l_end trivial (by decide) rfl rfl rfl rfl rfl
      · have hxy : x = y := by simp at he; omega
        refine walk ?_
        rw [show IntKind.i64.wrap ((i : Int) + 1) = ((i + 1 : Nat) : Int) by rw [wrapI (by omega) (by omega)]; omega]
        exact ⟨i + 1, by omega, ⟨by omega, take_eq_succ hx hy i2 hxy⟩, ⟨rfl, rfl, rfl, rfl, trivial⟩, rfl, wk_eq rfl⟩
    · have hge : i = a.length := by have := of_decide_eq_false hd; omega
      subst hge
      have : (a == b) = true := by rw [List.take_length, hab, List.take_length] at i2; rw [i2]; simp
      rw [this]
      refine walk ?_
      exact l_end trivial (by decide) rfl rfl rfl rfl rfl
theorem SameZ (z w : Bool) (o : Int) (a : List Nat) (u : List UInt8) (o' : Int) (b : List Nat) (u' : List UInt8) (hl : a.length < 9223372036854775807) : CallsA (cx B) 24 [.d (bkZ z o a u), .d (bkZ w o' b u')] [] (.d (.bool (o == o' && u == u' && a == b))) [] := by
  have h1 := EqualZ B z w a b hl
  refine l_body (X := cx B) (fn := Tryz.f24) Tryz.func24 rfl rfl rfl rfl rfl 0 [] rfl rfl ?_
  refine walk ?_
  cases e1 : (o == o') with
  | false =>
    refine walk ?_
    exact l_end trivial (by decide) rfl rfl rfl rfl rfl
  | true =>
    refine walk ?_
    cases e2 : (u == u') with
    | false =>
      refine walk ?_
      exact l_end trivial (by decide) rfl rfl rfl rfl rfl
    | true =>
      refine walk ?_
      refine l_callG [] (h1) rfl rfl rfl rfl rfl rfl rfl rfl rfl (by decide) rfl rfl rfl rfl rfl ?_
      refine walk ?_
      exact l_end trivial (by decide) rfl rfl rfl rfl rfl
theorem SameBuckets_calls (o : Int) (a : List Nat) (u : List UInt8) (o' : Int) (b : List Nat) (u' : List UInt8) (hl : a.length < 9223372036854775807) : CallsA (cx B) 24 [.d (bkD o a u), .d (bkD o' b u')] [] (.d (.bool (o == o' && u == u' && a == b))) [] := SameZ B _ _ o a u o' b u' hl
theorem NumsZ (z w : Bool) (a b : List Nat) (hl : a.length < 9223372036854775807) : CallsA (cx B) 38 [.d (.sl z (a.map uD)), .d (.sl w (b.map uD))] [] (.d (.bool (a == b))) [] := by
  have hla : (a.map uD).length = a.length := by simp
  have hlb : (b.map uD).length = b.length := by simp
  refine l_body (X := cx B) (fn := Tryz.f38) Tryz.func38 rfl rfl rfl rfl rfl 0 [] rfl rfl ?_
  refine walk ?_
  rw [hla, hlb]
  cases hc : ((a.length : Int) != b.length) with
  | true =>
    have : (a == b) = false := by
      cases he : a == b with
      | false => rfl
      | true => have := eq_of_beq he; subst this; simp at hc
    rw [this]
    refine walk ?_
    exact l_end trivial (by decide) rfl rfl rfl rfl rfl
  | false =>
    have hab : a.length = b.length := by simp at hc; omega
    refine walk ?_
    refine l_loop (fun i : Nat => a.length - i) (fun i => [(0, .d (.sl z (a.map uD))), (1, .d (.sl w (b.map uD))), (5, iT i)]) (fun _ => []) (fun i => i ≤ a.length ∧ a.take i = b.take i) 0 ⟨by omega, rfl⟩ ⟨rfl, rfl, rfl, trivial⟩ rfl 0 rfl (fun _ => rfl) (fun _ => rfl) (fun _ => rfl) ?_
    rintro i ⟨i1, i2⟩
    refine walk ?_
    rw [hla]
    refine r_cond rfl (fun hd => ?_) (fun hd => ?_)
    · have hlt : i < a.length := by have := of_decide_eq_true hd; omega
      obtain ⟨x, hx⟩ : ∃ x, a[i]? = some x := ⟨_, List.getElem?_eq_getElem hlt⟩
      obtain ⟨y, hy⟩ : ∃ y, b[i]? = some y := ⟨_, List.getElem?_eq_getElem (by omega)⟩
      have hdx : (a.map uD)[i]? = some (uD x) := by rw [List.getElem?_map, hx]; rfl
      have hdy : (b.map uD)[i]? = some (uD y) := by rw [List.getElem?_map, hy]; rfl
      refine walk ?_
      refine x_mob (.indexAddr (k := .i64) (n := i) (es := a.map uD) (u := uD x) rfl rfl rfl rfl (.inl ⟨_, rfl⟩) rfl (by omega) (by simpa using hdx) rfl (by decide)) rfl rfl rfl ?_
      refine walk ?_
      refine x_mob (.indexAddr (k := .i64) (n := i) (es := b.map uD) (u := uD y) rfl rfl rfl rfl (.inl ⟨_, rfl⟩) rfl (by omega) (by simpa using hdy) rfl (by decide)) rfl rfl rfl ?_
      refine walk ?_
      refine r_cond rfl (fun he => ?_) (fun he => ?_)
      · have hxy : x ≠ y := by rintro rfl; simp at he
        have : (a == b) = false := by
          cases hq : a == b with
          | false => rfl
          | true => have := eq_of_beq hq; subst this; rw [hx] at hy; injection hy with hy; exact absurd hy hxy
        rw [this]
        refine walk ?_
        exact l_end trivial (by decide) rfl rfl rfl rfl rfl
      · have hxy : x = y := by simp at he; omega
        refine walk ?_
        rw [show IntKind.i64.wrap ((i : Int) + 1) = ((i + 1 : Nat) : Int) by rw [wrapI (by omega) (by omega)]; omega]
        exact ⟨i + 1, by omega, ⟨by omega, take_eq_succ hx hy i2 hxy⟩, ⟨rfl, rfl, rfl, trivial⟩, rfl, wk_eq rfl⟩
    · have hge : i = a.length := by have := of_decide_eq_false hd; omega
      subst hge
      have : (a == b) = true := by rw [List.take_length, hab, List.take_length] at i2; rw [i2]; simp
      rw [this]
      refine walk ?_
      exact l_end trivial (by decide) rfl rfl rfl rfl rfl
theorem refZ (z w : Bool) (o : Int) (a : List Nat) (u : List UInt8) (o' : Int) (b : List Nat) (u' : List UInt8) (hl : a.length < 9223372036854775807) : CallsA (cx B) 15 [.d (bkZ z o a u), .d (bkZ w o' b u')] [] (.d (.bool (o == o' && a == b && u == u'))) [] := by
  have h1 := NumsZ B z w a b hl
  refine l_body (X := cx B) (fn := Tryz.f15) Tryz.func15 rfl rfl rfl rfl rfl 0 [] rfl rfl ?_
  refine walk ?_
  cases e1 : (o == o') with
  | false =>
    refine walk ?_
    exact l_end trivial (by decide) rfl rfl rfl rfl rfl
  | true =>
    refine walk ?_
    refine l_callG [] (h1) rfl rfl rfl rfl rfl rfl rfl rfl rfl (by decide) rfl rfl rfl rfl rfl ?_
    refine walk ?_
    cases e2 : (a == b) with
    | false =>
      refine walk ?_
      exact l_end trivial (by decide) rfl rfl rfl rfl rfl
    | true =>
      refine walk ?_
      exact l_end trivial (by decide) rfl rfl rfl rfl rfl
theorem refBuckets_calls (o : Int) (a : List Nat) (u : List UInt8) (o' : Int) (b : List Nat) (u' : List UInt8) (hl : a.length < 9223372036854775807) : CallsA (cx B) 15 [.d (bkD o a u), .d (bkD o' b u')] [] (.d (.bool (o == o' && a == b && u == u'))) [] := refZ B _ _ o a u o' b u' hl
/-- What is left of a room. -/
def takeR (room : Int) (n : Nat) : Int := if room < 0 ∨ room - 20 < n then -1 else room - n - 20
theorem takeR_ge {room : Int} {n : Nat} (h : room < 9223372036854775000) : -1 ≤ takeR room n ∧ takeR room n < 9223372036854775000 := by unfold takeR; split <;> omega
theorem take_calls (room : Int) (n : Nat) (h1 : -1 ≤ room) (h2 : room < 9223372036854775000) (h3 : n ≤ 9223372036854775807) : CallsA (cx B) 41 [.d (.int .i64 room), iT n] [] (.d (.int .i64 (takeR room n))) [] := by
  unfold takeR
  refine l_body (X := cx B) (fn := Tryz.f41) Tryz.func41 rfl rfl rfl rfl rfl 0 [] rfl rfl ?_
  refine walk ?_
  by_cases hc : room < 0
  · rw [show decide (room < 0) = true from decide_eq_true hc, if_pos (.inl hc)]
    refine walk ?_
    exact l_end trivial (by decide) rfl rfl rfl rfl rfl
  · rw [show decide (room < 0) = false from decide_eq_false hc]
    refine walk ?_
    rw [show IntKind.i64.wrap (room - 20) = room - 20 from wrapI (by omega) (by omega)]
    by_cases hd : room - 20 < n
    · rw [if_pos (.inr hd), show decide ((n : Int) > room - 20) = true from decide_eq_true hd]
      refine walk ?_
      exact l_end trivial (by decide) rfl rfl rfl rfl rfl
    · rw [if_neg (by omega), show decide ((n : Int) > room - 20) = false from decide_eq_false (by omega)]
      refine walk ?_
      rw [show IntKind.i64.wrap (room - n) = room - n from wrapI (by omega) (by omega), show IntKind.i64.wrap (room - n - 20) = room - n - 20 from wrapI (by omega) (by omega)]
      exact l_end trivial (by decide) rfl rfl rfl rfl rfl
def roomB (cs : List Nat) (u : List UInt8) (room : Int) : Int := takeR (takeR room u.length) (8 * (if 100000 < cs.length then 100000 else cs.length))
theorem RoomZ (z : Bool) (o : Int) (a : List Nat) (u : List UInt8) (room : Int) (h1 : -1 ≤ room) (h2 : room < 9223372036854775000) (hu : u.length ≤ 9223372036854775807) : CallsA (cx B) 18 [.d (bkZ z o a u), .d (.int .i64 room)] [] (.d (.int .i64 (roomB a u room))) [] := by
  have hla : (a.map uD).length = a.length := by simp
  have t1 := take_calls B room u.length h1 h2 hu
  obtain ⟨g1, g2⟩ := takeR_ge (n := u.length) h2
  have t2 := take_calls B (takeR room u.length) (8 * (if 100000 < a.length then 100000 else a.length)) g1 g2 (by split <;> omega)
  unfold roomB
  refine l_body (X := cx B) (fn := Tryz.f18) Tryz.func18 rfl rfl rfl rfl rfl 0 [] rfl rfl ?_
  refine walk ?_
  refine x_call [] (t1) rfl rfl rfl rfl rfl rfl (by decide) rfl rfl rfl rfl rfl rfl ?_
  refine walk ?_
  have hm : IntKind.i64.wrap (8 * (if (100000 : Int) < ((a.map uD).length : Int) then 100000 else ((a.map uD).length : Int))) = ((8 * (if 100000 < a.length then 100000 else a.length) : Nat) : Int) := by
    rw [hla]
    by_cases h : 100000 < a.length
    · rw [if_pos h, if_pos (by omega)]; rfl
    · rw [if_neg h, if_neg (by omega), wrapI (by omega) (by omega)]; omega
  rw [hm]
  refine x_call [] (t2) rfl rfl rfl rfl rfl rfl (by decide) rfl rfl rfl rfl rfl rfl ?_
  refine walk ?_
  exact l_end trivial (by decide) rfl rfl rfl rfl rfl
theorem RoomBuckets_calls (o : Int) (a : List Nat) (u : List UInt8) (room : Int) (h1 : -1 ≤ room) (h2 : room < 9223372036854775000) (hu : u.length ≤ 9223372036854775807) : CallsA (cx B) 18 [.d (bkD o a u), .d (.int .i64 room)] [] (.d (.int .i64 (roomB a u room))) [] := RoomZ B _ o a u room h1 h2 hu
end Go.Proofs.YtfbckigcelmopaaGreatDoor
