/- The writer: what may lack; packed numbers. And more. -/
import Derived.Test.YthogjpjcidfoaaaGreatDoorXG1
set_option linter.unusedSimpArgs false
set_option linter.unusedVariables false
set_option maxRecDepth 100000
/-! The writer: what may lack; packed numbers. -/
namespace Go.Proofs.YthogjpjcidfoaaaGreatDoor
open Go Go.Abs
variable (B : Fr)
theorem Var_zero (a : T) (l : List UInt8) (n : Nat) (ha : adOk a) : CallsA (cx B) 47 [.ptr 0 0, iT n, uT 0] [.mu [a, bT l]] (.tup []) [.mu [a, bT l]] := by
  rcases ha with rfl | rfl | rfl <;> (rcases l with _ | ⟨c, l⟩ <;> (
  refine l_body (X := cx B) (fn := Tryz.f47) Tryz.func47 rfl rfl rfl rfl rfl 1 [] rfl rfl ?_
  refine walk ?_
  exact l_end trivial (by decide) rfl rfl rfl rfl rfl))
theorem Var_calls (a : T) (l : List UInt8) (n m : Nat) (ha : adOk a) (h1 : 1 ≤ n) (h2 : n ≤ 536870911) (h0 : m ≠ 0) (hm : m < 2 ^ 64) (hl : l.length < big) : CallsA (cx B) 47 [.ptr 0 0, iT n, uT m] [.mu [a, bT l]] (.tup []) [.mu [.me, bT (l ++ (tagV n 0 ++ putV m))]] := by
  have h3 := Few_calls B a l n m ha h1 h2 hm hl
  generalize l ++ (tagV n 0 ++ putV m) = y at *
  rcases ha with rfl | rfl | rfl <;> (rcases l with _ | ⟨c, l⟩ <;> (rcases y with _ | ⟨c', y⟩ <;> (
  refine l_body (X := cx B) (fn := Tryz.f47) Tryz.func47 rfl rfl rfl rfl rfl 1 [] rfl rfl ?_
  refine walk ?_
  rw [show decide ((m : Int) > 0) = true from decide_eq_true (by omega)]
  refine walk ?_
  refine l_call [0] (h3) rfl rfl rfl rfl rfl rfl rfl (by decide) rfl rfl rfl rfl rfl ?_
  refine walk ?_
  exact l_end trivial (by decide) rfl rfl rfl rfl rfl)))
theorem Text_nil (a : T) (l : List UInt8) (n : Nat) (ha : adOk a) : CallsA (cx B) 101 [.ptr 0 0, iT n, sT []] [.mu [a, bT l]] (.tup []) [.mu [a, bT l]] := by
  rcases ha with rfl | rfl | rfl <;> (rcases l with _ | ⟨c, l⟩ <;> (
  refine l_body (X := cx B) (fn := Tryz.f101) Tryz.func101 rfl rfl rfl rfl rfl 1 [] rfl rfl ?_
  refine walk ?_
  exact l_end trivial (by decide) rfl rfl rfl rfl rfl))
theorem Text_calls (a : T) (l : List UInt8) (n : Nat) (s : List UInt8) (ha : adOk a) (h1 : 1 ≤ n) (h2 : n ≤ 536870911) (h0 : s ≠ []) (hl : l.length + s.length < big) : CallsA (cx B) 101 [.ptr 0 0, iT n, sT s] [.mu [a, bT l]] (.tup []) [.mu [.me, bT (l ++ (tagV n 2 ++ (putV s.length ++ s)))]] := by
  have h3 := Part_calls B a l n s ha h1 h2 hl
  generalize l ++ (tagV n 2 ++ (putV s.length ++ s)) = y at *
  have hs : (s != []) = true := by cases s with | nil => exact absurd rfl h0 | cons _ _ => rfl
  rcases ha with rfl | rfl | rfl <;> (rcases l with _ | ⟨c, l⟩ <;> (rcases y with _ | ⟨c', y⟩ <;> (
  refine l_body (X := cx B) (fn := Tryz.f101) Tryz.func101 rfl rfl rfl rfl rfl 1 [] rfl rfl ?_
  refine walk ?_
  rw [show (!(s == [])) = true from hs]
  refine walk ?_
  refine l_call [0] (h3) rfl rfl rfl rfl rfl rfl rfl (by decide) rfl rfl rfl rfl rfl ?_
  refine walk ?_
  exact l_end trivial (by decide) rfl rfl rfl rfl rfl)))
end Go.Proofs.YthogjpjcidfoaaaGreatDoor

/-! The writer: packed numbers. -/
namespace Go.Proofs.YthogjpjcidfoaaaGreatDoor
open Go Go.Abs
variable (B : Fr)
theorem bT_plain (l : List UInt8) : (bT l).plain = true := by cases l <;> rfl
theorem adOk.plain {a : T} (h : adOk a) : a.plain = true := by rcases h with rfl | rfl | rfl <;> rfl
theorem bo_plain {a : T} (h : adOk a) (l : List UInt8) : Ob.plain (.mu [a, bT l]) = true := by simp [Ob.plain, h.plain, bT_plain]
def packV (l : List Nat) : List UInt8 := l.flatMap putV
theorem packV_len (l : List Nat) : (packV l).length ≤ 10 * l.length := by
  induction l with
  | nil => simp [packV]
  | cons n l ih => have := putV_len n; simp [packV] at *; omega
end Go.Proofs.YthogjpjcidfoaaaGreatDoor

/-! Buckets: may they be? -/
namespace Go.Proofs.YthogjpjcidfoaaaGreatDoor
open Go Go.Abs
variable (B : Fr)
def bkZ (z : Bool) (o : Int) (cs : List Nat) (u : List UInt8) : D := .agg [.int .i32 o, .sl z (cs.map uD), .str u]
def bkD (o : Int) (cs : List Nat) (u : List UInt8) : D := .agg [.int .i32 o, slD (cs.map uD), .str u]
def mayB (u : List UInt8) (d : Int) : Bool := decide (d ≥ 0) && restB tbB u d
end Go.Proofs.YthogjpjcidfoaaaGreatDoor

/-! Numbers folded and unfolded; buckets written. -/
namespace Go.Proofs.YthogjpjcidfoaaaGreatDoor
open Go Go.Abs
variable (B : Fr)
theorem xor0 (a : Nat) (h : a < 4294967296) : (BitVec.ofInt IntKind.u32.bits (a : Int) ^^^ BitVec.ofInt IntKind.u32.bits 0).toNat = a := by
  show (BitVec.ofInt 32 (a : Int) ^^^ BitVec.ofInt 32 0).toNat = a
  rw [show BitVec.ofInt 32 0 = 0#32 from rfl, BitVec.xor_zero, ofN, BitVec.toNat_ofNat]
  exact Nat.mod_eq_of_lt h
theorem xor1 (a : Nat) (h : a < 4294967296) : (BitVec.ofInt IntKind.u32.bits (a : Int) ^^^ BitVec.ofInt IntKind.u32.bits 4294967295).toNat = 4294967295 - a := by
  show (BitVec.ofInt 32 (a : Int) ^^^ BitVec.ofInt 32 4294967295).toNat = 4294967295 - a
  rw [show BitVec.ofInt 32 4294967295 = BitVec.allOnes 32 by decide, BitVec.xor_allOnes, BitVec.toNat_not, ofN, BitVec.toNat_ofNat, Nat.mod_eq_of_lt (by show a < 2 ^ 32; omega)]
def zig32 (o : Int) : Nat := if 0 ≤ o then (2 * o).toNat else (-2 * o - 1).toNat
end Go.Proofs.YthogjpjcidfoaaaGreatDoor

/-! Buckets written. -/
namespace Go.Proofs.YthogjpjcidfoaaaGreatDoor
open Go Go.Abs
variable (B : Fr)
def vrV (n m : Nat) : List UInt8 := if m = 0 then [] else tagV n 0 ++ putV m
def pkV (n : Nat) (cs : List Nat) : List UInt8 := if cs = [] then [] else tagV n 2 ++ (putV (packV cs).length ++ packV cs)
def marB (o : Int) (cs : List Nat) (u : List UInt8) : List UInt8 := vrV 1 (zig32 o) ++ pkV 2 cs ++ u
/-- Var, whether it lacks or not. -/
theorem Var_any (a : T) (l : List UInt8) (n m : Nat) (ha : adOk a) (h1 : 1 ≤ n) (h2 : n ≤ 536870911) (hm : m < 2 ^ 64) (hl : l.length < big) : ∃ a', adOk a' ∧ CallsA (cx B) 47 [.ptr 0 0, iT n, uT m] [.mu [a, bT l]] (.tup []) [.mu [a', bT (l ++ vrV n m)]] := by
  by_cases h0 : m = 0
  · subst h0
    exact ⟨a, ha, by rw [show vrV n 0 = [] from rfl, List.append_nil]; exact Var_zero B a l n ha⟩
  · exact ⟨.me, .inl rfl, by rw [show vrV n m = tagV n 0 ++ putV m from if_neg h0]; exact Var_calls B a l n m ha h1 h2 h0 hm hl⟩
theorem zig32_lt (o : Int) (h1 : -2147483648 ≤ o) (h2 : o < 2147483648) : zig32 o < 2 ^ 64 := by unfold zig32; split <;> omega
theorem vrV_len (n m : Nat) : (vrV n m).length ≤ 20 := by
  unfold vrV; split
  · simp
  · have := tagV_len n 0; have := putV_len m; simp; omega
theorem pkV_len (n : Nat) (cs : List Nat) : (pkV n cs).length ≤ 20 + 10 * cs.length := by
  unfold pkV; split
  · simp
  · have := tagV_len n 2; have := putV_len (packV cs).length; have := packV_len cs; simp; omega
end Go.Proofs.YthogjpjcidfoaaaGreatDoor

/-! Buckets compared; room counted. -/
namespace Go.Proofs.YthogjpjcidfoaaaGreatDoor
open Go Go.Abs
variable (B : Fr)
theorem take_eq_succ {a b : List Nat} {i x y : Nat} (hx : a[i]? = some x) (hy : b[i]? = some y) (h : a.take i = b.take i) (e : x = y) : a.take (i + 1) = b.take (i + 1) := by
  rw [List.take_add_one, List.take_add_one, hx, hy, h, e]
theorem EqualZ (z w : Bool) (a b : List Nat) (hl : a.length < 9223372036854775807) : CallsA (cx B) 88 [.d (.sl z (a.map uD)), .d (.sl w (b.map uD))] [] (.d (.bool (a == b))) [] := by
  have hla : (a.map uD).length = a.length := by simp
  have hlb : (b.map uD).length = b.length := by simp
  refine l_body (X := cx B) (fn := Tryz.f88) Tryz.func88 rfl rfl rfl rfl rfl 0 [] rfl rfl ?_
  refine walk ?_
  rw [hla, hlb]
  cases hc : ((a.length : Int) != b.length) with
  | true =>
    have : (a == b) = false := by
      cases he : a == b with
      | false => rfl
      | true => have := eq_of_beq he; subst this; simp at hc
    rw [this]
    refine walk ?_
    exact l_end trivial (by decide) rfl rfl rfl rfl rfl
  | false =>
    have hab : a.length = b.length := by simp at hc; omega
    refine walk ?_
    rw [hla]
    refine l_loop (fun i : Nat => a.length - i) (fun i => [(0, .d (.sl z (a.map uD))), (1, .d (.sl w (b.map uD))), (12, iT a.length), (13, iT i)]) (fun _ => []) (fun i => i ≤ a.length ∧ a.take i = b.take i) 0 ⟨by omega, rfl⟩ ⟨rfl, rfl, rfl, rfl, trivial⟩ rfl 0 rfl (fun _ => rfl) (fun _ => rfl) (fun _ => rfl) ?_
    rintro i ⟨i1, i2⟩
    refine walk ?_
    refine r_cond rfl (fun hd => ?_) (fun hd => ?_)
    · have hlt : i < a.length := by have := of_decide_eq_true hd; omega
      obtain ⟨x, hx⟩ : ∃ x, a[i]? = some x := ⟨_, List.getElem?_eq_getElem hlt⟩
      obtain ⟨y, hy⟩ : ∃ y, b[i]? = some y := ⟨_, List.getElem?_eq_getElem (by omega)⟩
      have hdx : (a.map uD)[i]? = some (uD x) := by rw [List.getElem?_map, hx]; rfl
      have hdy : (b.map uD)[i]? = some (uD y) := by rw [List.getElem?_map, hy]; rfl
      refine walk ?_
      refine x_mob (.indexAddr (k := .i64) (n := i) (es := a.map uD) (u := uD x) rfl rfl rfl rfl (.inl ⟨_, rfl⟩) rfl (by omega) (by simpa using hdx) rfl (by decide)) rfl rfl rfl ?_
      refine walk ?_
      refine x_mob (.indexAddr (k := .i64) (n := i) (es := b.map uD) (u := uD y) rfl rfl rfl rfl (.inl ⟨_, rfl⟩) rfl (by omega) (by simpa using hdy) rfl (by decide)) rfl rfl rfl ?_
      refine walk ?_
      refine r_cond rfl (fun he => ?_) (fun he => ?_)
      · have hxy : x ≠ y := by rintro rfl; simp at he
        have : (a == b) = false := by
          cases hq : a == b with
          | false => rfl
          | true => have := eq_of_beq hq; subst this; rw [hx] at hy; injection hy with hy; exact absurd hy hxy
        rw [this]
        refine walk ?_
        exact l_end trivial (by decide) rfl rfl rfl rfl rfl
      · have hxy : x = y := by simp at he; omega
        refine walk ?_
        rw [show IntKind.i64.wrap ((i : Int) + 1) = ((i + 1 : Nat) : Int) by rw [wrapI (by omega) (by omega)]; omega]
        exact ⟨i + 1, by omega, ⟨by omega, take_eq_succ hx hy i2 hxy⟩, ⟨rfl, rfl, rfl, rfl, trivial⟩, rfl, wk_eq rfl⟩
    · have hge : i = a.length := by have := of_decide_eq_false hd; omega
      subst hge
      have : (a == b) = true := by rw [List.take_length, hab, List.take_length] at i2; rw [i2]; simp
      rw [this]
      refine walk ?_
      exact l_end trivial (by decide) rfl rfl rfl rfl rfl
theorem NumsZ (z w : Bool) (a b : List Nat) (hl : a.length < 9223372036854775807) : CallsA (cx B) 21 [.d (.sl z (a.map uD)), .d (.sl w (b.map uD))] [] (.d (.bool (a == b))) [] := by
  have hla : (a.map uD).length = a.length := by simp
  have hlb : (b.map uD).length = b.length := by simp
  refine l_body (X := cx B) (fn := Tryz.f21) Tryz.func21 rfl rfl rfl rfl rfl 0 [] rfl rfl ?_
  refine walk ?_
  rw [hla, hlb]
  cases hc : ((a.length : Int) != b.length) with
  | true =>
    have : (a == b) = false := by
      cases he : a == b with
      | false => rfl
      | true => have := eq_of_beq he; subst this; simp at hc
    rw [this]
    refine walk ?_
    exact l_end trivial (by decide) rfl rfl rfl rfl rfl
  | false =>
    have hab : a.length = b.length := by simp at hc; omega
    refine walk ?_
    refine l_loop (fun i : Nat => a.length - i) (fun i => [(0, .d (.sl z (a.map uD))), (1, .d (.sl w (b.map uD))), (5, iT i)]) (fun _ => []) (fun i => i ≤ a.length ∧ a.take i = b.take i) 0 ⟨by omega, rfl⟩ ⟨rfl, rfl, rfl, trivial⟩ rfl 0 rfl (fun _ => rfl) (fun _ => rfl) (fun _ => rfl) ?_
    rintro i ⟨i1, i2⟩
    refine walk ?_
    rw [hla]
    refine r_cond rfl (fun hd => ?_) (fun hd => ?_)
    · have hlt : i < a.length := by have := of_decide_eq_true hd; omega
      obtain ⟨x, hx⟩ : ∃ x, a[i]? = some x := ⟨_, List.getElem?_eq_getElem hlt⟩
      obtain ⟨y, hy⟩ : ∃ y, b[i]? = some y := ⟨_, List.getElem?_eq_getElem (by omega)⟩
      have hdx : (a.map uD)[i]? = some (uD x) := by rw [List.getElem?_map, hx]; rfl
      have hdy : (b.map uD)[i]? = some (uD y) := by rw [List.getElem?_map, hy]; rfl
      refine walk ?_
      refine x_mob (.indexAddr (k := .i64) (n := i) (es := a.map uD) (u := uD x) rfl rfl rfl rfl (.inl ⟨_, rfl⟩) rfl (by omega) (by simpa using hdx) rfl (by decide)) rfl rfl rfl ?_
      refine walk ?_
      refine x_mob (.indexAddr (k := .i64) (n := i) (es := b.map uD) (u := uD y) rfl rfl rfl rfl (.inl ⟨_, rfl⟩) rfl (by omega) (by simpa using hdy) rfl (by decide)) rfl rfl rfl ?_
      refine walk ?_
      refine r_cond rfl (fun he => ?_) (fun he => ?_)
      · have hxy : x ≠ y := by rintro rfl; simp at he
        have : (a == b) = false := by
          cases hq : a == b with
          | false => rfl
          | true => have := eq_of_beq hq; subst this; rw [hx] at hy; injection hy with hy; exact absurd hy hxy
        rw [this]
        refine walk ?_
        exact l_end trivial (by decide) rfl rfl rfl rfl rfl
      · have hxy : x = y := by simp at he; omega
        refine walk ?_
        rw [show IntKind.i64.wrap ((i : Int) + 1) = ((i + 1 : Nat) : Int) by rw [wrapI (by omega) (by omega)]; omega]
        exact ⟨i + 1, by omega, ⟨by omega, take_eq_succ hx hy i2 hxy⟩, ⟨rfl, rfl, rfl, trivial⟩, rfl, wk_eq rfl⟩
    · have hge : i = a.length := by have := of_decide_eq_false hd; omega
      subst hge
      have : (a == b) = true := by rw [List.take_length, hab, List.take_length] at i2; rw [i2]; simp
      rw [this]
      refine walk ?_
      exact l_end trivial (by decide) rfl rfl rfl rfl rfl
/-- What is left of a room. -/
def takeR (room : Int) (n : Nat) : Int := if room < 0 ∨ room - 20 < n then -1 else room - n - 20
theorem takeR_ge {room : Int} {n : Nat} (h : room < 9223372036854775000) : -1 ≤ takeR room n ∧ takeR room n < 9223372036854775000 := by unfold takeR; split <;> omega
theorem take_calls (room : Int) (n : Nat) (h1 : -1 ≤ room) (h2 : room < 9223372036854775000) (h3 : n ≤ 9223372036854775807) : CallsA (cx B) 36 [.d (.int .i64 room), iT n] [] (.d (.int .i64 (takeR room n))) [] := by
  unfold takeR
  refine l_body (X := cx B) (fn := Tryz.f36) Tryz.func36 rfl rfl rfl rfl rfl 0 [] rfl rfl ?_
  refine walk ?_
  by_cases hc : room < 0
  · rw [show decide (room < 0) = true from decide_eq_true hc, if_pos (.inl hc)]
    refine walk ?_
    exact l_end trivial (by decide) rfl rfl rfl rfl rfl
  · rw [show decide (room < 0) = false from decide_eq_false hc]
    refine walk ?_
    rw [show IntKind.i64.wrap (room - 20) = room - 20 from wrapI (by omega) (by omega)]
    by_cases hd : room - 20 < n
    · rw [if_pos (.inr hd), show decide ((n : Int) > room - 20) = true from decide_eq_true hd]
      refine walk ?_
      exact l_end trivial (by decide) rfl rfl rfl rfl rfl
    · rw [if_neg (by omega), show decide ((n : Int) > room - 20) = false from decide_eq_false (by omega)]
      refine walk ?_
      rw [show IntKind.i64.wrap (room - n) = room - n from wrapI (by omega) (by omega), show IntKind.i64.wrap (room - n - 20) = room - n - 20 from wrapI (by omega) (by omega)]
      exact l_end trivial (by decide) rfl rfl rfl rfl rfl
def roomB (cs : List Nat) (u : List UInt8) (room : Int) : Int := takeR (takeR room u.length) (8 * (if 100000 < cs.length then 100000 else cs.length))
end Go.Proofs.YthogjpjcidfoaaaGreatDoor
