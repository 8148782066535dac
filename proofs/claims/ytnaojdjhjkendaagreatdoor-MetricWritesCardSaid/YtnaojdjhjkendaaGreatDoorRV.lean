/- What is not computed but told: a builder's methods, eight bytes of a number. -/
import Derived.Test.YtnaojdjhjkendaaGreatDoorIA
import Derived.Test.YtnaojdjhjkendaaGreatDoorPW
import Derived.Test.YtnaojdjhjkendaaGreatDoorMU
import Derived.KernelRfl
import Derived.Test.YtnaojdjhjkendaaGreatDoorPAB
set_option linter.unusedSimpArgs false
set_option linter.unusedVariables false
set_option maxRecDepth 100000
namespace Go.Proofs.YtnaojdjhjkendaaGreatDoor
open Go Go.Abs
variable (B : Fr)
section
def unBf : T → Option (List UInt8)
 | .own true [] => some []
 | .buf t (c :: l) => bif Nat.beq t 5 then some (c :: l) else none
 | _ => none
theorem unBf_ok {t : T} {l : List UInt8} (h : unBf t = some l) : t = bT l := by
 unfold unBf at h
 split at h
 ·injection h with h; subst h; rfl
 ·rename_i t c l'
  cases hb : Nat.beq t 5 with
  | false => rw [hb] at h; simp at h
  | true =>
   rw [hb] at h
   simp only [cond_true, Option.some.injEq] at h; subst h
   rw [Nat.eq_of_beq_eq_true hb]; rfl
 ·simp at h
def adBf : T → Bool
 | .me => true
 | .nw t n => (Nat.beq t 120 || Nat.beq t 122) && Nat.beq n 2
 | _ => false
theorem adBf_ok {a : T} (h : adBf a = true) : adOk a := by
 unfold adBf at h
 split at h
 ·exact .inl rfl
 ·simp only [Bool.and_eq_true, Bool.or_eq_true] at h
  obtain ⟨h1 | h1, h2⟩ := h <;> rw [Nat.eq_of_beq_eq_true h1, Nat.eq_of_beq_eq_true h2]
  ·exact .inr (.inl rfl)
  ·exact .inr (.inr rfl)
 ·simp at h
def orB : Cf := fun f args H =>
 bif Nat.beq f 74 then (match args, H with
  | [.ptr 0 0, .d (.str s)], [.mu [a, x]] => (match unBf x with
   | some l => bif adBf a && Nat.ble (l.length + s.length) most then some (.tup [iT s.length, .d .nili], [.mu [.me, bT (l ++ s)]]) else none
   | none => none)
  | _, _ => none)
 else bif Nat.beq f 75 then (match args, H with
  | [.ptr 0 0], [.mu [a, x]] => (match unBf x with
   | some l => bif adBf a && Nat.ble l.length most then some (sT l, [.mu [a, .undef]]) else none
   | none => none)
  | _, _ => none)
 else bif Nat.beq f 315 then (match args, H with
  | [.d (.int .u64 (.ofNat n))], [] => some (sT (le8 n), [])
  | _, _ => none)
 else none
theorem orB_ok : CfOk (cx B) orB := fun f args H r H' h => by
 unfold orB at h
 cases h1 : Nat.beq f 74
 rotate_left
 ·rw [h1] at h; simp only [cond_true] at h
  rw [Nat.eq_of_beq_eq_true h1]
  split at h <;> (try (simp at h; done))
  rename_i s a x
  split at h <;> (try (simp at h; done))
  rename_i l hl
  cases hc : (adBf a && Nat.ble (l.length + s.length) most) with
  | false => rw [hc] at h; simp at h
  | true =>
   rw [hc] at h; simp only [cond_true, Option.some.injEq, Prod.mk.injEq] at h
   obtain ⟨rfl, rfl⟩ := h
   simp only [Bool.and_eq_true] at hc
   rw [unBf_ok hl]
   exact k'1m B a l s (adBf_ok hc.1) (Nat.le_of_ble_eq_true hc.2)
 rw [h1] at h; simp only [cond_false] at h
 cases h2 : Nat.beq f 75
 rotate_left
 ·rw [h2] at h; simp only [cond_true] at h
  rw [Nat.eq_of_beq_eq_true h2]
  split at h <;> (try (simp at h; done))
  rename_i a x
  split at h <;> (try (simp at h; done))
  rename_i l hl
  cases hc : (adBf a && Nat.ble l.length most) with
  | false => rw [hc] at h; simp at h
  | true =>
   rw [hc] at h; simp only [cond_true, Option.some.injEq, Prod.mk.injEq] at h
   obtain ⟨rfl, rfl⟩ := h
   simp only [Bool.and_eq_true] at hc
   rw [unBf_ok hl]
   exact k'2n B a l (adBf_ok hc.1) (Nat.le_of_ble_eq_true hc.2)
 rw [h2] at h; simp only [cond_false] at h
 cases h3 : Nat.beq f 315 with
 | true =>
  rw [h3] at h; simp only [cond_true] at h
  rw [Nat.eq_of_beq_eq_true h3]
  split at h <;> (try (simp at h; done))
  simp only [Option.some.injEq, Prod.mk.injEq] at h
  obtain ⟨rfl, rfl⟩ := h
  exact eight_calls B _
 | false => rw [h3] at h; simp at h
end
section
def Me.setU (x : Me) (u : List UInt8) : Me := { x with u := u }
variable {s w t : List UInt8} {d : Int} {x y : Me}
theorem firstMe_calls (hB : BOk B) : k'0 (cx B) 5 [] [] (.d (.bool true)) [] := have _ := hB; evF_ok (orB_ok B) 40 _ _ _ _ _ (by kernel_rfl)
end
section
/-! No list and no text is longer than a list can be. -/
mutual
def Vl.ln : Vl → Prop
 | .mk _ s _ _ l m inner u => s.length ≤ 9223372036854775807 ∧ inner.length ≤ 9223372036854775807 ∧ u.length ≤ 9223372036854775807 ∧ l.length ≤ 9223372036854775807 ∧ m.length ≤ 9223372036854775807 ∧ Vl.lns l ∧ Kv.lns m
def Vl.lns : List Vl → Prop
 | [] => True
 | v :: r => v.ln ∧ Vl.lns r
def Kv.ln : Kv → Prop
 | .mk key _ v u => key.length ≤ 9223372036854775807 ∧ u.length ≤ 9223372036854775807 ∧ v.ln
def Kv.lns : List Kv → Prop
 | [] => True
 | k :: r => k.ln ∧ Kv.lns r
end
theorem Vl.ln_mem : ∀ {l : List Vl}, Vl.lns l → ∀ v ∈ l, v.ln
 | x :: l, h, v, hv => by
  rcases List.mem_cons.1 hv with rfl | hv
  ·exact h.1
  ·exact Vl.ln_mem h.2 v hv
theorem Kv.ln_mem : ∀ {l : List Kv}, Kv.lns l → ∀ v ∈ l, v.ln
 | x :: l, h, v, hv => by
  rcases List.mem_cons.1 hv with rfl | hv
  ·exact h.1
  ·exact Kv.ln_mem h.2 v hv
mutual
def roomV : Vl → Int → Int → Int
 | .mk _ s _ _ l m inner u, deep, room => if deep < 0 then -1 else if deep - 1 < 0 ∧ 0 < m.length then -1 else k'3i m (deep - 1) (k'3e l (deep - 1) (k'w (k'w (k'w room s.length) inner.length) u.length))
def k'3e : List Vl → Int → Int → Int
 | [], _, room => room
 | v :: l, deep, room => if room < 0 then room else k'3e l deep (roomV v deep room)
def k'3i : List Kv → Int → Int → Int
 | [], _, room => room
 | .mk key _ v u :: l, deep, room => if room < 0 then room else k'3i l deep (roomV v deep (k'w (k'w room key.length) u.length))
end
def roomK (m : List Kv) (deep room : Int) : Int := if deep < 0 ∧ 0 < m.length then -1 else k'3i m deep room
theorem k't {room : Int} {n : Nat} (h : -1 ≤ room) : -1 ≤ k'w room n ∧ (0 ≤ k'w room n → k'w room n + n + 20 ≤ room) := by unfold k'w; split <;> omega
mutual
theorem roomV_ok : ∀ (v : Vl) (deep room : Int), -1 ≤ room → -1 ≤ roomV v deep room ∧ (0 ≤ roomV v deep room → roomV v deep room + v.sz ≤ room)
 | .mk kind s b n l m inner u, deep, room, h => by
  obtain ⟨a1, a2⟩ := k't (n := s.length) h
  obtain ⟨b1, b2⟩ := k't (n := inner.length) a1
  obtain ⟨c1, c2⟩ := k't (n := u.length) b1
  obtain ⟨d1, d2⟩ := roomVs_ok l (deep - 1) _ c1
  obtain ⟨e1, e2⟩ := roomKs_ok m (deep - 1) _ d1
  unfold roomV Vl.sz
  split
  ·omega
  ·split
   ·omega
   ·exact ⟨e1, fun h => by have := e2 h; have := d2 (by omega); have := c2 (by omega); have := b2 (by omega); have := a2 (by omega); omega⟩
theorem roomVs_ok : ∀ (l : List Vl) (deep room : Int), -1 ≤ room → -1 ≤ k'3e l deep room ∧ (0 ≤ k'3e l deep room → k'3e l deep room + Vl.szs l ≤ room)
 | [], deep, room, h => by unfold k'3e Vl.szs; omega
 | v :: l, deep, room, h => by
  obtain ⟨a1, a2⟩ := roomV_ok v deep room h
  obtain ⟨b1, b2⟩ := roomVs_ok l deep _ a1
  unfold k'3e Vl.szs
  split
  ·omega
  ·exact ⟨b1, fun h => by have := b2 h; have := a2 (by omega); omega⟩
theorem roomKs_ok : ∀ (l : List Kv) (deep room : Int), -1 ≤ room → -1 ≤ k'3i l deep room ∧ (0 ≤ k'3i l deep room → k'3i l deep room + Kv.szs l ≤ room)
 | [], deep, room, h => by unfold k'3i Kv.szs; omega
 | .mk key has v u :: l, deep, room, h => by
  obtain ⟨k1, k2⟩ := k't (n := key.length) h
  obtain ⟨u1, u2⟩ := k't (n := u.length) k1
  obtain ⟨a1, a2⟩ := roomV_ok v deep _ u1
  obtain ⟨b1, b2⟩ := roomKs_ok l deep _ a1
  unfold k'3i Kv.szs Kv.sz
  split
  ·omega
  ·exact ⟨b1, fun h => by have := b2 h; have := a2 (by omega); have := u2 (by omega); have := k2 (by omega); omega⟩
end
theorem k'2u (l : List Kv) (deep room : Int) (h : -1 ≤ room) : -1 ≤ roomK l deep room ∧ (0 ≤ roomK l deep room → roomK l deep room + Kv.szs l ≤ room) := by
 unfold roomK
 split
 ·omega
 ·exact roomKs_ok l deep room h
theorem roomVs_cons (v : Vl) (l : List Vl) (deep room : Int) : k'3e (v :: l) deep room = if room < 0 then room else k'3e l deep (roomV v deep room) := rfl
theorem roomVs_neg {l : List Vl} {deep room : Int} (h : room < 0) : k'3e l deep room = room := by
 cases l with
 | nil => rfl
 | cons v l => unfold k'3e; rw [if_pos h]
theorem roomKs_neg {l : List Kv} {deep room : Int} (h : room < 0) : k'3i l deep room = room := by
 cases l with
 | nil => rfl
 | cons v l => cases v; unfold k'3i; rw [if_pos h]
theorem roomV_lt {v : Vl} {deep room M : Int} (h1 : -1 ≤ room) (h : room < M) (hM : 0 ≤ M) : roomV v deep room < M := by
 obtain ⟨a, b⟩ := roomV_ok v deep room h1
 rcases Int.lt_or_le (roomV v deep room) 0 with g | g
 ·omega
 ·have := b g; omega
theorem roomVs_lt {v : List Vl} {deep room M : Int} (h1 : -1 ≤ room) (h : room < M) (hM : 0 ≤ M) : k'3e v deep room < M := by
 obtain ⟨a, b⟩ := roomVs_ok v deep room h1
 rcases Int.lt_or_le (k'3e v deep room) 0 with g | g
 ·omega
 ·have := b g; omega
theorem roomKs_lt {v : List Kv} {deep room M : Int} (h1 : -1 ≤ room) (h : room < M) (hM : 0 ≤ M) : k'3i v deep room < M := by
 obtain ⟨a, b⟩ := roomKs_ok v deep room h1
 rcases Int.lt_or_le (k'3i v deep room) 0 with g | g
 ·omega
 ·have := b g; omega
theorem roomK_lt {l : List Kv} {deep room M : Int} (h1 : -1 ≤ room) (h : room < M) (hM : 0 ≤ M) : roomK l deep room < M := by
 unfold roomK
 split
 ·omega
 ·exact roomKs_lt h1 h hM
theorem k'2q {α : Type} {l : List α} {i : Nat} {x : α} (h : l[i]? = some x) : l.drop i = x :: l.drop (i + 1) := by
 obtain ⟨hi, e⟩ := List.getElem?_eq_some_iff.1 h
 rw [List.drop_eq_getElem_cons hi, e]
theorem Vl.Rs_at {l : List Vl} {xs : List D} (h : Vl.Rs l xs) {i : Nat} {x : D} (hx : xs[i]? = some x) : ∃ v, l[i]? = some v ∧ v.R x := by
 have hi : i < l.length := by rw [← Vl.Rs_len h]; exact (List.getElem?_eq_some_iff.1 hx).1
 obtain ⟨v, hv⟩ : ∃ v, l[i]? = some v := ⟨_, List.getElem?_eq_getElem hi⟩
 obtain ⟨x', e1, r1⟩ := Vl.Rs_get h hv
 rw [hx] at e1; injection e1 with e1; subst e1
 exact ⟨v, hv, r1⟩
theorem room_walk (n : Nat) : (∀ (a : Vl) (xa : D) (deep room : Int), a.sz < n → a.ln → a.R xa → -1 ≤ deep → deep ≤ 100 → -1 ≤ room → room < 9223372036854775000 → k'0 (cx B) 110 [.d xa, .d (.int .i64 deep), .d (.int .i64 room)] [] (.d (.int .i64 (roomV a deep room))) []) ∧
  (∀ (l : List Kv) (z : Bool) (xs : List D) (deep room : Int), Kv.szs l < n → Kv.lns l → l.length ≤ 9223372036854775807 → Kv.Rs l xs → -1 ≤ deep → deep ≤ 100 → -1 ≤ room → room < 9223372036854775000 → k'0 (cx B) 42 [.d (.sl z xs), .d (.int .i64 deep), .d (.int .i64 room)] [] (.d (.int .i64 (roomK l deep room))) []) := by
 induction n with
 | zero => exact ⟨fun _ _ _ _ h => by omega, fun _ _ _ _ _ h => by omega⟩
 | succ n ih =>
  obtain ⟨ihV, ihK⟩ := ih
  constructor
  ·rintro ⟨kind, s, bb, nn, l, m, inner, u⟩ xa deep room hsz ⟨n1, n2, n3, n4, n5, n6, n7⟩ ⟨zl, ls, zm, ms, rfl, hl, hm⟩ hd1 hd2 hr1 hr2
   unfold Vl.sz at hsz
   have hla := Vl.Rs_len hl
   have hsh := Vl.Rs_sh hl
   unfold roomV
   by_cases h0 : deep < 0
   ·rw [if_pos h0]
    refine l_bw Tryz.func110 0 [] ?_
    rw [show decide (deep < 0) = true from decide_eq_true h0]
    exact Z
   rw [if_neg h0]
   obtain ⟨a1, a2⟩ := k'u (n := s.length) hr2
   obtain ⟨b1, b2⟩ := k'u (n := inner.length) a2
   obtain ⟨c1, c2⟩ := k'u (n := u.length) b2
   have t1 := k'c B room s.length hr1 hr2 n1
   have t2 := k'c B _ inner.length a1 a2 n2
   have t3 := k'c B _ u.length b1 b2 n3
   generalize k'w (k'w (k'w room s.length) inner.length) u.length = R0 at *
   have hfin := ihK m zm ms (deep - 1) (k'3e l (deep - 1) R0) (by omega) n7 n5 hm (by omega) (by omega) (roomVs_ok l (deep - 1) R0 c1).1 (roomVs_lt c1 c2 (by omega))
   unfold roomK at hfin
   generalize (if deep - 1 < 0 ∧ 0 < m.length then (-1 : Int) else k'3i m (deep - 1) (k'3e l (deep - 1) R0)) = RR at *
   refine l_bw Tryz.func110 0 [] ?_
   rw [show decide (deep < 0) = false from decide_eq_false h0]
   refine Y ?_
   refine x_cw [] (t1) rfl rfl rfl ?_
   refine x_cw [] (t2) rfl rfl rfl ?_
   refine x_cw [] (t3) rfl rfl rfl ?_
   refine k'8 (fun y : Nat × Int => ls.length - y.1) (fun y => [(1, .d (.int .i64 deep)), (2, .d (.int .i64 y.2)), (3, .ptr 0 0), (7, iT y.1)]) (fun _ => _) (fun y => y.1 ≤ ls.length ∧ k'3e (l.drop y.1) (deep - 1) y.2 = k'3e l (deep - 1) R0 ∧ -1 ≤ y.2 ∧ y.2 < 9223372036854775000) (0, R0) ⟨by omega, rfl, c1, c2⟩ ⟨rfl, rfl, rfl, rfl, trivial⟩ rfl 1 rfl (fun _ => rfl) (fun _ => rfl) (fun _ => rfl) ?_
   rintro ⟨i, rm⟩ ⟨i1, i2, i3, i4⟩
   dsimp only at i1 i2 i3 i4 ⊢
   refine Y ?_
   by_cases hlt : i < ls.length
   ·rw [show decide ((i : Int) < ls.length) = true from decide_eq_true (by omega)]
    refine Y ?_
    by_cases hr0 : rm ≥ 0
    ·rw [show decide (rm ≥ 0) = true from decide_eq_true hr0]
     obtain ⟨x, hxi⟩ : ∃ x, ls[i]? = some x := ⟨_, List.getElem?_eq_getElem hlt⟩
     obtain ⟨v, hv, hvr⟩ := Vl.Rs_at hl hxi
     have hmem := List.mem_of_getElem? hv
     have hvs := Vl.sz_mem hmem
     have hc := ihV v x (deep - 1) rm (by omega) (Vl.ln_mem n6 v hmem) hvr (by omega) (by omega) i3 i4
     rw [k'2q hv, roomVs_cons, if_neg (by omega)] at i2
     obtain ⟨x0, x1, x2, x3, x4, x5, x6, x7, x8, x9, rfl⟩ := hsh x (List.mem_of_getElem? hxi)
     refine Y ?_
     refine k'1 (.indexAddr (k := .i64) (n := i) (es := ls) rfl rfl rfl rfl (.inl ⟨_, rfl⟩) rfl (by omega) (by simpa using hxi) rfl (by decide)) rfl rfl ?_
     refine Y ?_
     rw [k'4 1 (by omega) (by omega) (by omega) (by omega)]
     refine l_cw [] (hc) rfl rfl rfl ?_
     rw [wS i (by omega)]
     exact ⟨(i + 1, roomV v (deep - 1) rm), by show ls.length - (i + 1) < _; omega, ⟨by show i + 1 ≤ _; omega, i2, (roomV_ok v (deep - 1) rm i3).1, roomV_lt i3 i4 (by omega)⟩, ⟨rfl, rfl, rfl, rfl, trivial⟩, rfl, k'17 rfl⟩
    ·rw [show decide (rm ≥ 0) = false from decide_eq_false hr0]
     rw [roomVs_neg (by omega)] at i2
     subst i2
     refine Y ?_
     rw [k'4 1 (by omega) (by omega) (by omega) (by omega)]
     refine k'2 [] (hfin) rfl rfl rfl ?_
     exact Z
   ·rw [show decide ((i : Int) < ls.length) = false from decide_eq_false (by omega)]
    have e : i = l.length := by omega
    rw [e, List.drop_length] at i2
    have i2 : rm = k'3e l (deep - 1) R0 := i2
    subst i2
    refine Y ?_
    rw [k'4 1 (by omega) (by omega) (by omega) (by omega)]
    refine k'2 [] (hfin) rfl rfl rfl ?_
    exact Z
  ·intro l z xs deep room hsz hln hlen hR hd1 hd2 hr1 hr2
   have hla := Kv.Rs_len hR
   have hsh := Kv.Rs_sh hR
   unfold roomK
   have hgo : ∀ (hno : ¬ (deep < 0 ∧ 0 < l.length)), k'0 (cx B) 42 [.d (.sl z xs), .d (.int .i64 deep), .d (.int .i64 room)] [] (.d (.int .i64 (k'3i l deep room))) [] := by
    intro hno
    generalize hRR : k'3i l deep room = RR
    have hpre : (decide (deep < 0) = false) ∨ (decide (deep < 0) = true ∧ decide ((xs.length : Int) > 0) = false) := by
     by_cases h : deep < 0
     ·exact .inr ⟨decide_eq_true h, decide_eq_false (by omega)⟩
     ·exact .inl (decide_eq_false h)
    rcases hpre with hp | ⟨hp, hp2⟩
    all_goals (
    refine l_bw Tryz.func42 0 [] ?_
    rw [hp]
    refine Y ?_
    try rw [hp2]
    refine Y ?_
    refine k'8 (fun y : Nat × Int => xs.length - y.1) (fun y => [(0, .d (.sl z xs)), (1, .d (.int .i64 deep)), (2, .d (.int .i64 y.2)), (7, iT y.1)]) (fun _ => []) (fun y => y.1 ≤ xs.length ∧ k'3i (l.drop y.1) deep y.2 = RR ∧ -1 ≤ y.2 ∧ y.2 < 9223372036854775000) (0, room) ⟨by omega, hRR, hr1, hr2⟩ ⟨rfl, rfl, rfl, rfl, trivial⟩ rfl 0 rfl (fun _ => rfl) (fun _ => rfl) (fun _ => rfl) ?_
    rintro ⟨i, rm⟩ ⟨i1, i2, i3, i4⟩
    dsimp only at i1 i2 i3 i4 ⊢
    refine Y ?_
    by_cases hlt : i < xs.length
    ·rw [show decide ((i : Int) < xs.length) = true from decide_eq_true (by omega)]
     refine Y ?_
     by_cases hr0 : rm ≥ 0
     ·rw [show decide (rm ≥ 0) = true from decide_eq_true hr0]
      obtain ⟨x, hxi⟩ : ∃ x, xs[i]? = some x := ⟨_, List.getElem?_eq_getElem hlt⟩
      obtain ⟨⟨key, has, ⟨kind, s, bb, nn, vl, vm, inner, vu⟩, u⟩, hv, hvr⟩ := Kv.Rs_at hR hxi
      have hmem := List.mem_of_getElem? hv
      have hvs := Kv.sz_mem hmem
      obtain ⟨m1, m2, m3⟩ := Kv.ln_mem hln _ hmem
      obtain ⟨zl, ls, zm, ms, rfl, hl, hm⟩ := hvr
      unfold Kv.sz at hvs
      obtain ⟨a1, a2⟩ := k'u (n := key.length) i4
      obtain ⟨b1, b2⟩ := k'u (n := u.length) a2
      have t1 := k'c B rm key.length i3 i4 m1
      have t2 := k'c B _ u.length a1 a2 m2
      have hc := ihV (.mk kind s bb nn vl vm inner vu) _ deep _ (by omega) m3 ⟨zl, ls, zm, ms, rfl, hl, hm⟩ hd1 hd2 b1 b2
      rw [k'2q hv] at i2
      unfold k'3i at i2
      rw [if_neg (by omega)] at i2
      refine Y ?_
      refine k'13 (.indexAddr (k := .i64) (n := i) (es := xs) rfl rfl rfl rfl (.inl ⟨_, rfl⟩) rfl (by omega) (by simpa using hxi) rfl (by decide)) rfl rfl rfl ?_
      refine Y ?_
      refine x_cw [] (t1) rfl rfl rfl ?_
      refine k'13 (.indexAddr (k := .i64) (n := i) (es := xs) rfl rfl rfl rfl (.inl ⟨_, rfl⟩) rfl (by omega) (by simpa using hxi) rfl (by decide)) rfl rfl rfl ?_
      refine Y ?_
      refine x_cw [] (t2) rfl rfl rfl ?_
      refine k'1 (.indexAddr (k := .i64) (n := i) (es := xs) rfl rfl rfl rfl (.inl ⟨_, rfl⟩) rfl (by omega) (by simpa using hxi) rfl (by decide)) rfl rfl ?_
      refine Y ?_
      refine l_cw [] (hc) rfl rfl rfl ?_
      rw [wS i (by omega)]
      exact ⟨(i + 1, roomV (.mk kind s bb nn vl vm inner vu) deep (k'w (k'w rm key.length) u.length)), by show xs.length - (i + 1) < _; omega, ⟨by show i + 1 ≤ _; omega, i2, (roomV_ok _ deep _ b1).1, roomV_lt b1 b2 (by omega)⟩, ⟨rfl, rfl, rfl, rfl, trivial⟩, rfl, k'17 rfl⟩
     ·rw [show decide (rm ≥ 0) = false from decide_eq_false hr0]
      rw [roomKs_neg (by omega)] at i2
      subst i2
      exact Z
    ·rw [show decide ((i : Int) < xs.length) = false from decide_eq_false (by omega)]
     have e : i = l.length := by omega
     rw [e, List.drop_length] at i2
     have i2 : rm = RR := i2
     subst i2
     exact Z)
   by_cases h0 : deep < 0 ∧ 0 < l.length
   ·rw [if_pos h0]
    refine l_bw Tryz.func42 0 [] ?_
    rw [show decide (deep < 0) = true from decide_eq_true h0.1]
    refine Y ?_
    rw [show decide ((xs.length : Int) > 0) = true from decide_eq_true (by omega)]
    exact Z
   ·rw [if_neg h0]
    exact hgo h0
theorem k'1i {l : List Kv} {xs : List D} (z : Bool) (room : Int) (h1 : Kv.lns l) (h2 : l.length ≤ 9223372036854775807) (h3 : Kv.Rs l xs) (hr1 : -1 ≤ room) (hr2 : room < 9223372036854775000) : k'0 (cx B) 42 [.d (.sl z xs), .d (.int .i64 40), .d (.int .i64 room)] [] (.d (.int .i64 (roomK l 40 room))) [] :=
 (room_walk B (Kv.szs l + 1)).2 l z xs 40 room (by omega) h1 h2 h3 (by omega) (by omega) hr1 hr2
end
