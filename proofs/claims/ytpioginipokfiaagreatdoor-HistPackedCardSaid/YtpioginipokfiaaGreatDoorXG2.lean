/- The writer: what may lack; packed numbers. And more. -/
import Derived.Test.YtpioginipokfiaaGreatDoorXG1
set_option linter.unusedSimpArgs false
set_option linter.unusedVariables false
set_option maxRecDepth 100000
/-! The writer: what may lack; packed numbers. -/
namespace Go.Proofs.YtpioginipokfiaaGreatDoor
open Go Go.Abs
variable (B : Fr)
theorem Var_zero (a : T) (l : List UInt8) (n : Nat) (ha : adOk a) : k'0 (cx B) 20 [.ptr 0 0, iT n, uT 0] [.mu [a, bT l]] (.tup []) [.mu [a, bT l]] := by
 rcases ha with rfl | rfl | rfl <;> (rcases l with _ | ⟨c, l⟩ <;> (
 refine l_b0 Tryz.func20 1 [] ?_
 exact Z))
theorem Var_calls (a : T) (l : List UInt8) (n m : Nat) (ha : adOk a) (h1 : 1 ≤ n) (h2 : n ≤ 536870911) (h0 : m ≠ 0) (hm : m < 2 ^ 64) (hl : l.length < big) : k'0 (cx B) 20 [.ptr 0 0, iT n, uT m] [.mu [a, bT l]] (.tup []) [.mu [.me, bT (l ++ (tagV n 0 ++ putV m))]] := by
 have h3 := Few_calls B a l n m ha h1 h2 hm hl
 generalize l ++ (tagV n 0 ++ putV m) = y at *
 rcases ha with rfl | rfl | rfl <;> (rcases l with _ | ⟨c, l⟩ <;> (rcases y with _ | ⟨c', y⟩ <;> (
 refine l_bw Tryz.func20 1 [] ?_
 rw [show decide ((m : Int) > 0) = true from decide_eq_true (by omega)]
 refine Y ?_
 refine k'1 [0] (h3) rfl rfl rfl ?_
 exact Z)))
theorem Text_nil (a : T) (l : List UInt8) (n : Nat) (ha : adOk a) : k'0 (cx B) 51 [.ptr 0 0, iT n, sT []] [.mu [a, bT l]] (.tup []) [.mu [a, bT l]] := by
 rcases ha with rfl | rfl | rfl <;> (rcases l with _ | ⟨c, l⟩ <;> (
 refine l_b0 Tryz.func51 1 [] ?_
 exact Z))
theorem Text_calls (a : T) (l : List UInt8) (n : Nat) (s : List UInt8) (ha : adOk a) (h1 : 1 ≤ n) (h2 : n ≤ 536870911) (h0 : s ≠ []) (hl : l.length + s.length < big) : k'0 (cx B) 51 [.ptr 0 0, iT n, sT s] [.mu [a, bT l]] (.tup []) [.mu [.me, bT (l ++ (tagV n 2 ++ (putV s.length ++ s)))]] := by
 have h3 := k'24 B a l n s ha h1 h2 hl
 generalize l ++ (tagV n 2 ++ (putV s.length ++ s)) = y at *
 have hs : (s != []) = true := by cases s with | nil => exact absurd rfl h0 | cons _ _ => rfl
 rcases ha with rfl | rfl | rfl <;> (rcases l with _ | ⟨c, l⟩ <;> (rcases y with _ | ⟨c', y⟩ <;> (
 refine l_bw Tryz.func51 1 [] ?_
 rw [show (!(s == [])) = true from hs]
 refine Y ?_
 refine k'1 [0] (h3) rfl rfl rfl ?_
 exact Z)))
end Go.Proofs.YtpioginipokfiaaGreatDoor
/-! The writer: packed numbers. -/
namespace Go.Proofs.YtpioginipokfiaaGreatDoor
open Go Go.Abs
variable (B : Fr)
theorem bT_plain (l : List UInt8) : (bT l).plain = true := by cases l <;> rfl
theorem adOk.plain {a : T} (h : adOk a) : a.plain = true := by rcases h with rfl | rfl | rfl <;> rfl
theorem k'3 {a : T} (h : adOk a) (l : List UInt8) : Ob.plain (.mu [a, bT l]) = true := by simp [Ob.plain, h.plain, bT_plain]
theorem l_wr {X : Ctx} {ops : Array Oper} {e0 : Nat → T} {L : Sl} {H H' : List Ob} {K : S → Prop} {o : Oper} {r : List Oper} {c : Call} {g : Operand} {f : FuncId} {cap : List D} {args A : List T} {t t' : T} {a a' : T} {s s' : List UInt8} {L1 : Sl} (sel : List Nat) (h : k'0 X f A [.mu [a, bT s]] t [.mu [a', bT s']]) (pa : adOk a) (pb : adOk a') {P' : Prop} (k : P') (hg : o.guard = none := by exact rfl) (ho : o.op = .call c := by exact rfl) (hcg : c.callee = .value g := by exact rfl) (hgv : (S.mk (putL L e0) H).val g = .d (.fn f cap) := by exact rfl)
  (hargs : rens sel (c.args.toList.map (S.mk (putL L e0) H).val) = some args := by exact rfl) (hA : A = args ++ cap.map .d := by exact rfl) (hs : gets H sel = some [.mu [a, bT s]] := by exact rfl) (hn : sel.Nodup := by decide) (hl : Nat.ble sel.length 1 = true := by exact rfl) (ht : t.backT sel H.length = some t' := by exact rfl)
  (hL : (putK L o.dst t' fun L => k'29 (sets H sel [.mu [a', bT s']]) fun J => some (L, J)) = some (L1, H') := by exact rfl) (w : P' → wpO X ops r ⟨putL L1 e0, H'⟩ K := by intro k; refine Y ?_; exact k) : wpO X ops (o :: r) ⟨putL L e0, H⟩ K :=
 k'18 sel h hg ho hcg hgv hargs hA hs hn (by simp [k'3 pa]) (by simp [k'3 pb]) hl ht hL (w k)
theorem l_ws {X : Ctx} {ops : Array Oper} {e0 : Nat → T} {L : Sl} {H H' : List Ob} {K : S → Prop} {o : Oper} {r : List Oper} {c : Call} {g : Operand} {f : FuncId} {cap : List D} {args A : List T} {t t' : T} {a : T} {b : Ob} {s : List UInt8} {L1 : Sl} (sel : List Nat) (h : k'0 X f A [.mu [a, bT s]] t [b]) (pa : adOk a) {P' : Prop} (k : P') (hg : o.guard = none := by exact rfl) (ho : o.op = .call c := by exact rfl) (hcg : c.callee = .value g := by exact rfl) (hgv : (S.mk (putL L e0) H).val g = .d (.fn f cap) := by exact rfl)
  (hargs : rens sel (c.args.toList.map (S.mk (putL L e0) H).val) = some args := by exact rfl) (hA : A = args ++ cap.map .d := by exact rfl) (hs : gets H sel = some [.mu [a, bT s]] := by exact rfl) (hn : sel.Nodup := by decide) (hpb : [b].all Ob.plain = true := by exact rfl) (hl : Nat.ble sel.length 1 = true := by exact rfl) (ht : t.backT sel H.length = some t' := by exact rfl)
  (hL : (putK L o.dst t' fun L => k'29 (sets H sel [b]) fun J => some (L, J)) = some (L1, H') := by exact rfl) (w : P' → wpO X ops r ⟨putL L1 e0, H'⟩ K := by intro k; refine Y ?_; exact k) : wpO X ops (o :: r) ⟨putL L e0, H⟩ K :=
 k'18 sel h hg ho hcg hgv hargs hA hs hn (by simp [k'3 pa]) hpb hl ht hL (w k)
end Go.Proofs.YtpioginipokfiaaGreatDoor
/-! Buckets: may they be? -/
namespace Go.Proofs.YtpioginipokfiaaGreatDoor
open Go Go.Abs
variable (B : Fr)
end Go.Proofs.YtpioginipokfiaaGreatDoor
/-! Numbers folded and unfolded; buckets written. -/
namespace Go.Proofs.YtpioginipokfiaaGreatDoor
open Go Go.Abs
variable (B : Fr)
end Go.Proofs.YtpioginipokfiaaGreatDoor
/-! Buckets written. -/
namespace Go.Proofs.YtpioginipokfiaaGreatDoor
open Go Go.Abs
variable (B : Fr)
def vrV (n m : Nat) : List UInt8 := if m = 0 then [] else tagV n 0 ++ putV m
theorem Var_any (a : T) (l : List UInt8) (n m : Nat) (ha : adOk a) (h1 : 1 ≤ n) (h2 : n ≤ 536870911) (hm : m < 2 ^ 64) (hl : l.length < big) : ∃ a', adOk a' ∧ k'0 (cx B) 20 [.ptr 0 0, iT n, uT m] [.mu [a, bT l]] (.tup []) [.mu [a', bT (l ++ vrV n m)]] := by
 by_cases h0 : m = 0
 ·subst h0
  exact ⟨a, ha, by rw [show vrV n 0 = [] from rfl, List.append_nil]; exact Var_zero B a l n ha⟩
 ·exact ⟨.me, .inl rfl, by rw [show vrV n m = tagV n 0 ++ putV m from if_neg h0]; exact Var_calls B a l n m ha h1 h2 h0 hm hl⟩
theorem vrV_len (n m : Nat) : (vrV n m).length ≤ 20 := by
 unfold vrV; split
 ·simp
 ·have := tagV_len n 0; have := k'1h m; simp; omega
end Go.Proofs.YtpioginipokfiaaGreatDoor
/-! Buckets compared; room counted. -/
namespace Go.Proofs.YtpioginipokfiaaGreatDoor
open Go Go.Abs
variable (B : Fr)
theorem take_eq_succ {a b : List Nat} {i x y : Nat} (hx : a[i]? = some x) (hy : b[i]? = some y) (h : a.take i = b.take i) (e : x = y) : a.take (i + 1) = b.take (i + 1) := by
 rw [List.take_add_one, List.take_add_one, hx, hy, h, e]
theorem NumsZ (z w : Bool) (a b : List Nat) (hl : a.length < 9223372036854775807) : k'0 (cx B) 8 [.d (.sl z (a.map uD)), .d (.sl w (b.map uD))] [] (.d (.bool (a == b))) [] := by
 have hla : (a.map uD).length = a.length := by simp
 have hlb : (b.map uD).length = b.length := by simp
 refine l_bw Tryz.func8 0 [] ?_
 rw [hla, hlb]
 cases hc : ((a.length : Int) != b.length)
 rotate_left
 ·have : (a == b) = false := by
   cases he : a == b with
   | false => rfl
   | true => have := eq_of_beq he; subst this; simp at hc
  rw [this]
  exact Z
 have hab : a.length = b.length := by simp at hc; omega
 refine Y ?_
 refine k's (fun i : Nat => a.length - i) (fun i => [(0, .d (.sl z (a.map uD))), (1, .d (.sl w (b.map uD))), (5, iT i)]) (fun _ => []) (fun i => i ≤ a.length ∧ a.take i = b.take i) 0 ⟨by omega, rfl⟩ ⟨rfl, rfl, rfl, trivial⟩ rfl 0 rfl (fun _ => rfl) (fun _ => rfl) (fun _ => rfl) ?_
 rintro i ⟨i1, i2⟩
 refine Y ?_
 rw [hla]
 refine k'p rfl (fun hd => ?_) (fun hd => ?_)
 ·have hlt : i < a.length := by have := of_decide_eq_true hd; omega
  obtain ⟨x, hx⟩ : ∃ x, a[i]? = some x := ⟨_, List.getElem?_eq_getElem hlt⟩
  obtain ⟨y, hy⟩ : ∃ y, b[i]? = some y := ⟨_, List.getElem?_eq_getElem (by omega)⟩
  have hdx : (a.map uD)[i]? = some (uD x) := by rw [List.getElem?_map, hx]; rfl
  have hdy : (b.map uD)[i]? = some (uD y) := by rw [List.getElem?_map, hy]; rfl
  refine Y ?_
  refine x_mob (.indexAddr (k := .i64) (n := i) (es := a.map uD) (u := uD x) rfl rfl rfl rfl (.inl ⟨_, rfl⟩) rfl (by omega) (by simpa using hdx) rfl (by decide)) rfl rfl rfl ?_
  refine Y ?_
  refine x_mob (.indexAddr (k := .i64) (n := i) (es := b.map uD) (u := uD y) rfl rfl rfl rfl (.inl ⟨_, rfl⟩) rfl (by omega) (by simpa using hdy) rfl (by decide)) rfl rfl rfl ?_
  refine Y ?_
  refine k'p rfl (fun he => ?_) (fun he => ?_)
  ·have hxy : x ≠ y := by rintro rfl; simp at he
   have : (a == b) = false := by
    cases hq : a == b with
    | false => rfl
    | true => have := eq_of_beq hq; subst this; rw [hx] at hy; injection hy with hy; exact absurd hy hxy
   rw [this]
   exact Z
  ·have hxy : x = y := by simp at he; omega
   refine Y ?_
   rw [wS i (by omega)]
   exact ⟨i + 1, by omega, ⟨by omega, take_eq_succ hx hy i2 hxy⟩, ⟨rfl, rfl, rfl, trivial⟩, rfl, k'19 rfl⟩
 ·have hge : i = a.length := by have := of_decide_eq_false hd; omega
  subst hge
  have : (a == b) = true := by rw [List.take_length, hab, List.take_length] at i2; rw [i2]; simp
  rw [this]
  exact Z
