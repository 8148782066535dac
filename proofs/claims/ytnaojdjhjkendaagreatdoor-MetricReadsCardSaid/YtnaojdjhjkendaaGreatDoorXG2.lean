/- The writer: what may lack; packed numbers. And more. -/
import Derived.Test.YtnaojdjhjkendaaGreatDoorXG1
set_option linter.unusedSimpArgs false
set_option linter.unusedVariables false
set_option maxRecDepth 100000
/-! The writer: what may lack; packed numbers. -/
namespace Go.Proofs.YtnaojdjhjkendaaGreatDoor
open Go Go.Abs
variable (B : Fr)
end Go.Proofs.YtnaojdjhjkendaaGreatDoor
/-! The writer: packed numbers. -/
namespace Go.Proofs.YtnaojdjhjkendaaGreatDoor
open Go Go.Abs
variable (B : Fr)
theorem bT_plain (l : List UInt8) : (bT l).plain = true := by cases l <;> rfl
theorem adOk.plain {a : T} (h : adOk a) : a.plain = true := by rcases h with rfl | rfl | rfl <;> rfl
theorem k'2y {a : T} (h : adOk a) (l : List UInt8) : Ob.plain (.mu [a, bT l]) = true := by simp [Ob.plain, h.plain, bT_plain]
theorem l_wr {X : Ctx} {ops : Array Oper} {e0 : Nat → T} {L : Sl} {H H' : List Ob} {K : S → Prop} {o : Oper} {r : List Oper} {c : Call} {g : Operand} {f : FuncId} {cap : List D} {args A : List T} {t t' : T} {a a' : T} {s s' : List UInt8} {L1 : Sl} (sel : List Nat) (h : k'5 X f A [.mu [a, bT s]] t [.mu [a', bT s']]) (pa : adOk a) (pb : adOk a') {P' : Prop} (k : P') (hg : o.guard = none := by exact rfl) (ho : o.op = .call c := by exact rfl) (hcg : c.callee = .value g := by exact rfl) (hgv : (S.mk (putL L e0) H).val g = .d (.fn f cap) := by exact rfl)
  (hargs : rens sel (c.args.toList.map (S.mk (putL L e0) H).val) = some args := by exact rfl) (hA : A = args ++ cap.map .d := by exact rfl) (hs : gets H sel = some [.mu [a, bT s]] := by exact rfl) (hn : sel.Nodup := by decide) (hl : Nat.ble sel.length 1 = true := by exact rfl) (ht : t.backT sel H.length = some t' := by exact rfl)
  (hL : (putK L o.dst t' fun L => k'29 (sets H sel [.mu [a', bT s']]) fun J => some (L, J)) = some (L1, H') := by exact rfl) (w : P' → wpO X ops r ⟨putL L1 e0, H'⟩ K := by intro k; refine Z ?_; exact k) : wpO X ops (o :: r) ⟨putL L e0, H⟩ K :=
 l_call sel h hg ho hcg hgv hargs hA hs hn (by simp [k'2y pa]) (by simp [k'2y pb]) hl ht hL (w k)
theorem l_ws {X : Ctx} {ops : Array Oper} {e0 : Nat → T} {L : Sl} {H H' : List Ob} {K : S → Prop} {o : Oper} {r : List Oper} {c : Call} {g : Operand} {f : FuncId} {cap : List D} {args A : List T} {t t' : T} {a : T} {b : Ob} {s : List UInt8} {L1 : Sl} (sel : List Nat) (h : k'5 X f A [.mu [a, bT s]] t [b]) (pa : adOk a) {P' : Prop} (k : P') (hg : o.guard = none := by exact rfl) (ho : o.op = .call c := by exact rfl) (hcg : c.callee = .value g := by exact rfl) (hgv : (S.mk (putL L e0) H).val g = .d (.fn f cap) := by exact rfl)
  (hargs : rens sel (c.args.toList.map (S.mk (putL L e0) H).val) = some args := by exact rfl) (hA : A = args ++ cap.map .d := by exact rfl) (hs : gets H sel = some [.mu [a, bT s]] := by exact rfl) (hn : sel.Nodup := by decide) (hpb : [b].all Ob.plain = true := by exact rfl) (hl : Nat.ble sel.length 1 = true := by exact rfl) (ht : t.backT sel H.length = some t' := by exact rfl)
  (hL : (putK L o.dst t' fun L => k'29 (sets H sel [b]) fun J => some (L, J)) = some (L1, H') := by exact rfl) (w : P' → wpO X ops r ⟨putL L1 e0, H'⟩ K := by intro k; refine Z ?_; exact k) : wpO X ops (o :: r) ⟨putL L e0, H⟩ K :=
 l_call sel h hg ho hcg hgv hargs hA hs hn (by simp [k'2y pa]) hpb hl ht hL (w k)
def packV (l : List Nat) : List UInt8 := l.flatMap putV
theorem packV_len (l : List Nat) : (packV l).length ≤ 10 * l.length := by
 induction l with
 | nil => simp [packV]
 | cons n l ih => have := putV_len n; simp [packV] at *; omega
end Go.Proofs.YtnaojdjhjkendaaGreatDoor
/-! Buckets: may they be? -/
namespace Go.Proofs.YtnaojdjhjkendaaGreatDoor
open Go Go.Abs
variable (B : Fr)
def bkZ (z : Bool) (o : Int) (cs : List Nat) (u : List UInt8) : D := .agg [.int .i32 o, .sl z (cs.map uD), .str u]
def bkD (o : Int) (cs : List Nat) (u : List UInt8) : D := .agg [.int .i32 o, slD (cs.map uD), .str u]
def mayB (u : List UInt8) (d : Int) : Bool := decide (d ≥ 0) && restB tbB u d
end Go.Proofs.YtnaojdjhjkendaaGreatDoor
/-! Numbers folded and unfolded; buckets written. -/
namespace Go.Proofs.YtnaojdjhjkendaaGreatDoor
open Go Go.Abs
variable (B : Fr)
def zig32 (o : Int) : Nat := if 0 ≤ o then (2 * o).toNat else (-2 * o - 1).toNat
end Go.Proofs.YtnaojdjhjkendaaGreatDoor
/-! Buckets written. -/
namespace Go.Proofs.YtnaojdjhjkendaaGreatDoor
open Go Go.Abs
variable (B : Fr)
def vrV (n m : Nat) : List UInt8 := if m = 0 then [] else tagV n 0 ++ putV m
def pkV (n : Nat) (cs : List Nat) : List UInt8 := if cs = [] then [] else tagV n 2 ++ (putV (packV cs).length ++ packV cs)
def marB (o : Int) (cs : List Nat) (u : List UInt8) : List UInt8 := vrV 1 (zig32 o) ++ pkV 2 cs ++ u
theorem zig32_lt (o : Int) (h1 : -2147483648 ≤ o) (h2 : o < 2147483648) : zig32 o < 2 ^ 64 := by unfold zig32; split <;> omega
theorem vrV_len (n m : Nat) : (vrV n m).length ≤ 20 := by
 unfold vrV; split
 ·simp
 ·have := tagV_len n 0; have := putV_len m; simp; omega
theorem pkV_len (n : Nat) (cs : List Nat) : (pkV n cs).length ≤ 20 + 10 * cs.length := by
 unfold pkV; split
 ·simp
 ·have := tagV_len n 2; have := putV_len (packV cs).length; have := packV_len cs; simp; omega
end Go.Proofs.YtnaojdjhjkendaaGreatDoor
/-! Buckets compared; room counted. -/
namespace Go.Proofs.YtnaojdjhjkendaaGreatDoor
open Go Go.Abs
variable (B : Fr)
theorem take_eq_succ {a b : List Nat} {i x y : Nat} (hx : a[i]? = some x) (hy : b[i]? = some y) (h : a.take i = b.take i) (e : x = y) : a.take (i + 1) = b.take (i + 1) := by
 rw [List.take_add_one, List.take_add_one, hx, hy, h, e]
theorem NumsZ (z w : Bool) (a b : List Nat) (hl : a.length < 9223372036854775807) : k'5 (cx B) 108 [.d (.sl z (a.map uD)), .d (.sl w (b.map uD))] [] (.d (.bool (a == b))) [] := by
 have hla : (a.map uD).length = a.length := by simp
 have hlb : (b.map uD).length = b.length := by simp
 refine l_bw Tryz.func108 0 [] ?_
 rw [hla, hlb]
 cases hc : ((a.length : Int) != b.length)
 rotate_left
 ·have : (a == b) = false := by
   cases he : a == b with
   | false => rfl
   | true => have := eq_of_beq he; subst this; simp at hc
  rw [this]
  exact O
 have hab : a.length = b.length := by simp at hc; omega
 refine Z ?_
 refine k'y (fun i : Nat => a.length - i) (fun i => [(0, .d (.sl z (a.map uD))), (1, .d (.sl w (b.map uD))), (5, iT i)]) (fun _ => []) (fun i => i ≤ a.length ∧ a.take i = b.take i) 0 ⟨by omega, rfl⟩ ⟨rfl, rfl, rfl, trivial⟩ rfl 0 rfl (fun _ => rfl) (fun _ => rfl) (fun _ => rfl) ?_
 rintro i ⟨i1, i2⟩
 refine Z ?_
 rw [hla]
 refine k'1q rfl (fun hd => ?_) (fun hd => ?_)
 ·have hlt : i < a.length := by have := of_decide_eq_true hd; omega
  obtain ⟨x, hx⟩ : ∃ x, a[i]? = some x := ⟨_, List.getElem?_eq_getElem hlt⟩
  obtain ⟨y, hy⟩ : ∃ y, b[i]? = some y := ⟨_, List.getElem?_eq_getElem (by omega)⟩
  have hdx : (a.map uD)[i]? = some (uD x) := by rw [List.getElem?_map, hx]; rfl
  have hdy : (b.map uD)[i]? = some (uD y) := by rw [List.getElem?_map, hy]; rfl
  refine Z ?_
  refine k'35 (.indexAddr (k := .i64) (n := i) (es := a.map uD) (u := uD x) rfl rfl rfl rfl (.inl ⟨_, rfl⟩) rfl (by omega) (by simpa using hdx) rfl (by decide)) rfl rfl rfl ?_
  refine Z ?_
  refine k'35 (.indexAddr (k := .i64) (n := i) (es := b.map uD) (u := uD y) rfl rfl rfl rfl (.inl ⟨_, rfl⟩) rfl (by omega) (by simpa using hdy) rfl (by decide)) rfl rfl rfl ?_
  refine Z ?_
  refine k'1q rfl (fun he => ?_) (fun he => ?_)
  ·have hxy : x ≠ y := by rintro rfl; simp at he
   have : (a == b) = false := by
    cases hq : a == b with
    | false => rfl
    | true => have := eq_of_beq hq; subst this; rw [hx] at hy; injection hy with hy; exact absurd hy hxy
   rw [this]
   exact O
  ·have hxy : x = y := by simp at he; omega
   refine Z ?_
   rw [wS i (by omega)]
   exact ⟨i + 1, by omega, ⟨by omega, take_eq_succ hx hy i2 hxy⟩, ⟨rfl, rfl, rfl, trivial⟩, rfl, k'g rfl⟩
 ·have hge : i = a.length := by have := of_decide_eq_false hd; omega
  subst hge
  have : (a == b) = true := by rw [List.take_length, hab, List.take_length] at i2; rw [i2]; simp
  rw [this]
  exact O
theorem refZ (z w : Bool) (o : Int) (a : List Nat) (u : List UInt8) (o' : Int) (b : List Nat) (u' : List UInt8) (hl : a.length < 9223372036854775807) : k'5 (cx B) 109 [.d (bkZ z o a u), .d (bkZ w o' b u')] [] (.d (.bool (o == o' && a == b && u == u'))) [] := by
 have h1 := NumsZ B z w a b hl
 refine l_bw Tryz.func109 0 [] ?_
 cases e1 : (o == o')
 ·exact O
 refine Z ?_
 refine l_cGw [] (h1) rfl rfl rfl rfl rfl ?_
 cases e2 : (a == b)
 ·exact O
 exact O
