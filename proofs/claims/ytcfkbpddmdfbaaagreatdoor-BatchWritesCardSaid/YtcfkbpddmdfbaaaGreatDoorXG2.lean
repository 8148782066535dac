/- The writer: what may lack; packed numbers. And more. -/
import Derived.Test.YtcfkbpddmdfbaaaGreatDoorXG1
set_option linter.unusedSimpArgs false
set_option linter.unusedVariables false
set_option maxRecDepth 100000
/-! The writer: what may lack; packed numbers. -/
namespace Go.Proofs.YtcfkbpddmdfbaaaGreatDoor
open Go Go.Abs
variable (B : Fr)
theorem Var_zero (a : T) (l : List UInt8) (n : Nat) (ha : adOk a) : k'0 (cx B) 36 [.ptr 0 0, iT n, uT 0] [.mu [a, bT l]] (.tup []) [.mu [a, bT l]] := by
 rcases ha with rfl | rfl | rfl <;> (rcases l with _ | ⟨c, l⟩ <;> (
 refine l_b0 Tryz.func36 1 [] ?_
 exact Z))
theorem Var_calls (a : T) (l : List UInt8) (n m : Nat) (ha : adOk a) (h1 : 1 ≤ n) (h2 : n ≤ 536870911) (h0 : m ≠ 0) (hm : m < 2 ^ 64) (hl : l.length < big) : k'0 (cx B) 36 [.ptr 0 0, iT n, uT m] [.mu [a, bT l]] (.tup []) [.mu [.me, bT (l ++ (tagV n 0 ++ putV m))]] := by
 have h3 := Few_calls B a l n m ha h1 h2 hm hl
 generalize l ++ (tagV n 0 ++ putV m) = y at *
 rcases ha with rfl | rfl | rfl <;> (rcases l with _ | ⟨c, l⟩ <;> (rcases y with _ | ⟨c', y⟩ <;> (
 refine l_bw Tryz.func36 1 [] ?_
 rw [show decide ((m : Int) > 0) = true from decide_eq_true (by omega)]
 refine Y ?_
 refine k'2 [0] (h3) rfl rfl rfl ?_
 exact Z)))
theorem Text_nil (a : T) (l : List UInt8) (n : Nat) (ha : adOk a) : k'0 (cx B) 37 [.ptr 0 0, iT n, sT []] [.mu [a, bT l]] (.tup []) [.mu [a, bT l]] := by
 rcases ha with rfl | rfl | rfl <;> (rcases l with _ | ⟨c, l⟩ <;> (
 refine l_b0 Tryz.func37 1 [] ?_
 exact Z))
theorem Text_calls (a : T) (l : List UInt8) (n : Nat) (s : List UInt8) (ha : adOk a) (h1 : 1 ≤ n) (h2 : n ≤ 536870911) (h0 : s ≠ []) (hl : l.length + s.length < big) : k'0 (cx B) 37 [.ptr 0 0, iT n, sT s] [.mu [a, bT l]] (.tup []) [.mu [.me, bT (l ++ (tagV n 2 ++ (putV s.length ++ s)))]] := by
 have h3 := k'43 B a l n s ha h1 h2 hl
 generalize l ++ (tagV n 2 ++ (putV s.length ++ s)) = y at *
 have hs : (s != []) = true := by cases s with | nil => exact absurd rfl h0 | cons _ _ => rfl
 rcases ha with rfl | rfl | rfl <;> (rcases l with _ | ⟨c, l⟩ <;> (rcases y with _ | ⟨c', y⟩ <;> (
 refine l_bw Tryz.func37 1 [] ?_
 rw [show (!(s == [])) = true from hs]
 refine Y ?_
 refine k'2 [0] (h3) rfl rfl rfl ?_
 exact Z)))
end Go.Proofs.YtcfkbpddmdfbaaaGreatDoor
/-! The writer: packed numbers. -/
namespace Go.Proofs.YtcfkbpddmdfbaaaGreatDoor
open Go Go.Abs
variable (B : Fr)
theorem bT_plain (l : List UInt8) : (bT l).plain = true := by cases l <;> rfl
theorem adOk.plain {a : T} (h : adOk a) : a.plain = true := by rcases h with rfl | rfl | rfl <;> rfl
theorem k'6 {a : T} (h : adOk a) (l : List UInt8) : Ob.plain (.mu [a, bT l]) = true := by simp [Ob.plain, h.plain, bT_plain]
theorem l_wr {X : Ctx} {ops : Array Oper} {e0 : Nat → T} {L : Sl} {H H' : List Ob} {K : S → Prop} {o : Oper} {r : List Oper} {c : Call} {g : Operand} {f : FuncId} {cap : List D} {args A : List T} {t t' : T} {a a' : T} {s s' : List UInt8} {L1 : Sl} (sel : List Nat) (h : k'0 X f A [.mu [a, bT s]] t [.mu [a', bT s']]) (pa : adOk a) (pb : adOk a') {P' : Prop} (k : P') (hg : o.guard = none := by exact rfl) (ho : o.op = .call c := by exact rfl) (hcg : c.callee = .value g := by exact rfl) (hgv : (S.mk (putL L e0) H).val g = .d (.fn f cap) := by exact rfl)
  (hargs : rens sel (c.args.toList.map (S.mk (putL L e0) H).val) = some args := by exact rfl) (hA : A = args ++ cap.map .d := by exact rfl) (hs : gets H sel = some [.mu [a, bT s]] := by exact rfl) (hn : sel.Nodup := by decide) (hl : Nat.ble sel.length 1 = true := by exact rfl) (ht : t.backT sel H.length = some t' := by exact rfl)
  (hL : (putK L o.dst t' fun L => k'2h (sets H sel [.mu [a', bT s']]) fun J => some (L, J)) = some (L1, H') := by exact rfl) (w : P' → wpO X ops r ⟨putL L1 e0, H'⟩ K := by intro k; refine Y ?_; exact k) : wpO X ops (o :: r) ⟨putL L e0, H⟩ K :=
 k'1f sel h hg ho hcg hgv hargs hA hs hn (by simp [k'6 pa]) (by simp [k'6 pb]) hl ht hL (w k)
theorem l_ws {X : Ctx} {ops : Array Oper} {e0 : Nat → T} {L : Sl} {H H' : List Ob} {K : S → Prop} {o : Oper} {r : List Oper} {c : Call} {g : Operand} {f : FuncId} {cap : List D} {args A : List T} {t t' : T} {a : T} {b : Ob} {s : List UInt8} {L1 : Sl} (sel : List Nat) (h : k'0 X f A [.mu [a, bT s]] t [b]) (pa : adOk a) {P' : Prop} (k : P') (hg : o.guard = none := by exact rfl) (ho : o.op = .call c := by exact rfl) (hcg : c.callee = .value g := by exact rfl) (hgv : (S.mk (putL L e0) H).val g = .d (.fn f cap) := by exact rfl)
  (hargs : rens sel (c.args.toList.map (S.mk (putL L e0) H).val) = some args := by exact rfl) (hA : A = args ++ cap.map .d := by exact rfl) (hs : gets H sel = some [.mu [a, bT s]] := by exact rfl) (hn : sel.Nodup := by decide) (hpb : [b].all Ob.plain = true := by exact rfl) (hl : Nat.ble sel.length 1 = true := by exact rfl) (ht : t.backT sel H.length = some t' := by exact rfl)
  (hL : (putK L o.dst t' fun L => k'2h (sets H sel [b]) fun J => some (L, J)) = some (L1, H') := by exact rfl) (w : P' → wpO X ops r ⟨putL L1 e0, H'⟩ K := by intro k; refine Y ?_; exact k) : wpO X ops (o :: r) ⟨putL L e0, H⟩ K :=
 k'1f sel h hg ho hcg hgv hargs hA hs hn (by simp [k'6 pa]) hpb hl ht hL (w k)
def packV (l : List Nat) : List UInt8 := l.flatMap putV
theorem packV_len (l : List Nat) : (packV l).length ≤ 10 * l.length := by
 induction l with
 | nil => simp [packV]
 | cons n l ih => have := k'1e n; simp [packV] at *; omega
theorem Vars_callsZ (z : Bool) (a : T) (l : List UInt8) (n : Nat) (ns : List Nat) (ha : adOk a) (h1 : 1 ≤ n) (h2 : n ≤ 536870911) (hns : ∀ m ∈ ns, m < 2 ^ 64) (h0 : ns ≠ []) (hl : l.length + 10 * ns.length < big) : k'0 (cx B) 447 [.ptr 0 0, iT n, .d (.sl z (ns.map uD))] [.mu [a, bT l]] (.tup []) [.mu [.me, bT (l ++ (tagV n 2 ++ (putV (packV ns).length ++ packV ns)))]] := by
 have hl' := hl
 unfold big at hl'
 have hpl := packV_len ns
 refine l_bw Tryz.func447 1 [] ?_
 have hlen : (ns.map uD).length = ns.length := by simp
 rw [hlen]
 refine k'8 (fun i : Nat => ns.length - i) (fun i => [(0, .ptr 0 0), (1, iT n), (6, .ptr 1 0), (9, .d (.sl z (ns.map uD))), (10, iT ns.length), (11, iT i)]) (fun i => [.mu [a, bT l], .mu [if i = 0 then .nw 69 2 else .me, bT (packV (ns.take i))]]) (fun i => i ≤ ns.length) 0 (by omega) ⟨rfl, rfl, rfl, rfl, rfl, rfl, trivial⟩ rfl 2 rfl (fun _ => rfl) (fun i => by
  have : adOk (if i = 0 then .nw 69 2 else .me) := by unfold adOk; split <;> simp
  simp [k'6 ha, k'6 this]) (fun _ => rfl) ?_
 intro i i1
 have ha2 : adOk (if i = 0 then .nw 69 2 else .me) := by unfold adOk; split <;> simp
 refine Y ?_
 refine k'13 rfl (fun hc => ?_) (fun hc => ?_)
 ·have hlt : i < ns.length := by have := of_decide_eq_true hc; omega
  obtain ⟨x, hx⟩ : ∃ x, ns[i]? = some x := ⟨_, List.getElem?_eq_getElem hlt⟩
  have hdx : (ns.map uD)[i]? = some (uD x) := by rw [List.getElem?_map, hx]; rfl
  have hx64 := hns x (List.mem_of_getElem? hx)
  have hp10 := k'1e x
  have htk := packV_len (ns.take i)
  have hpk : packV (ns.take i) ++ putV x = packV (ns.take (i + 1)) := by rw [List.take_add_one, hx]; simp [packV]
  have h3 := k'1x B _ (packV (ns.take i)) (putV x) ha2 (by simp [most] at *; omega)
  rw [hpk] at h3
  refine Y ?_
  refine k'1 (.indexAddr (k := .i64) (n := i) (es := ns.map uD) (u := uD x) rfl rfl rfl rfl (.inl ⟨_, rfl⟩) rfl (by omega) (by simpa using hdx) rfl (by decide)) rfl rfl ?_
  refine Y ?_
  refine k'2 [] (Put_calls B x hx64) rfl rfl rfl ?_
  refine l_wr [1] (h3) ha2 (.inl rfl) ?_
  rw [wS i (by omega)]
  exact ⟨i + 1, by omega, by omega, ⟨rfl, rfl, rfl, rfl, rfl, rfl, trivial⟩, by simp [k'6 ha, k'6 (.inl rfl)], k'z (by simp)⟩
 ·have hge : i = ns.length := by have := of_decide_eq_false hc; omega
  have hnl : ns.length ≠ 0 := by simpa using h0
  subst hge
  rw [if_neg hnl, List.take_length]
  have hpn : packV ns ≠ [] := by
   cases ns with
   | nil => exact absurd rfl h0
   | cons m ns => simp [packV, putV_ne]
  have h3 := k'2v B .me (packV ns) (.inl rfl) (by simp [most] at *; omega)
  have h4 := Text_calls B a l n (packV ns) ha h1 h2 hpn (by unfold big; omega)
  refine Y ?_
  refine k'1f [1] (h3) rfl rfl rfl rfl rfl rfl rfl (by decide) (by simp [k'6 (.inl rfl)]) rfl rfl rfl rfl ?_
  refine l_wr [0] (h4) ha (.inl rfl) ?_
  exact l_end trivial (by decide) rfl rfl rfl rfl (by simp [k'6 (.inl rfl)])
theorem Vars_nilZ (z : Bool) (a : T) (l : List UInt8) (n : Nat) (ha : adOk a) : k'0 (cx B) 447 [.ptr 0 0, iT n, .d (.sl z [])] [.mu [a, bT l]] (.tup []) [.mu [a, bT l]] := by
 refine l_bw Tryz.func447 1 [] ?_
 refine k'8 (fun _ : Unit => 0) (fun _ => [(0, .ptr 0 0), (1, iT n), (6, .ptr 1 0), (10, iT 0), (11, iT 0)]) (fun _ => [.mu [a, bT l], .mu [.nw 69 2, bT []]]) (fun _ => True) () trivial ⟨rfl, rfl, rfl, rfl, rfl, trivial⟩ rfl 2 rfl (fun _ => rfl) (fun _ => by simp [k'6 ha, k'6 (.inr (.inl rfl))]) (fun _ => rfl) ?_
 intro _ _
 refine Y ?_
 refine k'1f [1] (k'2v B (.nw 69 2) [] (.inr (.inl rfl)) (by simp)) rfl rfl rfl rfl rfl rfl rfl (by decide) rfl rfl rfl rfl rfl ?_
 refine l_wr [0] (Text_nil B a l n ha) ha ha ?_
 exact l_end trivial (by decide) rfl rfl rfl rfl (by simp [k'6 ha])
end Go.Proofs.YtcfkbpddmdfbaaaGreatDoor
/-! Buckets: may they be? -/
namespace Go.Proofs.YtcfkbpddmdfbaaaGreatDoor
open Go Go.Abs
variable (B : Fr)
def bkZ (z : Bool) (o : Int) (cs : List Nat) (u : List UInt8) : D := .agg [.int .i32 o, .sl z (cs.map uD), .str u]
def bkD (o : Int) (cs : List Nat) (u : List UInt8) : D := .agg [.int .i32 o, slD (cs.map uD), .str u]
def mayB (u : List UInt8) (d : Int) : Bool := decide (d ≥ 0) && k'1a tbB u d
theorem MayBucketsZ (z : Bool) (o : Int) (cs : List Nat) (u : List UInt8) (d : Int) (hu : u.length < big) (hd1 : -9223372036854775808 ≤ d) (hd2 : d < 9223372036854775808) : k'0 (cx B) 416 [.d (bkZ z o cs u), .d (.int .i64 d)] [] (.d (.bool (mayB u d))) [] := by
 unfold mayB
 refine l_bw Tryz.func416 0 [] ?_
 cases hc : decide (d ≥ 0)
 ·exact Z
 refine Y ?_
 refine k'a [] (k'o B 430 tbB (takesBuckets_calls B) u d hu hd1 hd2) rfl rfl rfl rfl rfl ?_
 exact Z
end Go.Proofs.YtcfkbpddmdfbaaaGreatDoor
/-! Numbers folded and unfolded; buckets written. -/
namespace Go.Proofs.YtcfkbpddmdfbaaaGreatDoor
open Go Go.Abs
variable (B : Fr)
theorem xor0 (a : Nat) (h : a < 4294967296) : (BitVec.ofInt IntKind.u32.bits (a : Int) ^^^ BitVec.ofInt IntKind.u32.bits 0).toNat = a := by
 show (BitVec.ofInt 32 (a : Int) ^^^ BitVec.ofInt 32 0).toNat = a
 rw [show BitVec.ofInt 32 0 = 0#32 from rfl, BitVec.xor_zero, ofN, BitVec.toNat_ofNat]
 exact Nat.mod_eq_of_lt h
theorem xor1 (a : Nat) (h : a < 4294967296) : (BitVec.ofInt IntKind.u32.bits (a : Int) ^^^ BitVec.ofInt IntKind.u32.bits 4294967295).toNat = 4294967295 - a := by
 show (BitVec.ofInt 32 (a : Int) ^^^ BitVec.ofInt 32 4294967295).toNat = 4294967295 - a
 rw [show BitVec.ofInt 32 4294967295 = BitVec.allOnes 32 by decide, BitVec.xor_allOnes, BitVec.toNat_not, ofN, BitVec.toNat_ofNat, Nat.mod_eq_of_lt (by show a < 2 ^ 32; omega)]
def k'2o (o : Int) : Nat := if 0 ≤ o then (2 * o).toNat else (-2 * o - 1).toNat
theorem Zig32_calls (o : Int) (h1 : -2147483648 ≤ o) (h2 : o < 2147483648) : k'0 (cx B) 395 [.d (.int .i32 o)] [] (uT (k'2o o)) [] := by
 refine l_bw Tryz.func395 0 [] ?_
 have key : IntKind.u64.wrap (IntKind.u32.wrap ((BitVec.ofInt IntKind.u32.bits (IntKind.u32.wrap (IntKind.u32.wrap o * 2 ^ min 1 IntKind.u32.bits)) ^^^ BitVec.ofInt IntKind.u32.bits (IntKind.u32.wrap (Int.fdiv o (2 ^ min 31 IntKind.i32.bits)))).toNat : Int)) = (k'2o o : Int) := by
  rw [show min 1 IntKind.u32.bits = 1 from rfl, show min 31 IntKind.i32.bits = 31 from rfl, Int.fdiv_eq_ediv_of_nonneg _ (by decide)]
  by_cases ho : 0 ≤ o
  ·have e1 : o / 2 ^ 31 = 0 := by omega
   have e2 : IntKind.u32.wrap (IntKind.u32.wrap o * 2 ^ 1) = (((2 * o).toNat : Nat) : Int) := by rw [IntKind.wrap_u32, IntKind.wrap_u32]; omega
   rw [e1, e2, show IntKind.u32.wrap 0 = 0 from rfl, xor0 _ (by omega), show k'2o o = (2 * o).toNat from if_pos ho, IntKind.wrap_u32, IntKind.wrap_u64]; omega
  ·have e1 : o / 2 ^ 31 = -1 := by omega
   have e2 : IntKind.u32.wrap (IntKind.u32.wrap o * 2 ^ 1) = (((2 * o + 4294967296).toNat : Nat) : Int) := by rw [IntKind.wrap_u32, IntKind.wrap_u32]; omega
   rw [e1, e2, show IntKind.u32.wrap (-1) = 4294967295 from rfl, xor1 _ (by omega), show k'2o o = (-2 * o - 1).toNat from if_neg ho, IntKind.wrap_u32, IntKind.wrap_u64]; omega
 rw [key]
 exact k'i rfl
end Go.Proofs.YtcfkbpddmdfbaaaGreatDoor
/-! Buckets written. -/
namespace Go.Proofs.YtcfkbpddmdfbaaaGreatDoor
open Go Go.Abs
variable (B : Fr)
def vrV (n m : Nat) : List UInt8 := if m = 0 then [] else tagV n 0 ++ putV m
def pkV (n : Nat) (cs : List Nat) : List UInt8 := if cs = [] then [] else tagV n 2 ++ (putV (packV cs).length ++ packV cs)
def marB (o : Int) (cs : List Nat) (u : List UInt8) : List UInt8 := vrV 1 (k'2o o) ++ pkV 2 cs ++ u
theorem Var_any (a : T) (l : List UInt8) (n m : Nat) (ha : adOk a) (h1 : 1 ≤ n) (h2 : n ≤ 536870911) (hm : m < 2 ^ 64) (hl : l.length < big) : ∃ a', adOk a' ∧ k'0 (cx B) 36 [.ptr 0 0, iT n, uT m] [.mu [a, bT l]] (.tup []) [.mu [a', bT (l ++ vrV n m)]] := by
 by_cases h0 : m = 0
 ·subst h0
  exact ⟨a, ha, by rw [show vrV n 0 = [] from rfl, List.append_nil]; exact Var_zero B a l n ha⟩
 ·exact ⟨.me, .inl rfl, by rw [show vrV n m = tagV n 0 ++ putV m from if_neg h0]; exact Var_calls B a l n m ha h1 h2 h0 hm hl⟩
theorem Vars_any (z : Bool) (a : T) (l : List UInt8) (n : Nat) (ns : List Nat) (ha : adOk a) (h1 : 1 ≤ n) (h2 : n ≤ 536870911) (hns : ∀ m ∈ ns, m < 2 ^ 64) (hl : l.length + 10 * ns.length < big) : ∃ a', adOk a' ∧ k'0 (cx B) 447 [.ptr 0 0, iT n, .d (.sl z (ns.map uD))] [.mu [a, bT l]] (.tup []) [.mu [a', bT (l ++ pkV n ns)]] := by
 by_cases h0 : ns = []
 ·subst h0
  exact ⟨a, ha, by rw [show pkV n [] = [] from rfl, List.append_nil]; exact Vars_nilZ B z a l n ha⟩
 ·exact ⟨.me, .inl rfl, by rw [show pkV n ns = _ from if_neg h0]; exact Vars_callsZ B z a l n ns ha h1 h2 hns h0 hl⟩
theorem zig32_lt (o : Int) (h1 : -2147483648 ≤ o) (h2 : o < 2147483648) : k'2o o < 2 ^ 64 := by unfold k'2o; split <;> omega
theorem k'3d (n m : Nat) : (vrV n m).length ≤ 20 := by
 unfold vrV; split
 ·simp
 ·have := k'4j n 0; have := k'1e m; simp; omega
theorem pkV_len (n : Nat) (cs : List Nat) : (pkV n cs).length ≤ 20 + 10 * cs.length := by
 unfold pkV; split
 ·simp
 ·have := k'4j n 2; have := k'1e (packV cs).length; have := packV_len cs; simp; omega
theorem MarshalZ (z : Bool) (o : Int) (cs : List Nat) (u : List UInt8) (d : Int) (h1 : -2147483648 ≤ o) (h2 : o < 2147483648) (hcs : ∀ m ∈ cs, m < 2 ^ 64) (hl : 10 * cs.length + u.length + 100 < big) (hd1 : -9223372036854775808 ≤ d) (hd2 : d < 9223372036854775808) :
  k'0 (cx B) 437 [.d (bkZ z o cs u), .d (.int .i64 d)] [] (if mayB u d then .tup [sT (marB o cs u), .d .nili] else .tup [sT [], .d (Er.code 8).d]) [] := by
 have hm := MayBucketsZ B z o cs u d (by unfold big at *; omega) hd1 hd2
 obtain ⟨a1, ha1, c1⟩ := Var_any B (.nw 71 2) [] 1 (k'2o o) (.inr (.inr rfl)) (by omega) (by omega) (zig32_lt o h1 h2) (by unfold big; simp)
 have hv := k'3d 1 (k'2o o)
 have hp := pkV_len 2 cs
 rw [List.nil_append] at c1
 obtain ⟨a2, ha2, c2⟩ := Vars_any B z a1 (vrV 1 (k'2o o)) 2 cs ha1 (by omega) (by omega) hcs (by unfold big at *; omega)
 have c3 := k'3c B a2 (vrV 1 (k'2o o) ++ pkV 2 cs) u ha2 (by unfold big at hl; simp [most]; omega)
 have c4 := k'2z B .me (marB o cs u) (.inl rfl) (by unfold big at hl; simp [marB, most]; omega)
 rcases cs with _ | ⟨c0, cs⟩ <;> (
  refine l_bw Tryz.func437 0 [] ?_
  refine k'2 [] (hm) rfl rfl rfl ?_
  cases hc : mayB u d
  ·exact Z
  refine Y ?_
  refine k'2 [] (Zig32_calls B o h1 h2) rfl rfl rfl ?_
  refine k'1f [1] (c1) rfl rfl rfl rfl rfl rfl rfl (by decide) rfl (by simp [k'6 ha1]) rfl rfl rfl ?_
  refine Y ?_
  refine l_wr [1] (c2) ha1 ha2 ?_
  refine l_wr [1] (c3) ha2 (.inl rfl) ?_
  refine k'1f [1] (c4) rfl rfl rfl rfl rfl rfl rfl (by decide) (by simp [k'6 (.inl rfl)]) rfl rfl rfl rfl ?_
  exact Z)
end Go.Proofs.YtcfkbpddmdfbaaaGreatDoor
/-! Buckets compared; room counted. -/
namespace Go.Proofs.YtcfkbpddmdfbaaaGreatDoor
open Go Go.Abs
variable (B : Fr)
theorem take_eq_succ {a b : List Nat} {i x y : Nat} (hx : a[i]? = some x) (hy : b[i]? = some y) (h : a.take i = b.take i) (e : x = y) : a.take (i + 1) = b.take (i + 1) := by
 rw [List.take_add_one, List.take_add_one, hx, hy, h, e]
theorem EqualZ (z w : Bool) (a b : List Nat) (hl : a.length < 9223372036854775807) : k'0 (cx B) 309 [.d (.sl z (a.map uD)), .d (.sl w (b.map uD))] [] (.d (.bool (a == b))) [] := by
 have hla : (a.map uD).length = a.length := by simp
 have hlb : (b.map uD).length = b.length := by simp
 refine l_bw Tryz.func309 0 [] ?_
 rw [hla, hlb]
 cases hc : ((a.length : Int) != b.length)
 rotate_left
 ·have : (a == b) = false := by
   cases he : a == b with
   | false => rfl
   | true => have := eq_of_beq he; subst this; simp at hc
  rw [this]
  exact Z
 have hab : a.length = b.length := by simp at hc; omega
 refine Y ?_
 rw [hla]
 refine k'8 (fun i : Nat => a.length - i) (fun i => [(0, .d (.sl z (a.map uD))), (1, .d (.sl w (b.map uD))), (12, iT a.length), (13, iT i)]) (fun _ => []) (fun i => i ≤ a.length ∧ a.take i = b.take i) 0 ⟨by omega, rfl⟩ ⟨rfl, rfl, rfl, rfl, trivial⟩ rfl 0 rfl (fun _ => rfl) (fun _ => rfl) (fun _ => rfl) ?_
 rintro i ⟨i1, i2⟩
 refine Y ?_
 refine k'13 rfl (fun hd => ?_) (fun hd => ?_)
 ·have hlt : i < a.length := by have := of_decide_eq_true hd; omega
  obtain ⟨x, hx⟩ : ∃ x, a[i]? = some x := ⟨_, List.getElem?_eq_getElem hlt⟩
  obtain ⟨y, hy⟩ : ∃ y, b[i]? = some y := ⟨_, List.getElem?_eq_getElem (by omega)⟩
  have hdx : (a.map uD)[i]? = some (uD x) := by rw [List.getElem?_map, hx]; rfl
  have hdy : (b.map uD)[i]? = some (uD y) := by rw [List.getElem?_map, hy]; rfl
  refine Y ?_
  refine k'12 (.indexAddr (k := .i64) (n := i) (es := a.map uD) (u := uD x) rfl rfl rfl rfl (.inl ⟨_, rfl⟩) rfl (by omega) (by simpa using hdx) rfl (by decide)) rfl rfl rfl ?_
  refine Y ?_
  refine k'12 (.indexAddr (k := .i64) (n := i) (es := b.map uD) (u := uD y) rfl rfl rfl rfl (.inl ⟨_, rfl⟩) rfl (by omega) (by simpa using hdy) rfl (by decide)) rfl rfl rfl ?_
  refine Y ?_
  refine k'13 rfl (fun he => ?_) (fun he => ?_)
  ·have hxy : x ≠ y := by rintro rfl; simp at he
   have : (a == b) = false := by
    cases hq : a == b with
    | false => rfl
    | true => have := eq_of_beq hq; subst this; rw [hx] at hy; injection hy with hy; exact absurd hy hxy
   rw [this]
   exact Z
  ·have hxy : x = y := by simp at he; omega
   refine Y ?_
   rw [wS i (by omega)]
   exact ⟨i + 1, by omega, ⟨by omega, take_eq_succ hx hy i2 hxy⟩, ⟨rfl, rfl, rfl, rfl, trivial⟩, rfl, k'z rfl⟩
 ·have hge : i = a.length := by have := of_decide_eq_false hd; omega
  subst hge
  have : (a == b) = true := by rw [List.take_length, hab, List.take_length] at i2; rw [i2]; simp
  rw [this]
  exact Z
theorem SameZ (z w : Bool) (o : Int) (a : List Nat) (u : List UInt8) (o' : Int) (b : List Nat) (u' : List UInt8) (hl : a.length < 9223372036854775807) : k'0 (cx B) 385 [.d (bkZ z o a u), .d (bkZ w o' b u')] [] (.d (.bool (o == o' && u == u' && a == b))) [] := by
 have h1 := EqualZ B z w a b hl
 refine l_bw Tryz.func385 0 [] ?_
 cases e1 : (o == o')
 ·exact Z
 refine Y ?_
 cases e2 : (u == u')
 ·exact Z
 refine Y ?_
 refine k'a [] (h1) rfl rfl rfl rfl rfl ?_
 exact Z
def k'n (room : Int) (n : Nat) : Int := if room < 0 ∨ room - 20 < n then -1 else room - n - 20
theorem k'h {room : Int} {n : Nat} (h : room < 9223372036854775000) : -1 ≤ k'n room n ∧ k'n room n < 9223372036854775000 := by unfold k'n; split <;> omega
theorem k'9 (room : Int) (n : Nat) (h1 : -1 ≤ room) (h2 : room < 9223372036854775000) (h3 : n ≤ 9223372036854775807) : k'0 (cx B) 73 [.d (.int .i64 room), iT n] [] (.d (.int .i64 (k'n room n))) [] := by
 unfold k'n
 refine l_bw Tryz.func73 0 [] ?_
 by_cases hc : room < 0
 ·rw [show decide (room < 0) = true from decide_eq_true hc, if_pos (.inl hc)]
  exact Z
 ·rw [show decide (room < 0) = false from decide_eq_false hc]
  refine Y ?_
  rw [show IntKind.i64.wrap (room - 20) = room - 20 from k'10 (by omega) (by omega)]
  by_cases hd : room - 20 < n
  ·rw [if_pos (.inr hd), show decide ((n : Int) > room - 20) = true from decide_eq_true hd]
   exact Z
  ·rw [if_neg (by omega), show decide ((n : Int) > room - 20) = false from decide_eq_false (by omega)]
   refine Y ?_
   rw [show IntKind.i64.wrap (room - n) = room - n from k'10 (by omega) (by omega), show IntKind.i64.wrap (room - n - 20) = room - n - 20 from k'10 (by omega) (by omega)]
   exact k'i rfl
def roomB (cs : List Nat) (u : List UInt8) (room : Int) : Int := k'n (k'n room u.length) (8 * (if 100000 < cs.length then 100000 else cs.length))
theorem RoomZ (z : Bool) (o : Int) (a : List Nat) (u : List UInt8) (room : Int) (h1 : -1 ≤ room) (h2 : room < 9223372036854775000) (hu : u.length ≤ 9223372036854775807) : k'0 (cx B) 178 [.d (bkZ z o a u), .d (.int .i64 room)] [] (.d (.int .i64 (roomB a u room))) [] := by
 have hla : (a.map uD).length = a.length := by simp
 have t1 := k'9 B room u.length h1 h2 hu
 obtain ⟨g1, g2⟩ := k'h (n := u.length) h2
 have t2 := k'9 B (k'n room u.length) (8 * (if 100000 < a.length then 100000 else a.length)) g1 g2 (by split <;> omega)
 unfold roomB
 refine l_bw Tryz.func178 0 [] ?_
 refine x_cw [] (t1) rfl rfl rfl ?_
 have hm : IntKind.i64.wrap (8 * (if (100000 : Int) < ((a.map uD).length : Int) then 100000 else ((a.map uD).length : Int))) = ((8 * (if 100000 < a.length then 100000 else a.length) : Nat) : Int) := by
  rw [hla]
  by_cases h : 100000 < a.length
  ·rw [if_pos h, if_pos (by omega)]; rfl
  ·rw [if_neg h, if_neg (by omega), k'10 (by omega) (by omega)]; omega
 rw [hm]
 refine k'3 [] (t2) rfl rfl rfl ?_
 exact Z
