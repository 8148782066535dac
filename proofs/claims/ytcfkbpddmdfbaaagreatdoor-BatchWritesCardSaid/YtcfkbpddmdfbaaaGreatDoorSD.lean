/- Numbers of eight bytes, one behind the other; what may lack. -/
import Derived.Test.YtcfkbpddmdfbaaaGreatDoorPAB
import Derived.Laws.StructEq
import Derived.ChangeKeysEq
import Derived.Test.YtcfkbpddmdfbaaaGreatDoorNW
set_option linter.unusedSimpArgs false
set_option linter.unusedVariables false
set_option maxRecDepth 100000
namespace Go.Proofs.YtcfkbpddmdfbaaaGreatDoor
open Go Go.Abs
variable (B : Fr)
section
def eiE (s : List UInt8) : Nat → Nat → Except Er (List Nat)
 | 0, _ => .ok []
 | f + 1, p => if p < s.length then (match takeE s p 8 with
   | .error e => .error e
   | .ok (l, q) => match eiE s f q with
    | .error e => .error e
    | .ok r => .ok (leN l :: r)) else .ok []
def fixs (s : List UInt8) : Except Er (List Nat) := eiE s (s.length + 1) 0
theorem eiE_pack : ∀ (ns : List Nat) (x : List UInt8) (f : Nat), (∀ n ∈ ns, n < 2 ^ 64) → (k'4r ns).length < f → eiE (x ++ k'4r ns) f x.length = .ok ns
 | [], x, 0, _, h => by simp [k'4r] at h
 | [], x, f + 1, _, _ => by
  unfold eiE
  rw [if_neg (by simp [k'4r])]
 | n :: ns, x, 0, _, h => by omega
 | n :: ns, x, f + 1, hn, h => by
  have e : k'4r (n :: ns) = le8 n ++ k'4r ns := rfl
  have hp := k'3x n
  rw [e] at h ⊢
  rw [List.length_append] at h
  unfold eiE
  have ht : takeE (x ++ (le8 n ++ k'4r ns)) x.length 8 = .ok (le8 n, x.length + 8) := by
   unfold takeE
   rw [if_neg (by simp; omega)]
   congr 2
   rw [List.drop_left, List.take_append_of_le_length (by omega), List.take_of_length_le (by omega)]
  rw [if_pos (by simp; omega), ht]
  dsimp only
  have ih := eiE_pack ns (x ++ le8 n) f (fun m hm => hn m (List.mem_cons_of_mem _ hm)) (by omega)
  rw [List.append_assoc, List.length_append, hp] at ih
  rw [ih, le8_N (hn n (List.mem_cons_self ..))]
theorem fixs_packW {ns : List Nat} (h : ∀ n ∈ ns, n < 2 ^ 64) : fixs (k'4r ns) = .ok ns := by
 have := eiE_pack ns [] ((k'4r ns).length + 1) h (by omega)
 simpa [fixs] using this
theorem packO_sel (rd : List UInt8 → Except Er (List Nat)) (num : Nat) : ∀ l : List Fld, packO rd num l = packO rd num (sel num l)
 | [] => rfl
 | x :: l => by
  rw [sel_cons]
  by_cases h : x.num = num
  ·rw [if_pos h]
   unfold packO
   rw [if_pos h, if_pos h, packO_sel rd num l]
  ·rw [if_neg h]
   conv => lhs; unfold packO
   rw [if_neg h]; exact packO_sel rd num l
theorem pack_pw {n : Nat} {cs : List Nat} {l : List Fld} (hc : ∀ m ∈ cs, m < 2 ^ 64) (h : sel n l = pwF n cs) : packO fixs n l = some cs := by
 rw [packO_sel, h]
 refine tell_pk n (k'4r cs) (fun h0 => ?_) (fixs_packW hc)
 cases cs with
 | nil => rfl
 | cons c cs =>
  have := k'3x c
  have h1 : (k'4r (c :: cs)).length = 0 := by rw [h0]; rfl
  rw [k'39] at h1; simp at h1
theorem pwV_len (n : Nat) (cs : List Nat) : (pwV n cs).length ≤ 20 + 8 * cs.length := by
 have := k'3m n (k'4r cs)
 rw [k'39] at this
 exact this
section
variable (n m : Nat) (cs : List Nat)
theorem sel_pw : sel m (pwF n cs) = if n = m then pwF n cs else [] := k'q n m _
theorem all_pw (h1 : 1 ≤ n) (h2 : n ≤ 536870911) (d : Int) (hl : cs.length < 2 ^ 40) : all (pwV n cs) d = .ok (pwF n cs) := all_tx h1 h2 d (by rw [k'39]; omega)
end
/-! What may lack. -/
def k'l (h : Bool) (n : Nat) : Bool := h || n == 0
theorem opt_of {n v : Nat} {b : Bool} {l : List Fld} (hn : n ≠ 0) (h : sel n l = opF n b v) (hm : k'l b v = true) : hasL l n = b ∧ (k'19 l n).n = v := by
 have h1 : k'19 l n = k'19 (opF n b v) n := by rw [← sel_last, h]
 obtain ⟨h2, h3⟩ := tell_op n v b (by unfold k'l at hm; cases b with | true => exact .inl rfl | false => right; simpa using hm)
 unfold hasL
 rw [h1, h3]
 refine ⟨?_, rfl⟩
 cases b
 ·have : k'19 (opF n false v) n = noFld := rfl
  rw [this]
  show (0 == n) = false
  simp; omega
 have : k'19 (opF n true v) n = e8R n v := last_one n _ rfl
 rw [this]
 show (n == n) = true
 simp
/-! Written. -/
theorem wr_opt (h : Bool) (n m : Nat) (h1 : 1 ≤ n) (h2 : n ≤ 536870911) : Wr B 393 [iT n, .d (.agg [.bool h, .int .u64 m])] (opV n h m) := fun a l ha hl => by
 cases h
 ·refine ⟨a, ha, ?_⟩
  rw [show opV n false m = [] from rfl, List.append_nil]
  rcases ha with rfl | rfl | rfl <;> (rcases l with _ | ⟨c, l⟩ <;> (
  refine l_b0 Tryz.func393 1 [] ?_
  exact Z))
 rw [show opV n true m = e8V n m from rfl] at hl ⊢
 obtain ⟨a', ha', h3⟩ := wr_eight B n m h1 h2 a l ha hl
 refine ⟨a', ha', ?_⟩
 generalize l ++ e8V n m = y at *
 rcases ha with rfl | rfl | rfl <;> (rcases ha' with rfl | rfl | rfl <;> (rcases l with _ | ⟨c, l⟩ <;> (rcases y with _ | ⟨c', y⟩ <;> (
 refine l_bw Tryz.func393 1 [] ?_
 refine k'2 [0] (h3) rfl rfl rfl ?_
 exact Z))))
theorem wr_fixeds (z : Bool) (n : Nat) (ns : List Nat) (h1 : 1 ≤ n) (h2 : n ≤ 536870911) (hns : ns.length < 8000000000) : Wr B 394 [iT n, .d (.sl z (ns.map uD))] (pwV n ns) := fun a l ha hl => by
 have hpw := k'39 ns
 have htl : (pwV n ns).length + l.length < 34359738368 := by unfold big at hl; omega
 obtain ⟨a', ha', h4⟩ := k'24 B n (k'4r ns) h1 h2 a l ha hl
 refine ⟨a', ha', ?_⟩
 have e1 : tagV 1 1 = [9] := rfl
 refine l_bw Tryz.func394 1 [] ?_
 have hlen : (ns.map uD).length = ns.length := by simp
 rw [hlen]
 refine k'8 (fun i : Nat => ns.length - i) (fun i => [(0, .ptr 0 0), (1, iT n), (6, .ptr 1 0), (9, .d (.sl z (ns.map uD))), (10, iT ns.length), (11, iT i)]) (fun i => [.mu [a, bT l], .mu [if i = 0 then .nw 69 2 else .me, bT (k'4r (ns.take i))]]) (fun i => i ≤ ns.length) 0 (by omega) ⟨rfl, rfl, rfl, rfl, rfl, rfl, trivial⟩ rfl 2 rfl (fun _ => rfl) (fun i => by
  have : adOk (if i = 0 then .nw 69 2 else .me) := by unfold adOk; split <;> simp
  simp [k'6 ha, k'6 this]) (fun _ => rfl) ?_
 intro i i1
 have ha2 : adOk (if i = 0 then .nw 69 2 else .me) := by unfold adOk; split <;> simp
 refine Y ?_
 refine k'13 rfl (fun hc => ?_) (fun hc => ?_)
 ·have hlt : i < ns.length := by have := of_decide_eq_true hc; omega
  obtain ⟨x, hx⟩ : ∃ x, ns[i]? = some x := ⟨_, List.getElem?_eq_getElem hlt⟩
  have hdx : (ns.map uD)[i]? = some (uD x) := by rw [List.getElem?_map, hx]; rfl
  have hpk : k'4r (ns.take i) ++ le8 x = k'4r (ns.take (i + 1)) := by rw [List.take_add_one, hx]; simp [k'4r]
  have hti := k'39 (ns.take i)
  have h8 := k'3x x
  have h0 := Fixed_calls B 1 x (by omega) (by omega)
  rw [e1] at h0
  have h3 := k'1x B _ (k'4r (ns.take i)) (le8 x) ha2 (by rw [hti, h8, List.length_take]; unfold most; omega)
  rw [hpk] at h3
  refine Y ?_
  refine k'1 (.indexAddr (k := .i64) (n := i) (es := ns.map uD) (u := uD x) rfl rfl rfl rfl (.inl ⟨_, rfl⟩) rfl (by omega) (by simpa using hdx) rfl (by decide)) rfl rfl ?_
  refine Y ?_
  refine k'2 [] (h0) rfl rfl rfl ?_
  refine k'1 (.sliceStr (s := [9] ++ le8 x) (l := 1) (h := 9) rfl rfl rfl rfl ⟨.i64, rfl⟩ (by show (9 : Nat) = ([9] ++ le8 x).length; simp [h8]) (by omega) (by simp [h8])) rfl rfl ?_
  rw [show ((([9] : List UInt8) ++ le8 x).drop 1).take (9 - 1) = le8 x by show (le8 x).take 8 = le8 x; rw [List.take_of_length_le (by omega)]]
  refine l_wr [1] (h3) ha2 (.inl rfl) ?_
  rw [wS i (by omega)]
  exact ⟨i + 1, by omega, by omega, ⟨rfl, rfl, rfl, rfl, rfl, rfl, trivial⟩, by simp [k'6 ha, k'6 (.inl rfl)], k'z (by simp)⟩
 ·have hge : i = ns.length := by have := of_decide_eq_false hc; omega
  subst hge
  rw [List.take_length]
  generalize (if ns.length = 0 then T.nw 69 2 else .me) = aa at ha2 ⊢
  have h3 := k'2v B aa (k'4r ns) ha2 (by rw [hpw]; unfold most; omega)
  refine Y ?_
  refine k'1f [1] (h3) rfl rfl rfl rfl rfl rfl rfl (by decide) (by simp [k'6 ha2]) (by rcases ha2 with rfl | rfl | rfl <;> rfl) rfl rfl rfl ?_
  refine k'1f [0] (h4) rfl rfl rfl rfl rfl rfl rfl (by decide) (by simp [k'6 ha]) (by simp [k'6 ha']) rfl rfl rfl ?_
  refine Y ?_
  exact l_end trivial (by decide) rfl rfl rfl rfl (by simp [k'6 ha'])
/-! What may lack: may they be, are two alike. -/
def OpSh (x : D) : Prop := ∃ (a : Bool) (b : Nat), x = .agg [.bool a, .int .u64 b]
theorem IndexF_Op_calls : IdxP B 442 OpSh := k'2a B Tryz.func442
theorem k'44 (a : Bool) (b : Nat) : k'0 (cx B) 414 [.d (.agg [.bool a, .int .u64 b])] [] (.d (.bool (!k'l a b))) [] := by
 unfold k'l
 cases a
 rotate_left
 ·refine l_b0 Tryz.func414 0 [] ?_
  exact Z
 rw [show (!(false || b == 0)) = decide ((b : Int) > 0) by
  rcases Nat.eq_zero_or_pos b with rfl | h
  ·rfl
  ·rw [decide_eq_true (by omega)]; simp; omega]
 refine l_b0 Tryz.func414 0 [] ?_
 exact Z
theorem MayOpt3_calls (a1 : Bool) (n1 : Nat) (a2 : Bool) (n2 : Nat) (a3 : Bool) (n3 : Nat) : k'0 (cx B) 339 [.d (.sl false [.agg [.bool a1, .int .u64 n1], .agg [.bool a2, .int .u64 n2], .agg [.bool a3, .int .u64 n3]])] [] (.d (.bool (k'l a1 n1 && k'l a2 n2 && k'l a3 n3))) [] := by
 have e1 : (k'l a1 n1 && k'l a2 n2 && k'l a3 n3) = (List.range 3).all (fun i => ([k'l a1 n1, k'l a2 n2, k'l a3 n3] : List Bool).getD i true) := by
  generalize k'l a1 n1 = x
  generalize k'l a2 n2 = y
  generalize k'l a3 n3 = z
  cases x <;> cases y <;> cases z <;> rfl
 have h1 := IndexF_Op_calls B 414 [] false [.agg [.bool a1, .int .u64 n1], .agg [.bool a2, .int .u64 n2], .agg [.bool a3, .int .u64 n3]] (fun i => !([k'l a1 n1, k'l a2 n2, k'l a3 n3] : List Bool).getD i true) (by simp) (fun x hx => by simp at hx; rcases hx with rfl | rfl | rfl <;> exact ⟨_, _, rfl⟩) (fun i x hx => by
  match i, hx with
  | 0, hx => simp at hx; subst hx; exact k'44 B a1 n1
  | 1, hx => simp at hx; subst hx; exact k'44 B a2 n2
  | 2, hx => simp at hx; subst hx; exact k'44 B a3 n3
  | i + 3, hx => simp at hx)
 have h2 : k'0 (cx B) 413 [.d (.sl false [.agg [.bool a1, .int .u64 n1], .agg [.bool a2, .int .u64 n2], .agg [.bool a3, .int .u64 n3]]), .d (.fn 414 [])] [] (.d (.bool (!(k'l a1 n1 && k'l a2 n2 && k'l a3 n3)))) [] := by
  rw [e1]
  refine l_bw Tryz.func413 0 [] ?_
  refine l_cw [] (h1) rfl rfl rfl ?_
  rw [idx_all]
  exact k'i rfl
 refine l_bw Tryz.func339 0 [] ?_
 refine l_cw [] (h2) rfl rfl rfl ?_
 rw [Bool.not_not]
 exact k'i rfl
end
section
structure Hi where
 attrs : List Kv
 start : Nat
 time : Nat
 count : Nat
 sumH : Bool
 sum : Nat
 minH : Bool
 min : Nat
 maxH : Bool
 max : Nat
 counts : List Nat
 bounds : List Nat
 exs : List Em
 flags : Nat
 u : List UInt8
def Hi.hb (x : Hi) : List UInt8 := fxV 2 x.start ++ fxV 3 x.time ++ fxV 4 x.count ++ opV 5 x.sumH x.sum ++ pwV 6 x.counts ++ pwV 7 x.bounds ++ psV 8 (x.exs.map Em.mar) ++ psV 9 (Kv.mars x.attrs) ++ vrV 10 x.flags ++ opV 11 x.minH x.min ++ opV 12 x.maxH x.max
def Hi.hF (x : Hi) : List Fld := fxF 2 x.start ++ fxF 3 x.time ++ fxF 4 x.count ++ opF 5 x.sumH x.sum ++ pwF 6 x.counts ++ pwF 7 x.bounds ++ psF 8 (x.exs.map Em.mar) ++ psF 9 (Kv.mars x.attrs) ++ vrF 10 x.flags ++ opF 11 x.minH x.min ++ opF 12 x.maxH x.max
def Hi.mar (x : Hi) : List UInt8 := x.hb ++ x.u
def tbH (n k : Nat) : Bool := bif [6, 7].contains n then (k == 2 || k == 1) else bif [2, 3, 4, 5, 11, 12].contains n then k == 1 else bif [8, 9].contains n then k == 2 else bif [10].contains n then k == 0 else false
theorem tbH_calls (n k : Nat) : k'0 (cx B) 340 [iT n, iT k] [] (.d (.bool (tbH n k))) [] := by
 refine l_bw Tryz.func340 0 [] ?_
 cases h0 : ((n : Int) == 6) with
 | true =>
  have e : n = 6 := by have := eq_of_beq h0; omega
  subst e
  rw [show tbH 6 k = ((k : Int) == 2 || (k : Int) == 1) by rw [show ((k : Int) == 2) = (k == 2) from ibeq k 2, show ((k : Int) == 1) = (k == 1) from ibeq k 1]; rfl]
  refine Y ?_
  cases hk : ((k : Int) == 2)
  rotate_left
  ·exact Z
  exact Z
 | false =>
 have eh0 : n ≠ 6 := by have := ne_of_beq_false h0; omega
 refine Y ?_
 cases h1 : ((n : Int) == 7) with
 | true =>
  have e : n = 7 := by have := eq_of_beq h1; omega
  subst e
  rw [show tbH 7 k = ((k : Int) == 2 || (k : Int) == 1) by rw [show ((k : Int) == 2) = (k == 2) from ibeq k 2, show ((k : Int) == 1) = (k == 1) from ibeq k 1]; rfl]
  refine Y ?_
  cases hk : ((k : Int) == 2)
  rotate_left
  ·exact Z
  exact Z
 | false =>
 have eh1 : n ≠ 7 := by have := ne_of_beq_false h1; omega
 refine Y ?_
 cases h2 : ((n : Int) == 2) with
 | true =>
  have e : n = 2 := by have := eq_of_beq h2; omega
  subst e
  rw [show tbH 2 k = ((k : Int) == 1) from (ibeq k 1).symm]
  exact Z
 | false =>
 have eh2 : n ≠ 2 := by have := ne_of_beq_false h2; omega
 refine Y ?_
 cases h3 : ((n : Int) == 3) with
 | true =>
  have e : n = 3 := by have := eq_of_beq h3; omega
  subst e
  rw [show tbH 3 k = ((k : Int) == 1) from (ibeq k 1).symm]
  exact Z
 | false =>
 have eh3 : n ≠ 3 := by have := ne_of_beq_false h3; omega
 refine Y ?_
 cases h4 : ((n : Int) == 4) with
 | true =>
  have e : n = 4 := by have := eq_of_beq h4; omega
  subst e
  rw [show tbH 4 k = ((k : Int) == 1) from (ibeq k 1).symm]
  exact Z
 | false =>
 have eh4 : n ≠ 4 := by have := ne_of_beq_false h4; omega
 refine Y ?_
 cases h5 : ((n : Int) == 5) with
 | true =>
  have e : n = 5 := by have := eq_of_beq h5; omega
  subst e
  rw [show tbH 5 k = ((k : Int) == 1) from (ibeq k 1).symm]
  exact Z
 | false =>
 have eh5 : n ≠ 5 := by have := ne_of_beq_false h5; omega
 refine Y ?_
 cases h6 : ((n : Int) == 11) with
 | true =>
  have e : n = 11 := by have := eq_of_beq h6; omega
  subst e
  rw [show tbH 11 k = ((k : Int) == 1) from (ibeq k 1).symm]
  exact Z
 | false =>
 have eh6 : n ≠ 11 := by have := ne_of_beq_false h6; omega
 refine Y ?_
 cases h7 : ((n : Int) == 12) with
 | true =>
  have e : n = 12 := by have := eq_of_beq h7; omega
  subst e
  rw [show tbH 12 k = ((k : Int) == 1) from (ibeq k 1).symm]
  exact Z
 | false =>
 have eh7 : n ≠ 12 := by have := ne_of_beq_false h7; omega
 refine Y ?_
 cases h8 : ((n : Int) == 8) with
 | true =>
  have e : n = 8 := by have := eq_of_beq h8; omega
  subst e
  rw [show tbH 8 k = ((k : Int) == 2) from (ibeq k 2).symm]
  exact Z
 | false =>
 have eh8 : n ≠ 8 := by have := ne_of_beq_false h8; omega
 refine Y ?_
 cases h9 : ((n : Int) == 9) with
 | true =>
  have e : n = 9 := by have := eq_of_beq h9; omega
  subst e
  rw [show tbH 9 k = ((k : Int) == 2) from (ibeq k 2).symm]
  exact Z
 | false =>
 have eh9 : n ≠ 9 := by have := ne_of_beq_false h9; omega
 refine Y ?_
 cases h10 : ((n : Int) == 10) with
 | true =>
  have e : n = 10 := by have := eq_of_beq h10; omega
  subst e
  rw [show tbH 10 k = ((k : Int) == 0) from (ibeq k 0).symm]
  exact Z
 | false =>
 have eh10 : n ≠ 10 := by have := ne_of_beq_false h10; omega
 refine Y ?_
 rw [show tbH n k = false from by unfold tbH; simp [eh0, eh1, eh2, eh3, eh4, eh5, eh6, eh7, eh8, eh9, eh10]]
 exact k'i rfl
def Hi.wf (x : Hi) : Prop := (∀ k ∈ x.attrs, k.wf) ∧ x.start < 2 ^ 64 ∧ x.time < 2 ^ 64 ∧ x.count < 2 ^ 64 ∧ x.sum < 2 ^ 64 ∧ x.min < 2 ^ 64 ∧ x.max < 2 ^ 64 ∧ (∀ m ∈ x.counts, m < 2 ^ 64) ∧ (∀ m ∈ x.bounds, m < 2 ^ 64) ∧ (∀ k ∈ x.exs, k.wf) ∧ x.flags < 4294967296
def Hi.sz (x : Hi) : Nat := 300 + Kv.szs x.attrs + 8 * x.counts.length + 8 * x.bounds.length + (x.exs.map Em.sz).sum + x.u.length
def Hi.may (x : Hi) (d : Int) : Bool := decide (0 ≤ d) && (k'l x.sumH x.sum && k'l x.minH x.min && k'l x.maxH x.max) && (x.exs.all fun k => k.may (d - 1)) && (x.attrs.all fun k => k.may (d - 1)) && k'1a tbH x.u d
theorem Hi.hb_len (x : Hi) : x.mar.length + 20 ≤ x.sz := by
 have q0 := k'2e 2 x.start
 have q1 := k'2e 3 x.time
 have q2 := k'2e 4 x.count
 have q3 := k'4f 5 x.sumH x.sum
 have q4 := pwV_len 6 x.counts
 have q5 := pwV_len 7 x.bounds
 have q6 := k'1v 8 x.exs fun y _ => Em.mar_len y
 have q7 := Kv.marsP_len 9 x.attrs
 have q8 := k'3d 10 x.flags
 have q9 := k'4f 11 x.minH x.min
 have q10 := k'4f 12 x.maxH x.max
 unfold Hi.mar Hi.hb Hi.sz
 simp only [List.length_append]
 omega
theorem Hi.mar_len (x : Hi) : x.mar.length + 20 ≤ x.sz := Hi.hb_len x
theorem Hi.mars_lt {l : List Hi} (h : (l.map Hi.sz).sum < big) : ∀ s ∈ l.map Hi.mar, s.length < 2 ^ 64 := fun s hs => by
 obtain ⟨k, hk, rfl⟩ := List.mem_map.1 hs
 have h1 := Hi.mar_len k; have h2 := k'x (sz := Hi.sz) hk
 unfold big at h; omega
theorem Hi.all {x : Hi} (h1 : x.sz < big) (h2 : x.wf) (d : Int) : all x.hb d = .ok x.hF := by
 unfold Hi.sz big at h1
 obtain ⟨w0, w1, w2, w3, w4, w5, w6, w7, w8, w9, w10⟩ := h2
 exact k'4 (k'4 (k'4 (k'4 (k'4 (k'4 (k'4 (k'4 (k'4 (k'4 (k'41 (by omega) (by omega) d (by omega)) (k'41 (by omega) (by omega) d (by omega))) (k'41 (by omega) (by omega) d (by omega))) (all_op (by omega) (by omega) d _ (by omega))) (all_pw 6 x.counts (by omega) (by omega) d (by omega))) (all_pw 7 x.bounds (by omega) (by omega) d (by omega))) (k'40 (by omega) (by omega) d (Em.mars_lt (by unfold big; omega)))) (k'40 (by omega) (by omega) d (Kv.mars_lt (by unfold big; omega)))) (all_vr (by omega) (by omega) d (by omega))) (all_op (by omega) (by omega) d _ (by omega))) (all_op (by omega) (by omega) d _ (by omega))
def tellHi (d : Int) (l : List Fld) : Option (List UInt8 → Hi) :=
 match k'1o (fun s => okK s (d - 1)) 9 l with
 | none => none
 | some attrs =>
 match packO fixs 6 l with
 | none => none
 | some counts =>
 match packO fixs 7 l with
 | none => none
 | some bounds =>
 match k'1o (fun s => okEm s (d - 1)) 8 l with
 | none => none
 | some exs =>
 some fun u => ⟨attrs, (k'19 l 2).n, (k'19 l 3).n, (k'19 l 4).n, (hasL l 5), (k'19 l 5).n, (hasL l 11), (k'19 l 11).n, (hasL l 12), (k'19 l 12).n, counts, bounds, exs, (k'19 l 10).n % 4294967296, u⟩
def okHi (s : List UInt8) (d : Int) : Option Hi := apO (okG tbH tellHi s d)
theorem Hi.tell {x : Hi} (hwf : x.wf) (h_sum : k'l x.sumH x.sum = true) (h_min : k'l x.minH x.min = true) (h_max : k'l x.maxH x.max = true) (d : Int) : tellHi d x.hF = (
 match mapO (fun s => okK s (d - 1)) (Kv.mars x.attrs) with
 | none => none
 | some attrs =>
 match mapO (fun s => okEm s (d - 1)) ((x.exs.map Em.mar)) with
 | none => none
 | some exs =>
 some fun u => ⟨attrs, x.start, x.time, x.count, x.sumH, x.sum, x.minH, x.min, x.maxH, x.max, x.counts, x.bounds, exs, x.flags, u⟩) := by
 obtain ⟨w0, w1, w2, w3, w4, w5, w6, w7, w8, w9, w10⟩ := hwf
 have sattrs : sel 9 x.hF = psF 9 (Kv.mars x.attrs) := by unfold Hi.hF; simp [k'b, k'u, k's, k't, k'q, k'p, sel_pw]
 have tattrs : ∀ {α : Type} (ok : List UInt8 → Option α), k'1o ok 9 x.hF = mapO ok (Kv.mars x.attrs) := fun ok => k'2g ok sattrs
 have sstart : sel 2 x.hF = fxF 2 x.start := by unfold Hi.hF; simp [k'b, k'u, k's, k't, k'q, k'p, sel_pw]
 have tstart : (k'19 x.hF 2).n = x.start := k'2c sstart
 have stime : sel 3 x.hF = fxF 3 x.time := by unfold Hi.hF; simp [k'b, k'u, k's, k't, k'q, k'p, sel_pw]
 have ttime : (k'19 x.hF 3).n = x.time := k'2c stime
 have scount : sel 4 x.hF = fxF 4 x.count := by unfold Hi.hF; simp [k'b, k'u, k's, k't, k'q, k'p, sel_pw]
 have tcount : (k'19 x.hF 4).n = x.count := k'2c scount
 have ssum : sel 5 x.hF = opF 5 x.sumH x.sum := by unfold Hi.hF; simp [k'b, k'u, k's, k't, k'q, k'p, sel_pw]
 have tsum := opt_of (by omega) ssum h_sum
 have smin : sel 11 x.hF = opF 11 x.minH x.min := by unfold Hi.hF; simp [k'b, k'u, k's, k't, k'q, k'p, sel_pw]
 have tmin := opt_of (by omega) smin h_min
 have smax : sel 12 x.hF = opF 12 x.maxH x.max := by unfold Hi.hF; simp [k'b, k'u, k's, k't, k'q, k'p, sel_pw]
 have tmax := opt_of (by omega) smax h_max
 have scounts : sel 6 x.hF = pwF 6 x.counts := by unfold Hi.hF; simp [k'b, k'u, k's, k't, k'q, k'p, sel_pw]
 have tcounts : packO fixs 6 x.hF = some x.counts := pack_pw w7 scounts
 have sbounds : sel 7 x.hF = pwF 7 x.bounds := by unfold Hi.hF; simp [k'b, k'u, k's, k't, k'q, k'p, sel_pw]
 have tbounds : packO fixs 7 x.hF = some x.bounds := pack_pw w8 sbounds
 have sexs : sel 8 x.hF = psF 8 (x.exs.map Em.mar) := by unfold Hi.hF; simp [k'b, k'u, k's, k't, k'q, k'p, sel_pw]
 have texs : ∀ {α : Type} (ok : List UInt8 → Option α), k'1o ok 8 x.hF = mapO ok ((x.exs.map Em.mar)) := fun ok => k'2g ok sexs
 have sflags : sel 10 x.hF = vrF 10 x.flags := by unfold Hi.hF; simp [k'b, k'u, k's, k't, k'q, k'p, sel_pw]
 have tflags : (k'19 x.hF 10).n % 4294967296 = x.flags := by rw [last_vr sflags]; omega
 unfold tellHi
 simp only [tattrs, tstart, ttime, tcount, tsum.1, tsum.2, tmin.1, tmin.2, tmax.1, tmax.2, tcounts, tbounds, texs, tflags]
def Hi.eq (x y : Hi) : Bool := Kv.eqs x.attrs y.attrs && x.start == y.start && x.time == y.time && x.count == y.count && (x.sumH == y.sumH && x.sum == y.sum) && (x.minH == y.minH && x.min == y.min) && (x.maxH == y.maxH && x.max == y.max) && x.counts == y.counts && x.bounds == y.bounds && Em.eqs x.exs y.exs && x.flags == y.flags && x.u == y.u
def Hi.eqs : List Hi → List Hi → Bool
 | [], [] => true
 | v :: l, w :: r => v.eq w && Hi.eqs l r
 | [], _ :: _ => false
 | _ :: _, [] => false
theorem Hi.eq_self (x : Hi) : x.eq x = true := by unfold Hi.eq; simp [Kv.eqs_self, Em.eqs_self]
theorem Hi.eqs_self : ∀ l : List Hi, Hi.eqs l l = true
 | [] => rfl
 | v :: l => by unfold Hi.eqs; simp [Hi.eq_self v, Hi.eqs_self l]
theorem Hi.eqs_by (a b : List Hi) : Hi.eqs a b = (a.length == b.length && (List.range a.length).all (byI Hi.eq a b)) :=
 k'3i Hi.eq Hi.eqs rfl (fun _ _ _ _ => rfl) (fun _ _ => rfl) (fun _ _ => rfl) a b
end
section
def Hi.d (x : Hi) : D := .agg [slD (Kv.ds x.attrs), .int .u64 x.start, .int .u64 x.time, .int .u64 x.count, .bool x.sumH, .int .u64 x.sum, .bool x.minH, .int .u64 x.min, .bool x.maxH, .int .u64 x.max, slD (x.counts.map uD), slD (x.bounds.map uD), slD (x.exs.map Em.d), .int .u32 x.flags, .str x.u]
def Hi.R (x : Hi) (a : D) : Prop := ∃ (z_attrs : Bool) (l_attrs : List D) (z_counts : Bool) (z_bounds : Bool) (z_exs : Bool) (l_exs : List D), a = .agg [.sl z_attrs l_attrs, .int .u64 x.start, .int .u64 x.time, .int .u64 x.count, .bool x.sumH, .int .u64 x.sum, .bool x.minH, .int .u64 x.min, .bool x.maxH, .int .u64 x.max, .sl z_counts (x.counts.map uD), .sl z_bounds (x.bounds.map uD), .sl z_exs l_exs, .int .u32 x.flags, .str x.u] ∧ Kv.Rs x.attrs l_attrs ∧ RsOf Em.R x.exs l_exs
def HiSh (x : D) : Prop := ∃ (a0 : Bool) (a1 : List D) (a2 : Nat) (a3 : Nat) (a4 : Nat) (a5 : Bool) (a6 : Nat) (a7 : Bool) (a8 : Nat) (a9 : Bool) (a10 : Nat) (a11 : Bool) (a12 : List D) (a13 : Bool) (a14 : List D) (a15 : Bool) (a16 : List D) (a17 : Nat) (a18 : List UInt8), x = .agg [.sl a0 a1, .int .u64 a2, .int .u64 a3, .int .u64 a4, .bool a5, .int .u64 a6, .bool a7, .int .u64 a8, .bool a9, .int .u64 a10, .sl a11 a12, .sl a13 a14, .sl a15 a16, .int .u32 a17, .str a18]
theorem Hi.R_sh {x : Hi} {a : D} (h : x.R a) : HiSh a := by
 obtain ⟨z_attrs, l_attrs, z_counts, z_bounds, z_exs, l_exs, h, -⟩ := h
 exact ⟨_, _, _, _, _, _, _, _, _, _, _, _, _, _, _, _, _, _, _, h⟩
theorem Hi.d_R (x : Hi) : x.R x.d := ⟨_, _, _, _, _, _, rfl, Kv.ds_R _, RsOf.map Em.d_R _⟩
theorem Hi.Rs_sh {l : List Hi} {xs : List D} (h : RsOf Hi.R l xs) : ∀ x ∈ xs, HiSh x := fun x hx => by
 obtain ⟨v, -, r⟩ := h.mem hx
 exact Hi.R_sh r
theorem Hi_May_calls (x : Hi) (xa : D) (d : Int) (hbig : x.sz < big) (hx : x.R xa) (hd1 : -9223372036854775808 ≤ d) (hd2 : d < 9223372036854775808) : k'0 (cx B) 253 [.d xa, .d (.int .i64 d)] [] (.d (.bool (x.may d))) [] := by
 obtain ⟨z_attrs, l_attrs, z_counts, z_bounds, z_exs, l_exs, rfl, r_attrs, r_exs⟩ := hx
 unfold Hi.sz at hbig
 unfold Hi.may
 by_cases hd0 : 0 ≤ d
 rotate_left
 ·rw [show decide (0 ≤ d) = false from decide_eq_false hd0]
  refine l_bw Tryz.func253 0 [] ?_
  rw [show decide (d ≥ 0) = false from decide_eq_false hd0]
  exact Z
 have c_u := k'o B 340 tbH (tbH_calls B) x.u d (by omega) (by omega) hd2
 have c_opts := MayOpt3_calls B x.sumH x.sum x.minH x.min x.maxH x.max
 have c_exs := All_Em_R B z_exs d (by omega) hd0 hd2 r_exs
 have c_attrs := k'1d B (a := x.attrs) z_attrs (d - 1) (by omega) (by omega) (by omega) r_attrs
 refine l_bw Tryz.func253 0 [] ?_
 rw [show decide (d ≥ 0) = decide (0 ≤ d) from rfl]
 cases e0 : (decide (0 ≤ d))
 ·exact Z
 refine Y ?_
 (first | refine k'1j (.buildSlice (es := [.agg [.bool x.sumH, .int .u64 x.sum], .agg [.bool x.minH, .int .u64 x.min], .agg [.bool x.maxH, .int .u64 x.max]]) rfl rfl rfl rfl rfl rfl (by intro x hx; simp at hx; rcases hx with rfl | rfl | rfl <;> rfl) (by simp) (by decide) (by decide)) rfl rfl rfl rfl ?_ | refine k'1 (.buildSlice (es := [.agg [.bool x.sumH, .int .u64 x.sum], .agg [.bool x.minH, .int .u64 x.min], .agg [.bool x.maxH, .int .u64 x.max]]) rfl rfl rfl rfl rfl rfl (by intro x hx; simp at hx; rcases hx with rfl | rfl | rfl <;> rfl) (by simp) (by decide) (by decide)) rfl rfl ?_)
 refine Y ?_
 refine k'23 [] (c_opts) rfl rfl rfl rfl rfl ?_
 cases e1 : (k'l x.sumH x.sum && k'l x.minH x.min && k'l x.maxH x.max)
 ·exact Z
 refine Y ?_
 refine k'23 [] (c_exs) rfl rfl rfl rfl rfl ?_
 cases e2 : (x.exs.all fun k => k.may (d - 1))
 ·exact Z
 refine Y ?_
 rw [k'5 1 (by omega) (by omega) (by omega) hd2]
 refine k'23 [] (c_attrs) rfl rfl rfl rfl rfl ?_
 cases e3 : (x.attrs.all fun k => k.may (d - 1))
 ·exact Z
 refine Y ?_
 refine k'a [] (c_u) rfl rfl rfl rfl rfl ?_
 exact Z
theorem All_Hi_calls : AllP B 252 HiSh := All_of B (All1_mk B Tryz.func338) (k'2a B Tryz.func412) (Cont_mk B Tryz.func337) (Allc_mk B Tryz.func252)
theorem All_Hi_R : AllRP B 252 253 Hi.R Hi.sz Hi.may := All_R B (All_Hi_calls B) Hi.Rs_sh (fun x => by unfold Hi.sz; omega) (Hi_May_calls B)
theorem Hi_Marshal_calls (x : Hi) (xa : D) (d : Int) (hbig : x.sz < big) (hwf : x.wf) (hx : x.R xa) (hd1 : -9223372036854775808 ≤ d) (hd2 : d < 9223372036854775808) : k'0 (cx B) 316 [.d xa, .d (.int .i64 d)] [] (if x.may d then .tup [sT x.mar, .d .nili] else .tup [sT [], .d (Er.code 8).d]) [] := by
 have hm := Hi_May_calls B x xa d hbig hx hd1 hd2
 have hlen := Hi.mar_len x
 have hlen : x.mar.length < big := by omega
 obtain ⟨z_attrs, l_attrs, z_counts, z_bounds, z_exs, l_exs, rfl, r_attrs, r_exs⟩ := hx
 unfold Hi.sz at hbig
 cases hc : x.may d
 ·rw [hc] at hm
  refine l_bw Tryz.func316 0 [] ?_
  refine k'2 [] (hm) rfl rfl rfl ?_
  exact Z
 rw [hc] at hm
 have hc' := hc
 unfold Hi.may at hc'
 simp only [Bool.and_eq_true, decide_eq_true_eq] at hc'
 obtain ⟨⟨⟨⟨hd, ⟨⟨m_sum, m_min⟩, m_max⟩⟩, m_exs⟩, m_attrs⟩, hu⟩ := hc'
 obtain ⟨w_attrs, w_start, w_time, w_count, w_sum, w_min, w_max, w_counts, w_bounds, w_exs, w_flags⟩ := hwf
 unfold Hi.mar Hi.hb at hlen ⊢
 obtain ⟨a0, ha0, c0⟩ := k'1m B 2 x.start (by omega) (by omega) (.nw 71 2) [] k'1z (by simp only [List.length_append, List.length_nil] at hlen ⊢; omega)
 rw [List.nil_append] at c0
 obtain ⟨a1, ha1, c1⟩ := k'1m B 3 x.time (by omega) (by omega) (a0) (fxV 2 x.start) ha0 (by simp only [List.length_append, List.length_nil] at hlen ⊢; omega)
 obtain ⟨a2, ha2, c2⟩ := k'1m B 4 x.count (by omega) (by omega) (a1) (fxV 2 x.start ++ fxV 3 x.time) ha1 (by simp only [List.length_append, List.length_nil] at hlen ⊢; omega)
 obtain ⟨a3, ha3, c3⟩ := wr_opt B x.sumH 5 x.sum (by omega) (by omega) (a2) (fxV 2 x.start ++ fxV 3 x.time ++ fxV 4 x.count) ha2 (by simp only [List.length_append, List.length_nil] at hlen ⊢; omega)
 obtain ⟨a4, ha4, c4⟩ := wr_fixeds B z_counts 6 x.counts (by omega) (by omega) (by unfold big at hbig; omega) (a3) (fxV 2 x.start ++ fxV 3 x.time ++ fxV 4 x.count ++ opV 5 x.sumH x.sum) ha3 (by simp only [List.length_append, List.length_nil] at hlen ⊢; omega)
 obtain ⟨a5, ha5, c5⟩ := wr_fixeds B z_bounds 7 x.bounds (by omega) (by omega) (by unfold big at hbig; omega) (a4) (fxV 2 x.start ++ fxV 3 x.time ++ fxV 4 x.count ++ opV 5 x.sumH x.sum ++ pwV 6 x.counts) ha4 (by simp only [List.length_append, List.length_nil] at hlen ⊢; omega)
 obtain ⟨a6, ha6, c6⟩ := Parts_Em_R B 8 (by omega) (by omega) z_exs d (by omega) w_exs m_exs hd hd2 r_exs (a5) (fxV 2 x.start ++ fxV 3 x.time ++ fxV 4 x.count ++ opV 5 x.sumH x.sum ++ pwV 6 x.counts ++ pwV 7 x.bounds) ha5 (by simp only [List.length_append, List.length_nil] at hlen ⊢; omega)
 obtain ⟨a7, ha7, c7⟩ := k'2n B 9 (by omega) (by omega) z_attrs d (by omega) w_attrs m_attrs hd hd2 r_attrs (a6) (fxV 2 x.start ++ fxV 3 x.time ++ fxV 4 x.count ++ opV 5 x.sumH x.sum ++ pwV 6 x.counts ++ pwV 7 x.bounds ++ psV 8 (x.exs.map Em.mar)) ha6 (by simp only [List.length_append, List.length_nil] at hlen ⊢; omega)
 obtain ⟨a8, ha8, c8⟩ := wr_var B 10 x.flags (by omega) (by omega) (by omega) (a7) (fxV 2 x.start ++ fxV 3 x.time ++ fxV 4 x.count ++ opV 5 x.sumH x.sum ++ pwV 6 x.counts ++ pwV 7 x.bounds ++ psV 8 (x.exs.map Em.mar) ++ psV 9 (Kv.mars x.attrs)) ha7 (by simp only [List.length_append, List.length_nil] at hlen ⊢; omega)
 obtain ⟨a9, ha9, c9⟩ := wr_opt B x.minH 11 x.min (by omega) (by omega) (a8) (fxV 2 x.start ++ fxV 3 x.time ++ fxV 4 x.count ++ opV 5 x.sumH x.sum ++ pwV 6 x.counts ++ pwV 7 x.bounds ++ psV 8 (x.exs.map Em.mar) ++ psV 9 (Kv.mars x.attrs) ++ vrV 10 x.flags) ha8 (by simp only [List.length_append, List.length_nil] at hlen ⊢; omega)
 obtain ⟨a10, ha10, c10⟩ := wr_opt B x.maxH 12 x.max (by omega) (by omega) (a9) (fxV 2 x.start ++ fxV 3 x.time ++ fxV 4 x.count ++ opV 5 x.sumH x.sum ++ pwV 6 x.counts ++ pwV 7 x.bounds ++ psV 8 (x.exs.map Em.mar) ++ psV 9 (Kv.mars x.attrs) ++ vrV 10 x.flags ++ opV 11 x.minH x.min) ha9 (by simp only [List.length_append, List.length_nil] at hlen ⊢; omega)
 obtain ⟨cu, cs⟩ := k'21 B (s := x.u) ha10 (l := fxV 2 x.start ++ fxV 3 x.time ++ fxV 4 x.count ++ opV 5 x.sumH x.sum ++ pwV 6 x.counts ++ pwV 7 x.bounds ++ psV 8 (x.exs.map Em.mar) ++ psV 9 (Kv.mars x.attrs) ++ vrV 10 x.flags ++ opV 11 x.minH x.min ++ opV 12 x.maxH x.max) (by simp only [List.length_append] at hlen ⊢; omega)
 generalize fxV 2 x.start ++ fxV 3 x.time ++ fxV 4 x.count ++ opV 5 x.sumH x.sum ++ pwV 6 x.counts ++ pwV 7 x.bounds ++ psV 8 (x.exs.map Em.mar) ++ psV 9 (Kv.mars x.attrs) ++ vrV 10 x.flags ++ opV 11 x.minH x.min ++ opV 12 x.maxH x.max = o10 at c10 cu cs ⊢
 generalize fxV 2 x.start ++ fxV 3 x.time ++ fxV 4 x.count ++ opV 5 x.sumH x.sum ++ pwV 6 x.counts ++ pwV 7 x.bounds ++ psV 8 (x.exs.map Em.mar) ++ psV 9 (Kv.mars x.attrs) ++ vrV 10 x.flags ++ opV 11 x.minH x.min = o9 at c9 c10
 generalize fxV 2 x.start ++ fxV 3 x.time ++ fxV 4 x.count ++ opV 5 x.sumH x.sum ++ pwV 6 x.counts ++ pwV 7 x.bounds ++ psV 8 (x.exs.map Em.mar) ++ psV 9 (Kv.mars x.attrs) ++ vrV 10 x.flags = o8 at c8 c9
 generalize fxV 2 x.start ++ fxV 3 x.time ++ fxV 4 x.count ++ opV 5 x.sumH x.sum ++ pwV 6 x.counts ++ pwV 7 x.bounds ++ psV 8 (x.exs.map Em.mar) ++ psV 9 (Kv.mars x.attrs) = o7 at c7 c8
 generalize fxV 2 x.start ++ fxV 3 x.time ++ fxV 4 x.count ++ opV 5 x.sumH x.sum ++ pwV 6 x.counts ++ pwV 7 x.bounds ++ psV 8 (x.exs.map Em.mar) = o6 at c6 c7
 generalize fxV 2 x.start ++ fxV 3 x.time ++ fxV 4 x.count ++ opV 5 x.sumH x.sum ++ pwV 6 x.counts ++ pwV 7 x.bounds = o5 at c5 c6
 generalize fxV 2 x.start ++ fxV 3 x.time ++ fxV 4 x.count ++ opV 5 x.sumH x.sum ++ pwV 6 x.counts = o4 at c4 c5
 generalize fxV 2 x.start ++ fxV 3 x.time ++ fxV 4 x.count ++ opV 5 x.sumH x.sum = o3 at c3 c4
 generalize fxV 2 x.start ++ fxV 3 x.time ++ fxV 4 x.count = o2 at c2 c3
 generalize fxV 2 x.start ++ fxV 3 x.time = o1 at c1 c2
 generalize fxV 2 x.start = o0 at c0 c1
 refine l_bw Tryz.func316 0 [] ?_
 refine l_cw [] (hm) rfl rfl rfl ?_
 refine l_wr [1] (c0) k'1z ha0 ?_
 refine l_wr [1] (c1) ha0 ha1 ?_
 refine l_wr [1] (c2) ha1 ha2 ?_
 refine l_wr [1] (c3) ha2 ha3 ?_
 refine l_wr [1] (c4) ha3 ha4 ?_
 refine l_wr [1] (c5) ha4 ha5 ?_
 refine l_wr [1] (c6) ha5 ha6 ?_
 refine l_wr [1] (c7) ha6 ha7 ?_
 rw [show IntKind.u64.wrap (x.flags : Int) = (x.flags : Int) by rw [IntKind.wrap_u64]; omega]
 refine l_wr [1] (c8) ha7 ha8 ?_
 refine l_wr [1] (c9) ha8 ha9 ?_
 refine l_wr [1] (c10) ha9 ha10 ?_
 refine l_wr [1] (cu) ha10 (.inl rfl) ?_
 refine k'1f [1] (cs) rfl rfl rfl rfl rfl rfl rfl (by decide) (by simp [k'6 (.inl rfl)]) rfl rfl rfl rfl ?_
 exact Z
theorem Parts_Hi_wr : PartsP B 315 HiSh := k'33 B Tryz.func315
theorem Parts_Hi_R : k'35 B 315 316 Hi.R Hi.sz Hi.wf Hi.may Hi.mar := Parts_R B (Parts_Hi_wr B) Hi.Rs_sh (Hi_Marshal_calls B)
end
section
def Bk.mar (b : Bk) : List UInt8 := marB b.off b.cs b.u
def Bk.wf (b : Bk) : Prop := (-2147483648 ≤ b.off ∧ b.off < 2147483648) ∧ ∀ n ∈ b.cs, n < 2 ^ 64
def Bk.sz (b : Bk) : Nat := 120 + 10 * b.cs.length + b.u.length
def Bk.may (b : Bk) (d : Int) : Bool := mayB b.u d
def Bk.isNo (b : Bk) : Bool := b.off == 0 && b.u == [] && b.cs == []
def Bk.eq (a b : Bk) : Bool := a.off == b.off && a.u == b.u && a.cs == b.cs
theorem Bk.isNo_eq {b : Bk} (h : b.isNo = true) : b = noBk := by
 obtain ⟨o, cs, u⟩ := b
 unfold Bk.isNo at h
 simp at h
 obtain ⟨⟨rfl, rfl⟩, rfl⟩ := h
 rfl
theorem Bk.mar_len (b : Bk) : b.mar.length + 20 ≤ b.sz := by
 have := k'3d 1 (k'2o b.off); have := pkV_len 2 b.cs
 unfold Bk.mar marB Bk.sz
 simp only [List.length_append]
 omega
def sdV (n : Nat) (h : Bool) (b : Bk) : List UInt8 := if h then paV n b.mar else []
def sdF (n : Nat) (h : Bool) (b : Bk) : List Fld := if h then [paR n b.mar] else []
def maySd (h : Bool) (b : Bk) (d : Int) : Bool := if h then b.may d else b.isNo
def sdO (h : Bool) (b : Bk) (d : Int) : Option (Bool × Bk) := if h then (match okB b.mar d with | none => none | some x => some (true, x)) else some (false, noBk)
theorem sdV_len (n : Nat) (h : Bool) (b : Bk) : (sdV n h b).length ≤ b.sz := by
 unfold sdV
 have := b.mar_len
 split
 ·have := k'2b n b.mar; omega
 ·simp
section
variable (n m : Nat) (h : Bool) (b : Bk)
theorem sel_sd : sel m (sdF n h b) = if n = m then sdF n h b else [] := sel_of (by unfold sdF; split <;> simp [paR]) m
theorem all_sd (h1 : 1 ≤ n) (h2 : n ≤ 536870911) (d : Int) (hb : b.sz < big) : all (sdV n h b) d = .ok (sdF n h b) := by
 unfold sdV sdF
 have := b.mar_len
 unfold big at hb
 split
 ·exact all_pa h1 h2 d (by omega)
 ·exact all_nil d
end
theorem part_sd {n : Nat} {h : Bool} {b : Bk} {l : List Fld} (d : Int) (hs : sel n l = sdF n h b) : partO (fun s => okB s d) noBk n l = sdO h b d := by
 unfold partO sdO
 rw [anyL_sel, bytesL_sel, hs]
 unfold sdF
 cases h with
 | false => rfl
 | true =>
  simp only [paR, if_true, List.isEmpty_cons, Bool.not_false, List.flatMap_cons, List.flatMap_nil, List.append_nil]
  cases okB b.mar d <;> rfl
theorem Bk.eq_self (b : Bk) : b.eq b = true := by unfold Bk.eq; simp
theorem last_zg {n : Nat} {o : Int} {l : List Fld} (h1 : -2147483648 ≤ o) (h2 : o < 2147483648) (h : sel n l = vrF n (k'2o o)) : zag32 (k'19 l n).n = o := by
 rw [last_vr h]; exact zag_zig h1 h2
theorem wr_side (z : Bool) (h : Bool) (b : Bk) (n : Nat) (d : Int) (h1 : 1 ≤ n) (h2 : n ≤ 536870911) (hb : b.sz < big) (hw : b.wf) (hm : maySd h b d = true) (hd1 : -9223372036854775808 ≤ d) (hd2 : d < 9223372036854775808) :
  Wr B 396 [iT n, .d (.bool h), .d (bkZ z b.off b.cs b.u), .d (.int .i64 d)] (sdV n h b) := fun a l ha hl => by
 unfold maySd at hm
 cases h
 ·refine ⟨a, ha, ?_⟩
  rw [show sdV n false b = [] from rfl, List.append_nil]
  rcases ha with rfl | rfl | rfl <;> (rcases l with _ | ⟨c, l⟩ <;> (
  refine l_b0 Tryz.func396 1 [] ?_
  exact Z))
 have c1 := MarshalZ B z b.off b.cs b.u d hw.1.1 hw.1.2 hw.2 (by unfold Bk.sz at hb; unfold big at *; omega) hd1 hd2
 have hm' : b.may d = true := by simpa using hm
 rw [if_pos (show mayB b.u d = true from hm')] at c1
 rw [show sdV n true b = paV n b.mar from rfl] at hl ⊢
 obtain ⟨a', ha', h4⟩ := k'4a B n b.mar h1 h2 a l ha hl
 refine ⟨a', ha', ?_⟩
 rw [show marB b.off b.cs b.u = b.mar from rfl] at c1
 generalize l ++ paV n b.mar = y at *
 rcases ha with rfl | rfl | rfl <;> (rcases ha' with rfl | rfl | rfl <;> (rcases l with _ | ⟨c, l⟩ <;> (rcases y with _ | ⟨c', y⟩ <;> (
 refine l_bw Tryz.func396 1 [] ?_
 refine l_cw [] (c1) rfl rfl rfl ?_
 refine k'2 [0] (h4) rfl rfl rfl ?_
 exact Z))))
theorem maySide_calls (z : Bool) (h : Bool) (b : Bk) (d : Int) (hb : b.sz < big) (hd1 : -9223372036854775808 ≤ d) (hd2 : d < 9223372036854775808) : k'0 (cx B) 343 [.d (.bool h), .d (bkZ z b.off b.cs b.u), .d (.int .i64 d)] [] (.d (.bool (maySd h b d))) [] := by
 unfold maySd
 cases h
 ·have c1 := SameZ B z true b.off b.cs b.u 0 [] [] (by unfold Bk.sz big at hb; omega)
  refine l_bw Tryz.func343 0 [] ?_
  refine k'2 [] (c1) rfl rfl rfl ?_
  exact Z
 have c1 := MayBucketsZ B z b.off b.cs b.u d (by unfold Bk.sz at hb; omega) hd1 hd2
 refine l_bw Tryz.func343 0 [] ?_
 refine k'2 [] (c1) rfl rfl rfl ?_
 exact Z
end
