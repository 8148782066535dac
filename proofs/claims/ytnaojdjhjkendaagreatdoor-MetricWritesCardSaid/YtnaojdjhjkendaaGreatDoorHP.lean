/- Numbers of eight bytes, one behind the other; what may lack. -/
import Derived.Test.YtnaojdjhjkendaaGreatDoorPAB
import Derived.Laws.StructEq
import Derived.ChangeKeysEq
import Derived.Test.YtnaojdjhjkendaaGreatDoorEW
set_option linter.unusedSimpArgs false
set_option linter.unusedVariables false
set_option maxRecDepth 100000
namespace Go.Proofs.YtnaojdjhjkendaaGreatDoor
open Go Go.Abs
variable (B : Fr)
section
def eiE (s : List UInt8) : Nat → Nat → Except Er (List Nat)
 | 0, _ => .ok []
 | f + 1, p => if p < s.length then (match takeE s p 8 with
   | .error e => .error e
   | .ok (l, q) => match eiE s f q with
    | .error e => .error e
    | .ok r => .ok (leN l :: r)) else .ok []
def fixs (s : List UInt8) : Except Er (List Nat) := eiE s (s.length + 1) 0
theorem eiE_pack : ∀ (ns : List Nat) (x : List UInt8) (f : Nat), (∀ n ∈ ns, n < 2 ^ 64) → (k'4c ns).length < f → eiE (x ++ k'4c ns) f x.length = .ok ns
 | [], x, 0, _, h => by simp [k'4c] at h
 | [], x, f + 1, _, _ => by
  unfold eiE
  rw [if_neg (by simp [k'4c])]
 | n :: ns, x, 0, _, h => by omega
 | n :: ns, x, f + 1, hn, h => by
  have e : k'4c (n :: ns) = le8 n ++ k'4c ns := rfl
  have hp := k'3o n
  rw [e] at h ⊢
  rw [List.length_append] at h
  unfold eiE
  have ht : takeE (x ++ (le8 n ++ k'4c ns)) x.length 8 = .ok (le8 n, x.length + 8) := by
   unfold takeE
   rw [if_neg (by simp; omega)]
   congr 2
   rw [List.drop_left, List.take_append_of_le_length (by omega), List.take_of_length_le (by omega)]
  rw [if_pos (by simp; omega), ht]
  dsimp only
  have ih := eiE_pack ns (x ++ le8 n) f (fun m hm => hn m (List.mem_cons_of_mem _ hm)) (by omega)
  rw [List.append_assoc, List.length_append, hp] at ih
  rw [ih, le8_N (hn n (List.mem_cons_self ..))]
theorem fixs_packW {ns : List Nat} (h : ∀ n ∈ ns, n < 2 ^ 64) : fixs (k'4c ns) = .ok ns := by
 have := eiE_pack ns [] ((k'4c ns).length + 1) h (by omega)
 simpa [fixs] using this
theorem packO_sel (rd : List UInt8 → Except Er (List Nat)) (num : Nat) : ∀ l : List Fld, packO rd num l = packO rd num (sel num l)
 | [] => rfl
 | x :: l => by
  rw [sel_cons]
  by_cases h : x.num = num
  ·rw [if_pos h]
   unfold packO
   rw [if_pos h, if_pos h, packO_sel rd num l]
  ·rw [if_neg h]
   conv => lhs; unfold packO
   rw [if_neg h]; exact packO_sel rd num l
theorem pack_pw {n : Nat} {cs : List Nat} {l : List Fld} (hc : ∀ m ∈ cs, m < 2 ^ 64) (h : sel n l = pwF n cs) : packO fixs n l = some cs := by
 rw [packO_sel, h]
 refine tell_pk n (k'4c cs) (fun h0 => ?_) (fixs_packW hc)
 cases cs with
 | nil => rfl
 | cons c cs =>
  have := k'3o c
  have h1 : (k'4c (c :: cs)).length = 0 := by rw [h0]; rfl
  rw [k'35] at h1; simp at h1
theorem pwV_len (n : Nat) (cs : List Nat) : (pwV n cs).length ≤ 20 + 8 * cs.length := by
 have := txV_len n (k'4c cs)
 rw [k'35] at this
 exact this
section
variable (n m : Nat) (cs : List Nat)
theorem sel_pw : sel m (pwF n cs) = if n = m then pwF n cs else [] := k'p n m _
theorem all_pw (h1 : 1 ≤ n) (h2 : n ≤ 536870911) (d : Int) (hl : cs.length < 2 ^ 40) : all (pwV n cs) d = .ok (pwF n cs) := all_tx h1 h2 d (by rw [k'35]; omega)
end
/-! What may lack. -/
def k'h (h : Bool) (n : Nat) : Bool := h || n == 0
theorem opt_of {n v : Nat} {b : Bool} {l : List Fld} (hn : n ≠ 0) (h : sel n l = opF n b v) (hm : k'h b v = true) : hasL l n = b ∧ (k'z l n).n = v := by
 have h1 : k'z l n = k'z (opF n b v) n := by rw [← sel_last, h]
 obtain ⟨h2, h3⟩ := tell_op n v b (by unfold k'h at hm; cases b with | true => exact .inl rfl | false => right; simpa using hm)
 unfold hasL
 rw [h1, h3]
 refine ⟨?_, rfl⟩
 cases b
 ·have : k'z (opF n false v) n = noFld := rfl
  rw [this]
  show (0 == n) = false
  simp; omega
 have : k'z (opF n true v) n = e8R n v := last_one n _ rfl
 rw [this]
 show (n == n) = true
 simp
/-! Written. -/
theorem wr_opt (h : Bool) (n m : Nat) (h1 : 1 ≤ n) (h2 : n ≤ 536870911) : Wr B 212 [iT n, .d (.agg [.bool h, .int .u64 m])] (opV n h m) := fun a l ha hl => by
 cases h
 ·refine ⟨a, ha, ?_⟩
  rw [show opV n false m = [] from rfl, List.append_nil]
  rcases ha with rfl | rfl | rfl <;> (rcases l with _ | ⟨c, l⟩ <;> (
  refine l_b0 Tryz.func212 1 [] ?_
  exact Z))
 rw [show opV n true m = e8V n m from rfl] at hl ⊢
 obtain ⟨a', ha', h3⟩ := wr_eight B n m h1 h2 a l ha hl
 refine ⟨a', ha', ?_⟩
 generalize l ++ e8V n m = y at *
 rcases ha with rfl | rfl | rfl <;> (rcases ha' with rfl | rfl | rfl <;> (rcases l with _ | ⟨c, l⟩ <;> (rcases y with _ | ⟨c', y⟩ <;> (
 refine l_bw Tryz.func212 1 [] ?_
 refine k'2 [0] (h3) rfl rfl rfl ?_
 exact Z))))
theorem wr_fixeds (z : Bool) (n : Nat) (ns : List Nat) (h1 : 1 ≤ n) (h2 : n ≤ 536870911) (hns : ns.length < 8000000000) : Wr B 213 [iT n, .d (.sl z (ns.map uD))] (pwV n ns) := fun a l ha hl => by
 have hpw := k'35 ns
 have htl : (pwV n ns).length + l.length < 34359738368 := by unfold big at hl; omega
 obtain ⟨a', ha', h4⟩ := k'3g B n (k'4c ns) h1 h2 a l ha hl
 refine ⟨a', ha', ?_⟩
 have e1 : tagV 1 1 = [9] := rfl
 refine l_bw Tryz.func213 1 [] ?_
 have hlen : (ns.map uD).length = ns.length := by simp
 rw [hlen]
 refine k'8 (fun i : Nat => ns.length - i) (fun i => [(0, .ptr 0 0), (1, iT n), (6, .ptr 1 0), (9, .d (.sl z (ns.map uD))), (10, iT ns.length), (11, iT i)]) (fun i => [.mu [a, bT l], .mu [if i = 0 then .nw 120 2 else .me, bT (k'4c (ns.take i))]]) (fun i => i ≤ ns.length) 0 (by omega) ⟨rfl, rfl, rfl, rfl, rfl, rfl, trivial⟩ rfl 2 rfl (fun _ => rfl) (fun i => by
  have : adOk (if i = 0 then .nw 120 2 else .me) := by unfold adOk; split <;> simp
  simp [k'5 ha, k'5 this]) (fun _ => rfl) ?_
 intro i i1
 have ha2 : adOk (if i = 0 then .nw 120 2 else .me) := by unfold adOk; split <;> simp
 refine Y ?_
 refine k'14 rfl (fun hc => ?_) (fun hc => ?_)
 ·have hlt : i < ns.length := by have := of_decide_eq_true hc; omega
  obtain ⟨x, hx⟩ : ∃ x, ns[i]? = some x := ⟨_, List.getElem?_eq_getElem hlt⟩
  have hdx : (ns.map uD)[i]? = some (uD x) := by rw [List.getElem?_map, hx]; rfl
  have hpk : k'4c (ns.take i) ++ le8 x = k'4c (ns.take (i + 1)) := by rw [List.take_add_one, hx]; simp [k'4c]
  have hti := k'35 (ns.take i)
  have h8 := k'3o x
  have h0 := Fixed_calls B 1 x (by omega) (by omega)
  rw [e1] at h0
  have h3 := k'1m B _ (k'4c (ns.take i)) (le8 x) ha2 (by rw [hti, h8, List.length_take]; unfold most; omega)
  rw [hpk] at h3
  refine Y ?_
  refine k'1 (.indexAddr (k := .i64) (n := i) (es := ns.map uD) (u := uD x) rfl rfl rfl rfl (.inl ⟨_, rfl⟩) rfl (by omega) (by simpa using hdx) rfl (by decide)) rfl rfl ?_
  refine Y ?_
  refine k'2 [] (h0) rfl rfl rfl ?_
  refine k'1 (.sliceStr (s := [9] ++ le8 x) (l := 1) (h := 9) rfl rfl rfl rfl ⟨.i64, rfl⟩ (by show (9 : Nat) = ([9] ++ le8 x).length; simp [h8]) (by omega) (by simp [h8])) rfl rfl ?_
  rw [show ((([9] : List UInt8) ++ le8 x).drop 1).take (9 - 1) = le8 x by show (le8 x).take 8 = le8 x; rw [List.take_of_length_le (by omega)]]
  refine l_wr [1] (h3) ha2 (.inl rfl) ?_
  rw [wS i (by omega)]
  exact ⟨i + 1, by omega, by omega, ⟨rfl, rfl, rfl, rfl, rfl, rfl, trivial⟩, by simp [k'5 ha, k'5 (.inl rfl)], k'17 (by simp)⟩
 ·have hge : i = ns.length := by have := of_decide_eq_false hc; omega
  subst hge
  rw [List.take_length]
  generalize (if ns.length = 0 then T.nw 120 2 else .me) = aa at ha2 ⊢
  have h3 := k'2n B aa (k'4c ns) ha2 (by rw [hpw]; unfold most; omega)
  refine Y ?_
  refine k'1r [1] (h3) rfl rfl rfl rfl rfl rfl rfl (by decide) (by simp [k'5 ha2]) (by rcases ha2 with rfl | rfl | rfl <;> rfl) rfl rfl rfl ?_
  refine k'1r [0] (h4) rfl rfl rfl rfl rfl rfl rfl (by decide) (by simp [k'5 ha]) (by simp [k'5 ha']) rfl rfl rfl ?_
  refine Y ?_
  exact l_end trivial (by decide) rfl rfl rfl rfl (by simp [k'5 ha'])
/-! What may lack: may they be, are two alike. -/
def OpSh (x : D) : Prop := ∃ (a : Bool) (b : Nat), x = .agg [.bool a, .int .u64 b]
theorem IndexF_Op_calls : IdxP B 322 OpSh := k'39 B Tryz.func322
theorem k'3v (a : Bool) (b : Nat) : k'0 (cx B) 295 [.d (.agg [.bool a, .int .u64 b])] [] (.d (.bool (!k'h a b))) [] := by
 unfold k'h
 cases a
 rotate_left
 ·refine l_b0 Tryz.func295 0 [] ?_
  exact Z
 rw [show (!(false || b == 0)) = decide ((b : Int) > 0) by
  rcases Nat.eq_zero_or_pos b with rfl | h
  ·rfl
  ·rw [decide_eq_true (by omega)]; simp; omega]
 refine l_b0 Tryz.func295 0 [] ?_
 exact Z
theorem MayOpt3_calls (a1 : Bool) (n1 : Nat) (a2 : Bool) (n2 : Nat) (a3 : Bool) (n3 : Nat) : k'0 (cx B) 230 [.d (.sl false [.agg [.bool a1, .int .u64 n1], .agg [.bool a2, .int .u64 n2], .agg [.bool a3, .int .u64 n3]])] [] (.d (.bool (k'h a1 n1 && k'h a2 n2 && k'h a3 n3))) [] := by
 have e1 : (k'h a1 n1 && k'h a2 n2 && k'h a3 n3) = (List.range 3).all (fun i => ([k'h a1 n1, k'h a2 n2, k'h a3 n3] : List Bool).getD i true) := by
  generalize k'h a1 n1 = x
  generalize k'h a2 n2 = y
  generalize k'h a3 n3 = z
  cases x <;> cases y <;> cases z <;> rfl
 have h1 := IndexF_Op_calls B 295 [] false [.agg [.bool a1, .int .u64 n1], .agg [.bool a2, .int .u64 n2], .agg [.bool a3, .int .u64 n3]] (fun i => !([k'h a1 n1, k'h a2 n2, k'h a3 n3] : List Bool).getD i true) (by simp) (fun x hx => by simp at hx; rcases hx with rfl | rfl | rfl <;> exact ⟨_, _, rfl⟩) (fun i x hx => by
  match i, hx with
  | 0, hx => simp at hx; subst hx; exact k'3v B a1 n1
  | 1, hx => simp at hx; subst hx; exact k'3v B a2 n2
  | 2, hx => simp at hx; subst hx; exact k'3v B a3 n3
  | i + 3, hx => simp at hx)
 have h2 : k'0 (cx B) 294 [.d (.sl false [.agg [.bool a1, .int .u64 n1], .agg [.bool a2, .int .u64 n2], .agg [.bool a3, .int .u64 n3]]), .d (.fn 295 [])] [] (.d (.bool (!(k'h a1 n1 && k'h a2 n2 && k'h a3 n3)))) [] := by
  rw [e1]
  refine l_bw Tryz.func294 0 [] ?_
  refine l_cw [] (h1) rfl rfl rfl ?_
  rw [idx_all]
  exact k'f rfl
 refine l_bw Tryz.func230 0 [] ?_
 refine l_cw [] (h2) rfl rfl rfl ?_
 rw [Bool.not_not]
 exact k'f rfl
end
section
structure Hi where
 attrs : List Kv
 start : Nat
 time : Nat
 count : Nat
 sumH : Bool
 sum : Nat
 minH : Bool
 min : Nat
 maxH : Bool
 max : Nat
 counts : List Nat
 bounds : List Nat
 exs : List Em
 flags : Nat
 u : List UInt8
def Hi.hb (x : Hi) : List UInt8 := fxV 2 x.start ++ fxV 3 x.time ++ fxV 4 x.count ++ opV 5 x.sumH x.sum ++ pwV 6 x.counts ++ pwV 7 x.bounds ++ psV 8 (x.exs.map Em.mar) ++ psV 9 (Kv.mars x.attrs) ++ vrV 10 x.flags ++ opV 11 x.minH x.min ++ opV 12 x.maxH x.max
def Hi.hF (x : Hi) : List Fld := fxF 2 x.start ++ fxF 3 x.time ++ fxF 4 x.count ++ opF 5 x.sumH x.sum ++ pwF 6 x.counts ++ pwF 7 x.bounds ++ psF 8 (x.exs.map Em.mar) ++ psF 9 (Kv.mars x.attrs) ++ vrF 10 x.flags ++ opF 11 x.minH x.min ++ opF 12 x.maxH x.max
def Hi.mar (x : Hi) : List UInt8 := x.hb ++ x.u
def tbH (n k : Nat) : Bool := bif [6, 7].contains n then (k == 2 || k == 1) else bif [2, 3, 4, 5, 11, 12].contains n then k == 1 else bif [8, 9].contains n then k == 2 else bif [10].contains n then k == 0 else false
theorem tbH_calls (n k : Nat) : k'0 (cx B) 172 [iT n, iT k] [] (.d (.bool (tbH n k))) [] := by
 refine l_bw Tryz.func172 0 [] ?_
 cases h0 : ((n : Int) == 6) with
 | true =>
  have e : n = 6 := by have := eq_of_beq h0; omega
  subst e
  rw [show tbH 6 k = ((k : Int) == 2 || (k : Int) == 1) by rw [show ((k : Int) == 2) = (k == 2) from ibeq k 2, show ((k : Int) == 1) = (k == 1) from ibeq k 1]; rfl]
  refine Y ?_
  cases hk : ((k : Int) == 2)
  rotate_left
  ·exact Z
  exact Z
 | false =>
 have eh0 : n ≠ 6 := by have := ne_of_beq_false h0; omega
 refine Y ?_
 cases h1 : ((n : Int) == 7) with
 | true =>
  have e : n = 7 := by have := eq_of_beq h1; omega
  subst e
  rw [show tbH 7 k = ((k : Int) == 2 || (k : Int) == 1) by rw [show ((k : Int) == 2) = (k == 2) from ibeq k 2, show ((k : Int) == 1) = (k == 1) from ibeq k 1]; rfl]
  refine Y ?_
  cases hk : ((k : Int) == 2)
  rotate_left
  ·exact Z
  exact Z
 | false =>
 have eh1 : n ≠ 7 := by have := ne_of_beq_false h1; omega
 refine Y ?_
 cases h2 : ((n : Int) == 2) with
 | true =>
  have e : n = 2 := by have := eq_of_beq h2; omega
  subst e
  rw [show tbH 2 k = ((k : Int) == 1) from (ibeq k 1).symm]
  exact Z
 | false =>
 have eh2 : n ≠ 2 := by have := ne_of_beq_false h2; omega
 refine Y ?_
 cases h3 : ((n : Int) == 3) with
 | true =>
  have e : n = 3 := by have := eq_of_beq h3; omega
  subst e
  rw [show tbH 3 k = ((k : Int) == 1) from (ibeq k 1).symm]
  exact Z
 | false =>
 have eh3 : n ≠ 3 := by have := ne_of_beq_false h3; omega
 refine Y ?_
 cases h4 : ((n : Int) == 4) with
 | true =>
  have e : n = 4 := by have := eq_of_beq h4; omega
  subst e
  rw [show tbH 4 k = ((k : Int) == 1) from (ibeq k 1).symm]
  exact Z
 | false =>
 have eh4 : n ≠ 4 := by have := ne_of_beq_false h4; omega
 refine Y ?_
 cases h5 : ((n : Int) == 5) with
 | true =>
  have e : n = 5 := by have := eq_of_beq h5; omega
  subst e
  rw [show tbH 5 k = ((k : Int) == 1) from (ibeq k 1).symm]
  exact Z
 | false =>
 have eh5 : n ≠ 5 := by have := ne_of_beq_false h5; omega
 refine Y ?_
 cases h6 : ((n : Int) == 11) with
 | true =>
  have e : n = 11 := by have := eq_of_beq h6; omega
  subst e
  rw [show tbH 11 k = ((k : Int) == 1) from (ibeq k 1).symm]
  exact Z
 | false =>
 have eh6 : n ≠ 11 := by have := ne_of_beq_false h6; omega
 refine Y ?_
 cases h7 : ((n : Int) == 12) with
 | true =>
  have e : n = 12 := by have := eq_of_beq h7; omega
  subst e
  rw [show tbH 12 k = ((k : Int) == 1) from (ibeq k 1).symm]
  exact Z
 | false =>
 have eh7 : n ≠ 12 := by have := ne_of_beq_false h7; omega
 refine Y ?_
 cases h8 : ((n : Int) == 8) with
 | true =>
  have e : n = 8 := by have := eq_of_beq h8; omega
  subst e
  rw [show tbH 8 k = ((k : Int) == 2) from (ibeq k 2).symm]
  exact Z
 | false =>
 have eh8 : n ≠ 8 := by have := ne_of_beq_false h8; omega
 refine Y ?_
 cases h9 : ((n : Int) == 9) with
 | true =>
  have e : n = 9 := by have := eq_of_beq h9; omega
  subst e
  rw [show tbH 9 k = ((k : Int) == 2) from (ibeq k 2).symm]
  exact Z
 | false =>
 have eh9 : n ≠ 9 := by have := ne_of_beq_false h9; omega
 refine Y ?_
 cases h10 : ((n : Int) == 10) with
 | true =>
  have e : n = 10 := by have := eq_of_beq h10; omega
  subst e
  rw [show tbH 10 k = ((k : Int) == 0) from (ibeq k 0).symm]
  exact Z
 | false =>
 have eh10 : n ≠ 10 := by have := ne_of_beq_false h10; omega
 refine Y ?_
 rw [show tbH n k = false from by unfold tbH; simp [eh0, eh1, eh2, eh3, eh4, eh5, eh6, eh7, eh8, eh9, eh10]]
 exact k'f rfl
def Hi.wf (x : Hi) : Prop := (∀ k ∈ x.attrs, k.wf) ∧ x.start < 2 ^ 64 ∧ x.time < 2 ^ 64 ∧ x.count < 2 ^ 64 ∧ x.sum < 2 ^ 64 ∧ x.min < 2 ^ 64 ∧ x.max < 2 ^ 64 ∧ (∀ m ∈ x.counts, m < 2 ^ 64) ∧ (∀ m ∈ x.bounds, m < 2 ^ 64) ∧ (∀ k ∈ x.exs, k.wf) ∧ x.flags < 4294967296
def Hi.sz (x : Hi) : Nat := 300 + Kv.szs x.attrs + 8 * x.counts.length + 8 * x.bounds.length + (x.exs.map Em.sz).sum + x.u.length
def Hi.may (x : Hi) (d : Int) : Bool := decide (0 ≤ d) && (k'h x.sumH x.sum && k'h x.minH x.min && k'h x.maxH x.max) && (x.exs.all fun k => k.may (d - 1)) && (x.attrs.all fun k => k.may (d - 1)) && k'1v tbH x.u d
theorem Hi.hb_len (x : Hi) : x.mar.length + 20 ≤ x.sz := by
 have q0 := k'23 2 x.start
 have q1 := k'23 3 x.time
 have q2 := k'23 4 x.count
 have q3 := k'3z 5 x.sumH x.sum
 have q4 := pwV_len 6 x.counts
 have q5 := pwV_len 7 x.bounds
 have q6 := k'1s 8 x.exs fun y _ => Em.mar_len y
 have q7 := Kv.marsP_len 9 x.attrs
 have q8 := vrV_len 10 x.flags
 have q9 := k'3z 11 x.minH x.min
 have q10 := k'3z 12 x.maxH x.max
 unfold Hi.mar Hi.hb Hi.sz
 simp only [List.length_append]
 omega
theorem Hi.mar_len (x : Hi) : x.mar.length + 20 ≤ x.sz := Hi.hb_len x
theorem Hi.mars_lt {l : List Hi} (h : (l.map Hi.sz).sum < big) : ∀ s ∈ l.map Hi.mar, s.length < 2 ^ 64 := fun s hs => by
 obtain ⟨k, hk, rfl⟩ := List.mem_map.1 hs
 have h1 := Hi.mar_len k; have h2 := k'18 (sz := Hi.sz) hk
 unfold big at h; omega
theorem Hi.all {x : Hi} (h1 : x.sz < big) (h2 : x.wf) (d : Int) : all x.hb d = .ok x.hF := by
 unfold Hi.sz big at h1
 obtain ⟨w0, w1, w2, w3, w4, w5, w6, w7, w8, w9, w10⟩ := h2
 exact k'3 (k'3 (k'3 (k'3 (k'3 (k'3 (k'3 (k'3 (k'3 (k'3 (k'3r (by omega) (by omega) d (by omega)) (k'3r (by omega) (by omega) d (by omega))) (k'3r (by omega) (by omega) d (by omega))) (all_op (by omega) (by omega) d _ (by omega))) (all_pw 6 x.counts (by omega) (by omega) d (by omega))) (all_pw 7 x.bounds (by omega) (by omega) d (by omega))) (k'4a (by omega) (by omega) d (Em.mars_lt (by unfold big; omega)))) (k'4a (by omega) (by omega) d (Kv.mars_lt (by unfold big; omega)))) (all_vr (by omega) (by omega) d (by omega))) (all_op (by omega) (by omega) d _ (by omega))) (all_op (by omega) (by omega) d _ (by omega))
def tellHi (d : Int) (l : List Fld) : Option (List UInt8 → Hi) :=
 match k'1q (fun s => okK s (d - 1)) 9 l with
 | none => none
 | some attrs =>
 match packO fixs 6 l with
 | none => none
 | some counts =>
 match packO fixs 7 l with
 | none => none
 | some bounds =>
 match k'1q (fun s => okEm s (d - 1)) 8 l with
 | none => none
 | some exs =>
 some fun u => ⟨attrs, (k'z l 2).n, (k'z l 3).n, (k'z l 4).n, (hasL l 5), (k'z l 5).n, (hasL l 11), (k'z l 11).n, (hasL l 12), (k'z l 12).n, counts, bounds, exs, (k'z l 10).n % 4294967296, u⟩
def okHi (s : List UInt8) (d : Int) : Option Hi := apO (okG tbH tellHi s d)
theorem Hi.tell {x : Hi} (hwf : x.wf) (h_sum : k'h x.sumH x.sum = true) (h_min : k'h x.minH x.min = true) (h_max : k'h x.maxH x.max = true) (d : Int) : tellHi d x.hF = (
 match mapO (fun s => okK s (d - 1)) (Kv.mars x.attrs) with
 | none => none
 | some attrs =>
 match mapO (fun s => okEm s (d - 1)) ((x.exs.map Em.mar)) with
 | none => none
 | some exs =>
 some fun u => ⟨attrs, x.start, x.time, x.count, x.sumH, x.sum, x.minH, x.min, x.maxH, x.max, x.counts, x.bounds, exs, x.flags, u⟩) := by
 obtain ⟨w0, w1, w2, w3, w4, w5, w6, w7, w8, w9, w10⟩ := hwf
 have sattrs : sel 9 x.hF = psF 9 (Kv.mars x.attrs) := by unfold Hi.hF; simp [k'9, k's, k'q, k'r, k'p, k'n, sel_pw]
 have tattrs : ∀ {α : Type} (ok : List UInt8 → Option α), k'1q ok 9 x.hF = mapO ok (Kv.mars x.attrs) := fun ok => k'2v ok sattrs
 have sstart : sel 2 x.hF = fxF 2 x.start := by unfold Hi.hF; simp [k'9, k's, k'q, k'r, k'p, k'n, sel_pw]
 have tstart : (k'z x.hF 2).n = x.start := k'21 sstart
 have stime : sel 3 x.hF = fxF 3 x.time := by unfold Hi.hF; simp [k'9, k's, k'q, k'r, k'p, k'n, sel_pw]
 have ttime : (k'z x.hF 3).n = x.time := k'21 stime
 have scount : sel 4 x.hF = fxF 4 x.count := by unfold Hi.hF; simp [k'9, k's, k'q, k'r, k'p, k'n, sel_pw]
 have tcount : (k'z x.hF 4).n = x.count := k'21 scount
 have ssum : sel 5 x.hF = opF 5 x.sumH x.sum := by unfold Hi.hF; simp [k'9, k's, k'q, k'r, k'p, k'n, sel_pw]
 have tsum := opt_of (by omega) ssum h_sum
 have smin : sel 11 x.hF = opF 11 x.minH x.min := by unfold Hi.hF; simp [k'9, k's, k'q, k'r, k'p, k'n, sel_pw]
 have tmin := opt_of (by omega) smin h_min
 have smax : sel 12 x.hF = opF 12 x.maxH x.max := by unfold Hi.hF; simp [k'9, k's, k'q, k'r, k'p, k'n, sel_pw]
 have tmax := opt_of (by omega) smax h_max
 have scounts : sel 6 x.hF = pwF 6 x.counts := by unfold Hi.hF; simp [k'9, k's, k'q, k'r, k'p, k'n, sel_pw]
 have tcounts : packO fixs 6 x.hF = some x.counts := pack_pw w7 scounts
 have sbounds : sel 7 x.hF = pwF 7 x.bounds := by unfold Hi.hF; simp [k'9, k's, k'q, k'r, k'p, k'n, sel_pw]
 have tbounds : packO fixs 7 x.hF = some x.bounds := pack_pw w8 sbounds
 have sexs : sel 8 x.hF = psF 8 (x.exs.map Em.mar) := by unfold Hi.hF; simp [k'9, k's, k'q, k'r, k'p, k'n, sel_pw]
 have texs : ∀ {α : Type} (ok : List UInt8 → Option α), k'1q ok 8 x.hF = mapO ok ((x.exs.map Em.mar)) := fun ok => k'2v ok sexs
 have sflags : sel 10 x.hF = vrF 10 x.flags := by unfold Hi.hF; simp [k'9, k's, k'q, k'r, k'p, k'n, sel_pw]
 have tflags : (k'z x.hF 10).n % 4294967296 = x.flags := by rw [last_vr sflags]; omega
 unfold tellHi
 simp only [tattrs, tstart, ttime, tcount, tsum.1, tsum.2, tmin.1, tmin.2, tmax.1, tmax.2, tcounts, tbounds, texs, tflags]
theorem Hi.far (x : Hi) (d e : Int) (he : (x.sz : Int) ≤ e) (h : x.may d = true) : x.may e = true := by
 unfold Hi.may at h ⊢
 unfold Hi.sz at he
 simp only [Bool.and_eq_true, decide_eq_true_eq] at h ⊢
 obtain ⟨⟨⟨⟨hd, ⟨⟨m_sum, m_min⟩, m_max⟩⟩, m_exs⟩, m_attrs⟩, hu⟩ := h
 exact ⟨⟨⟨⟨by omega, ⟨⟨m_sum, m_min⟩, m_max⟩⟩, List.all_eq_true.2 fun k hk => k.far _ _ (by have := k'18 (sz := Em.sz) hk; omega) (List.all_eq_true.1 m_exs k hk)⟩, by rw [← Kv.mays_all] at m_attrs ⊢; exact Kv.fars x.attrs _ _ (by omega) m_attrs⟩, k'2j (by omega) hu⟩
def Hi.eq (x y : Hi) : Bool := Kv.eqs x.attrs y.attrs && x.start == y.start && x.time == y.time && x.count == y.count && (x.sumH == y.sumH && x.sum == y.sum) && (x.minH == y.minH && x.min == y.min) && (x.maxH == y.maxH && x.max == y.max) && x.counts == y.counts && x.bounds == y.bounds && Em.eqs x.exs y.exs && x.flags == y.flags && x.u == y.u
def Hi.eqs : List Hi → List Hi → Bool
 | [], [] => true
 | v :: l, w :: r => v.eq w && Hi.eqs l r
 | [], _ :: _ => false
 | _ :: _, [] => false
theorem Hi.eqs_by (a b : List Hi) : Hi.eqs a b = (a.length == b.length && (List.range a.length).all (byI Hi.eq a b)) :=
 k'40 Hi.eq Hi.eqs rfl (fun _ _ _ _ => rfl) (fun _ _ => rfl) (fun _ _ => rfl) a b
end
