/- Numbers of eight bytes, one behind the other; what may lack. -/
import Derived.Test.YtpioginipokfiaaGreatDoorPAB
import Derived.Laws.StructEq
import Derived.ChangeKeysEq
set_option linter.unusedSimpArgs false
set_option linter.unusedVariables false
set_option maxRecDepth 100000
namespace Go.Proofs.YtpioginipokfiaaGreatDoor
open Go Go.Abs
def eiE (s : List UInt8) : Nat → Nat → Except Er (List Nat)
 | 0, _ => .ok []
 | f + 1, p => if p < s.length then (match takeE s p 8 with
   | .error e => .error e
   | .ok (l, q) => match eiE s f q with
    | .error e => .error e
    | .ok r => .ok (leN l :: r)) else .ok []
def fixs (s : List UInt8) : Except Er (List Nat) := eiE s (s.length + 1) 0
theorem eiE_len {s : List UInt8} : ∀ {f p : Nat} {l : List Nat}, eiE s f p = .ok l → l.length ≤ s.length - p
 | 0, p, l, h => by simp [eiE] at h; subst h; simp
 | f + 1, p, l, h => by
  unfold eiE at h
  split at h
  ·rename_i hp
   split at h <;> (try (simp at h; done))
   rename_i e
   obtain ⟨a, b, c, d, -⟩ := takeE_ok e (by omega)
   split at h <;> (try (simp at h; done))
   rename_i e2
   injection h with h; subst h
   have := eiE_len e2
   simp; omega
  ·injection h with h; subst h; simp
theorem fixs_len {s : List UInt8} {l : List Nat} (h : fixs s = .ok l) : l.length ≤ s.length := by have := eiE_len h; omega
theorem eiE_err {s : List UInt8} : ∀ {f p : Nat} {e : Er}, eiE s f p = .error e → EIn s.length e
 | 0, p, e, h => by simp [eiE] at h
 | f + 1, p, e, h => by
  unfold eiE at h
  split at h
  ·rename_i hp
   split at h
   ·rename_i h1; injection h with h; subst h; exact takeE_err h1 (by omega)
   ·split at h
    ·rename_i h2; injection h with h; subst h; exact eiE_err h2
    ·simp at h
  ·simp at h
theorem fixs_gc (s : List UInt8) (e : Er) (h : fixs s = .error e) : gc (codeOf e) := (eiE_err h).2
theorem eiE_pack : ∀ (ns : List Nat) (x : List UInt8) (f : Nat), (∀ n ∈ ns, n < 2 ^ 64) → (packW ns).length < f → eiE (x ++ packW ns) f x.length = .ok ns
 | [], x, 0, _, h => by simp [packW] at h
 | [], x, f + 1, _, _ => by
  unfold eiE
  rw [if_neg (by simp [packW])]
 | n :: ns, x, 0, _, h => by omega
 | n :: ns, x, f + 1, hn, h => by
  have e : packW (n :: ns) = le8 n ++ packW ns := rfl
  have hp := k'20 n
  rw [e] at h ⊢
  rw [List.length_append] at h
  unfold eiE
  have ht : takeE (x ++ (le8 n ++ packW ns)) x.length 8 = .ok (le8 n, x.length + 8) := by
   unfold takeE
   rw [if_neg (by simp; omega)]
   congr 2
   rw [List.drop_left, List.take_append_of_le_length (by omega), List.take_of_length_le (by omega)]
  rw [if_pos (by simp; omega), ht]
  dsimp only
  have ih := eiE_pack ns (x ++ le8 n) f (fun m hm => hn m (List.mem_cons_of_mem _ hm)) (by omega)
  rw [List.append_assoc, List.length_append, hp] at ih
  rw [ih, le8_N (hn n (List.mem_cons_self ..))]
theorem fixs_packW {ns : List Nat} (h : ∀ n ∈ ns, n < 2 ^ 64) : fixs (packW ns) = .ok ns := by
 have := eiE_pack ns [] ((packW ns).length + 1) h (by omega)
 simpa [fixs] using this
theorem packO_sel (rd : List UInt8 → Except Er (List Nat)) (num : Nat) : ∀ l : List Fld, k'13 rd num l = k'13 rd num (sel num l)
 | [] => rfl
 | x :: l => by
  rw [sel_cons]
  by_cases h : x.num = num
  ·rw [if_pos h]
   unfold k'13
   rw [if_pos h, if_pos h, packO_sel rd num l]
  ·rw [if_neg h]
   conv => lhs; unfold k'13
   rw [if_neg h]; exact packO_sel rd num l
theorem pack_pw {n : Nat} {cs : List Nat} {l : List Fld} (hc : ∀ m ∈ cs, m < 2 ^ 64) (h : sel n l = pwF n cs) : k'13 fixs n l = some cs := by
 rw [packO_sel, h]
 refine tell_pk n (packW cs) (fun h0 => ?_) (fixs_packW hc)
 cases cs with
 | nil => rfl
 | cons c cs =>
  have := k'20 c
  have h1 : (packW (c :: cs)).length = 0 := by rw [h0]; rfl
  rw [packW_len] at h1; simp at h1
theorem pwV_len (n : Nat) (cs : List Nat) : (pwV n cs).length ≤ 20 + 8 * cs.length := by
 have := txV_len n (packW cs)
 rw [packW_len] at this
 exact this
section
variable (n m : Nat) (cs : List Nat)
theorem sel_pw : sel m (pwF n cs) = if n = m then pwF n cs else [] := k'28 n m _
theorem in_pw {tb : Nat → Nat → Bool} (h : tb n 2 = true) : inT tb (pwF n cs) = true := in_tx n _ h
theorem all_pw (h1 : 1 ≤ n) (h2 : n ≤ 536870911) (d : Int) (hl : cs.length < 2 ^ 40) : all (pwV n cs) d = .ok (pwF n cs) := all_tx h1 h2 d (by rw [packW_len]; omega)
end
/-! What may lack. -/
def k'q (h : Bool) (n : Nat) : Bool := h || n == 0
theorem opt_of {n v : Nat} {b : Bool} {l : List Fld} (hn : n ≠ 0) (h : sel n l = opF n b v) (hm : k'q b v = true) : hasL l n = b ∧ (k'e l n).n = v := by
 have h1 : k'e l n = k'e (opF n b v) n := by rw [← sel_last, h]
 obtain ⟨h2, h3⟩ := tell_op n v b (by unfold k'q at hm; cases b with | true => exact .inl rfl | false => right; simpa using hm)
 unfold hasL
 rw [h1, h3]
 refine ⟨?_, rfl⟩
 cases b
 ·have : k'e (opF n false v) n = noFld := rfl
  rw [this]
  show (0 == n) = false
  simp; omega
 have : k'e (opF n true v) n = e8R n v := last_one n _ rfl
 rw [this]
 show (n == n) = true
 simp
variable (B : Fr)
theorem fixeds_calls (s : List UInt8) (hl : s.length < big) : k'0 (cx B) 67 [sT s] [] (numsT (fixs s)) [] := by
 have hl' := hl
 unfold big at hl'
 refine l_bw Tryz.func67 0 [] ?_
 refine k's (fun x : Nat × Nat × List Nat => x.2.1) (fun x => [(0, sT s), (4, owT (x.2.2.map uD)), (5, .ptr 0 0)]) (fun x => [rdOb s x.1 none 0])
  (fun x => x.1 ≤ s.length ∧ s.length - x.1 < x.2.1 ∧ x.2.2.length ≤ x.1 ∧ fixs s = (match eiE s x.2.1 x.1 with | .ok l => .ok (x.2.2 ++ l) | .error e => .error e)) (0, s.length + 1, []) ⟨by omega, by show s.length - 0 < s.length + 1; omega, by simp, ?_⟩ ⟨rfl, rfl, rfl, trivial⟩ rfl 1 rfl (fun _ => rfl) (fun _ => rfl) (fun _ => rfl) ?_
 ·show fixs s = _
  unfold fixs
  dsimp only
  split <;> (rename_i h; rw [h]) <;> rfl
 rintro ⟨p, g, acc⟩ ⟨i1, i2, i3, i4⟩
 dsimp only at i1 i2 i3 i4 ⊢
 cases g with
 | zero => omega
 | succ g =>
 unfold eiE at i4
 refine Y ?_
 by_cases hp : p < s.length
 ·rw [show decide ((p : Int) < s.length) = true from decide_eq_true (by omega)]
  rw [if_pos hp] at i4
  have h1 := k'1y B s p 0 8 (by omega) i1 hl
  unfold lR tR at h1
  unfold takeE at i4
  by_cases hc : s.length - p < 8
  ·rw [if_pos hc] at h1 i4
   dsimp only at h1 i4
   rw [i4]
   refine Y ?_
   refine k'1 [0] (h1) rfl rfl rfl ?_
   exact Z
  ·rw [if_neg hc] at h1 i4
   dsimp only at h1 i4
   generalize leN ((s.drop p).take 8) = n at *
   refine Y ?_
   refine l_cw [0] (h1) rfl rfl rfl ?_
   (try refine k'2i rfl ?_)
   refine k'2 (.assignOwn (.inr rfl) rfl) rfl rfl ?_
   refine Y ?_
   refine k'2 (.buildSlice (es := [uD n]) rfl rfl rfl rfl rfl rfl (by intro x hx; simp at hx; subst hx; rfl) (by simp) (by decide) (by decide)) rfl rfl ?_
   have hm : (acc.map uD).length + [uD n].length ≤ most := by simp [most]; omega
   refine k'2 (.append' rfl rfl rfl rfl ⟨_, _, rfl, rfl, by intro q; simp⟩ rfl rfl rfl rfl rfl (by rw [show [uD n] = [n].map uD from rfl, ← List.map_append]; exact u_fits _) (by decide) rfl hm rfl) rfl rfl ?_
   refine k'2 (.assignOwn (.inl rfl) rfl) rfl rfl ?_
   refine Y ?_
   exact ⟨(p + 8, g, acc ++ [n]), Nat.lt_succ_self g, ⟨by show p + 8 ≤ _; omega, by show s.length - (p + 8) < g; omega, by show (acc ++ [n]).length ≤ p + 8; simp; omega, by rw [i4]; cases eiE s g (p + 8) <;> simp⟩, ⟨rfl, by show T.own _ _ = owT _; rw [List.map_append]; rfl, rfl, trivial⟩, rfl, k'19 rfl⟩
 ·rw [show decide ((p : Int) < s.length) = false from decide_eq_false (by omega)]
  rw [if_neg hp] at i4
  dsimp only at i4
  rw [List.append_nil] at i4
  rw [i4]
  refine Y ?_
  (try refine k'2i rfl ?_)
  refine k'2 (.moveShare rfl rfl) rfl rfl ?_
  exact Z
theorem fixs_rd : NumsRd B 67 fixs := ⟨fun s hs => fixeds_calls B s hs, fun s l h => fixs_len h⟩
theorem rFixeds_calls (hB : BOk B) (e : Option Er) (u : List UInt8) (d n : Int) (l : List Fld) (num : Nat) (hl : LOk l) :
  k'0 (cx B) 29 [.ptr 0 0, iT num] [rO e u d n l] (.d (slD ((packF fixs n num l e).1.map uD))) [rO (packF fixs n num l e).2 u d n l] := by
 have h1 := packed_calls B hB 67 fixs (fixs_rd B) e u d n l num hl
 refine l_bw Tryz.func29 1 [] ?_
 refine k'1 [0] (h1) rfl rfl rfl ?_
 exact Z
theorem rFixeds_tells (hB : BOk B) (e : Option Er) (u : List UInt8) (d : Int) (n : Nat) (l : List Fld) (num : Nat) (hl : LOk l) :
  ∃ vs e', k'0 (cx B) 29 [.ptr 0 0, iT num] [rO e u d n l] (.d (slD (vs.map uD))) [rO e' u d n l] ∧ Tells n e (k'13 fixs num l) id vs e' :=
 ⟨_, _, rFixeds_calls B hB e u d n l num hl, packF_tells fixs_gc n num e l⟩
/-! Written. -/
theorem wr_opt (h : Bool) (n m : Nat) (h1 : 1 ≤ n) (h2 : n ≤ 536870911) : Wr B 14 [iT n, .d (.agg [.bool h, .int .u64 m])] (opV n h m) := fun a l ha hl => by
 cases h
 ·refine ⟨a, ha, ?_⟩
  rw [show opV n false m = [] from rfl, List.append_nil]
  rcases ha with rfl | rfl | rfl <;> (rcases l with _ | ⟨c, l⟩ <;> (
  refine l_b0 Tryz.func14 1 [] ?_
  exact Z))
 rw [show opV n true m = e8V n m from rfl] at hl ⊢
 obtain ⟨a', ha', h3⟩ := wr_eight B n m h1 h2 a l ha hl
 refine ⟨a', ha', ?_⟩
 generalize l ++ e8V n m = y at *
 rcases ha with rfl | rfl | rfl <;> (rcases ha' with rfl | rfl | rfl <;> (rcases l with _ | ⟨c, l⟩ <;> (rcases y with _ | ⟨c', y⟩ <;> (
 refine l_bw Tryz.func14 1 [] ?_
 refine k'1 [0] (h3) rfl rfl rfl ?_
 exact Z))))
theorem wr_fixeds (z : Bool) (n : Nat) (ns : List Nat) (h1 : 1 ≤ n) (h2 : n ≤ 536870911) (hns : ns.length < 8000000000) : Wr B 15 [iT n, .d (.sl z (ns.map uD))] (pwV n ns) := fun a l ha hl => by
 have hpw := packW_len ns
 have htl : (pwV n ns).length + l.length < 34359738368 := by unfold big at hl; omega
 obtain ⟨a', ha', h4⟩ := wr_text B n (packW ns) h1 h2 a l ha hl
 refine ⟨a', ha', ?_⟩
 have e1 : tagV 1 1 = [9] := rfl
 refine l_bw Tryz.func15 1 [] ?_
 have hlen : (ns.map uD).length = ns.length := by simp
 rw [hlen]
 refine k's (fun i : Nat => ns.length - i) (fun i => [(0, .ptr 0 0), (1, iT n), (6, .ptr 1 0), (9, .d (.sl z (ns.map uD))), (10, iT ns.length), (11, iT i)]) (fun i => [.mu [a, bT l], .mu [if i = 0 then .nw 50 2 else .me, bT (packW (ns.take i))]]) (fun i => i ≤ ns.length) 0 (by omega) ⟨rfl, rfl, rfl, rfl, rfl, rfl, trivial⟩ rfl 2 rfl (fun _ => rfl) (fun i => by
  have : adOk (if i = 0 then .nw 50 2 else .me) := by unfold adOk; split <;> simp
  simp [k'3 ha, k'3 this]) (fun _ => rfl) ?_
 intro i i1
 have ha2 : adOk (if i = 0 then .nw 50 2 else .me) := by unfold adOk; split <;> simp
 refine Y ?_
 refine k'p rfl (fun hc => ?_) (fun hc => ?_)
 ·have hlt : i < ns.length := by have := of_decide_eq_true hc; omega
  obtain ⟨x, hx⟩ : ∃ x, ns[i]? = some x := ⟨_, List.getElem?_eq_getElem hlt⟩
  have hdx : (ns.map uD)[i]? = some (uD x) := by rw [List.getElem?_map, hx]; rfl
  have hpk : packW (ns.take i) ++ le8 x = packW (ns.take (i + 1)) := by rw [List.take_add_one, hx]; simp [packW]
  have hti := packW_len (ns.take i)
  have h8 := k'20 x
  have h0 := Fixed_calls B 1 x (by omega) (by omega)
  rw [e1] at h0
  have h3 := k'o B _ (packW (ns.take i)) (le8 x) ha2 (by rw [hti, h8, List.length_take]; unfold most; omega)
  rw [hpk] at h3
  refine Y ?_
  refine k'2 (.indexAddr (k := .i64) (n := i) (es := ns.map uD) (u := uD x) rfl rfl rfl rfl (.inl ⟨_, rfl⟩) rfl (by omega) (by simpa using hdx) rfl (by decide)) rfl rfl ?_
  refine Y ?_
  refine k'1 [] (h0) rfl rfl rfl ?_
  refine k'2 (.sliceStr (s := [9] ++ le8 x) (l := 1) (h := 9) rfl rfl rfl rfl ⟨.i64, rfl⟩ (by show (9 : Nat) = ([9] ++ le8 x).length; simp [h8]) (by omega) (by simp [h8])) rfl rfl ?_
  rw [show ((([9] : List UInt8) ++ le8 x).drop 1).take (9 - 1) = le8 x by show (le8 x).take 8 = le8 x; rw [List.take_of_length_le (by omega)]]
  refine l_wr [1] (h3) ha2 (.inl rfl) ?_
  rw [wS i (by omega)]
  exact ⟨i + 1, by omega, by omega, ⟨rfl, rfl, rfl, rfl, rfl, rfl, trivial⟩, by simp [k'3 ha, k'3 (.inl rfl)], k'19 (by simp)⟩
 ·have hge : i = ns.length := by have := of_decide_eq_false hc; omega
  subst hge
  rw [List.take_length]
  generalize (if ns.length = 0 then T.nw 50 2 else .me) = aa at ha2 ⊢
  have h3 := k'1k B aa (packW ns) ha2 (by rw [hpw]; unfold most; omega)
  refine Y ?_
  refine k'18 [1] (h3) rfl rfl rfl rfl rfl rfl rfl (by decide) (by simp [k'3 ha2]) (by rcases ha2 with rfl | rfl | rfl <;> rfl) rfl rfl rfl ?_
  refine k'18 [0] (h4) rfl rfl rfl rfl rfl rfl rfl (by decide) (by simp [k'3 ha]) (by simp [k'3 ha']) rfl rfl rfl ?_
  refine Y ?_
  exact l_end trivial (by decide) rfl rfl rfl rfl (by simp [k'3 ha'])
/-! What may lack: may they be, are two alike. -/
def OpSh (x : D) : Prop := ∃ (a : Bool) (b : Nat), x = .agg [.bool a, .int .u64 b]
theorem IndexF_Op_calls : IdxP B 117 OpSh := IndexF_mk B Tryz.func117
theorem k'25 (a : Bool) (b : Nat) : k'0 (cx B) 82 [.d (.agg [.bool a, .int .u64 b])] [] (.d (.bool (!k'q a b))) [] := by
 unfold k'q
 cases a
 rotate_left
 ·refine l_b0 Tryz.func82 0 [] ?_
  exact Z
 rw [show (!(false || b == 0)) = decide ((b : Int) > 0) by
  rcases Nat.eq_zero_or_pos b with rfl | h
  ·rfl
  ·rw [decide_eq_true (by omega)]; simp; omega]
 refine l_b0 Tryz.func82 0 [] ?_
 exact Z
theorem MayOpt3_calls (a1 : Bool) (n1 : Nat) (a2 : Bool) (n2 : Nat) (a3 : Bool) (n3 : Nat) : k'0 (cx B) 43 [.d (.sl false [.agg [.bool a1, .int .u64 n1], .agg [.bool a2, .int .u64 n2], .agg [.bool a3, .int .u64 n3]])] [] (.d (.bool (k'q a1 n1 && k'q a2 n2 && k'q a3 n3))) [] := by
 have e1 : (k'q a1 n1 && k'q a2 n2 && k'q a3 n3) = (List.range 3).all (fun i => ([k'q a1 n1, k'q a2 n2, k'q a3 n3] : List Bool).getD i true) := by
  generalize k'q a1 n1 = x
  generalize k'q a2 n2 = y
  generalize k'q a3 n3 = z
  cases x <;> cases y <;> cases z <;> rfl
 have h1 := IndexF_Op_calls B 82 [] false [.agg [.bool a1, .int .u64 n1], .agg [.bool a2, .int .u64 n2], .agg [.bool a3, .int .u64 n3]] (fun i => !([k'q a1 n1, k'q a2 n2, k'q a3 n3] : List Bool).getD i true) (by simp) (fun x hx => by simp at hx; rcases hx with rfl | rfl | rfl <;> exact ⟨_, _, rfl⟩) (fun i x hx => by
  match i, hx with
  | 0, hx => simp at hx; subst hx; exact k'25 B a1 n1
  | 1, hx => simp at hx; subst hx; exact k'25 B a2 n2
  | 2, hx => simp at hx; subst hx; exact k'25 B a3 n3
  | i + 3, hx => simp at hx)
 have h2 : k'0 (cx B) 81 [.d (.sl false [.agg [.bool a1, .int .u64 n1], .agg [.bool a2, .int .u64 n2], .agg [.bool a3, .int .u64 n3]]), .d (.fn 82 [])] [] (.d (.bool (!(k'q a1 n1 && k'q a2 n2 && k'q a3 n3)))) [] := by
  rw [e1]
  refine l_bw Tryz.func81 0 [] ?_
  refine l_cw [] (h1) rfl rfl rfl ?_
  rw [idx_all]
  exact k'i rfl
 refine l_bw Tryz.func43 0 [] ?_
 refine l_cw [] (h2) rfl rfl rfl ?_
 rw [Bool.not_not]
 exact k'i rfl
