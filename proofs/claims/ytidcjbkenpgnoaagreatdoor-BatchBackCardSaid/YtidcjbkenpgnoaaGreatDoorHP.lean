/- Numbers of eight bytes, one behind the other; what may lack. -/
import Derived.Test.YtidcjbkenpgnoaaGreatDoorPAB
import Derived.Laws.StructEq
import Derived.ChangeKeysEq
import Derived.Test.YtidcjbkenpgnoaaGreatDoorNW
set_option linter.unusedSimpArgs false
set_option linter.unusedVariables false
set_option maxRecDepth 100000
namespace Go.Proofs.YtidcjbkenpgnoaaGreatDoor
open Go Go.Abs
variable (B : Fr)
section
def eiE (s : List UInt8) : Nat → Nat → Except Er (List Nat)
 | 0, _ => .ok []
 | f + 1, p => if p < s.length then (match k'4x s p 8 with
   | .error e => .error e
   | .ok (l, q) => match eiE s f q with
    | .error e => .error e
    | .ok r => .ok (leN l :: r)) else .ok []
def fixs (s : List UInt8) : Except Er (List Nat) := eiE s (s.length + 1) 0
theorem eiE_len {s : List UInt8} : ∀ {f p : Nat} {l : List Nat}, eiE s f p = .ok l → l.length ≤ s.length - p
 | 0, p, l, h => by simp [eiE] at h; subst h; simp
 | f + 1, p, l, h => by
  unfold eiE at h
  split at h
  ·rename_i hp
   split at h <;> (try (simp at h; done))
   rename_i e
   obtain ⟨a, b, c, d, -⟩ := k'4c e (by omega)
   split at h <;> (try (simp at h; done))
   rename_i e2
   injection h with h; subst h
   have := eiE_len e2
   simp; omega
  ·injection h with h; subst h; simp
theorem fixs_len {s : List UInt8} {l : List Nat} (h : fixs s = .ok l) : l.length ≤ s.length := by have := eiE_len h; omega
theorem eiE_lt {s : List UInt8} : ∀ {f p : Nat} {l : List Nat}, eiE s f p = .ok l → ∀ n ∈ l, n < 2 ^ 64
 | 0, p, l, h => by simp [eiE] at h; subst h; simp
 | f + 1, p, l, h => by
  unfold eiE at h
  split at h
  ·rename_i hp
   split at h <;> (try (simp at h; done))
   rename_i e
   obtain ⟨a, b, c, d, -⟩ := k'4c e (by omega)
   split at h <;> (try (simp at h; done))
   rename_i e2
   injection h with h; subst h
   intro n hn
   rcases List.mem_cons.1 hn with rfl | hn
   ·exact leN_lt8 (by omega)
   ·exact eiE_lt e2 n hn
  ·injection h with h; subst h; simp
theorem eiE_err {s : List UInt8} : ∀ {f p : Nat} {e : Er}, eiE s f p = .error e → EIn s.length e
 | 0, p, e, h => by simp [eiE] at h
 | f + 1, p, e, h => by
  unfold eiE at h
  split at h
  ·rename_i hp
   split at h
   ·rename_i h1; injection h with h; subst h; exact takeE_err h1 (by omega)
   ·split at h
    ·rename_i h2; injection h with h; subst h; exact eiE_err h2
    ·simp at h
  ·simp at h
theorem fixs_gc (s : List UInt8) (e : Er) (h : fixs s = .error e) : gc (codeOf e) := (eiE_err h).2
theorem eiE_pack : ∀ (ns : List Nat) (x : List UInt8) (f : Nat), (∀ n ∈ ns, n < 2 ^ 64) → (packW ns).length < f → eiE (x ++ packW ns) f x.length = .ok ns
 | [], x, 0, _, h => by simp [packW] at h
 | [], x, f + 1, _, _ => by
  unfold eiE
  rw [if_neg (by simp [packW])]
 | n :: ns, x, 0, _, h => by omega
 | n :: ns, x, f + 1, hn, h => by
  have e : packW (n :: ns) = le8 n ++ packW ns := rfl
  have hp := le8_len n
  rw [e] at h ⊢
  rw [List.length_append] at h
  unfold eiE
  have ht : k'4x (x ++ (le8 n ++ packW ns)) x.length 8 = .ok (le8 n, x.length + 8) := by
   unfold k'4x
   rw [if_neg (by simp; omega)]
   congr 2
   rw [List.drop_left, List.take_append_of_le_length (by omega), List.take_of_length_le (by omega)]
  rw [if_pos (by simp; omega), ht]
  dsimp only
  have ih := eiE_pack ns (x ++ le8 n) f (fun m hm => hn m (List.mem_cons_of_mem _ hm)) (by omega)
  rw [List.append_assoc, List.length_append, hp] at ih
  rw [ih, le8_N (hn n (List.mem_cons_self ..))]
theorem fixs_packW {ns : List Nat} (h : ∀ n ∈ ns, n < 2 ^ 64) : fixs (packW ns) = .ok ns := by
 have := eiE_pack ns [] ((packW ns).length + 1) h (by omega)
 simpa [fixs] using this
theorem packO_lt2 {rd : List UInt8 → Except Er (List Nat)} (hr : ∀ s l, rd s = .ok l → ∀ n ∈ l, n < 2 ^ 64) {num : Nat} : ∀ {l : List Fld} {ns : List Nat}, (∀ x ∈ l, FOk x) → k'2j rd num l = some ns → ∀ n ∈ ns, n < 2 ^ 64
 | [], ns, _, h => by simp [k'2j] at h; subst h; simp
 | x :: l, ns, hl, h => by
  have ih := fun {m} => packO_lt2 hr (num := num) (l := l) (ns := m) fun y hy => hl y (List.mem_cons_of_mem _ hy)
  unfold k'2j at h
  split at h
  ·split at h
   ·split at h
    ·rename_i a ha
     obtain ⟨b, hb, rfl⟩ := Option.map_eq_some_iff.1 h
     intro n hn
     rcases List.mem_append.1 hn with hn | hn
     ·exact hr _ _ ha n hn
     ·exact ih hb n hn
    ·simp at h
   ·obtain ⟨b, hb, rfl⟩ := Option.map_eq_some_iff.1 h
    intro n hn
    rcases List.mem_cons.1 hn with rfl | hn
    ·exact (hl x (List.mem_cons_self ..)).n
    ·exact ih hb n hn
  ·exact ih h
theorem packO_sel (rd : List UInt8 → Except Er (List Nat)) (num : Nat) : ∀ l : List Fld, k'2j rd num l = k'2j rd num (sel num l)
 | [] => rfl
 | x :: l => by
  rw [k'3u]
  by_cases h : x.num = num
  ·rw [if_pos h]
   unfold k'2j
   rw [if_pos h, if_pos h, packO_sel rd num l]
  ·rw [if_neg h]
   conv => lhs; unfold k'2j
   rw [if_neg h]; exact packO_sel rd num l
theorem pack_pw {n : Nat} {cs : List Nat} {l : List Fld} (hc : ∀ m ∈ cs, m < 2 ^ 64) (h : sel n l = pwF n cs) : k'2j fixs n l = some cs := by
 rw [packO_sel, h]
 refine tell_pk n (packW cs) (fun h0 => ?_) (fixs_packW hc)
 cases cs with
 | nil => rfl
 | cons c cs =>
  have := le8_len c
  have h1 : (packW (c :: cs)).length = 0 := by rw [h0]; rfl
  rw [packW_len] at h1; simp at h1
theorem pwV_len (n : Nat) (cs : List Nat) : (pwV n cs).length ≤ 20 + 8 * cs.length := by
 have := k'2b n (packW cs)
 rw [packW_len] at this
 exact this
section
variable (n m : Nat) (cs : List Nat)
theorem sel_pw : sel m (pwF n cs) = if n = m then pwF n cs else [] := k'l n m _
theorem in_pw {tb : Nat → Nat → Bool} (h : tb n 2 = true) : inT tb (pwF n cs) = true := in_tx n _ h
theorem all_pw (h1 : 1 ≤ n) (h2 : n ≤ 536870911) (d : Int) (hl : cs.length < 2 ^ 40) : all (pwV n cs) d = .ok (pwF n cs) := all_tx h1 h2 d (by rw [packW_len]; omega)
end
/-! What may lack. -/
def k'1c (h : Bool) (n : Nat) : Bool := h || n == 0
theorem opt_of {n v : Nat} {b : Bool} {l : List Fld} (hn : n ≠ 0) (h : sel n l = opF n b v) (hm : k'1c b v = true) : hasL l n = b ∧ (k'6 l n).n = v := by
 have h1 : k'6 l n = k'6 (opF n b v) n := by rw [← k'5d, h]
 obtain ⟨h2, h3⟩ := tell_op n v b (by unfold k'1c at hm; cases b with | true => exact .inl rfl | false => right; simpa using hm)
 unfold hasL
 rw [h1, h3]
 refine ⟨?_, rfl⟩
 cases b
 ·have : k'6 (opF n false v) n = noFld := rfl
  rw [this]
  show (0 == n) = false
  simp; omega
 have : k'6 (opF n true v) n = e8R n v := last_one n _ rfl
 rw [this]
 show (n == n) = true
 simp
theorem opt_told {n : Nat} {l : List Fld} : k'1c (hasL l n) (k'6 l n).n = true := by
 unfold k'1c hasL
 cases ha : anyL l n with
 | true => obtain ⟨h1, h2⟩ := lastF_num ha; rw [h1]; simp
 | false => rw [lastF_no ha]; simp [noFld]
theorem fixeds_calls (s : List UInt8) (hl : s.length < big) : k'0 (cx B) 430 [sT s] [] (numsT (fixs s)) [] := by
 have hl' := hl
 unfold big at hl'
 refine l_bw Tryz.func430 0 [] ?_
 refine k'14 (fun x : Nat × Nat × List Nat => x.2.1) (fun x => [(0, sT s), (4, owT (x.2.2.map uD)), (5, .ptr 0 0)]) (fun x => [rdOb s x.1 none 0])
  (fun x => x.1 ≤ s.length ∧ s.length - x.1 < x.2.1 ∧ x.2.2.length ≤ x.1 ∧ fixs s = (match eiE s x.2.1 x.1 with | .ok l => .ok (x.2.2 ++ l) | .error e => .error e)) (0, s.length + 1, []) ⟨by omega, by show s.length - 0 < s.length + 1; omega, by simp, ?_⟩ ⟨rfl, rfl, rfl, trivial⟩ rfl 1 rfl (fun _ => rfl) (fun _ => rfl) (fun _ => rfl) ?_
 ·show fixs s = _
  unfold fixs
  dsimp only
  split <;> (rename_i h; rw [h]) <;> rfl
 rintro ⟨p, g, acc⟩ ⟨i1, i2, i3, i4⟩
 dsimp only at i1 i2 i3 i4 ⊢
 cases g with
 | zero => omega
 | succ g =>
 unfold eiE at i4
 refine Y ?_
 by_cases hp : p < s.length
 ·rw [show decide ((p : Int) < s.length) = true from decide_eq_true (by omega)]
  rw [if_pos hp] at i4
  have h1 := k'4h B s p 0 8 (by omega) i1 hl
  unfold lR tR at h1
  unfold k'4x at i4
  by_cases hc : s.length - p < 8
  ·rw [if_pos hc] at h1 i4
   dsimp only at h1 i4
   rw [i4]
   refine Y ?_
   refine k'1 [0] (h1) rfl rfl rfl ?_
   exact Z
  ·rw [if_neg hc] at h1 i4
   dsimp only at h1 i4
   generalize leN ((s.drop p).take 8) = n at *
   refine Y ?_
   refine l_cw [0] (h1) rfl rfl rfl ?_
   (try refine k'4l rfl ?_)
   refine k'4 (.assignOwn (.inr rfl) rfl) rfl rfl ?_
   refine Y ?_
   refine k'4 (.buildSlice (es := [uD n]) rfl rfl rfl rfl rfl rfl (by intro x hx; simp at hx; subst hx; rfl) (by simp) (by decide) (by decide)) rfl rfl ?_
   have hm : (acc.map uD).length + [uD n].length ≤ most := by simp [most]; omega
   refine k'4 (.append' rfl rfl rfl rfl ⟨_, _, rfl, rfl, by intro q; simp⟩ rfl rfl rfl rfl rfl (by rw [show [uD n] = [n].map uD from rfl, ← List.map_append]; exact u_fits _) (by decide) rfl hm rfl) rfl rfl ?_
   refine k'4 (.assignOwn (.inl rfl) rfl) rfl rfl ?_
   refine Y ?_
   exact ⟨(p + 8, g, acc ++ [n]), Nat.lt_succ_self g, ⟨by show p + 8 ≤ _; omega, by show s.length - (p + 8) < g; omega, by show (acc ++ [n]).length ≤ p + 8; simp; omega, by rw [i4]; cases eiE s g (p + 8) <;> simp⟩, ⟨rfl, by show T.own _ _ = owT _; rw [List.map_append]; rfl, rfl, trivial⟩, rfl, k'28 rfl⟩
 ·rw [show decide ((p : Int) < s.length) = false from decide_eq_false (by omega)]
  rw [if_neg hp] at i4
  dsimp only at i4
  rw [List.append_nil] at i4
  rw [i4]
  refine Y ?_
  (try refine k'4l rfl ?_)
  refine k'4 (.moveShare rfl rfl) rfl rfl ?_
  exact Z
theorem fixs_rd : NumsRd B 430 fixs := ⟨fun s hs => fixeds_calls B s hs, fun s l h => fixs_len h⟩
theorem rFixeds_calls (hB : BOk B) (e : Option Er) (u : List UInt8) (d n : Int) (l : List Fld) (num : Nat) (hl : LOk l) :
  k'0 (cx B) 368 [.ptr 0 0, iT num] [rO e u d n l] (.d (slD ((packF fixs n num l e).1.map uD))) [rO (packF fixs n num l e).2 u d n l] := by
 have h1 := packed_calls B hB 430 fixs (fixs_rd B) e u d n l num hl
 refine l_bw Tryz.func368 1 [] ?_
 refine k'1 [0] (h1) rfl rfl rfl ?_
 exact Z
theorem rFixeds_tells (hB : BOk B) (e : Option Er) (u : List UInt8) (d : Int) (n : Nat) (l : List Fld) (num : Nat) (hl : LOk l) :
  ∃ vs e', k'0 (cx B) 368 [.ptr 0 0, iT num] [rO e u d n l] (.d (slD (vs.map uD))) [rO e' u d n l] ∧ Tells n e (k'2j fixs num l) id vs e' :=
 ⟨_, _, rFixeds_calls B hB e u d n l num hl, packF_tells fixs_gc n num e l⟩
/-! Written. -/
theorem wr_opt (h : Bool) (n m : Nat) (h1 : 1 ≤ n) (h2 : n ≤ 536870911) : Wr B 395 [iT n, .d (.agg [.bool h, .int .u64 m])] (opV n h m) := fun a l ha hl => by
 cases h
 ·refine ⟨a, ha, ?_⟩
  rw [show opV n false m = [] from rfl, List.append_nil]
  rcases ha with rfl | rfl | rfl <;> (rcases l with _ | ⟨c, l⟩ <;> (
  refine l_b0 Tryz.func395 1 [] ?_
  exact Z))
 rw [show opV n true m = e8V n m from rfl] at hl ⊢
 obtain ⟨a', ha', h3⟩ := wr_eight B n m h1 h2 a l ha hl
 refine ⟨a', ha', ?_⟩
 generalize l ++ e8V n m = y at *
 rcases ha with rfl | rfl | rfl <;> (rcases ha' with rfl | rfl | rfl <;> (rcases l with _ | ⟨c, l⟩ <;> (rcases y with _ | ⟨c', y⟩ <;> (
 refine l_bw Tryz.func395 1 [] ?_
 refine k'1 [0] (h3) rfl rfl rfl ?_
 exact Z))))
theorem wr_fixeds (z : Bool) (n : Nat) (ns : List Nat) (h1 : 1 ≤ n) (h2 : n ≤ 536870911) (hns : ns.length < 8000000000) : Wr B 396 [iT n, .d (.sl z (ns.map uD))] (pwV n ns) := fun a l ha hl => by
 have hpw := packW_len ns
 have htl : (pwV n ns).length + l.length < 34359738368 := by unfold big at hl; omega
 obtain ⟨a', ha', h4⟩ := k'2g B n (packW ns) h1 h2 a l ha hl
 refine ⟨a', ha', ?_⟩
 have e1 : tagV 1 1 = [9] := rfl
 refine l_bw Tryz.func396 1 [] ?_
 have hlen : (ns.map uD).length = ns.length := by simp
 rw [hlen]
 refine k'14 (fun i : Nat => ns.length - i) (fun i => [(0, .ptr 0 0), (1, iT n), (6, .ptr 1 0), (9, .d (.sl z (ns.map uD))), (10, iT ns.length), (11, iT i)]) (fun i => [.mu [a, bT l], .mu [if i = 0 then .nw 69 2 else .me, bT (packW (ns.take i))]]) (fun i => i ≤ ns.length) 0 (by omega) ⟨rfl, rfl, rfl, rfl, rfl, rfl, trivial⟩ rfl 2 rfl (fun _ => rfl) (fun i => by
  have : adOk (if i = 0 then .nw 69 2 else .me) := by unfold adOk; split <;> simp
  simp [k'5 ha, k'5 this]) (fun _ => rfl) ?_
 intro i i1
 have ha2 : adOk (if i = 0 then .nw 69 2 else .me) := by unfold adOk; split <;> simp
 refine Y ?_
 refine k'1n rfl (fun hc => ?_) (fun hc => ?_)
 ·have hlt : i < ns.length := by have := of_decide_eq_true hc; omega
  obtain ⟨x, hx⟩ : ∃ x, ns[i]? = some x := ⟨_, List.getElem?_eq_getElem hlt⟩
  have hdx : (ns.map uD)[i]? = some (uD x) := by rw [List.getElem?_map, hx]; rfl
  have hpk : packW (ns.take i) ++ le8 x = packW (ns.take (i + 1)) := by rw [List.take_add_one, hx]; simp [packW]
  have hti := packW_len (ns.take i)
  have h8 := le8_len x
  have h0 := Fixed_calls B 1 x (by omega) (by omega)
  rw [e1] at h0
  have h3 := k'1i B _ (packW (ns.take i)) (le8 x) ha2 (by rw [hti, h8, List.length_take]; unfold most; omega)
  rw [hpk] at h3
  refine Y ?_
  refine k'4 (.indexAddr (k := .i64) (n := i) (es := ns.map uD) (u := uD x) rfl rfl rfl rfl (.inl ⟨_, rfl⟩) rfl (by omega) (by simpa using hdx) rfl (by decide)) rfl rfl ?_
  refine Y ?_
  refine k'1 [] (h0) rfl rfl rfl ?_
  refine k'4 (.sliceStr (s := [9] ++ le8 x) (l := 1) (h := 9) rfl rfl rfl rfl ⟨.i64, rfl⟩ (by show (9 : Nat) = ([9] ++ le8 x).length; simp [h8]) (by omega) (by simp [h8])) rfl rfl ?_
  rw [show ((([9] : List UInt8) ++ le8 x).drop 1).take (9 - 1) = le8 x by show (le8 x).take 8 = le8 x; rw [List.take_of_length_le (by omega)]]
  refine l_wr [1] (h3) ha2 (.inl rfl) ?_
  rw [wS i (by omega)]
  exact ⟨i + 1, by omega, by omega, ⟨rfl, rfl, rfl, rfl, rfl, rfl, trivial⟩, by simp [k'5 ha, k'5 (.inl rfl)], k'28 (by simp)⟩
 ·have hge : i = ns.length := by have := of_decide_eq_false hc; omega
  subst hge
  rw [List.take_length]
  generalize (if ns.length = 0 then T.nw 69 2 else .me) = aa at ha2 ⊢
  have h3 := k'2l B aa (packW ns) ha2 (by rw [hpw]; unfold most; omega)
  refine Y ?_
  refine k'1g [1] (h3) rfl rfl rfl rfl rfl rfl rfl (by decide) (by simp [k'5 ha2]) (by rcases ha2 with rfl | rfl | rfl <;> rfl) rfl rfl rfl ?_
  refine k'1g [0] (h4) rfl rfl rfl rfl rfl rfl rfl (by decide) (by simp [k'5 ha]) (by simp [k'5 ha']) rfl rfl rfl ?_
  refine Y ?_
  exact l_end trivial (by decide) rfl rfl rfl rfl (by simp [k'5 ha'])
/-! What may lack: may they be, are two alike. -/
def OpSh (x : D) : Prop := ∃ (a : Bool) (b : Nat), x = .agg [.bool a, .int .u64 b]
theorem IndexF_Op_calls : IdxP B 444 OpSh := k'2m B Tryz.func444
theorem k'4t (a : Bool) (b : Nat) : k'0 (cx B) 416 [.d (.agg [.bool a, .int .u64 b])] [] (.d (.bool (!k'1c a b))) [] := by
 unfold k'1c
 cases a
 rotate_left
 ·refine l_b0 Tryz.func416 0 [] ?_
  exact Z
 rw [show (!(false || b == 0)) = decide ((b : Int) > 0) by
  rcases Nat.eq_zero_or_pos b with rfl | h
  ·rfl
  ·rw [decide_eq_true (by omega)]; simp; omega]
 refine l_b0 Tryz.func416 0 [] ?_
 exact Z
theorem MayOpt3_calls (a1 : Bool) (n1 : Nat) (a2 : Bool) (n2 : Nat) (a3 : Bool) (n3 : Nat) : k'0 (cx B) 341 [.d (.sl false [.agg [.bool a1, .int .u64 n1], .agg [.bool a2, .int .u64 n2], .agg [.bool a3, .int .u64 n3]])] [] (.d (.bool (k'1c a1 n1 && k'1c a2 n2 && k'1c a3 n3))) [] := by
 have e1 : (k'1c a1 n1 && k'1c a2 n2 && k'1c a3 n3) = (List.range 3).all (fun i => ([k'1c a1 n1, k'1c a2 n2, k'1c a3 n3] : List Bool).getD i true) := by
  generalize k'1c a1 n1 = x
  generalize k'1c a2 n2 = y
  generalize k'1c a3 n3 = z
  cases x <;> cases y <;> cases z <;> rfl
 have h1 := IndexF_Op_calls B 416 [] false [.agg [.bool a1, .int .u64 n1], .agg [.bool a2, .int .u64 n2], .agg [.bool a3, .int .u64 n3]] (fun i => !([k'1c a1 n1, k'1c a2 n2, k'1c a3 n3] : List Bool).getD i true) (by simp) (fun x hx => by simp at hx; rcases hx with rfl | rfl | rfl <;> exact ⟨_, _, rfl⟩) (fun i x hx => by
  match i, hx with
  | 0, hx => simp at hx; subst hx; exact k'4t B a1 n1
  | 1, hx => simp at hx; subst hx; exact k'4t B a2 n2
  | 2, hx => simp at hx; subst hx; exact k'4t B a3 n3
  | i + 3, hx => simp at hx)
 have h2 : k'0 (cx B) 415 [.d (.sl false [.agg [.bool a1, .int .u64 n1], .agg [.bool a2, .int .u64 n2], .agg [.bool a3, .int .u64 n3]]), .d (.fn 416 [])] [] (.d (.bool (!(k'1c a1 n1 && k'1c a2 n2 && k'1c a3 n3)))) [] := by
  rw [e1]
  refine l_bw Tryz.func415 0 [] ?_
  refine l_cw [] (h1) rfl rfl rfl ?_
  rw [idx_all]
  exact k's rfl
 refine l_bw Tryz.func341 0 [] ?_
 refine l_cw [] (h2) rfl rfl rfl ?_
 rw [Bool.not_not]
 exact k's rfl
structure OptTy (P : Program) (t : TypeId) : Prop where
 ut : P.underlying t = some (.struct (P.fieldsOf t))
 hp : P.stoodInHeld t = false
 hm : P.eqGuardType P.depth t = false
 fs : ∃ f g, (P.fieldsOf t).toList = [f, g] ∧ (f.name == "_") = false ∧ (g.name == "_") = false ∧ f.offset = 0 ∧ g.offset = 1 ∧ P.underlying f.type = some .bool ∧ P.underlying g.type = some (.int .u64) ∧ P.plainKey f.type = true ∧ P.plainKey g.type = true
theorem opt_run {P : Program} {t : TypeId} (h : OptTy P t) (xo yo : Operand) (a b : Bool) (m n : Nat) (w : World) : (do eqGuard .eql t xo yo (.agg #[.bool a, .int .u64 m]) (.agg #[.bool b, .int .u64 n]); binOp .eql t (.agg #[.bool a, .int .u64 m]) (.agg #[.bool b, .int .u64 n])).run P w = .ok (.bool (a == b && m == n)) w := by
 obtain ⟨f, g, hf, m1, m2, o1, o2, u1, u2, p1, p2⟩ := h.fs
 have n1 : f.name ≠ "_" := ne_of_beq_false m1
 have n2 : g.name ≠ "_" := ne_of_beq_false m2
 rw [Sem.run_bind, run_eqGuard_agg w _ t xo yo _ _ h.hm]
 simp only [Result.andThen_ok]
 rw [run_eql_struct, run_equalIn_agg w 9999 t _ _ h.ut h.hp, hf]
 simp only [Op.eqFields, if_pos n1, if_pos n2, o1, o2, Sem.run_bind, Sem.run_ite]
 rw [run_part_plain (v := .bool a) w p1 rfl]
 simp only [Result.andThen_ok]
 rw [run_part_plain (v := .bool b) w p1 rfl]
 simp only [Result.andThen_ok]
 rw [run_equalIn_bool' w _ _ _ _ u1]
 simp only [Result.andThen_ok]
 cases a == b with
 | false => simp
 | true =>
  simp only [Bool.not_true, Bool.false_eq_true, if_false, Sem.run_bind]
  rw [run_part_plain (v := .int .u64 m) w p2 rfl]
  simp only [Result.andThen_ok]
  rw [run_part_plain (v := .int .u64 n) w p2 rfl]
  simp only [Result.andThen_ok]
  rw [run_equalIn_int w _ _ _ _ _ _ u2]
  simp only [Result.andThen_ok, Sem.run_ite, Sem.run_pure]
  rw [ibeq]
  cases m == n <;> simp
theorem _root_.Go.Abs.StepE.eqOpt {X : Ctx} {o : Oper} {v : Operand → T} {H : List Ob} {t t' : TypeId} {x y : Operand} {a b : Bool} {m n : Nat} (ho : o.op = .binOp .eql t x y t') (hx : v x = .d (.agg [.bool a, .int .u64 m])) (hy : v y = .d (.agg [.bool b, .int .u64 n])) (h : OptTy X.P t) : StepE X o v H ⟨.d (.bool (a == b && m == n)), none, H⟩ :=
 .psem (k'2c ho (by simp)) fun s hs N F ρ ac w next Q hd hr kk => by
  have ex := hs x (by rw [ho]; simp [Op.operands])
  have ey := hs y (by rw [ho]; simp [Op.operands])
  obtain ⟨lx, hx'⟩ := hr.val x
  obtain ⟨ly, hy'⟩ := hr.val y
  rw [ex, hx] at hx'
  rw [ey, hy] at hy'
  have e1 : ac.eval x = .agg #[.bool a, .int .u64 m] := by
   generalize ac.eval x = q at hx'
   cases hx' with | d h => cases h with | agg h => cases h with | cons h1 h2 => cases h1; cases h2 with | cons h3 h4 => cases h3; cases h4; rfl
  have e2 : ac.eval y = .agg #[.bool b, .int .u64 n] := by
   generalize ac.eval y = q at hy'
   cases hy' with | d h => cases h with | agg h => cases h with | cons h1 h2 => cases h1; cases h2 with | cons h3 h4 => cases h3; cases h4; rfl
  have hrun := opt_run h x y a b m n w
  refine k'm (v := .bool (a == b && m == n)) (w' := w) ?_ (kk F ρ _ w ?_ (Ext.refl F ρ w))
  ·rw [Sem.run_bind] at hrun
   simp only [execOp, ho, e1, e2, Sem.run_bind]
   revert hrun
   generalize (eqGuard BinOp.eql t x y (.agg #[.bool a, .int .u64 m]) (.agg #[.bool b, .int .u64 n])).run X.P w = g
   intro hrun
   cases g with
   | ok u w1 =>
    simp only [Result.andThen_ok] at hrun ⊢
    rw [hrun]
    rfl
   | halt x w1 => simp [Result.andThen] at hrun
  ·exact hr.put hd fun d _ => .d (.bool _)
theorem opt_ok : OptTy (cx B).P 185 where
 ut := by kernel_rfl
 hp := by kernel_rfl
 hm := by kernel_rfl
 fs := ⟨(Tryz.prog.fieldsOf 185)[0]'(of_decide_eq_true (by kernel_rfl)), (Tryz.prog.fieldsOf 185)[1]'(of_decide_eq_true (by kernel_rfl)), by kernel_rfl, by kernel_rfl, by kernel_rfl, by kernel_rfl, by kernel_rfl, by kernel_rfl, by kernel_rfl, by kernel_rfl, by kernel_rfl⟩
end
section
structure Hi where
 attrs : List Kv
 start : Nat
 time : Nat
 count : Nat
 sumH : Bool
 sum : Nat
 minH : Bool
 min : Nat
 maxH : Bool
 max : Nat
 counts : List Nat
 bounds : List Nat
 exs : List Em
 flags : Nat
 u : List UInt8
def noHi : Hi := ⟨[], 0, 0, 0, false, 0, false, 0, false, 0, [], [], [], 0, []⟩
def Hi.hb (x : Hi) : List UInt8 := fxV 2 x.start ++ fxV 3 x.time ++ fxV 4 x.count ++ opV 5 x.sumH x.sum ++ pwV 6 x.counts ++ pwV 7 x.bounds ++ psV 8 (x.exs.map Em.mar) ++ psV 9 (Kv.mars x.attrs) ++ vrV 10 x.flags ++ opV 11 x.minH x.min ++ opV 12 x.maxH x.max
def Hi.hF (x : Hi) : List Fld := fxF 2 x.start ++ fxF 3 x.time ++ fxF 4 x.count ++ opF 5 x.sumH x.sum ++ pwF 6 x.counts ++ pwF 7 x.bounds ++ psF 8 (x.exs.map Em.mar) ++ psF 9 (Kv.mars x.attrs) ++ vrF 10 x.flags ++ opF 11 x.minH x.min ++ opF 12 x.maxH x.max
def Hi.mar (x : Hi) : List UInt8 := x.hb ++ x.u
def tbH (n k : Nat) : Bool := bif [6, 7].contains n then (k == 2 || k == 1) else bif [2, 3, 4, 5, 11, 12].contains n then k == 1 else bif [8, 9].contains n then k == 2 else bif [10].contains n then k == 0 else false
theorem tbH_calls (n k : Nat) : k'0 (cx B) 342 [iT n, iT k] [] (.d (.bool (tbH n k))) [] := by
 refine l_bw Tryz.func342 0 [] ?_
 cases h0 : ((n : Int) == 6) with
 | true =>
  have e : n = 6 := by have := eq_of_beq h0; omega
  subst e
  rw [show tbH 6 k = ((k : Int) == 2 || (k : Int) == 1) by rw [show ((k : Int) == 2) = (k == 2) from ibeq k 2, show ((k : Int) == 1) = (k == 1) from ibeq k 1]; rfl]
  refine Y ?_
  cases hk : ((k : Int) == 2)
  rotate_left
  ·exact Z
  exact Z
 | false =>
 have eh0 : n ≠ 6 := by have := ne_of_beq_false h0; omega
 refine Y ?_
 cases h1 : ((n : Int) == 7) with
 | true =>
  have e : n = 7 := by have := eq_of_beq h1; omega
  subst e
  rw [show tbH 7 k = ((k : Int) == 2 || (k : Int) == 1) by rw [show ((k : Int) == 2) = (k == 2) from ibeq k 2, show ((k : Int) == 1) = (k == 1) from ibeq k 1]; rfl]
  refine Y ?_
  cases hk : ((k : Int) == 2)
  rotate_left
  ·exact Z
  exact Z
 | false =>
 have eh1 : n ≠ 7 := by have := ne_of_beq_false h1; omega
 refine Y ?_
 cases h2 : ((n : Int) == 2) with
 | true =>
  have e : n = 2 := by have := eq_of_beq h2; omega
  subst e
  rw [show tbH 2 k = ((k : Int) == 1) from (ibeq k 1).symm]
  exact Z
 | false =>
 have eh2 : n ≠ 2 := by have := ne_of_beq_false h2; omega
 refine Y ?_
 cases h3 : ((n : Int) == 3) with
 | true =>
  have e : n = 3 := by have := eq_of_beq h3; omega
  subst e
  rw [show tbH 3 k = ((k : Int) == 1) from (ibeq k 1).symm]
  exact Z
 | false =>
 have eh3 : n ≠ 3 := by have := ne_of_beq_false h3; omega
 refine Y ?_
 cases h4 : ((n : Int) == 4) with
 | true =>
  have e : n = 4 := by have := eq_of_beq h4; omega
  subst e
  rw [show tbH 4 k = ((k : Int) == 1) from (ibeq k 1).symm]
  exact Z
 | false =>
 have eh4 : n ≠ 4 := by have := ne_of_beq_false h4; omega
 refine Y ?_
 cases h5 : ((n : Int) == 5) with
 | true =>
  have e : n = 5 := by have := eq_of_beq h5; omega
  subst e
  rw [show tbH 5 k = ((k : Int) == 1) from (ibeq k 1).symm]
  exact Z
 | false =>
 have eh5 : n ≠ 5 := by have := ne_of_beq_false h5; omega
 refine Y ?_
 cases h6 : ((n : Int) == 11) with
 | true =>
  have e : n = 11 := by have := eq_of_beq h6; omega
  subst e
  rw [show tbH 11 k = ((k : Int) == 1) from (ibeq k 1).symm]
  exact Z
 | false =>
 have eh6 : n ≠ 11 := by have := ne_of_beq_false h6; omega
 refine Y ?_
 cases h7 : ((n : Int) == 12) with
 | true =>
  have e : n = 12 := by have := eq_of_beq h7; omega
  subst e
  rw [show tbH 12 k = ((k : Int) == 1) from (ibeq k 1).symm]
  exact Z
 | false =>
 have eh7 : n ≠ 12 := by have := ne_of_beq_false h7; omega
 refine Y ?_
 cases h8 : ((n : Int) == 8) with
 | true =>
  have e : n = 8 := by have := eq_of_beq h8; omega
  subst e
  rw [show tbH 8 k = ((k : Int) == 2) from (ibeq k 2).symm]
  exact Z
 | false =>
 have eh8 : n ≠ 8 := by have := ne_of_beq_false h8; omega
 refine Y ?_
 cases h9 : ((n : Int) == 9) with
 | true =>
  have e : n = 9 := by have := eq_of_beq h9; omega
  subst e
  rw [show tbH 9 k = ((k : Int) == 2) from (ibeq k 2).symm]
  exact Z
 | false =>
 have eh9 : n ≠ 9 := by have := ne_of_beq_false h9; omega
 refine Y ?_
 cases h10 : ((n : Int) == 10) with
 | true =>
  have e : n = 10 := by have := eq_of_beq h10; omega
  subst e
  rw [show tbH 10 k = ((k : Int) == 0) from (ibeq k 0).symm]
  exact Z
 | false =>
 have eh10 : n ≠ 10 := by have := ne_of_beq_false h10; omega
 refine Y ?_
 rw [show tbH n k = false from by unfold tbH; simp [eh0, eh1, eh2, eh3, eh4, eh5, eh6, eh7, eh8, eh9, eh10]]
 exact k's rfl
def Hi.wf (x : Hi) : Prop := (∀ k ∈ x.attrs, k.wf) ∧ x.start < 2 ^ 64 ∧ x.time < 2 ^ 64 ∧ x.count < 2 ^ 64 ∧ x.sum < 2 ^ 64 ∧ x.min < 2 ^ 64 ∧ x.max < 2 ^ 64 ∧ (∀ m ∈ x.counts, m < 2 ^ 64) ∧ (∀ m ∈ x.bounds, m < 2 ^ 64) ∧ (∀ k ∈ x.exs, k.wf) ∧ x.flags < 4294967296
def Hi.sz (x : Hi) : Nat := 300 + Kv.szs x.attrs + 8 * x.counts.length + 8 * x.bounds.length + (x.exs.map Em.sz).sum + x.u.length
def Hi.may (x : Hi) (d : Int) : Bool := decide (0 ≤ d) && (k'1c x.sumH x.sum && k'1c x.minH x.min && k'1c x.maxH x.max) && (x.exs.all fun k => k.may (d - 1)) && (x.attrs.all fun k => k.may (d - 1)) && k'1s tbH x.u d
theorem Hi.hb_len (x : Hi) : x.mar.length + 20 ≤ x.sz := by
 have q0 := k'10 2 x.start
 have q1 := k'10 3 x.time
 have q2 := k'10 4 x.count
 have q3 := k'25 5 x.sumH x.sum
 have q4 := pwV_len 6 x.counts
 have q5 := pwV_len 7 x.bounds
 have q6 := k'40 8 x.exs fun y _ => Em.mar_len y
 have q7 := Kv.marsP_len 9 x.attrs
 have q8 := k'2a 10 x.flags
 have q9 := k'25 11 x.minH x.min
 have q10 := k'25 12 x.maxH x.max
 unfold Hi.mar Hi.hb Hi.sz
 simp only [List.length_append]
 omega
theorem Hi.mar_len (x : Hi) : x.mar.length + 20 ≤ x.sz := Hi.hb_len x
theorem Hi.mars_lt {l : List Hi} (h : (l.map Hi.sz).sum < big) : ∀ s ∈ l.map Hi.mar, s.length < 2 ^ 64 := fun s hs => by
 obtain ⟨k, hk, rfl⟩ := List.mem_map.1 hs
 have h1 := Hi.mar_len k; have h2 := k'1h (sz := Hi.sz) hk
 unfold big at h; omega
theorem Hi.all {x : Hi} (h1 : x.sz < big) (h2 : x.wf) (d : Int) : all x.hb d = .ok x.hF := by
 unfold Hi.sz big at h1
 obtain ⟨w0, w1, w2, w3, w4, w5, w6, w7, w8, w9, w10⟩ := h2
 exact k'2 (k'2 (k'2 (k'2 (k'2 (k'2 (k'2 (k'2 (k'2 (k'2 (k'4p (by omega) (by omega) d (by omega)) (k'4p (by omega) (by omega) d (by omega))) (k'4p (by omega) (by omega) d (by omega))) (all_op (by omega) (by omega) d _ (by omega))) (all_pw 6 x.counts (by omega) (by omega) d (by omega))) (all_pw 7 x.bounds (by omega) (by omega) d (by omega))) (k'38 (by omega) (by omega) d (Em.mars_lt (by unfold big; omega)))) (k'38 (by omega) (by omega) d (Kv.mars_lt (by unfold big; omega)))) (all_vr (by omega) (by omega) d (by omega))) (all_op (by omega) (by omega) d _ (by omega))) (all_op (by omega) (by omega) d _ (by omega))
theorem Hi.inn (x : Hi) : inT tbH x.hF = true := by
 unfold Hi.hF
 simp only [k'3l, Bool.and_eq_true]
 exact ⟨⟨⟨⟨⟨⟨⟨⟨⟨⟨in_fx 2 x.start rfl, in_fx 3 x.time rfl⟩, in_fx 4 x.count rfl⟩, in_op 5 x.sum _ rfl⟩, in_pw 6 x.counts rfl⟩, in_pw 7 x.bounds rfl⟩, in_ps 8 _ rfl⟩, in_ps 9 _ rfl⟩, in_vr 10 x.flags rfl⟩, in_op 11 x.min _ rfl⟩, in_op 12 x.max _ rfl⟩
def tellHi (d : Int) (l : List Fld) : Option (List UInt8 → Hi) :=
 match k'3 (fun s => okK s (d - 1)) 9 l with
 | none => none
 | some attrs =>
 match k'2j fixs 6 l with
 | none => none
 | some counts =>
 match k'2j fixs 7 l with
 | none => none
 | some bounds =>
 match k'3 (fun s => okEm s (d - 1)) 8 l with
 | none => none
 | some exs =>
 some fun u => ⟨attrs, (k'6 l 2).n, (k'6 l 3).n, (k'6 l 4).n, (hasL l 5), (k'6 l 5).n, (hasL l 11), (k'6 l 11).n, (hasL l 12), (k'6 l 12).n, counts, bounds, exs, (k'6 l 10).n % 4294967296, u⟩
def okHi (s : List UInt8) (d : Int) : Option Hi := apO (okG tbH tellHi s d)
theorem Hi.tell {x : Hi} (hwf : x.wf) (h_sum : k'1c x.sumH x.sum = true) (h_min : k'1c x.minH x.min = true) (h_max : k'1c x.maxH x.max = true) (d : Int) : tellHi d x.hF = (
 match mapO (fun s => okK s (d - 1)) (Kv.mars x.attrs) with
 | none => none
 | some attrs =>
 match mapO (fun s => okEm s (d - 1)) ((x.exs.map Em.mar)) with
 | none => none
 | some exs =>
 some fun u => ⟨attrs, x.start, x.time, x.count, x.sumH, x.sum, x.minH, x.min, x.maxH, x.max, x.counts, x.bounds, exs, x.flags, u⟩) := by
 obtain ⟨w0, w1, w2, w3, w4, w5, w6, w7, w8, w9, w10⟩ := hwf
 have sattrs : sel 9 x.hF = psF 9 (Kv.mars x.attrs) := by unfold Hi.hF; simp [k'b, k'w, k'p, k'v, k'l, k'j, sel_pw]
 have tattrs : ∀ {α : Type} (ok : List UInt8 → Option α), k'3 ok 9 x.hF = mapO ok (Kv.mars x.attrs) := fun ok => k'19 ok sattrs
 have sstart : sel 2 x.hF = fxF 2 x.start := by unfold Hi.hF; simp [k'b, k'w, k'p, k'v, k'l, k'j, sel_pw]
 have tstart : (k'6 x.hF 2).n = x.start := k'2t sstart
 have stime : sel 3 x.hF = fxF 3 x.time := by unfold Hi.hF; simp [k'b, k'w, k'p, k'v, k'l, k'j, sel_pw]
 have ttime : (k'6 x.hF 3).n = x.time := k'2t stime
 have scount : sel 4 x.hF = fxF 4 x.count := by unfold Hi.hF; simp [k'b, k'w, k'p, k'v, k'l, k'j, sel_pw]
 have tcount : (k'6 x.hF 4).n = x.count := k'2t scount
 have ssum : sel 5 x.hF = opF 5 x.sumH x.sum := by unfold Hi.hF; simp [k'b, k'w, k'p, k'v, k'l, k'j, sel_pw]
 have tsum := opt_of (by omega) ssum h_sum
 have smin : sel 11 x.hF = opF 11 x.minH x.min := by unfold Hi.hF; simp [k'b, k'w, k'p, k'v, k'l, k'j, sel_pw]
 have tmin := opt_of (by omega) smin h_min
 have smax : sel 12 x.hF = opF 12 x.maxH x.max := by unfold Hi.hF; simp [k'b, k'w, k'p, k'v, k'l, k'j, sel_pw]
 have tmax := opt_of (by omega) smax h_max
 have scounts : sel 6 x.hF = pwF 6 x.counts := by unfold Hi.hF; simp [k'b, k'w, k'p, k'v, k'l, k'j, sel_pw]
 have tcounts : k'2j fixs 6 x.hF = some x.counts := pack_pw w7 scounts
 have sbounds : sel 7 x.hF = pwF 7 x.bounds := by unfold Hi.hF; simp [k'b, k'w, k'p, k'v, k'l, k'j, sel_pw]
 have tbounds : k'2j fixs 7 x.hF = some x.bounds := pack_pw w8 sbounds
 have sexs : sel 8 x.hF = psF 8 (x.exs.map Em.mar) := by unfold Hi.hF; simp [k'b, k'w, k'p, k'v, k'l, k'j, sel_pw]
 have texs : ∀ {α : Type} (ok : List UInt8 → Option α), k'3 ok 8 x.hF = mapO ok ((x.exs.map Em.mar)) := fun ok => k'19 ok sexs
 have sflags : sel 10 x.hF = vrF 10 x.flags := by unfold Hi.hF; simp [k'b, k'w, k'p, k'v, k'l, k'j, sel_pw]
 have tflags : (k'6 x.hF 10).n % 4294967296 = x.flags := by rw [last_vr sflags]; omega
 unfold tellHi
 simp only [tattrs, tstart, ttime, tcount, tsum.1, tsum.2, tmin.1, tmin.2, tmax.1, tmax.2, tcounts, tbounds, texs, tflags]
theorem Hi_back : Back okHi Hi.mar Hi.may (fun x => x.sz < big ∧ x.wf) := by
 intro d x hf hm
 obtain ⟨hbig, hwf⟩ := hf
 have hall := Hi.all hbig hwf
 have hwf0 := hwf
 have hbig' := hbig
 unfold Hi.sz big at hbig'
 obtain ⟨w_attrs, -, -, -, -, -, -, -, -, w_exs, -⟩ := hwf
 unfold Hi.may at hm
 simp only [Bool.and_eq_true, decide_eq_true_eq] at hm
 obtain ⟨⟨⟨⟨hd, ⟨⟨m_sum, m_min⟩, m_max⟩⟩, m_exs⟩, m_attrs⟩, hu⟩ := hm
 have htell := fun d => Hi.tell (x := x) hwf0 m_sum m_min m_max d
 obtain ⟨a_attrs, b_attrs⟩ := Kv_back.list (l := x.attrs) (d := d - 1) (fun k hk => ⟨by have := Kv.sz_mem hk; unfold big; omega, w_attrs k hk⟩) m_attrs
 simp only [← Kv.mars_map] at a_attrs b_attrs
 obtain ⟨a_exs, b_exs⟩ := Em_back.list (l := x.exs) (d := d - 1) (fun k hk => ⟨by have := k'1h (sz := Em.sz) hk; unfold big; omega, w_exs k hk⟩) m_exs
 constructor
 ·unfold okHi Hi.mar
  rw [k'z hd (hall d) x.inn hu, htell]
  simp only [a_attrs, a_exs]
  rfl
 ·intro e he hn
  unfold okHi Hi.mar
  cases hr : k'1s tbH x.u e with
  | false => rw [k'k (hall e) he hu fun _ => hr]; rfl
  | true =>
   rcases Int.lt_or_le e 0 with h0 | h0
   ·rw [k'1z h0]; rfl
   ·rw [k'z h0 (hall e) x.inn hr, htell]
    cases h_attrs : (x.attrs.all fun k => k.may (e - 1))
    ·have := b_attrs (e - 1) (by omega) h_attrs
     simp only [this]
     rfl
    cases h_exs : (x.exs.all fun k => k.may (e - 1))
    ·have := b_exs (e - 1) (by omega) h_exs
     simp only [this]
     all_goals (repeat' split) <;> rfl
    exfalso
    unfold Hi.may at hn
    simp [h0, hr, m_sum, m_min, m_max, h_attrs, h_exs] at hn
theorem Hi_told : Told okHi Hi.may Hi.wf Hi.sz 1200 := by
 intro d s x h
 obtain ⟨f, u, h1, rfl⟩ := k'2f h
 obtain ⟨l, -, h2, -, h4, hd, hf, hw⟩ := k'2z h1
 dsimp only at h2 h4 hw
 unfold tellHi at h2
 split at h2
 ·simp at h2
 rename_i attrs g_attrs
 split at h2
 ·simp at h2
 rename_i counts g_counts
 split at h2
 ·simp at h2
 rename_i bounds g_bounds
 split at h2
 ·simp at h2
 rename_i exs g_exs
 injection h2 with h2
 subst h2
 obtain ⟨p_attrs, q_attrs, r_attrs⟩ := Kv_told.parts hf g_attrs
 obtain ⟨p_exs, q_exs, r_exs⟩ := Em_told.parts hf g_exs
 have l_counts := packO_len (fun s l h => fixs_len h) hf g_counts
 have l_bounds := packO_len (fun s l h => fixs_len h) hf g_bounds
 refine ⟨?_, ⟨q_attrs, k'17 hf 2, k'17 hf 3, k'17 hf 4, k'17 hf 5, k'17 hf 11, k'17 hf 12, packO_lt2 (fun s l h => eiE_lt h) hf g_counts, packO_lt2 (fun s l h => eiE_lt h) hf g_bounds, q_exs, Nat.mod_lt _ (by decide)⟩, ?_⟩
 ·unfold Hi.may
  simp only [Bool.and_eq_true]
  exact ⟨⟨⟨⟨decide_eq_true hd, (⟨⟨opt_told, opt_told⟩, opt_told⟩)⟩, p_exs⟩, p_attrs⟩, h4⟩
 ·unfold Hi.sz
  simp only [Kv.szs_sum]
  omega
def Hi.eq (x y : Hi) : Bool := Kv.eqs x.attrs y.attrs && x.start == y.start && x.time == y.time && x.count == y.count && (x.sumH == y.sumH && x.sum == y.sum) && (x.minH == y.minH && x.min == y.min) && (x.maxH == y.maxH && x.max == y.max) && x.counts == y.counts && x.bounds == y.bounds && Em.eqs x.exs y.exs && x.flags == y.flags && x.u == y.u
def Hi.eqs : List Hi → List Hi → Bool
 | [], [] => true
 | v :: l, w :: r => v.eq w && Hi.eqs l r
 | [], _ :: _ => false
 | _ :: _, [] => false
theorem Hi.eq_self (x : Hi) : x.eq x = true := by unfold Hi.eq; simp [Kv.eqs_self, Em.eqs_self]
theorem Hi.eqs_self : ∀ l : List Hi, Hi.eqs l l = true
 | [] => rfl
 | v :: l => by unfold Hi.eqs; simp [Hi.eq_self v, Hi.eqs_self l]
theorem Hi.eqs_by (a b : List Hi) : Hi.eqs a b = (a.length == b.length && (List.range a.length).all (byI Hi.eq a b)) :=
 k'3n Hi.eq Hi.eqs rfl (fun _ _ _ _ => rfl) (fun _ _ => rfl) (fun _ _ => rfl) a b
end
