/- Exemplar: the reference tells if they may be, and their bytes. -/
import Derived.Test.YtnaojdjhjkendaaGreatDoorRS
import Derived.Test.YtnaojdjhjkendaaGreatDoorER
import Derived.Test.YtnaojdjhjkendaaGreatDoorPAB
import Derived.Laws.StructEq
import Derived.ChangeKeysEq
set_option linter.unusedSimpArgs false
set_option linter.unusedVariables false
set_option maxRecDepth 100000
namespace Go.Proofs.YtnaojdjhjkendaaGreatDoor
open Go Go.Abs
variable (B : Fr)
section
structure Qu where
 q : Nat
 v : Nat
 u : List UInt8
def noQu : Qu := ⟨0, 0, []⟩
def Qu.hb (x : Qu) : List UInt8 := fxV 1 x.q ++ fxV 2 x.v
def Qu.hF (x : Qu) : List Fld := fxF 1 x.q ++ fxF 2 x.v
def Qu.mar (x : Qu) : List UInt8 := x.hb ++ x.u
def tbG (n k : Nat) : Bool := bif [1, 2].contains n then k == 1 else false
theorem tbG_calls (n k : Nat) : k'5 (cx B) 265 [iT n, iT k] [] (.d (.bool (tbG n k))) [] := by
 refine l_bw Tryz.func265 0 [] ?_
 cases h0 : ((n : Int) == 1) with
 | true =>
  have e : n = 1 := by have := eq_of_beq h0; omega
  subst e
  rw [show tbG 1 k = ((k : Int) == 1) from (ibeq k 1).symm]
  exact O
 | false =>
 have eh0 : n ≠ 1 := by have := ne_of_beq_false h0; omega
 refine Z ?_
 cases h1 : ((n : Int) == 2) with
 | true =>
  have e : n = 2 := by have := eq_of_beq h1; omega
  subst e
  rw [show tbG 2 k = ((k : Int) == 1) from (ibeq k 1).symm]
  exact O
 | false =>
 have eh1 : n ≠ 2 := by have := ne_of_beq_false h1; omega
 refine Z ?_
 rw [show tbG n k = false from by unfold tbG; simp [eh0, eh1]]
 exact k'j rfl
def Qu.wf (x : Qu) : Prop := x.q < 2 ^ 64 ∧ x.v < 2 ^ 64
def Qu.sz (x : Qu) : Nat := 300 + 0 + x.u.length
def Qu.may (x : Qu) (d : Int) : Bool := decide (0 ≤ d) && restB tbG x.u d
theorem Qu.hb_len (x : Qu) : x.mar.length + 20 ≤ x.sz := by
 have q0 := k'26 1 x.q
 have q1 := k'26 2 x.v
 unfold Qu.mar Qu.hb Qu.sz
 simp only [List.length_append]
 omega
theorem Qu.mar_len (x : Qu) : x.mar.length + 20 ≤ x.sz := Qu.hb_len x
theorem Qu.mars_lt {l : List Qu} (h : (l.map Qu.sz).sum < big) : ∀ s ∈ l.map Qu.mar, s.length < 2 ^ 64 := fun s hs => by
 obtain ⟨k, hk, rfl⟩ := List.mem_map.1 hs
 have h1 := Qu.mar_len k; have h2 := k'3b (sz := Qu.sz) hk
 unfold big at h; omega
theorem Qu.all {x : Qu} (h1 : x.sz < big) (h2 : x.wf) (d : Int) : all x.hb d = .ok x.hF := by
 unfold Qu.sz big at h1
 obtain ⟨w0, w1⟩ := h2
 exact k'9 (k'3x (by omega) (by omega) d (by omega)) (k'3x (by omega) (by omega) d (by omega))
theorem Qu.inn (x : Qu) : inT tbG x.hF = true := by
 unfold Qu.hF
 simp only [inT_app, Bool.and_eq_true]
 exact ⟨in_fx 1 x.q rfl, in_fx 2 x.v rfl⟩
def tellQu (d : Int) (l : List Fld) : Option (List UInt8 → Qu) :=
 some fun u => ⟨(k'a l 1).n, (k'a l 2).n, u⟩
def okQu (s : List UInt8) (d : Int) : Option Qu := apO (okG tbG tellQu s d)
theorem Qu.tell {x : Qu} (hwf : x.wf) (d : Int) : tellQu d x.hF = (
 some fun u => ⟨x.q, x.v, u⟩) := by
 obtain ⟨w0, w1⟩ := hwf
 have sq : sel 1 x.hF = fxF 1 x.q := by unfold Qu.hF; simp [k'i, k'17, k'15, k'16, k'13, k'11]
 have tq : (k'a x.hF 1).n = x.q := k'24 sq
 have sv : sel 2 x.hF = fxF 2 x.v := by unfold Qu.hF; simp [k'i, k'17, k'15, k'16, k'13, k'11]
 have tv : (k'a x.hF 2).n = x.v := k'24 sv
 unfold tellQu
 simp only [tq, tv]
theorem Qu_told : Told okQu Qu.may Qu.wf Qu.sz 300 := by
 intro d s x h
 obtain ⟨f, u, h1, rfl⟩ := k'2z h
 obtain ⟨l, -, h2, -, h4, hd, hf, hw⟩ := k'3e h1
 dsimp only at h2 h4 hw
 unfold tellQu at h2
 injection h2 with h2
 subst h2
 refine ⟨?_, ⟨k'18 hf 1, k'18 hf 2⟩, ?_⟩
 ·unfold Qu.may
  simp only [Bool.and_eq_true]
  exact ⟨decide_eq_true hd, h4⟩
 ·unfold Qu.sz
  simp only [Kv.szs_sum]
  omega
def Qu.eq (x y : Qu) : Bool := x.q == y.q && x.v == y.v && x.u == y.u
def Qu.eqs : List Qu → List Qu → Bool
 | [], [] => true
 | v :: l, w :: r => v.eq w && Qu.eqs l r
 | [], _ :: _ => false
 | _ :: _, [] => false
theorem Qu.eq_self (x : Qu) : x.eq x = true := by unfold Qu.eq; simp [Kv.eqs_self]
theorem Qu.eqs_self : ∀ l : List Qu, Qu.eqs l l = true
 | [] => rfl
 | v :: l => by unfold Qu.eqs; simp [Qu.eq_self v, Qu.eqs_self l]
theorem Qu.eqs_by (a b : List Qu) : Qu.eqs a b = (a.length == b.length && (List.range a.length).all (byI Qu.eq a b)) :=
 k'4d Qu.eq Qu.eqs rfl (fun _ _ _ _ => rfl) (fun _ _ => rfl) (fun _ _ => rfl) a b
end
section
def eiE (s : List UInt8) : Nat → Nat → Except Er (List Nat)
 | 0, _ => .ok []
 | f + 1, p => if p < s.length then (match k'36 s p 8 with
   | .error e => .error e
   | .ok (l, q) => match eiE s f q with
    | .error e => .error e
    | .ok r => .ok (leN l :: r)) else .ok []
def fixs (s : List UInt8) : Except Er (List Nat) := eiE s (s.length + 1) 0
theorem eiE_len {s : List UInt8} : ∀ {f p : Nat} {l : List Nat}, eiE s f p = .ok l → l.length ≤ s.length - p
 | 0, p, l, h => by simp [eiE] at h; subst h; simp
 | f + 1, p, l, h => by
  unfold eiE at h
  split at h
  ·rename_i hp
   split at h <;> (try (simp at h; done))
   rename_i e
   obtain ⟨a, b, c, d, -⟩ := k'3n e (by omega)
   split at h <;> (try (simp at h; done))
   rename_i e2
   injection h with h; subst h
   have := eiE_len e2
   simp; omega
  ·injection h with h; subst h; simp
theorem fixs_len {s : List UInt8} {l : List Nat} (h : fixs s = .ok l) : l.length ≤ s.length := by have := eiE_len h; omega
theorem eiE_lt {s : List UInt8} : ∀ {f p : Nat} {l : List Nat}, eiE s f p = .ok l → ∀ n ∈ l, n < 2 ^ 64
 | 0, p, l, h => by simp [eiE] at h; subst h; simp
 | f + 1, p, l, h => by
  unfold eiE at h
  split at h
  ·rename_i hp
   split at h <;> (try (simp at h; done))
   rename_i e
   obtain ⟨a, b, c, d, -⟩ := k'3n e (by omega)
   split at h <;> (try (simp at h; done))
   rename_i e2
   injection h with h; subst h
   intro n hn
   rcases List.mem_cons.1 hn with rfl | hn
   ·exact leN_lt8 (by omega)
   ·exact eiE_lt e2 n hn
  ·injection h with h; subst h; simp
theorem eiE_err {s : List UInt8} : ∀ {f p : Nat} {e : Er}, eiE s f p = .error e → EIn s.length e
 | 0, p, e, h => by simp [eiE] at h
 | f + 1, p, e, h => by
  unfold eiE at h
  split at h
  ·rename_i hp
   split at h
   ·rename_i h1; injection h with h; subst h; exact takeE_err h1 (by omega)
   ·split at h
    ·rename_i h2; injection h with h; subst h; exact eiE_err h2
    ·simp at h
  ·simp at h
theorem fixs_gc (s : List UInt8) (e : Er) (h : fixs s = .error e) : gc (codeOf e) := (eiE_err h).2
theorem eiE_pack : ∀ (ns : List Nat) (x : List UInt8) (f : Nat), (∀ n ∈ ns, n < 2 ^ 64) → (packW ns).length < f → eiE (x ++ packW ns) f x.length = .ok ns
 | [], x, 0, _, h => by simp [packW] at h
 | [], x, f + 1, _, _ => by
  unfold eiE
  rw [if_neg (by simp [packW])]
 | n :: ns, x, 0, _, h => by omega
 | n :: ns, x, f + 1, hn, h => by
  have e : packW (n :: ns) = le8 n ++ packW ns := rfl
  have hp := le8_len n
  rw [e] at h ⊢
  rw [List.length_append] at h
  unfold eiE
  have ht : k'36 (x ++ (le8 n ++ packW ns)) x.length 8 = .ok (le8 n, x.length + 8) := by
   unfold k'36
   rw [if_neg (by simp; omega)]
   congr 2
   rw [List.drop_left, List.take_append_of_le_length (by omega), List.take_of_length_le (by omega)]
  rw [if_pos (by simp; omega), ht]
  dsimp only
  have ih := eiE_pack ns (x ++ le8 n) f (fun m hm => hn m (List.mem_cons_of_mem _ hm)) (by omega)
  rw [List.append_assoc, List.length_append, hp] at ih
  rw [ih, le8_N (hn n (List.mem_cons_self ..))]
theorem fixs_packW {ns : List Nat} (h : ∀ n ∈ ns, n < 2 ^ 64) : fixs (packW ns) = .ok ns := by
 have := eiE_pack ns [] ((packW ns).length + 1) h (by omega)
 simpa [fixs] using this
theorem packO_lt2 {rd : List UInt8 → Except Er (List Nat)} (hr : ∀ s l, rd s = .ok l → ∀ n ∈ l, n < 2 ^ 64) {num : Nat} : ∀ {l : List Fld} {ns : List Nat}, (∀ x ∈ l, FOk x) → k'p rd num l = some ns → ∀ n ∈ ns, n < 2 ^ 64
 | [], ns, _, h => by simp [k'p] at h; subst h; simp
 | x :: l, ns, hl, h => by
  have ih := fun {m} => packO_lt2 hr (num := num) (l := l) (ns := m) fun y hy => hl y (List.mem_cons_of_mem _ hy)
  unfold k'p at h
  split at h
  ·split at h
   ·split at h
    ·rename_i a ha
     obtain ⟨b, hb, rfl⟩ := Option.map_eq_some_iff.1 h
     intro n hn
     rcases List.mem_append.1 hn with hn | hn
     ·exact hr _ _ ha n hn
     ·exact ih hb n hn
    ·simp at h
   ·obtain ⟨b, hb, rfl⟩ := Option.map_eq_some_iff.1 h
    intro n hn
    rcases List.mem_cons.1 hn with rfl | hn
    ·exact (hl x (List.mem_cons_self ..)).n
    ·exact ih hb n hn
  ·exact ih h
theorem packO_sel (rd : List UInt8 → Except Er (List Nat)) (num : Nat) : ∀ l : List Fld, k'p rd num l = k'p rd num (sel num l)
 | [] => rfl
 | x :: l => by
  rw [k'2h]
  by_cases h : x.num = num
  ·rw [if_pos h]
   unfold k'p
   rw [if_pos h, if_pos h, packO_sel rd num l]
  ·rw [if_neg h]
   conv => lhs; unfold k'p
   rw [if_neg h]; exact packO_sel rd num l
theorem pack_pw {n : Nat} {cs : List Nat} {l : List Fld} (hc : ∀ m ∈ cs, m < 2 ^ 64) (h : sel n l = pwF n cs) : k'p fixs n l = some cs := by
 rw [packO_sel, h]
 refine tell_pk n (packW cs) (fun h0 => ?_) (fixs_packW hc)
 cases cs with
 | nil => rfl
 | cons c cs =>
  have := le8_len c
  have h1 : (packW (c :: cs)).length = 0 := by rw [h0]; rfl
  rw [packW_len] at h1; simp at h1
theorem pwV_len (n : Nat) (cs : List Nat) : (pwV n cs).length ≤ 20 + 8 * cs.length := by
 have := txV_len n (packW cs)
 rw [packW_len] at this
 exact this
section
variable (n m : Nat) (cs : List Nat)
theorem sel_pw : sel m (pwF n cs) = if n = m then pwF n cs else [] := k'13 n m _
theorem in_pw {tb : Nat → Nat → Bool} (h : tb n 2 = true) : inT tb (pwF n cs) = true := in_tx n _ h
theorem all_pw (h1 : 1 ≤ n) (h2 : n ≤ 536870911) (d : Int) (hl : cs.length < 2 ^ 40) : all (pwV n cs) d = .ok (pwF n cs) := all_tx h1 h2 d (by rw [packW_len]; omega)
end
/-! What may lack. -/
def k'48 (h : Bool) (n : Nat) : Bool := h || n == 0
theorem opt_of {n v : Nat} {b : Bool} {l : List Fld} (hn : n ≠ 0) (h : sel n l = opF n b v) (hm : k'48 b v = true) : hasL l n = b ∧ (k'a l n).n = v := by
 have h1 : k'a l n = k'a (opF n b v) n := by rw [← sel_last, h]
 obtain ⟨h2, h3⟩ := tell_op n v b (by unfold k'48 at hm; cases b with | true => exact .inl rfl | false => right; simpa using hm)
 unfold hasL
 rw [h1, h3]
 refine ⟨?_, rfl⟩
 cases b
 ·have : k'a (opF n false v) n = noFld := rfl
  rw [this]
  show (0 == n) = false
  simp; omega
 have : k'a (opF n true v) n = e8R n v := last_one n _ rfl
 rw [this]
 show (n == n) = true
 simp
theorem opt_told {n : Nat} {l : List Fld} : k'48 (hasL l n) (k'a l n).n = true := by
 unfold k'48 hasL
 cases ha : anyL l n with
 | true => obtain ⟨h1, h2⟩ := lastF_num ha; rw [h1]; simp
 | false => rw [lastF_no ha]; simp [noFld]
theorem fixeds_calls (s : List UInt8) (hl : s.length < big) : k'5 (cx B) 260 [sT s] [] (numsT (fixs s)) [] := by
 have hl' := hl
 unfold big at hl'
 refine l_bw Tryz.func260 0 [] ?_
 refine k'y (fun x : Nat × Nat × List Nat => x.2.1) (fun x => [(0, sT s), (4, owT (x.2.2.map uD)), (5, .ptr 0 0)]) (fun x => [rdOb s x.1 none 0])
  (fun x => x.1 ≤ s.length ∧ s.length - x.1 < x.2.1 ∧ x.2.2.length ≤ x.1 ∧ fixs s = (match eiE s x.2.1 x.1 with | .ok l => .ok (x.2.2 ++ l) | .error e => .error e)) (0, s.length + 1, []) ⟨by omega, by show s.length - 0 < s.length + 1; omega, by simp, ?_⟩ ⟨rfl, rfl, rfl, trivial⟩ rfl 1 rfl (fun _ => rfl) (fun _ => rfl) (fun _ => rfl) ?_
 ·show fixs s = _
  unfold fixs
  dsimp only
  split <;> (rename_i h; rw [h]) <;> rfl
 rintro ⟨p, g, acc⟩ ⟨i1, i2, i3, i4⟩
 dsimp only at i1 i2 i3 i4 ⊢
 cases g with
 | zero => omega
 | succ g =>
 unfold eiE at i4
 refine Z ?_
 by_cases hp : p < s.length
 ·rw [show decide ((p : Int) < s.length) = true from decide_eq_true (by omega)]
  rw [if_pos hp] at i4
  have h1 := k'3r B s p 0 8 (by omega) i1 hl
  unfold lR tR at h1
  unfold k'36 at i4
  by_cases hc : s.length - p < 8
  ·rw [if_pos hc] at h1 i4
   dsimp only at h1 i4
   rw [i4]
   refine Z ?_
   refine k'8 [0] (h1) rfl rfl rfl ?_
   exact O
  ·rw [if_neg hc] at h1 i4
   dsimp only at h1 i4
   generalize leN ((s.drop p).take 8) = n at *
   refine Z ?_
   refine l_cw [0] (h1) rfl rfl rfl ?_
   (try refine k'h rfl ?_)
   refine k'3 (.assignOwn (.inr rfl) rfl) rfl rfl ?_
   refine Z ?_
   refine k'3 (.buildSlice (es := [uD n]) rfl rfl rfl rfl rfl rfl (by intro x hx; simp at hx; subst hx; rfl) (by simp) (by decide) (by decide)) rfl rfl ?_
   have hm : (acc.map uD).length + [uD n].length ≤ most := by simp [most]; omega
   refine k'3 (.append' rfl rfl rfl rfl ⟨_, _, rfl, rfl, by intro q; simp⟩ rfl rfl rfl rfl rfl (by rw [show [uD n] = [n].map uD from rfl, ← List.map_append]; exact u_fits _) (by decide) rfl hm rfl) rfl rfl ?_
   refine k'3 (.assignOwn (.inl rfl) rfl) rfl rfl ?_
   refine Z ?_
   exact ⟨(p + 8, g, acc ++ [n]), Nat.lt_succ_self g, ⟨by show p + 8 ≤ _; omega, by show s.length - (p + 8) < g; omega, by show (acc ++ [n]).length ≤ p + 8; simp; omega, by rw [i4]; cases eiE s g (p + 8) <;> simp⟩, ⟨rfl, by show T.own _ _ = owT _; rw [List.map_append]; rfl, rfl, trivial⟩, rfl, k'g rfl⟩
 ·rw [show decide ((p : Int) < s.length) = false from decide_eq_false (by omega)]
  rw [if_neg hp] at i4
  dsimp only at i4
  rw [List.append_nil] at i4
  rw [i4]
  refine Z ?_
  (try refine k'h rfl ?_)
  refine k'3 (.moveShare rfl rfl) rfl rfl ?_
  exact O
theorem fixs_rd : NumsRd B 260 fixs := ⟨fun s hs => fixeds_calls B s hs, fun s l h => fixs_len h⟩
theorem rFixeds_calls (hB : BOk B) (e : Option Er) (u : List UInt8) (d n : Int) (l : List Fld) (num : Nat) (hl : LOk l) :
  k'5 (cx B) 174 [.ptr 0 0, iT num] [rO e u d n l] (.d (slD ((packF fixs n num l e).1.map uD))) [rO (packF fixs n num l e).2 u d n l] := by
 have h1 := packed_calls B hB 260 fixs (fixs_rd B) e u d n l num hl
 refine l_bw Tryz.func174 1 [] ?_
 refine k'8 [0] (h1) rfl rfl rfl ?_
 exact O
theorem rFixeds_tells (hB : BOk B) (e : Option Er) (u : List UInt8) (d : Int) (n : Nat) (l : List Fld) (num : Nat) (hl : LOk l) :
  ∃ vs e', k'5 (cx B) 174 [.ptr 0 0, iT num] [rO e u d n l] (.d (slD (vs.map uD))) [rO e' u d n l] ∧ Tells n e (k'p fixs num l) id vs e' :=
 ⟨_, _, rFixeds_calls B hB e u d n l num hl, packF_tells fixs_gc n num e l⟩
/-! Written. -/
/-! What may lack: may they be, are two alike. -/
theorem k'21 (a : Bool) (m : Nat) (b : Bool) (n : Nat) : k'5 (cx B) 107 [.d (.agg [.bool a, .int .u64 m]), .d (.agg [.bool b, .int .u64 n])] [] (.d (.bool (a == b && m == n))) [] := by
 refine l_bw Tryz.func107 0 [] ?_
 cases e : (a == b)
 ·exact O
 refine Z ?_
 rw [ibeq]
 exact k'j rfl
end
