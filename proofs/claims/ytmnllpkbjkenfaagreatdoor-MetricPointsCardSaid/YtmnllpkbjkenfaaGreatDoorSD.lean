/- Sides: buckets that may lack, as a part of a message. -/
import Derived.Test.YtmnllpkbjkenfaaGreatDoorPAB
set_option linter.unusedSimpArgs false
set_option linter.unusedVariables false
set_option maxRecDepth 100000
namespace Go.Proofs.YtmnllpkbjkenfaaGreatDoor
open Go Go.Abs
def Bk.mar (b : Bk) : List UInt8 := marB b.off b.cs b.u
def Bk.wf (b : Bk) : Prop := (-2147483648 ≤ b.off ∧ b.off < 2147483648) ∧ ∀ n ∈ b.cs, n < 2 ^ 64
def Bk.sz (b : Bk) : Nat := 120 + 10 * b.cs.length + b.u.length
def Bk.may (b : Bk) (d : Int) : Bool := mayB b.u d
def Bk.isNo (b : Bk) : Bool := b.off == 0 && b.u == [] && b.cs == []
def Bk.eq (a b : Bk) : Bool := a.off == b.off && a.u == b.u && a.cs == b.cs
theorem Bk.isNo_eq {b : Bk} (h : b.isNo = true) : b = noBk := by
 obtain ⟨o, cs, u⟩ := b
 unfold Bk.isNo at h
 simp at h
 obtain ⟨⟨rfl, rfl⟩, rfl⟩ := h
 rfl
theorem Bk.mar_len (b : Bk) : b.mar.length + 20 ≤ b.sz := by
 have := vrV_len 1 (k'26 b.off); have := pkV_len 2 b.cs
 unfold Bk.mar marB Bk.sz
 simp only [List.length_append]
 omega
theorem Bk_pk {b : Bk} (h : b.sz < big) : (k'3n b.cs).length < 2 ^ 64 := by
 have := packV_len b.cs
 unfold Bk.sz big at h; omega
theorem Bk_back : Back okB Bk.mar Bk.may (fun b => b.sz < big ∧ b.wf) := fun d b hf hm =>
 ⟨okB_mar hm hf.2.1.1 hf.2.1.2 hf.2.2 (Bk_pk hf.1), fun e he h => okB_less hm he hf.2.1.1 hf.2.1.2 (Bk_pk hf.1) h⟩
def sdV (n : Nat) (h : Bool) (b : Bk) : List UInt8 := if h then paV n b.mar else []
def sdF (n : Nat) (h : Bool) (b : Bk) : List Fld := if h then [paR n b.mar] else []
def maySd (h : Bool) (b : Bk) (d : Int) : Bool := if h then b.may d else b.isNo
def sdO (h : Bool) (b : Bk) (d : Int) : Option (Bool × Bk) := if h then (match okB b.mar d with | none => none | some x => some (true, x)) else some (false, noBk)
theorem sdV_len (n : Nat) (h : Bool) (b : Bk) : (sdV n h b).length ≤ b.sz := by
 unfold sdV
 have := b.mar_len
 split
 ·have := k'3z n b.mar; omega
 ·simp
section
variable (n m : Nat) (h : Bool) (b : Bk)
theorem sel_sd : sel m (sdF n h b) = if n = m then sdF n h b else [] := sel_of (by unfold sdF; split <;> simp [paR]) m
theorem in_sd {tb : Nat → Nat → Bool} (ht : tb n 2 = true) : inT tb (sdF n h b) = true := by unfold sdF inT; split <;> simp [isT, paR, ht]
theorem all_sd (h1 : 1 ≤ n) (h2 : n ≤ 536870911) (d : Int) (hb : b.sz < big) : all (sdV n h b) d = .ok (sdF n h b) := by
 unfold sdV sdF
 have := b.mar_len
 unfold big at hb
 split
 ·exact all_pa h1 h2 d (by omega)
 ·exact k'33 d
end
theorem part_sd {n : Nat} {h : Bool} {b : Bk} {l : List Fld} (d : Int) (hs : sel n l = sdF n h b) : partO (fun s => okB s d) noBk n l = sdO h b d := by
 unfold partO sdO
 rw [anyL_sel, bytesL_sel, hs]
 unfold sdF
 cases h with
 | false => rfl
 | true =>
  simp only [paR, if_true, List.isEmpty_cons, Bool.not_false, List.flatMap_cons, List.flatMap_nil, List.append_nil]
  cases okB b.mar d <;> rfl
theorem sd_back (h : Bool) (b : Bk) (d : Int) (hf : b.sz < big ∧ b.wf) (hm : maySd h b d = true) : sdO h b d = some (h, b) ∧ ∀ e, e ≤ d → maySd h b e = false → sdO h b e = none := by
 unfold maySd at hm ⊢
 unfold sdO
 cases h
 ·have hb : b = noBk := Bk.isNo_eq (by simpa using hm)
  subst hb
  refine ⟨rfl, fun e _ he => ?_⟩
  have : noBk.isNo = true := rfl
  simp [this] at he
 obtain ⟨h1, h2⟩ := Bk_back d b hf (by simpa using hm)
 exact ⟨by simp only [if_true, h1], fun e he hn => by simp only [if_true, h2 e he (by simpa using hn)]⟩
theorem last_zg {n : Nat} {o : Int} {l : List Fld} (h1 : -2147483648 ≤ o) (h2 : o < 2147483648) (h : sel n l = vrF n (k'26 o)) : zag32 (k'8 l n).n = o := by
 rw [last_vr h]; exact zag_zig h1 h2
variable (B : Fr)
theorem wr_side (z : Bool) (h : Bool) (b : Bk) (n : Nat) (d : Int) (h1 : 1 ≤ n) (h2 : n ≤ 536870911) (hb : b.sz < big) (hw : b.wf) (hm : maySd h b d = true) (hd1 : -9223372036854775808 ≤ d) (hd2 : d < 9223372036854775808) :
  Wr B 227 [iT n, .d (.bool h), .d (bkZ z b.off b.cs b.u), .d (.int .i64 d)] (sdV n h b) := fun a l ha hl => by
 unfold maySd at hm
 cases h
 ·refine ⟨a, ha, ?_⟩
  rw [show sdV n false b = [] from rfl, List.append_nil]
  rcases ha with rfl | rfl | rfl <;> (rcases l with _ | ⟨c, l⟩ <;> (
  refine k'2 (X := cx B) (fn := Tryz.f227) Tryz.func227 rfl rfl rfl rfl rfl 1 [] rfl rfl ?_
  exact Z))
 have c1 := MarshalZ B z b.off b.cs b.u d hw.1.1 hw.1.2 hw.2 (by unfold Bk.sz at hb; unfold big at *; omega) hd1 hd2
 have hm' : b.may d = true := by simpa using hm
 rw [if_pos (show mayB b.u d = true from hm')] at c1
 rw [show sdV n true b = paV n b.mar from rfl] at hl ⊢
 obtain ⟨a', ha', h4⟩ := wr_part B n b.mar h1 h2 a l ha hl
 refine ⟨a', ha', ?_⟩
 rw [show marB b.off b.cs b.u = b.mar from rfl] at c1
 generalize l ++ paV n b.mar = y at *
 rcases ha with rfl | rfl | rfl <;> (rcases ha' with rfl | rfl | rfl <;> (rcases l with _ | ⟨c, l⟩ <;> (rcases y with _ | ⟨c', y⟩ <;> (
 refine k'2 (X := cx B) (fn := Tryz.f227) Tryz.func227 rfl rfl rfl rfl rfl 1 [] rfl rfl ?_
 refine Y ?_
 refine l_cw [] (c1) rfl rfl rfl ?_
 refine k'3 [0] (h4) rfl rfl rfl ?_
 exact Z))))
theorem maySide_calls (z : Bool) (h : Bool) (b : Bk) (d : Int) (hb : b.sz < big) (hd1 : -9223372036854775808 ≤ d) (hd2 : d < 9223372036854775808) : k'1 (cx B) 263 [.d (.bool h), .d (bkZ z b.off b.cs b.u), .d (.int .i64 d)] [] (.d (.bool (maySd h b d))) [] := by
 unfold maySd
 cases h
 ·have c1 := SameZ B z true b.off b.cs b.u 0 [] [] (by unfold Bk.sz big at hb; omega)
  refine k'2 (X := cx B) (fn := Tryz.f263) Tryz.func263 rfl rfl rfl rfl rfl 0 [] rfl rfl ?_
  refine Y ?_
  refine k'3 [] (c1) rfl rfl rfl ?_
  exact Z
 have c1 := MayBucketsZ B z b.off b.cs b.u d (by unfold Bk.sz at hb; omega) hd1 hd2
 refine k'2 (X := cx B) (fn := Tryz.f263) Tryz.func263 rfl rfl rfl rfl rfl 0 [] rfl rfl ?_
 refine Y ?_
 refine k'3 [] (c1) rfl rfl rfl ?_
 exact Z
theorem Part_Bk_tells (hB : BOk B) {α : Type} (ok : List UInt8 → Option α) (sh : α → Bk) (z0 : α) (hz : sh z0 = noBk) (f : Nat) (cap : List D) (e : Option Er) (u : List UInt8) (d : Int) (n : Nat) (l : List Fld) (num : Nat) (hl : LOk l) (hd1 : anyL l num = true → -9223372036854775808 < d) (hd2 : d < 9223372036854775808)
  (h : anyL l num = true → RdAt B f cap Bk.d sh (ok (k'1n l num)) (k'1n l num) (d - 1)) :
  ∃ (v : Bool × Bk) (e' : Option Er), k'1 (cx B) 207 [.ptr 0 0, iT num, .d (.fn f cap)] [rO e u d n l] (.tup [.d v.2.d, .d (.bool v.1)]) [rO e' u d n l] ∧ Tells n e (partO ok z0 num l) (fun p => (p.1, sh p.2)) v e' := by
 unfold partO
 cases h0 : anyL l num with
 | false => exact ⟨(false, noBk), e, Part_Bk_none B f cap e u d n l num hl h0, by cases e with | some x => rfl | none => exact ⟨by show (false, noBk) = (false, sh z0); rw [hz], rfl⟩⟩
 | true =>
  have h := h h0
  unfold RdAt at h
  simp only [if_true]
  cases ho : ok (k'1n l num) with
  | some x =>
   rw [ho] at h
   refine ⟨(true, sh x), k'4c n num e none, Part_Bk_calls B hB f cap (sh x) none e u d n l num hl (hd1 h0) hd2 h0 h, ?_⟩
   rw [failE_nn]
   cases e with
   | some y => rfl
   | none => exact ⟨rfl, rfl⟩
  | none =>
   rw [ho] at h
   obtain ⟨y, er, h1, h2⟩ := h
   refine ⟨(true, y), k'4c n num e (some er), Part_Bk_calls B hB f cap y (some er) e u d n l num hl (hd1 h0) hd2 h0 h2, ?_⟩
   cases e with
   | some y => rfl
   | none =>
    obtain ⟨e1, g1, g2⟩ := k'4j n num er h1.2
    exact ⟨e1, g1, g2⟩
theorem UB_rd (hB : BOk B) (s : List UInt8) (d : Int) (hl : s.length < big) (hd1 : -9223372036854775808 ≤ d) (hd2 : d < 9223372036854775808) : RdAt B 208 [] Bk.d id (okB s d) s d := by
 have h1 := k'45 B hB s d hl hd1 hd2
 unfold RdAt
 cases ho : okB s d with
 | some b =>
  rw [okB_some ho] at h1; exact h1
 | none =>
  obtain ⟨e, he⟩ := okB_none ho
  have hin := ubB_err (s := s) (d := d) (e := e) (by rw [he])
  rw [he] at h1
  exact ⟨noBk, e, hin, h1⟩
