/- Exp: the reference tells if they may be, and their bytes. -/
import Derived.Test.YtnaojdjhjkendaaGreatDoorWF
import Derived.Test.YtnaojdjhjkendaaGreatDoorQP
import Derived.Test.YtnaojdjhjkendaaGreatDoorQR
import Derived.Test.YtnaojdjhjkendaaGreatDoorNL
import Derived.Test.YtnaojdjhjkendaaGreatDoorHL
import Derived.Test.YtnaojdjhjkendaaGreatDoorQL
import Derived.Test.YtnaojdjhjkendaaGreatDoorSM
set_option linter.unusedSimpArgs false
set_option linter.unusedVariables false
set_option maxRecDepth 100000
namespace Go.Proofs.YtnaojdjhjkendaaGreatDoor
open Go Go.Abs
variable (B : Fr)
section
structure In where
 nbs : List Nb
 his : List Hi
 ehs : List Eh
 sus : List Su
 temp : Int
 mono : Bool
 u : List UInt8
def noIn : In := ⟨[], [], [], [], 0, false, []⟩
def tempN (t : Int) : Nat := (if t < 0 then t + 18446744073709551616 else t).toNat
def k'31 (n : Nat) : Int := if n % 4294967296 < 2147483648 then ((n % 4294967296 : Nat) : Int) else ((n % 4294967296 : Nat) : Int) - 4294967296
theorem tempN_lt {t : Int} (h1 : -2147483648 ≤ t) (h2 : t < 2147483648) : tempN t < 2 ^ 64 := by unfold tempN; split <;> omega
theorem temp32_lt (n : Nat) : -2147483648 ≤ k'31 n ∧ k'31 n < 2147483648 := by unfold k'31; split <;> omega
def numK (k : Int) : Nat := if k = 1 then 5 else if k = 2 then 7 else if k = 3 then 9 else if k = 4 then 10 else if k = 5 then 11 else 0
def k'3m (n : Nat) : Int := if n = 5 then 1 else if n = 7 then 2 else if n = 9 then 3 else if n = 10 then 4 else if n = 11 then 5 else 0
def tbI (k : Int) (n kd : Nat) : Bool := bif n == 1 then kd == 2 else bif n == 2 then kd == 0 && (decide (2 ≤ k) && decide (k ≤ 4)) else bif n == 3 then kd == 0 && k == 2 else false
def In.hb (x : In) : List UInt8 := psV 1 (x.nbs.map Nb.mar) ++ psV 1 (x.his.map Hi.mar) ++ psV 1 (x.ehs.map Eh.mar) ++ psV 1 (x.sus.map Su.mar) ++ vrV 2 (tempN x.temp) ++ flV 3 x.mono
def In.hF (x : In) : List Fld := psF 1 (x.nbs.map Nb.mar) ++ psF 1 (x.his.map Hi.mar) ++ psF 1 (x.ehs.map Eh.mar) ++ psF 1 (x.sus.map Su.mar) ++ vrF 2 (tempN x.temp) ++ flF 3 x.mono
def In.mar (x : In) : List UInt8 := x.hb ++ x.u
def In.wf (x : In) : Prop := (∀ k ∈ x.nbs, k.wf) ∧ (∀ k ∈ x.his, k.wf) ∧ (∀ k ∈ x.ehs, k.wf) ∧ (∀ k ∈ x.sus, k.wf) ∧ (-2147483648 ≤ x.temp ∧ x.temp < 2147483648)
def In.sz (x : In) : Nat := 300 + (x.nbs.map Nb.sz).sum + (x.his.map Hi.sz).sum + (x.ehs.map Eh.sz).sum + (x.sus.map Su.sz).sum + x.u.length
def bareI (k : Int) (x : In) : Bool := (k == 1 || k == 2 || x.nbs.isEmpty) && (k == 3 || x.his.isEmpty) && (k == 4 || x.ehs.isEmpty) && (k == 5 || x.sus.isEmpty) && (decide (2 ≤ k) && decide (k ≤ 4) || x.temp == 0) && (k == 2 || !x.mono)
def In.pts (x : In) (d : Int) : Bool := (x.nbs.all fun y => y.may d) && (x.his.all fun y => y.may d) && (x.ehs.all fun y => y.may d) && (x.sus.all fun y => y.may d)
def mayI (k : Int) (x : In) (d : Int) : Bool := decide (0 ≤ d) && x.pts (d - 1) && restB (tbI k) x.u d
def In.isNo (x : In) : Bool := x.u == []
def mayOn (k : Int) (x : In) (d : Int) : Bool := decide (0 ≤ k) && decide (k ≤ 5) && bareI k x && (if k = 0 then x.isNo else mayI k x d)
theorem flV_len (n : Nat) (b : Bool) : (flV n b).length ≤ 20 := by
 unfold flV; split
 ·exact fewV_len n 1
 ·simp
theorem In.mar_len (x : In) : x.mar.length + 20 ≤ x.sz := by
 have q0 := psV_sum 1 x.nbs fun y _ => Nb.mar_len y
 have q1 := psV_sum 1 x.his fun y _ => Hi.mar_len y
 have q2 := psV_sum 1 x.ehs fun y _ => Eh.mar_len y
 have q3 := psV_sum 1 x.sus fun y _ => Su.mar_len y
 have q4 := vrV_len 2 (tempN x.temp)
 have q5 := flV_len 3 x.mono
 unfold In.mar In.hb In.sz
 simp only [List.length_append]
 omega
theorem In.all {x : In} (h1 : x.sz < big) (h2 : x.wf) (d : Int) : all x.hb d = .ok x.hF := by
 unfold In.sz big at h1
 obtain ⟨w0, w1, w2, w3, w4⟩ := h2
 exact k'9 (k'9 (k'9 (k'9 (k'9 (k'4k (by omega) (by omega) d (Nb.mars_lt (by unfold big; omega))) (k'4k (by omega) (by omega) d (Hi.mars_lt (by unfold big; omega)))) (k'4k (by omega) (by omega) d (Eh.mars_lt (by unfold big; omega)))) (k'4k (by omega) (by omega) d (Su.mars_lt (by unfold big; omega)))) (all_vr (by omega) (by omega) d (tempN_lt w4.1 w4.2))) (all_fl (by omega) (by omega) d _)
theorem In.inn {k : Int} {x : In} (h : bareI k x = true) : inT (tbI k) x.hF = true := by
 unfold bareI at h
 simp only [Bool.and_eq_true] at h
 obtain ⟨⟨⟨⟨⟨-, -⟩, -⟩, -⟩, ht⟩, hm⟩ := h
 unfold In.hF
 simp only [inT_app, Bool.and_eq_true]
 refine ⟨⟨⟨⟨⟨in_ps 1 _ rfl, in_ps 1 _ rfl⟩, in_ps 1 _ rfl⟩, in_ps 1 _ rfl⟩, ?_⟩, ?_⟩
 ·by_cases h0 : x.temp = 0
  ·rw [h0]; rfl
  ·have : (decide (2 ≤ k) && decide (k ≤ 4)) = true := by simpa [h0] using ht
   exact in_vr 2 _ (by show (0 == 0 && (decide (2 ≤ k) && decide (k ≤ 4))) = true; rw [this]; rfl)
 ·cases h0 : x.mono with
  | false => rfl
  | true =>
   have : (k == 2) = true := by simpa [h0] using hm
   exact in_fl 3 _ (by show (0 == 0 && k == 2) = true; rw [this]; rfl)
def ptsI (k : Int) (d : Int) (l : List Fld) : Option In :=
 if k = 1 ∨ k = 2 then (match k'7 (fun s => okNb s (d - 1)) 1 l with | none => none | some v => some ⟨v, [], [], [], 0, false, []⟩)
 else if k = 3 then (match k'7 (fun s => okHi s (d - 1)) 1 l with | none => none | some v => some ⟨[], v, [], [], 0, false, []⟩)
 else if k = 4 then (match k'7 (fun s => okEh s (d - 1)) 1 l with | none => none | some v => some ⟨[], [], v, [], 0, false, []⟩)
 else (match k'7 (fun s => okSu s (d - 1)) 1 l with | none => none | some v => some ⟨[], [], [], v, 0, false, []⟩)
def tellI (k : Int) (d : Int) (l : List Fld) : Option (List UInt8 → In) :=
 match ptsI k d l with
 | none => none
 | some p => some fun u => ⟨p.nbs, p.his, p.ehs, p.sus, k'31 (k'a l 2).n, decide (0 < (k'a l 3).n), u⟩
def okI (k : Int) (s : List UInt8) (d : Int) : Option In := apO (okG (tbI k) (tellI k) s d)
theorem tbI_has {k : Int} {l : List Fld} {n : Nat} (h : ∀ kd, tbI k n kd = false) : (k'a (k'1 (tbI k) l) n).n = 0 := by
 have : anyL (k'1 (tbI k) l) n = false := by
  unfold anyL
  cases hh : (k'1 (tbI k) l).any fun x => x.num == n with
  | false => rfl
  | true =>
   obtain ⟨x, hx, hn⟩ := List.any_eq_true.1 hh
   have h1 : tbI k x.num x.kind = true := (List.mem_filter.1 hx).2
   rw [eq_of_beq hn, h] at h1
   simp at h1
 rw [lastF_no this]; rfl
theorem I_told {k : Int} (hk1 : 1 ≤ k) (hk2 : k ≤ 5) {d : Int} {s : List UInt8} {x : In} (h : okI k s d = some x) : bareI k x = true ∧ mayI k x d = true ∧ x.wf ∧ x.sz ≤ 1400 + 1400 * s.length := by
 obtain ⟨f, u, h1, rfl⟩ := k'2z h
 obtain ⟨l, -, h2, -, h4, hd, hf, hw⟩ := k'3e h1
 dsimp only at h2 h4 hw
 unfold tellI at h2
 split at h2
 ·simp at h2
 rename_i p hp
 injection h2 with h2
 subst h2
 have e2 : (decide (2 ≤ k) && decide (k ≤ 4) || k'31 (k'a (k'1 (tbI k) l) 2).n == 0) = true := by
  cases hc : (decide (2 ≤ k) && decide (k ≤ 4)) with
  | true => rfl
  | false =>
   rw [tbI_has (n := 2) fun kd => by show (kd == 0 && (decide (2 ≤ k) && decide (k ≤ 4))) = false; rw [hc, Bool.and_false]]
   rfl
 have e3 : (k == 2 || !decide (0 < (k'a (k'1 (tbI k) l) 3).n)) = true := by
  cases hc : (k == 2) with
  | true => rfl
  | false =>
   rw [tbI_has (n := 3) fun kd => by show (kd == 0 && k == 2) = false; rw [hc, Bool.and_false]]
   rfl
 have hk : (k = 1 ∨ k = 2) ∨ k = 3 ∨ k = 4 ∨ k = 5 := by omega
 unfold ptsI at hp
 rcases hk with hk | hk | hk | hk
 ·rw [if_pos hk] at hp
  split at hp
  ·simp at hp
  rename_i v hv
  injection hp with hp
  subst hp
  obtain ⟨a1, a2, a3⟩ := Nb_told.parts hf hv
  refine ⟨?_, ?_, ⟨a2, (by intro k hk; cases hk), (by intro k hk; cases hk), (by intro k hk; cases hk), temp32_lt _⟩, ?_⟩
  ·unfold bareI
   dsimp only
   rw [e2, e3]
   rcases hk with rfl | rfl <;> simp [noIn]
  ·unfold mayI In.pts
   dsimp only
   rw [decide_eq_true hd, h4, a1]
   rfl
  ·unfold In.sz
   simp [noIn]
   omega
 ·rw [if_neg (by omega), if_pos hk] at hp
  split at hp
  ·simp at hp
  rename_i v hv
  injection hp with hp
  subst hp
  obtain ⟨a1, a2, a3⟩ := Hi_told.parts hf hv
  refine ⟨?_, ?_, ⟨(by intro k hk; cases hk), a2, (by intro k hk; cases hk), (by intro k hk; cases hk), temp32_lt _⟩, ?_⟩
  ·unfold bareI
   dsimp only
   rw [e2, e3]
   subst hk; simp [noIn]
  ·unfold mayI In.pts
   dsimp only
   rw [decide_eq_true hd, h4, a1]
   rfl
  ·unfold In.sz
   simp [noIn]
   omega
 ·rw [if_neg (by omega), if_neg (by omega), if_pos hk] at hp
  split at hp
  ·simp at hp
  rename_i v hv
  injection hp with hp
  subst hp
  obtain ⟨a1, a2, a3⟩ := Eh_told.parts hf hv
  refine ⟨?_, ?_, ⟨(by intro k hk; cases hk), (by intro k hk; cases hk), a2, (by intro k hk; cases hk), temp32_lt _⟩, ?_⟩
  ·unfold bareI
   dsimp only
   rw [e2, e3]
   subst hk; simp [noIn]
  ·unfold mayI In.pts
   dsimp only
   rw [decide_eq_true hd, h4, a1]
   rfl
  ·unfold In.sz
   simp [noIn]
   omega
 ·rw [if_neg (by omega), if_neg (by omega), if_neg (by omega)] at hp
  split at hp
  ·simp at hp
  rename_i v hv
  injection hp with hp
  subst hp
  obtain ⟨a1, a2, a3⟩ := Su_told.parts hf hv
  refine ⟨?_, ?_, ⟨(by intro k hk; cases hk), (by intro k hk; cases hk), (by intro k hk; cases hk), a2, temp32_lt _⟩, ?_⟩
  ·unfold bareI
   dsimp only
   rw [e2, e3]
   subst hk; simp [noIn]
  ·unfold mayI In.pts
   dsimp only
   rw [decide_eq_true hd, h4, a1]
   rfl
  ·unfold In.sz
   simp [noIn]
   omega
def In.eq (x y : In) : Bool := Nb.eqs x.nbs y.nbs && Hi.eqs x.his y.his && Eh.eqs x.ehs y.ehs && Su.eqs x.sus y.sus && x.temp == y.temp && x.mono == y.mono && x.u == y.u
theorem In.eq_self (x : In) : x.eq x = true := by unfold In.eq; simp [Nb.eqs_self, Hi.eqs_self, Eh.eqs_self, Su.eqs_self]
/-! The one that counts of a metric's kinds. -/
def onNs : List Nat := [5, 7, 9, 10, 11]
def onOk (k : Int) : Prop := 1 ≤ k ∧ k ≤ 5
instance (k : Int) : Decidable (onOk k) := inferInstanceAs (Decidable (1 ≤ k ∧ k ≤ 5))
def onV (k : Int) (x : In) : List UInt8 := if onOk k then paV (numK k) x.mar else []
def onF (k : Int) (x : In) : List Fld := if onOk k then [paR (numK k) x.mar] else []
theorem numK_ok {k : Int} (h : onOk k) : onNs.contains (numK k) = true ∧ k'3m (numK k) = k ∧ 1 ≤ numK k ∧ numK k ≤ 536870911 ∧ numK k ≠ 1 ∧ numK k ≠ 2 ∧ numK k ≠ 3 ∧ numK k ≠ 12 := by
 have hk : k = 1 ∨ k = 2 ∨ k = 3 ∨ k = 4 ∨ k = 5 := by unfold onOk at h; omega
 rcases hk with rfl | rfl | rfl | rfl | rfl <;> decide
theorem kindK_ok {n : Nat} (h : onNs.contains n = true) : onOk (k'3m n) ∧ numK (k'3m n) = n := by
 have : n = 5 ∨ n = 7 ∨ n = 9 ∨ n = 10 ∨ n = 11 := by simpa [onNs] using h
 rcases this with rfl | rfl | rfl | rfl | rfl <;> decide
def onO (d : Int) (l : List Fld) : Option (Int × In) :=
 if (oneF onNs l).num = 0 then some (0, noIn) else (match okI (k'3m (oneF onNs l).num) (oneF onNs l).all.flatten (d - 1) with | none => none | some x => some (k'3m (oneF onNs l).num, x))
def onS (k : Int) (x : In) (d : Int) : Option (Int × In) := onO d (onF k x)
theorem onV_len (k : Int) (x : In) : (onV k x).length ≤ x.sz := by
 have := x.mar_len
 unfold onV
 split
 ·have := k'3t (numK k) x.mar; omega
 ·simp
theorem onO_sel (d : Int) {l : List Fld} {k : Int} {x : In} (h : selN onNs l = onF k x) : onO d l = onS k x d := by
 have e : oneF onNs l = oneF onNs (onF k x) := by rw [← oneF_selN onNs l, h]
 unfold onS onO
 rw [e]
theorem selN_on (k : Int) (x : In) : selN onNs (onF k x) = onF k x := by
 unfold onF
 split
 ·rename_i h
  exact selN_of (n := numK k) (by simp [paR]) onNs |>.trans (by rw [(numK_ok h).1]; rfl)
 ·rfl
theorem k'46 (m : Nat) (k : Int) (x : In) (hm : onNs.contains m = false) : sel m (onF k x) = [] := by
 unfold onF
 split
 ·rename_i h
  have : numK k ≠ m := fun e => by have := (numK_ok h).1; rw [e, hm] at this; simp at this
  rw [sel_of (n := numK k) (by simp [paR]) m, if_neg this]
 ·rfl
theorem in_on {tb : Nat → Nat → Bool} (k : Int) (x : In) (ht : ∀ n, onNs.contains n = true → tb n 2 = true) : inT tb (onF k x) = true := by
 unfold onF inT
 split
 ·rename_i h; simp [isT, paR, ht _ (numK_ok h).1]
 ·rfl
theorem all_on (k : Int) (x : In) (d : Int) (hb : x.sz < big) : all (onV k x) d = .ok (onF k x) := by
 unfold onV onF
 have := x.mar_len
 unfold big at hb
 split
 ·rename_i h
  obtain ⟨-, -, h1, h2, -⟩ := numK_ok h
  exact all_pa h1 h2 d (by omega)
 ·exact all_nil d
theorem on_told {l : List Fld} {p : Int × In} {d : Int} (hl : ∀ x ∈ l, FOk x) (h : onO d l = some p) : mayOn p.1 p.2 (d - 1) = true ∧ p.2.wf ∧ p.2.sz ≤ 1400 + 1400 * wt l := by
 unfold onO at h
 obtain ⟨-, -, hw, hn⟩ := oneF_ok (ns := onNs) hl
 split at h
 ·injection h with h; subst h
  refine ⟨rfl, ⟨(by intro k hk; cases hk), (by intro k hk; cases hk), (by intro k hk; cases hk), (by intro k hk; cases hk), by decide, by decide⟩, ?_⟩
  show 300 + 0 + 0 + 0 + 0 + 0 ≤ _
  omega
 ·rename_i h0
  rcases hn with hn | ⟨hn, -⟩
  ·exact absurd hn h0
  obtain ⟨hk, -⟩ := kindK_ok hn
  split at h
  ·simp at h
  rename_i x hx
  injection h with h; subst h
  obtain ⟨b1, b2, b3, b4⟩ := I_told hk.1 hk.2 hx
  refine ⟨?_, b3, ?_⟩
  ·unfold mayOn
   dsimp only
   rw [decide_eq_true (show 0 ≤ k'3m (oneF onNs l).num by have := hk.1; omega), decide_eq_true hk.2, b1, if_neg (by have := hk.1; omega), b2]
   rfl
  ·show x.sz ≤ _
   omega
/-! Texts. -/
theorem text_of {n : Nat} {s : List UInt8} {l : List Fld} (h : sel n l = txF n s) (ht : txt s = true) : k'1p n l = some s := by
 unfold k'1p
 rw [h, last_tx h]
 unfold txF
 split
 ·rfl
 ·simp [paR, ht]
theorem text_told {n : Nat} {s : List UInt8} {l : List Fld} (hl : ∀ x ∈ l, FOk x) (h : k'1p n l = some s) : txt s = true ∧ s.length ≤ wt l := by
 unfold k'1p at h
 split at h
 ·rename_i ht
  injection h with h; subst h
  exact ⟨last_txt ht, lastF_s hl n⟩
 ·simp at h
end
