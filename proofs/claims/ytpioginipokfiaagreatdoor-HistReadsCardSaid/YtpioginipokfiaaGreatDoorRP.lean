/- The reference: numbers of eight bytes, packed or told one by one. -/
import Derived.Test.YtpioginipokfiaaGreatDoorRR
import Derived.Test.YtpioginipokfiaaGreatDoorWF
set_option linter.unusedSimpArgs false
set_option linter.unusedVariables false
set_option maxRecDepth 100000
namespace Go.Proofs.YtpioginipokfiaaGreatDoor
open Go Go.Abs
variable (B : Fr)
theorem eiE_odd {s : List UInt8} : ∀ (f p : Nat), p ≤ s.length → s.length - p < f → (s.length - p) % 8 ≠ 0 → ∃ e, eiE s f p = .error e
 | 0, p, _, h, _ => by omega
 | f + 1, p, h1, h2, h3 => by
  unfold eiE
  rw [if_pos (by omega)]
  unfold k'1z
  by_cases hp : s.length - p < 8
  ·rw [if_pos hp]; exact ⟨_, rfl⟩
  ·rw [if_neg hp]
   obtain ⟨l, hl⟩ := eiE_odd (s := s) f (p + 8) (by omega) (by omega) (by omega)
   dsimp only
   rw [hl]
   exact ⟨_, rfl⟩
theorem fixs_odd {s : List UInt8} (h : s.length % 8 ≠ 0) : ∃ e, fixs s = .error e := eiE_odd _ 0 (by omega) (by omega) (by omega)
def rfxT : Except Er (List Nat) → T
 | .ok l => .tup [.d (slD (l.map uD)), .d (.bool true)]
 | .error e => .tup [.d (.sl true []), .d (.bool false)]
theorem r2Fixeds_calls (s : List UInt8) (hl : s.length < big) : k'1 (cx B) 73 [sT s] [] (rfxT (fixs s)) [] := by
 have hl' := hl
 unfold big at hl'
 refine l_bw Tryz.func73 0 [] ?_
 refine k'2 (.rem (k := .i64) (a := (s.length : Int)) (b := 8) rfl rfl rfl (by decide)) rfl rfl ?_
 refine Y ?_
 by_cases h8 : s.length % 8 = 0
 ·rw [show ((s.length : Int).tmod 8 != 0) = false by rw [bne_eq_false_iff_eq, show (s.length : Int).tmod 8 = ((s.length % 8 : Nat) : Int) from rfl]; omega]
  refine Y ?_
  refine k'k (fun x : Nat × Nat × List Nat => x.2.1) (fun x => [(0, sT s), (4, owT (x.2.2.map uD)), (5, iT x.1)]) (fun _ => [])
   (fun x => x.1 ≤ s.length ∧ s.length - x.1 < x.2.1 ∧ (s.length - x.1) % 8 = 0 ∧ x.2.2.length ≤ x.1 ∧ fixs s = (match eiE s x.2.1 x.1 with | .ok l => .ok (x.2.2 ++ l) | .error e => .error e)) (0, s.length + 1, []) ⟨by omega, by show s.length - 0 < s.length + 1; omega, by show (s.length - 0) % 8 = 0; omega, by simp, ?_⟩ ⟨rfl, rfl, rfl, trivial⟩ rfl 0 rfl (fun _ => rfl) (fun _ => rfl) (fun _ => rfl) ?_
  ·show fixs s = _
   unfold fixs
   dsimp only
   split <;> (rename_i h; rw [h]) <;> rfl
  rintro ⟨p, g, acc⟩ ⟨i1, i2, i5, i3, i4⟩
  dsimp only at i1 i2 i3 i4 i5 ⊢
  cases g with
  | zero => omega
  | succ g =>
  unfold eiE at i4
  refine Y ?_
  by_cases hp : p < s.length
  ·rw [show decide ((p : Int) < s.length) = true from decide_eq_true (by omega)]
   rw [if_pos hp] at i4
   unfold k'1z at i4
   rw [if_neg (by omega)] at i4
   dsimp only at i4
   have hf := k'3b B ((s.drop p).take 8) (by simp; omega)
   have ha : IntKind.i64.wrap (((p : Nat) : Int) + 8) = ((p + 8 : Nat) : Int) := by rw [k'v (by omega) (by omega)]; omega
   refine adm ?_
   (try refine k't rfl ?_)
   refine k'2 (.assignOwn (.inr rfl) rfl) rfl rfl ?_
   refine Y ?_
   rw [ha]
   refine k'2 (.sliceStr (s := s) (l := p) (h := p + 8) rfl rfl rfl rfl ⟨.i64, rfl⟩ ⟨.i64, rfl⟩ (by omega) (by omega)) rfl rfl ?_
   rw [show p + 8 - p = 8 by omega]
   generalize leN ((s.drop p).take 8) = n at *
   refine k'4 [] (hf) rfl rfl rfl ?_
   refine k'2 (.buildSlice (es := [uD n]) rfl rfl rfl rfl rfl rfl (by intro x hx; simp at hx; subst hx; rfl) (by simp) (by decide) (by decide)) rfl rfl ?_
   have hm : (acc.map uD).length + [uD n].length ≤ most := by simp [most]; omega
   refine k'2 (.append' rfl rfl rfl rfl ⟨_, _, rfl, rfl, by intro q; simp⟩ rfl rfl rfl rfl rfl (by rw [show [uD n] = [n].map uD from rfl, ← List.map_append]; exact u_fits _) (by decide) rfl hm rfl) rfl rfl ?_
   refine k'2 (.assignOwn (.inl rfl) rfl) rfl rfl ?_
   refine Y ?_
   rw [ha]
   exact ⟨(p + 8, g, acc ++ [n]), Nat.lt_succ_self g, ⟨by show p + 8 ≤ _; omega, by show s.length - (p + 8) < g; omega, by show (s.length - (p + 8)) % 8 = 0; omega, by show (acc ++ [n]).length ≤ p + 8; simp; omega, by rw [i4]; cases eiE s g (p + 8) <;> simp⟩, ⟨rfl, by show T.own _ _ = owT _; rw [List.map_append]; rfl, rfl, trivial⟩, rfl, k'i rfl⟩
  ·rw [show decide ((p : Int) < s.length) = false from decide_eq_false (by omega)]
   rw [if_neg hp] at i4
   dsimp only at i4
   rw [List.append_nil] at i4
   rw [i4]
   refine Y ?_
   (try refine k't rfl ?_)
   refine k'2 (.moveShare rfl rfl) rfl rfl ?_
   exact Z
 ·rw [show ((s.length : Int).tmod 8 != 0) = true by rw [bne_iff_ne, show (s.length : Int).tmod 8 = ((s.length % 8 : Nat) : Int) from rfl]; omega]
  obtain ⟨e, he⟩ := fixs_odd h8
  rw [he]
  exact Z
theorem packO_end {rd : List UInt8 → Except Er (List Nat)} {num : Nat} : ∀ {a b : List Fld}, k'p rd num a = none → k'p rd num (a ++ b) = none
 | [], b, h => by simp [k'p] at h
 | c :: a, b, h => by
  rw [List.cons_append]
  unfold k'p at h ⊢
  split at h
  ·rw [if_pos ‹_›]
   split at h
   ·rw [if_pos ‹_›]
    split at h
    ·cases hp : k'p rd num a with
     | none => rw [packO_end hp]; rfl
     | some z => rw [hp] at h; simp at h
    ·rfl
   ·rw [if_neg ‹_›]
    cases hp : k'p rd num a with
    | none => rw [packO_end hp]; rfl
    | some z => rw [hp] at h; simp at h
  ·rw [if_neg ‹_›]; exact packO_end h
theorem packO_cut {rd : List UInt8 → Except Er (List Nat)} {num : Nat} {tb : Nat → Nat → Bool} {l : List Fld} (i : Nat) (h : k'p rd num (k'3 tb (l.take i)) = none) : k'p rd num (k'3 tb l) = none := by
 have e : k'3 tb l = k'3 tb (l.take i) ++ k'3 tb (l.drop i) := by
  unfold k'3; rw [← List.filter_append, List.take_append_drop]
 rw [e]; exact packO_end h
def pkT (b : List Nat) : Option (List Nat) → T
 | some v => .tup [owT ((b ++ v).map uD), .d (.bool true)]
 | none => .tup [owT (b.map uD), .d (.bool false)]
theorem Packed_calls (b : List Nat) (x : Fld) (num : Nat) (hn : x.num = num) (hk : x.kind = 1 ∨ x.kind = 2) (hb : b.length < big) (hx : x.s.length < big) : CallsO (cx B) 35 (b.map uD).isEmpty (b.map uD) [x.d] (pkT b (k'p fixs num [x])) := by
 unfold big at hb
 have h1 := r2Fixeds_calls B x.s hx
 have hl : ∀ l, fixs x.s = .ok l → l.length ≤ x.s.length := fun l h => fixs_len h
 unfold big at hx
 obtain ⟨xn, xk, xv, xs, xr⟩ := x
 dsimp only at *
 have one : ∀ v : List Nat, b.length + v.length ≤ most → ∀ a ∈ b.map uD ++ v.map uD, a.fits 1 = true := fun v _ => by rw [← List.map_append]; exact u_fits _
 refine l_bodyO (X := cx B) (fn := Tryz.f35) Tryz.func35 rfl rfl rfl rfl rfl ?_
 rcases hk with rfl | rfl
 ·have hp : k'p fixs num [⟨xn, 1, xv, xs, xr⟩] = some [xv] := by unfold k'p; rw [if_pos hn, if_neg (show ¬ (1 : Nat) = 2 by decide)]; rfl
  rw [hp]
  refine l_c0 rfl ?_
  refine r_true rfl ?_
  refine adm ?_
  (try refine k't rfl ?_)
  refine k'2 (.assignOwn (.inr rfl) rfl) rfl rfl ?_
  refine Y ?_
  refine k'2 (.buildSlice (es := [uD xv]) rfl rfl rfl rfl rfl rfl (by intro x hx; simp at hx; subst hx; rfl) (by simp) (by decide) (by decide)) rfl rfl ?_
  have hm : (b.map uD).length + [uD xv].length ≤ most := by simp [most]; omega
  refine k'2 (.append' rfl rfl rfl rfl ⟨_, _, rfl, rfl, by intro q; simp⟩ rfl rfl rfl rfl rfl (by rw [show [uD xv] = [xv].map uD from rfl, ← List.map_append]; exact u_fits _) (by decide) rfl hm rfl) rfl rfl ?_
  refine k'2 (.assignOwn (.inl rfl) rfl) rfl rfl ?_
  refine Y ?_
  exact ⟨trivial, _, _, _, _, _, rfl, rfl, rfl, by unfold pkT owT; dsimp only; rw [List.map_append]; rfl⟩
 ·have hp : k'p fixs num [⟨xn, 2, xv, xs, xr⟩] = (match fixs xs with | .ok a => some (a ++ []) | .error _ => none) := by
   unfold k'p
   rw [if_pos hn, if_pos rfl]
   dsimp only
   cases fixs xs <;> rfl
  rw [hp]
  unfold rfxT at h1
  cases hf : fixs xs with
  | ok v =>
   rw [hf] at h1
   dsimp only at h1 ⊢
   rw [List.append_nil]
   have hv := hl v hf
   refine Y ?_
   refine k'4 [] (h1) rfl rfl rfl ?_
   refine l_o0 rfl ?_
   refine adm ?_
   (try refine k't rfl ?_)
   refine k'2 (.assignOwn (.inr rfl) rfl) rfl rfl ?_
   refine Y ?_
   have hm : (b.map uD).length + (v.map uD).length ≤ most := by simp [most]; omega
   refine k'2 (.append' rfl rfl rfl rfl ⟨_, _, rfl, rfl, by intro q; simp⟩ rfl rfl rfl rfl rfl (by rw [← List.map_append]; exact u_fits _) (by decide) rfl hm rfl) rfl rfl ?_
   refine k's (fst := false) 1 rfl rfl rfl ?_
   refine k'2 (.assignOwn (.inl rfl) rfl) rfl rfl ?_
   refine Y ?_
   exact ⟨trivial, _, _, _, _, _, rfl, rfl, rfl, by unfold pkT owT; dsimp only; rw [List.map_append]⟩
  | error e =>
   rw [hf] at h1
   dsimp only at h1 ⊢
   refine Y ?_
   refine k'4 [] (h1) rfl rfl rfl ?_
   refine l_o0 rfl ?_
   refine adm ?_
   (try refine k't rfl ?_)
   refine k'2 (.assignOwn (.inr rfl) rfl) rfl rfl ?_
   refine Y ?_
   have hm : (b.map uD).length + ([] : List D).length ≤ most := by simp [most]; omega
   refine k'2 (.append' rfl rfl rfl rfl ⟨_, _, rfl, rfl, by intro q; simp⟩ rfl rfl rfl rfl rfl (by rw [List.append_nil]; exact u_fits _) (by decide) rfl hm rfl) rfl rfl ?_
   refine k's (fst := false) 1 rfl rfl rfl ?_
   refine k'2 (.assignOwn (.inl rfl) rfl) rfl rfl ?_
   refine Y ?_
   exact ⟨trivial, _, _, _, _, _, rfl, rfl, rfl, by unfold pkT owT; dsimp only; rw [List.append_nil]⟩
