/- Metrics: read, with more behind; read, and called so. -/
import Derived.Test.YtmnllpkbjkenfaaGreatDoorMU
set_option linter.unusedSimpArgs false
set_option linter.unusedVariables false
set_option maxRecDepth 100000
namespace Go.Proofs.YtmnllpkbjkenfaaGreatDoor
open Go Go.Abs
variable (B : Fr)
def Me.setU (x : Me) (u : List UInt8) : Me := { x with u := u }
variable {s w t : List UInt8} {d : Int} {x y : Me}
theorem okI_app {k : Int} {a b : In} (hx : okI k s d = some a) (hy : okI k t d = some b) : ∃ c, okI k (s ++ t) d = some c ∧ c.u = a.u ++ b.u ∧ c.nbs = a.nbs ++ b.nbs ∧ c.his = a.his ++ b.his ∧ c.ehs = a.ehs ++ b.ehs ∧ c.sus = a.sus ++ b.sus := by
 obtain ⟨f, u, h1, rfl⟩ := apO_some hx
 obtain ⟨g, v, h2, rfl⟩ := apO_some hy
 obtain ⟨l1, l2, k1, k2, h3⟩ := okG_two h1 h2
 unfold tellI at k1 k2
 split at k1
 ·simp at k1
 rename_i p hp
 split at k2
 ·simp at k2
 rename_i q hq
 injection k1 with k1
 injection k2 with k2
 subst k1
 subst k2
 have hpq : ptsI k d (l1 ++ l2) = some ⟨p.nbs ++ q.nbs, p.his ++ q.his, p.ehs ++ q.ehs, p.sus ++ q.sus, 0, false, []⟩ := by
  unfold ptsI at hp hq ⊢
  by_cases c1 : k = 1 ∨ k = 2
  ·rw [if_pos c1] at hp hq ⊢
   split at hp
   ·simp at hp
   rename_i v1 hv1
   split at hq
   ·simp at hq
   rename_i v2 hv2
   injection hp with hp; subst hp
   injection hq with hq; subst hq
   rw [k'3y, hv1, hv2]
   rfl
  rw [if_neg c1] at hp hq ⊢
  by_cases c2 : k = 3
  ·rw [if_pos c2] at hp hq ⊢
   split at hp
   ·simp at hp
   rename_i v1 hv1
   split at hq
   ·simp at hq
   rename_i v2 hv2
   injection hp with hp; subst hp
   injection hq with hq; subst hq
   rw [k'3y, hv1, hv2]
   rfl
  rw [if_neg c2] at hp hq ⊢
  by_cases c3 : k = 4
  ·rw [if_pos c3] at hp hq ⊢
   split at hp
   ·simp at hp
   rename_i v1 hv1
   split at hq
   ·simp at hq
   rename_i v2 hv2
   injection hp with hp; subst hp
   injection hq with hq; subst hq
   rw [k'3y, hv1, hv2]
   rfl
  rw [if_neg c3] at hp hq ⊢
  split at hp
  ·simp at hp
  rename_i v1 hv1
  split at hq
  ·simp at hq
  rename_i v2 hv2
  injection hp with hp; subst hp
  injection hq with hq; subst hq
  rw [k'3y, hv1, hv2]
  rfl
 exact ⟨_, by unfold okI; rw [h3]; unfold tellI; rw [hpq]; exact rfl, rfl, rfl, rfl, rfl, rfl⟩
theorem one_app (l1 : List Fld) : ∀ l2 : List Fld, ((oneF onNs l2).num = 0 ∧ oneF onNs l2 = noOne ∧ oneF onNs (l1 ++ l2) = oneF onNs l1) ∨ ((oneF onNs l2).num ≠ 0 ∧ (oneF onNs (l1 ++ l2) = oneF onNs l2 ∨ ((oneF onNs l1).num = (oneF onNs l2).num ∧ oneF onNs (l1 ++ l2) = ⟨(oneF onNs l2).num, (oneF onNs l2).n, (oneF onNs l2).s, (oneF onNs l1).all ++ (oneF onNs l2).all⟩))) := by
 intro l2
 generalize hn : l2.length = n
 induction n generalizing l2 with
 | zero =>
  have : l2 = [] := List.length_eq_zero_iff.1 hn
  subst this
  exact .inl ⟨rfl, rfl, by rw [List.append_nil]⟩
 | succ n ih =>
  obtain ⟨l, x, rfl⟩ : ∃ l x, l2 = l ++ [x] := ⟨l2.dropLast, l2.getLast (by intro h; rw [h] at hn; simp at hn), (List.dropLast_concat_getLast _).symm⟩
  have hl : l.length = n := by simpa using hn
  have ih := ih l hl
  rw [← List.append_assoc, oneF_snoc, oneF_snoc]
  generalize oneF onNs (l1 ++ l) = F at *
  generalize oneF onNs l = G at *
  generalize oneF onNs l1 = o1 at *
  unfold k'g
  by_cases hc : onNs.contains x.num = true
  ·have hx0 : x.num ≠ 0 := fun e => by rw [e] at hc; simp [onNs] at hc
   rw [if_pos hc, if_pos hc]
   right
   rcases ih with ⟨-, rfl, rfl⟩ | ⟨g0, rfl | ⟨g1, rfl⟩⟩
   ·by_cases hn : x.num = F.num
    ·rw [if_pos hn, if_neg (show ¬ x.num = noOne.num from hx0)]
     exact ⟨hx0, .inr ⟨hn.symm, rfl⟩⟩
    ·rw [if_neg hn, if_neg (show ¬ x.num = noOne.num from hx0)]
     exact ⟨hx0, .inl rfl⟩
   ·refine ⟨?_, .inl rfl⟩
    split <;> exact hx0
   ·dsimp only
    by_cases hn : x.num = G.num
    ·rw [if_pos hn, if_pos hn]
     exact ⟨hx0, .inr ⟨by rw [g1]; exact hn.symm, by simp⟩⟩
    ·rw [if_neg hn, if_neg hn]
     exact ⟨hx0, .inl rfl⟩
  ·rw [if_neg hc, if_neg hc]
   exact ih
theorem kindK_one (l : List Fld) (h : (oneF onNs l).num ≠ 0) : 1 ≤ kindK (oneF onNs l).num := by
 have key : ∀ (l : List Fld), (oneF onNs l).num = 0 ∨ onNs.contains (oneF onNs l).num = true := by
  intro l
  generalize hn : l.length = n
  induction n generalizing l with
  | zero => left; rw [List.length_eq_zero_iff.1 hn]; rfl
  | succ n ih =>
   obtain ⟨l', x, rfl⟩ : ∃ l' x, l = l' ++ [x] := ⟨l.dropLast, l.getLast (by intro h; rw [h] at hn; simp at hn), (List.dropLast_concat_getLast _).symm⟩
   have ih := ih l' (by simpa using hn)
   rw [oneF_snoc]
   unfold k'g
   by_cases hc : onNs.contains x.num = true
   ·right
    rw [if_pos hc]
    split <;> exact hc
   ·rw [if_neg hc]; exact ih
 rcases key l with g | g
 ·exact absurd g h
 ·exact (kindK_ok g).1.1
theorem onO_app {l1 l2 : List Fld} {p q : Int × In} (h : onO d l1 = some p) (k : onO d l2 = some q) : ∃ r, onO d (l1 ++ l2) = some r ∧ (q.1 = 0 → r = p) ∧ (q.1 ≠ 0 → r.1 = q.1) := by
 unfold onO at h k ⊢
 rcases one_app l1 l2 with ⟨g0, -, g1⟩ | ⟨g0, g1 | ⟨g2, g1⟩⟩
 ·rw [if_pos g0] at k
  injection k with k; subst k
  rw [g1]
  exact ⟨p, h, fun _ => rfl, fun h => absurd rfl h⟩
 ·rw [g1]
  refine ⟨q, k, fun hq => ?_, fun _ => rfl⟩
  exfalso
  rw [if_neg g0] at k
  split at k
  ·simp at k
  ·injection k with k; subst k
   have := kindK_one l2 g0
   dsimp only at hq
   omega
 ·rw [g1]
  dsimp only
  rw [if_neg g0] at k ⊢
  rw [g2, if_neg g0] at h
  split at h
  ·simp at h
  rename_i a ha
  split at k
  ·simp at k
  rename_i b hb
  injection h with h; subst h
  injection k with k; subst k
  obtain ⟨c, hc, -⟩ := okI_app ha hb
  rw [List.flatten_append, hc]
  refine ⟨_, rfl, fun hq => ?_, fun _ => rfl⟩
  exfalso
  have := kindK_one l2 g0
  dsimp only at hq
  omega
theorem text_app {n : Nat} {l1 l2 : List Fld} {a b : List UInt8} (h : k'2n n l1 = some a) (k : k'2n n l2 = some b) : ∃ c, k'2n n (l1 ++ l2) = some c := by
 unfold k'2n at h k ⊢
 split at h
 ·rename_i h1
  split at k
  ·rename_i k1
   rw [k'a, List.all_append, h1, k1]
   exact ⟨_, rfl⟩
  ·simp at k
 ·simp at h
theorem okMe_app (hx : okMe s d = some x) (hy : okMe t d = some y) : ∃ z, okMe (s ++ t) d = some z ∧ z.u = x.u ++ y.u ∧ z.mets = x.mets ++ y.mets ∧ (y.kind = 0 → z.kind = x.kind ∧ z.dat = x.dat) ∧ (y.kind ≠ 0 → z.kind = y.kind) := by
 obtain ⟨f, u, h1, rfl⟩ := apO_some hx
 obtain ⟨g, v, h2, rfl⟩ := apO_some hy
 obtain ⟨l1, l2, k1, k2, h3⟩ := okG_two h1 h2
 unfold tellMe at k1 k2
 split at k1
 ·simp at k1
 rename_i name1 g1_name
 split at k1
 ·simp at k1
 rename_i desc1 g1_desc
 split at k1
 ·simp at k1
 rename_i unit1 g1_unit
 split at k1
 ·simp at k1
 rename_i data1 g1_data
 split at k1
 ·simp at k1
 rename_i mets1 g1_mets
 split at k2
 ·simp at k2
 rename_i name2 g2_name
 split at k2
 ·simp at k2
 rename_i desc2 g2_desc
 split at k2
 ·simp at k2
 rename_i unit2 g2_unit
 split at k2
 ·simp at k2
 rename_i data2 g2_data
 split at k2
 ·simp at k2
 rename_i mets2 g2_mets
 injection k1 with k1
 injection k2 with k2
 subst k1
 subst k2
 obtain ⟨c1, j1⟩ := text_app g1_name g2_name
 obtain ⟨c2, j2⟩ := text_app g1_desc g2_desc
 obtain ⟨c3, j3⟩ := text_app g1_unit g2_unit
 obtain ⟨r, j4, e1, e2⟩ := onO_app g1_data g2_data
 refine ⟨?z, by unfold okMe; rw [h3]; unfold tellMe; simp only [k'3y, j1, j2, j3, j4, g1_mets, g2_mets]; exact rfl, rfl, rfl, fun h => ?_, fun h => ?_⟩
 ·show r.1 = data1.1 ∧ r.2 = data1.2
  rw [e1 h]; exact ⟨rfl, rfl⟩
 ·exact e2 h
theorem Me_some (hB : BOk B) (hl : s.length < big) (hd1 : -9223372036854775808 ≤ d) (hd2 : d < 9223372036854775808) (h : okMe s d = some x) : k'1 (cx B) 13 [sT s, .d (.int .i64 d)] [] (.tup [.d x.d, .d .nili]) [] := by
 have := (Me_read B hB s d hl hd1 hd2).1
 rw [h] at this; exact this
def Me.points (x : Me) : Nat := x.dat.nbs.length + x.dat.his.length + x.dat.ehs.length + x.dat.sus.length
theorem In.cnt (x : In) : x.nbs.length + x.his.length + x.ehs.length + x.sus.length ≤ x.sz := by
 have q0 := sum_ge (sz := Nb.sz) (fun x => by unfold Nb.sz; omega) x.nbs
 have q1 := sum_ge (sz := Hi.sz) (fun x => by unfold Hi.sz; omega) x.his
 have q2 := sum_ge (sz := Eh.sz) (fun x => by unfold Eh.sz; omega) x.ehs
 have q3 := sum_ge (sz := Su.sz) (fun x => by unfold Su.sz; omega) x.sus
 unfold In.sz; omega
theorem k'3b (x : Me) (xa : D) (hb : x.points < 4611686018427387904) (hx : x.R xa) : k'1 (cx B) 14 [.d xa] [] (iT x.points) [] := by
 obtain ⟨z_nbs, l_nbs, z_his, l_his, z_ehs, l_ehs, z_sus, l_sus, z_mets, l_mets, rfl, r_nbs, r_his, r_ehs, r_sus, r_mets⟩ := hx
 unfold Me.points at hb ⊢
 refine k'2 (X := cx B) (fn := Tryz.f14) Tryz.func14 rfl rfl rfl rfl rfl 0 [] rfl rfl ?_
 refine Y ?_
 rw [r_nbs.1, r_his.1, r_ehs.1, r_sus.1]
 rw [show IntKind.i64.wrap ((x.dat.nbs.length : Int) + (x.dat.his.length : Int)) = ((x.dat.nbs.length + x.dat.his.length : Nat) : Int) by rw [k'1m (by omega) (by omega)]; omega]
 rw [show IntKind.i64.wrap (((x.dat.nbs.length + x.dat.his.length : Nat) : Int) + (x.dat.ehs.length : Int)) = ((x.dat.nbs.length + x.dat.his.length + x.dat.ehs.length : Nat) : Int) by rw [k'1m (by omega) (by omega)]; omega]
 rw [show IntKind.i64.wrap (((x.dat.nbs.length + x.dat.his.length + x.dat.ehs.length : Nat) : Int) + (x.dat.sus.length : Int)) = ((x.dat.nbs.length + x.dat.his.length + x.dat.ehs.length + x.dat.sus.length : Nat) : Int) by rw [k'1m (by omega) (by omega)]; omega]
 exact Z
theorem firstMe_calls (hB : BOk B) : k'1 (cx B) 12 [] [] (.d (.bool true)) [] := by
 have h1 := k'2m B ⟨[], [], [], 1, noIn, [], []⟩ _ 1 (by unfold big; decide) ⟨⟨by simp [noIn], by simp [noIn], by simp [noIn], by simp [noIn], by decide, by decide⟩, by simp⟩ (Me.d_R _) (by omega) (by omega)
 rw [if_pos (show Me.may ⟨[], [], [], 1, noIn, [], []⟩ 1 = true by rfl), show Me.mar ⟨[], [], [], 1, noIn, [], []⟩ = [42, 0] by rfl] at h1
 have h2 := Me_some B hB (s := [58, 4, 16, 2, 24, 1]) (d := 1) (x := ⟨[], [], [], 2, ⟨[], [], [], [], 2, true, []⟩, [], []⟩) (by unfold big; decide) (by omega) (by omega) (by rfl)
 have h3 := k'3b B ⟨[], [], [], 2, ⟨[], [], [], [], 2, true, []⟩, [], []⟩ _ (by decide) (Me.d_R _)
 refine k'2 (X := cx B) (fn := Tryz.f12) Tryz.func12 rfl rfl rfl rfl rfl 0 [] rfl rfl ?_
 refine Y ?_
 refine l_cw [] (h1) rfl rfl rfl ?_
 refine l_cw [] (h2) rfl rfl rfl ?_
 refine k'c [] (h3) rfl rfl rfl rfl rfl ?_
 exact Z
