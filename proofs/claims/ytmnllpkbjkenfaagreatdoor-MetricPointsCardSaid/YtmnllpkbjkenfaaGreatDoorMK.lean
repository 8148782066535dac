/- Metrics: two of one kind that were marshalled, one behind the other. -/
import Derived.Test.YtmnllpkbjkenfaaGreatDoorML
set_option linter.unusedSimpArgs false
set_option linter.unusedVariables false
set_option maxRecDepth 100000
namespace Go.Proofs.YtmnllpkbjkenfaaGreatDoor
open Go Go.Abs
theorem okG_list {β : Type} {tb : Nat → Nat → Bool} {tell : Int → List Fld → Option β} {s : List UInt8} {d : Int} {l : List Fld} {u : List UInt8} (h : okG tb (fun _ l => some l) s d = some (l, u)) : okG tb tell s d = (tell d l).map fun b => (b, u) := by
 unfold okG at h ⊢
 split at h
 ·simp at h
 ·simp only [Option.some.injEq, Prod.mk.injEq] at h
  obtain ⟨rfl, rfl⟩ := h
  split
  ·rename_i h; rw [h]; rfl
  ·rename_i h; rw [h]; rfl
theorem okG_pair {tb : Nat → Nat → Bool} {s t : List UInt8} {d : Int} {l1 l2 : List Fld} {u v : List UInt8} (h1 : okG tb (fun _ l => some l) s d = some (l1, u)) (h2 : okG tb (fun _ l => some l) t d = some (l2, v)) : okG tb (fun _ l => some l) (s ++ t) d = some (l1 ++ l2, u ++ v) := by
 obtain ⟨a, a1, a2, a3, -⟩ := okG_inv h1
 obtain ⟨b, b1, b2, b3, -⟩ := okG_inv h2
 dsimp only at a2 a3 b2 b3
 injection a2 with a2
 injection b2 with b2
 unfold okG
 rw [okL_app a1 b1]
 simp only
 rw [knownL_app, unkL_app, ← a3, ← b3, a2, b2]
theorem I_pair {k : Int} (hk1 : 1 ≤ k) (hk2 : k ≤ 5) {d : Int} {x y : In} (hbx : bareI k x = true) (hx : x.sz < big) (wx : x.wf) (mx : mayI k x d = true) (hby : bareI k y = true) (hy : y.sz < big) (wy : y.wf) (my : mayI k y d = true) :
  ∃ c, okI k (x.mar ++ y.mar) d = some c ∧ c.u = x.u ++ y.u ∧ c.nbs = x.nbs ++ y.nbs ∧ c.his = x.his ++ y.his ∧ c.ehs = x.ehs ++ y.ehs ∧ c.sus = x.sus ++ y.sus ∧ c.mono = (x.mono || y.mono) := by
 obtain ⟨c, hc, e1, e2, e3, e4, e5⟩ := okI_app (I_back hk1 hk2 hbx hx wx mx).1 (I_back hk1 hk2 hby hy wy my).1
 refine ⟨c, hc, e1, e2, e3, e4, e5, ?_⟩
 have one : ∀ z : In, bareI k z = true → z.sz < big → z.wf → mayI k z d = true → okG (tbI k) (fun _ l => some l) z.mar d = some (z.hF, z.u) := fun z h1 h2 h3 h4 => by
  unfold mayI at h4
  simp only [Bool.and_eq_true, decide_eq_true_eq] at h4
  unfold In.mar
  rw [k'1a h4.1.1 (In.all h2 h3 d) (In.inn h1) h4.2]
  rfl
 have h2 := okG_pair (one x hbx hx wx mx) (one y hby hy wy my)
 unfold okI at hc
 rw [okG_list h2] at hc
 unfold tellI at hc
 split at hc
 ·simp [apO] at hc
 ·simp only [Option.map_some, apO, Option.some.injEq] at hc
  subst hc
  show decide (0 < (k'8 (x.hF ++ y.hF) 3).n) = _
  have s3 : ∀ z : In, sel 3 z.hF = flF 3 z.mono := fun z => by unfold In.hF; simp [k'a, k'q, k'n, sel_fl]
  rw [← k'4q, k'a, s3, s3]
  cases x.mono <;> cases y.mono <;> rfl
theorem Me_pair {d : Int} {x y : Me} (hx : x.sz < big) (wx : x.wf) (mx : x.may d = true) (hy : y.sz < big) (wy : y.wf) (my : y.may d = true) (hk : x.kind = y.kind) :
  ∃ z, okMe (x.mar ++ y.mar) d = some z ∧ z.points = x.points + y.points ∧ z.dat.u = x.dat.u ++ y.dat.u ∧ z.dat.mono = (x.dat.mono || y.dat.mono) := by
 obtain ⟨z, hz, -, -, e0, -⟩ := okMe_app (Me_back d x ⟨hx, wx⟩ mx).1 (Me_back d y ⟨hy, wy⟩ my).1
 have one : ∀ z : Me, z.sz < big → z.wf → z.may d = true → okG tbM (fun _ l => some l) z.mar d = some (z.hF, z.u) ∧ mayOn z.kind z.dat (d - 1) = true := fun z h1 h2 h4 => by
  unfold Me.may at h4
  simp only [Bool.and_eq_true, decide_eq_true_eq] at h4
  refine ⟨?_, h4.1.1.1.1.1.2⟩
  unfold Me.mar
  rw [k'1a h4.1.1.1.1.1.1 (Me.all h1 h2 d) z.inn h4.2]
  rfl
 obtain ⟨o1, n1⟩ := one x hx wx mx
 obtain ⟨o2, n2⟩ := one y hy wy my
 refine ⟨z, hz, ?_⟩
 unfold mayOn at n1 n2
 simp only [Bool.and_eq_true, decide_eq_true_eq] at n1 n2
 obtain ⟨⟨⟨k1, k2⟩, b1⟩, n1⟩ := n1
 obtain ⟨⟨-, b2⟩, n2⟩ := n2
 by_cases h0 : y.kind = 0
 ·obtain ⟨-, e0⟩ := e0 h0
  rw [hk, h0] at n1 b1
  rw [h0] at n2 b2
  have no : ∀ a : In, bareI 0 a = true → a.isNo = true → a.nbs = [] ∧ a.his = [] ∧ a.ehs = [] ∧ a.sus = [] ∧ a.mono = false ∧ a.u = [] := fun a h1 h2 => by
   unfold bareI at h1
   unfold In.isNo at h2
   simp at h1 h2
   obtain ⟨⟨⟨⟨⟨q1, q2⟩, q3⟩, q4⟩, q5⟩, q6⟩ := h1
   exact ⟨q1, q2, q3, q4, q6, h2⟩
  obtain ⟨p1, p2, p3, p4, p5, p6⟩ := no y.dat b2 (by simpa using n2)
  refine ⟨?_, ?_, ?_⟩
  ·unfold Me.points; rw [e0, p1, p2, p3, p4]; simp
  ·rw [e0, p6, List.append_nil]
  ·rw [e0, p5, Bool.or_false]
 ·rw [if_neg (by omega)] at n1
  rw [if_neg h0] at n2
  rw [hk] at k1 k2 b1 n1
  obtain ⟨wx1, -⟩ := wx
  obtain ⟨wy1, -⟩ := wy
  obtain ⟨c, hc, e1, e2, e3, e4, e5, e6⟩ := I_pair (by omega) k2 b1 (by unfold Me.sz at hx; omega) wx1 n1 b2 (by unfold Me.sz at hy; omega) wy1 n2
  have hon : onOk y.kind := ⟨by omega, k2⟩
  have hd : onO d (x.hF ++ y.hF) = some (y.kind, c) := by
   have hs : ∀ z : Me, selN onNs z.hF = onF z.kind z.dat := fun z => by
    unfold Me.hF
    simp [selN_app, selN_fx, selN_vr, selN_op, selN_tx, selN_ps, selN_on, show (1 : Nat) ∉ onNs by decide, show (2 : Nat) ∉ onNs by decide, show (3 : Nat) ∉ onNs by decide, show (12 : Nat) ∉ onNs by decide]
   have e : oneF onNs (x.hF ++ y.hF) = ⟨numK y.kind, 0, y.dat.mar, [x.dat.mar, y.dat.mar]⟩ := by
    rw [← oneF_selN, selN_app, hs, hs, hk]
    unfold onF
    rw [if_pos hon, if_pos hon]
    have h1 := one_pa (s := x.dat.mar) (k'4i hon).1
    rw [oneF_snoc, h1]
    unfold k'g
    rw [if_pos (show onNs.contains (paR (numK y.kind) y.dat.mar).num = true from (k'4i hon).1)]
    rw [if_pos (show (paR (numK y.kind) y.dat.mar).num = numK y.kind from rfl)]
    rfl
   unfold onO
   rw [e]
   dsimp only
   rw [if_neg (by have := (k'4i hon).2.2.1; omega), (k'4i hon).2.1]
   rw [show ([x.dat.mar, y.dat.mar] : List (List UInt8)).flatten = x.dat.mar ++ y.dat.mar by simp, hc]
  unfold okMe at hz
  rw [okG_list (okG_pair o1 o2)] at hz
  unfold tellMe at hz
  rw [hd] at hz
  dsimp only at hz
  split at hz
  ·simp [apO] at hz
  split at hz
  ·simp [apO] at hz
  split at hz
  ·simp [apO] at hz
  split at hz
  ·simp [apO] at hz
  simp only [Option.map_some, apO, Option.some.injEq] at hz
  subst hz
  refine ⟨?_, e1, e6⟩
  unfold Me.points
  dsimp only
  rw [e2, e3, e4, e5]
  simp only [List.length_append]
  omega
