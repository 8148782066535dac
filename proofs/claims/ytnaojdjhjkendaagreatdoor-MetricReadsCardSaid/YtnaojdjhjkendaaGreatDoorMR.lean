/- Metrics: the reference reads their data. -/
import Derived.Test.YtnaojdjhjkendaaGreatDoorGR
import Derived.Test.YtnaojdjhjkendaaGreatDoorSR
import Derived.Test.YtnaojdjhjkendaaGreatDoorXI
set_option linter.unusedSimpArgs false
set_option linter.unusedVariables false
set_option maxRecDepth 100000
namespace Go.Proofs.YtnaojdjhjkendaaGreatDoor
open Go Go.Abs
variable (B : Fr)
def addI (k d : Int) (s : List UInt8) (y : In) : Bool × In :=
 if k ≤ 2 then (match okNb s d with | some v => (true, { y with nbs := y.nbs ++ [v] }) | none => (false, { y with nbs := y.nbs ++ [noNb] }))
 else if k = 3 then (match okHi s d with | some v => (true, { y with his := y.his ++ [v] }) | none => (false, { y with his := y.his ++ [noHi] }))
 else if k = 4 then (match okEh s d with | some v => (true, { y with ehs := y.ehs ++ [v] }) | none => (false, { y with ehs := y.ehs ++ [noEh] }))
 else (match okSu s d with | some v => (true, { y with sus := y.sus ++ [v] }) | none => (false, { y with sus := y.sus ++ [noSu] }))
def rdS (k d : Int) (y : Bool × In) (x : Fld) : Bool × In :=
 if y.1 then (if tbI k x.num x.kind then (if x.num = 2 then (true, { y.2 with temp := k'31 x.n }) else if x.num = 3 then (true, { y.2 with mono := decide (0 < x.n) }) else addI k (d - 1) x.s y.2) else (true, { y.2 with u := y.2.u ++ x.raw })) else y
def rdG (k d : Int) (l : List Fld) : Bool × In := l.foldl (rdS k d) (true, noIn)
theorem tbI_num {k : Int} {n kd : Nat} (h : tbI k n kd = true) : n = 1 ∨ n = 2 ∨ n = 3 := by
 unfold tbI at h
 cases h1 : n == 1 with
 | true => exact .inl (by simpa using h1)
 | false =>
  cases h2 : n == 2 with
  | true => exact .inr (.inl (by simpa using h2))
  | false =>
   cases h3 : n == 3 with
   | true => exact .inr (.inr (by simpa using h3))
   | false => rw [h1, h2, h3] at h; simp at h
theorem snocInd {β : Type} {P : List β → Prop} (h0 : P []) (h1 : ∀ l x, P l → P (l ++ [x])) (l : List β) : P l := by
 rw [← List.reverse_reverse l]
 induction l.reverse with
 | nil => exact h0
 | cons x r ih => rw [List.reverse_cons]; exact h1 _ _ ih
theorem rd_snoc (k d : Int) (l : List Fld) (x : Fld) : rdG k d (l ++ [x]) = rdS k d (rdG k d l) x := by unfold rdG; rw [List.foldl_append]; rfl
theorem rd_stay {k d : Int} {y : Bool × In} {x : Fld} (h : y.1 = false) : rdS k d y x = y := by unfold rdS; rw [h]; rfl
theorem addI_same (k d : Int) (s : List UInt8) (y : In) : (addI k d s y).2.u = y.u ∧ (addI k d s y).2.temp = y.temp ∧ (addI k d s y).2.mono = y.mono ∧ (addI k d s y).2.nbs.length ≤ y.nbs.length + 1 ∧ (addI k d s y).2.his.length ≤ y.his.length + 1 ∧ (addI k d s y).2.ehs.length ≤ y.ehs.length + 1 ∧ (addI k d s y).2.sus.length ≤ y.sus.length + 1 := by
 unfold addI
 (repeat' split) <;> simp
theorem rd_len (k d : Int) : ∀ l : List Fld, (rdG k d l).2.u.length ≤ wt l ∧ (rdG k d l).2.nbs.length ≤ l.length ∧ (rdG k d l).2.his.length ≤ l.length ∧ (rdG k d l).2.ehs.length ≤ l.length ∧ (rdG k d l).2.sus.length ≤ l.length := by
 refine snocInd (by simp [rdG, noIn]) fun l x ih => ?_
 rw [rd_snoc, wt_snoc, List.length_append, List.length_singleton]
 obtain ⟨h1, h2, h3, h4, h5⟩ := ih
 obtain ⟨a1, -, -, a2, a3, a4, a5⟩ := addI_same k (d - 1) x.s (rdG k d l).2
 unfold rdS
 (repeat' split)
 ·exact ⟨by show (rdG k d l).2.u.length ≤ _; omega, by show (rdG k d l).2.nbs.length ≤ _; omega, by show (rdG k d l).2.his.length ≤ _; omega, by show (rdG k d l).2.ehs.length ≤ _; omega, by show (rdG k d l).2.sus.length ≤ _; omega⟩
 ·exact ⟨by show (rdG k d l).2.u.length ≤ _; omega, by show (rdG k d l).2.nbs.length ≤ _; omega, by show (rdG k d l).2.his.length ≤ _; omega, by show (rdG k d l).2.ehs.length ≤ _; omega, by show (rdG k d l).2.sus.length ≤ _; omega⟩
 ·rw [a1]; exact ⟨by omega, by omega, by omega, by omega, by omega⟩
 ·exact ⟨by show ((rdG k d l).2.u ++ x.raw).length ≤ _; rw [List.length_append]; omega, by show (rdG k d l).2.nbs.length ≤ _; omega, by show (rdG k d l).2.his.length ≤ _; omega, by show (rdG k d l).2.ehs.length ≤ _; omega, by show (rdG k d l).2.sus.length ≤ _; omega⟩
 ·exact ⟨by omega, by omega, by omega, by omega, by omega⟩
theorem pts_snoc {k d : Int} {l : List Fld} {x : Fld} {y : In} (h : ptsI k d l = some ⟨y.nbs, y.his, y.ehs, y.sus, 0, false, []⟩) (hk1 : 1 ≤ k) :
  (x.num = 1 → ptsI k d (l ++ [x]) = if (addI k (d - 1) x.s y).1 then some ⟨(addI k (d - 1) x.s y).2.nbs, (addI k (d - 1) x.s y).2.his, (addI k (d - 1) x.s y).2.ehs, (addI k (d - 1) x.s y).2.sus, 0, false, []⟩ else none) ∧ (x.num ≠ 1 → ptsI k d (l ++ [x]) = ptsI k d l) := by
 unfold ptsI at h ⊢
 unfold addI
 by_cases c1 : k = 1 ∨ k = 2
 ·rw [if_pos c1] at h ⊢
  rw [if_pos (show k ≤ 2 by omega)]
  cases hp : k'7 (fun s => okNb s (d - 1)) 1 l with
  | none => rw [hp] at h; simp at h
  | some v =>
   rw [hp] at h
   simp only [Option.some.injEq, In.mk.injEq] at h
   obtain ⟨q1, q2, q3, q4, -⟩ := h
   have p5 := k'2 (x := x) hp
   refine ⟨fun hn => ?_, fun hn => ?_⟩
   ·rw [p5, if_pos hn, ← q1, ← q2, ← q3, ← q4]
    cases okNb x.s (d - 1) <;> rfl
   ·rw [p5, if_neg hn]
    simp [c1]
 rw [if_neg c1] at h ⊢
 rw [if_neg (show ¬ k ≤ 2 by omega)]
 by_cases c2 : k = 3
 ·rw [if_pos c2] at h ⊢
  rw [if_pos c2]
  cases hp : k'7 (fun s => okHi s (d - 1)) 1 l with
  | none => rw [hp] at h; simp at h
  | some v =>
   rw [hp] at h
   simp only [Option.some.injEq, In.mk.injEq] at h
   obtain ⟨q1, q2, q3, q4, -⟩ := h
   have p5 := k'2 (x := x) hp
   refine ⟨fun hn => ?_, fun hn => ?_⟩
   ·rw [p5, if_pos hn, ← q1, ← q2, ← q3, ← q4]
    cases okHi x.s (d - 1) <;> rfl
   ·rw [p5, if_neg hn]
    simp [c1, c2]
 rw [if_neg c2] at h ⊢
 rw [if_neg c2]
 by_cases c3 : k = 4
 ·rw [if_pos c3] at h ⊢
  rw [if_pos c3]
  cases hp : k'7 (fun s => okEh s (d - 1)) 1 l with
  | none => rw [hp] at h; simp at h
  | some v =>
   rw [hp] at h
   simp only [Option.some.injEq, In.mk.injEq] at h
   obtain ⟨q1, q2, q3, q4, -⟩ := h
   have p5 := k'2 (x := x) hp
   refine ⟨fun hn => ?_, fun hn => ?_⟩
   ·rw [p5, if_pos hn, ← q1, ← q2, ← q3, ← q4]
    cases okEh x.s (d - 1) <;> rfl
   ·rw [p5, if_neg hn]
    simp [c1, c2, c3]
 rw [if_neg c3] at h ⊢
 rw [if_neg c3]
 cases hp : k'7 (fun s => okSu s (d - 1)) 1 l with
 | none => rw [hp] at h; simp at h
 | some v =>
  rw [hp] at h
  simp only [Option.some.injEq, In.mk.injEq] at h
  obtain ⟨q1, q2, q3, q4, -⟩ := h
  have p5 := k'2 (x := x) hp
  refine ⟨fun hn => ?_, fun hn => ?_⟩
  ·rw [p5, if_pos hn, ← q1, ← q2, ← q3, ← q4]
   cases okSu x.s (d - 1) <;> rfl
  ·rw [p5, if_neg hn]
   simp [c1, c2, c3]
theorem pts_none {k d : Int} {l : List Fld} {r : List Fld} (h : ptsI k d l = none) : ptsI k d (l ++ r) = none := by
 unfold ptsI at h ⊢
 (repeat' split at h) <;> simp_all [partsO_app]
theorem rd_tells {k : Int} (hk1 : 1 ≤ k) (d : Int) : ∀ l : List Fld, ((rdG k d l).1 = true → ptsI k d (k'1 (tbI k) l) = some ⟨(rdG k d l).2.nbs, (rdG k d l).2.his, (rdG k d l).2.ehs, (rdG k d l).2.sus, 0, false, []⟩ ∧ (rdG k d l).2.temp = k'31 (k'a (k'1 (tbI k) l) 2).n ∧ (rdG k d l).2.mono = decide (0 < (k'a (k'1 (tbI k) l) 3).n) ∧ (rdG k d l).2.u = unkL (tbI k) l) ∧ ((rdG k d l).1 = false → ptsI k d (k'1 (tbI k) l) = none) := by
 refine snocInd ⟨fun _ => ⟨by show ptsI k d [] = _; unfold ptsI; (repeat' split) <;> simp_all [k'7, sel, mapO, noIn, rdG], rfl, rfl, rfl⟩, fun h => by simp [rdG] at h⟩ fun l x ih => ?_
 rw [rd_snoc]
 obtain ⟨i1, i2⟩ := ih
 generalize rdG k d l = y at *
 cases ho : y.1
 ·rw [rd_stay ho]
  refine ⟨fun h => by rw [ho] at h; simp at h, fun _ => ?_⟩
  have e : k'1 (tbI k) (l ++ [x]) = k'1 (tbI k) l ++ k'1 (tbI k) [x] := by unfold k'1; rw [List.filter_append]
  rw [e]; exact pts_none (i2 ho)
 obtain ⟨j1, j2, j3, j4⟩ := i1 ho
 unfold rdS
 rw [ho, if_pos rfl]
 cases hb : tbI k x.num x.kind
 ·have e1 : k'1 (tbI k) (l ++ [x]) = k'1 (tbI k) l := by rw [k'4, show isT (tbI k) x = false from hb]; simp
  have e2 : unkL (tbI k) (l ++ [x]) = unkL (tbI k) l ++ x.raw := by rw [k'6, show isT (tbI k) x = false from hb]; rfl
  rw [e1, e2, if_neg (by simp)]
  exact ⟨fun _ => ⟨j1, j2, j3, by rw [← j4]⟩, fun h => by simp at h⟩
 have e1 : k'1 (tbI k) (l ++ [x]) = k'1 (tbI k) l ++ [x] := by rw [k'4, show isT (tbI k) x = true from hb]; rfl
 have e2 : unkL (tbI k) (l ++ [x]) = unkL (tbI k) l := by rw [k'6, show isT (tbI k) x = true from hb]; simp
 obtain ⟨s1, s2⟩ := pts_snoc (x := x) j1 hk1
 rw [e1, e2, k'0, k'0, if_pos rfl]
 obtain ⟨a1, a2, a3, -⟩ := addI_same k (d - 1) x.s y.2
 rcases tbI_num hb with hn | hn | hn
 ·rw [if_neg (by omega), if_neg (by omega), if_neg (by omega), if_neg (by omega), s1 hn, a1, a2, a3]
  exact ⟨fun h => ⟨by rw [if_pos h], j2, j3, j4⟩, fun h => by rw [if_neg (by rw [h]; simp)]⟩
 ·rw [if_pos hn, if_pos hn, if_neg (by omega), s2 (by omega)]
  exact ⟨fun _ => ⟨j1, rfl, j3, j4⟩, fun h => by simp at h⟩
 ·rw [if_neg (by omega), if_pos hn, if_neg (by omega), if_pos hn, s2 (by omega)]
  exact ⟨fun _ => ⟨j1, j2, rfl, j4⟩, fun h => by simp at h⟩
theorem t32w (n : Nat) : IntKind.i32.wrap (IntKind.u32.wrap (n : Int)) = k'31 n := by
 unfold k'31
 rw [IntKind.wrap_u32, IntKind.wrap_i32]
 split <;> omega
theorem posB (n : Nat) : ((n : Int) != 0) = decide (0 < n) := by
 by_cases h : n = 0
 ·subst h; rfl
 ·rw [decide_eq_true (show 0 < n by omega), bne_iff_ne]; omega
theorem Nb_fit (l : List Nb) : ∀ a ∈ l.map Nb.d, a.fits 8 = true := by
 intro a ha
 obtain ⟨c, -, rfl⟩ := List.mem_map.1 ha
 rfl
theorem Hi_fit (l : List Hi) : ∀ a ∈ l.map Hi.d, a.fits 15 = true := by
 intro a ha
 obtain ⟨c, -, rfl⟩ := List.mem_map.1 ha
 rfl
theorem Eh_fit (l : List Eh) : ∀ a ∈ l.map Eh.d, a.fits 24 = true := by
 intro a ha
 obtain ⟨c, -, rfl⟩ := List.mem_map.1 ha
 rfl
theorem Su_fit (l : List Su) : ∀ a ∈ l.map Su.d, a.fits 8 = true := by
 intro a ha
 obtain ⟨c, -, rfl⟩ := List.mem_map.1 ha
 rfl
def Rc (name desc unit : List UInt8) (k : Int) (mets : List Kv) (u : List UInt8) (y : In) : List T := [sT name, sT desc, sT unit, .d (.int .i64 k), .d (.int .i32 y.temp), .d (.bool y.mono), owT (y.nbs.map Nb.d), owT (y.his.map Hi.d), owT (y.ehs.map Eh.d), owT (y.sus.map Su.d), .d (slD (Kv.ds mets)), sT y.u, sT u]
set_option maxHeartbeats 4000000 in
theorem readData_calls (name desc unit : List UInt8) (k : Int) (hk1 : 1 ≤ k) (hk2 : k ≤ 5) (mets : List Kv) (u s : List UInt8) (d : Int) (hl : s.length < big) (hd1 : -9223372036854775808 ≤ d) (hd2 : d < 9223372036854775808) :
  ∃ c : Me, k'5 (cx B) 34 [.d (Me.d ⟨name, desc, unit, k, noIn, mets, u⟩), sT s, .d (.int .i64 d)] [] (.tup [.d c.d, .d (.bool (okI k s d).isSome)]) [] ∧ ∀ x, okI k s d = some x → c = ⟨name, desc, unit, k, x, mets, u⟩ := by
 have h1 := k'v B s d hl hd1 hd2
 have hl' := hl
 unfold big at hl'
 have hag : ∀ b : Me, b.d = .agg [.str b.name, .str b.desc, .str b.unit, .int .i64 b.kind, .int .i32 b.dat.temp, .bool b.dat.mono, slD (b.dat.nbs.map Nb.d), slD (b.dat.his.map Hi.d), slD (b.dat.ehs.map Eh.d), slD (b.dat.sus.map Su.d), slD (Kv.ds b.mets), .str b.dat.u, .str b.u] := fun b => rfl
 have e0 : okI k s d = apO (okG (tbI k) (tellI k) s d) := rfl
 rw [okG_L] at e0
 unfold k'2l at h1
 cases ho : okL s d with
 | none =>
  rw [ho] at h1 e0
  dsimp only at h1 e0
  refine ⟨⟨name, desc, unit, k, noIn, mets, u⟩, ?_, fun x hx => by rw [e0] at hx; simp at hx⟩
  rw [show (okI k s d).isSome = false by rw [e0]; rfl, hag]
  refine l_bw Tryz.func34 0 [] ?_
  refine l_cw [] (h1) rfl rfl rfl ?_
  refine k'1w (fun _ : Unit => 0) (fun _ => [(3, .ptr 0 0), (6, .ptr 1 0), (7, .d (.bool false)), (8, .d (.sl true [])), (9, .d (.bool false)), (10, iT 0)]) (fun _ => [.mu ((Me.d ⟨name, desc, unit, k, noIn, mets, u⟩).cells.map T.d), .mu (noMe.d.cells.map T.d)]) (fun _ => True) () trivial ⟨rfl, rfl, rfl, rfl, rfl, rfl, trivial⟩ ⟨WkC.refl _, ⟨.inr (.inl rfl), .inr (.inl rfl), .inr (.inl rfl), .inr (.inl rfl), .inr (.inl rfl), .inr (.inl rfl), .inr (.inr (.inl ⟨_, _, rfl, rfl⟩)), .inr (.inr (.inl ⟨_, _, rfl, rfl⟩)), .inr (.inr (.inl ⟨_, _, rfl, rfl⟩)), .inr (.inr (.inl ⟨_, _, rfl, rfl⟩)), .inr (.inr (.inl ⟨_, _, rfl, rfl⟩)), .inr (.inl rfl), .inr (.inl rfl), trivial⟩, trivial⟩ rfl 2 rfl (fun _ => rfl) (fun _ => rfl) (fun _ => rfl) ?_
  intro _ _
  exact O
 | some l =>
  rw [ho] at h1 e0
  obtain ⟨w1, w2⟩ := k'47 ho
  obtain ⟨-, -, -, hd0⟩ := k'1n ho
  dsimp only at h1 e0
  have hlen : (l.map Fld.d).length = l.length := by simp
  have hlok : LOk l := ⟨w2, by unfold big; omega⟩
  have hlb := hlok.len
  have htell := rd_tells hk1 d l
  generalize hY : rdG k d l = Y at htell
  have hok : okI k s d = if Y.1 then some Y.2 else none := by
   rw [e0]
   unfold tellI
   cases hyo : Y.1
   rotate_left
   ·obtain ⟨t1, t2, t3, t4⟩ := htell.1 hyo
    simp only [t1, Option.map_some, if_true]
    rw [← t2, ← t3, ← t4]
   simp only [htell.2 hyo]
   rfl
  refine ⟨⟨name, desc, unit, k, Y.2, mets, u⟩, ?_, fun x hx => by
   rw [hok] at hx
   split at hx
   ·injection hx with hx; rw [← hx]
   ·simp at hx⟩
  rw [show (okI k s d).isSome = Y.1 by rw [hok]; cases Y.1 <;> rfl, hag]
  refine l_bw Tryz.func34 0 [] ?_
  refine l_cw [] (h1) rfl rfl rfl ?_
  refine k'1w (fun i : Nat => l.length - i) (fun i => [(2, .d (.int .i64 d)), (3, .ptr 0 0), (6, .ptr 1 0), (7, .d (.bool false)), (8, .d (slD (l.map Fld.d))), (9, .d (.bool (rdG k d (l.take i)).1)), (10, iT i)])
   (fun i => [.mu (Rc name desc unit k mets u (rdG k d (l.take i)).2), .mu (noMe.d.cells.map T.d)])
   (fun i => i ≤ l.length) 0 (by omega) ⟨rfl, rfl, rfl, rfl, rfl, rfl, rfl, trivial⟩ ⟨⟨.inr (.inl rfl), .inr (.inl rfl), .inr (.inl rfl), .inr (.inl rfl), .inr (.inl rfl), .inr (.inl rfl), .inr (.inr (.inr ⟨rfl, rfl⟩)), .inr (.inr (.inr ⟨rfl, rfl⟩)), .inr (.inr (.inr ⟨rfl, rfl⟩)), .inr (.inr (.inr ⟨rfl, rfl⟩)), .inr (.inl rfl), .inr (.inl rfl), .inr (.inl rfl), trivial⟩, ⟨.inr (.inl rfl), .inr (.inl rfl), .inr (.inl rfl), .inr (.inl rfl), .inr (.inl rfl), .inr (.inl rfl), .inr (.inr (.inl ⟨_, _, rfl, rfl⟩)), .inr (.inr (.inl ⟨_, _, rfl, rfl⟩)), .inr (.inr (.inl ⟨_, _, rfl, rfl⟩)), .inr (.inr (.inl ⟨_, _, rfl, rfl⟩)), .inr (.inr (.inl ⟨_, _, rfl, rfl⟩)), .inr (.inl rfl), .inr (.inl rfl), trivial⟩, trivial⟩ rfl 2 rfl (fun _ => rfl) (fun _ => rfl) (fun _ => rfl) ?_
  intro i i1
  by_cases hlt : i < l.length
  ·obtain ⟨x, hx⟩ : ∃ x, l[i]? = some x := ⟨_, List.getElem?_eq_getElem hlt⟩
   have htk : l.take (i + 1) = l.take i ++ [x] := by rw [List.take_add_one, hx]; rfl
   have hst := rd_snoc k d (l.take i) x
   rw [← htk] at hst
   obtain ⟨b2, b3, b4, b5, b6⟩ := rd_len k d (l.take i)
   generalize hy1 : rdG k d (l.take (i + 1)) = y1 at hst
   generalize hy : rdG k d (l.take i) = y at *
   rw [List.length_take] at b3 b4 b5 b6
   have fin : ∀ s' : S, s'.env 2 = .d (.int .i64 d) → s'.env 3 = .ptr 0 0 → s'.env 6 = .ptr 1 0 → s'.env 7 = .d (.bool false) → s'.env 8 = .d (slD (l.map Fld.d)) → s'.env 9 = .d (.bool y1.1) → s'.env 10 = iT ((i + 1 : Nat) : Int) → s'.H.take 2 = [.mu (Rc name desc unit k mets u y1.2), .mu (noMe.d.cells.map T.d)] →
     ∃ q, l.length - q < l.length - i ∧ q ≤ l.length ∧ Holds [(2, .d (.int .i64 d)), (3, .ptr 0 0), (6, .ptr 1 0), (7, .d (.bool false)), (8, .d (slD (l.map Fld.d))), (9, .d (.bool (rdG k d (l.take q)).1)), (10, iT q)] s'.env ∧ (s'.H.take 2).all Ob.plain = true ∧ WkH (s'.H.take 2) [.mu (Rc name desc unit k mets u (rdG k d (l.take q)).2), .mu (noMe.d.cells.map T.d)] := fun s' q1 q2 q3 q4 q5 q6 q7 q8 =>
    ⟨i + 1, by omega, by omega, by rw [hy1]; exact ⟨q1, q2, q3, q4, q5, q6, q7, trivial⟩, by rw [q8]; rfl, by rw [hy1, q8]; exact WkH.refl _⟩
   cases hyo : y.1
   ·have hYo : Y = y := by
     have : ∀ r : List Fld, r.foldl (rdS k d) y = y := by
      intro r
      induction r with
      | nil => rfl
      | cons z r ih => rw [List.foldl_cons, rd_stay hyo]; exact ih
     rw [← hY, ← List.take_append_drop i l]
     unfold rdG at hy ⊢
     rw [List.foldl_append, hy]
     exact this _
    subst hYo
    rw [hyo]
    refine Z ?_
    rw [hlen, show decide ((i : Int) < l.length) = true from decide_eq_true (by omega)]
    exact O
   have hdx : (l.map Fld.d)[i]? = some x.d := by rw [List.getElem?_map, hx]; rfl
   obtain ⟨hfx, hwx⟩ := k'1x hlok hx
   have hwt := k'1u l i
   have ht := k'14 B (inTb k) x (by unfold inTb; (repeat' split) <;> decide) (by intro t ht; unfold inTb at ht; (repeat' split at ht) <;> simp at ht <;> omega)
   rw [tb_in hk1 hk2 _ _ hfx.kind] at ht
   have hxs : x.s.length < big := by have := hfx.s; unfold big; omega
   unfold rdS at hst
   rw [hyo, if_pos rfl] at hst
   refine Z ?_
   rw [hlen, show decide ((i : Int) < l.length) = true from decide_eq_true (by omega)]
   refine Z ?_
   refine k'3 (.indexAddr (k := .i64) (n := i) (es := l.map Fld.d) (u := x.d) rfl rfl rfl rfl (.inl ⟨_, rfl⟩) rfl (by omega) (by simpa using hdx) rfl (by decide)) rfl rfl ?_
   refine Z ?_
   refine x_cw [] (rInner_calls B k hk1 hk2) rfl rfl rfl ?_
   refine x_cw [] (ht) rfl rfl rfl ?_
   cases hb : tbI k x.num x.kind
   ·rw [hb, if_neg (by simp)] at hst
    subst hst
    refine Z ?_
    refine k'3 (.addStr rfl rfl rfl (by omega)) rfl rfl ?_
    refine Z ?_
    rw [wS i (by omega)]
    exact fin _ rfl rfl rfl rfl rfl rfl rfl rfl
   have hnum := tbI_num hb
   rw [hb, if_pos rfl] at hst
   obtain ⟨xn, xk, xv, xs, xr⟩ := x
   dsimp only at *
   refine Z ?_
   rcases hnum with rfl | rfl | rfl
   ·rw [if_neg (show ¬ (1 : Nat) = 2 by decide), if_neg (show ¬ (1 : Nat) = 3 by decide)] at hst
    unfold addI at hst
    refine Z ?_
    by_cases c0 : k ≤ 2
    ·rw [show decide (k ≤ 2) = true from decide_eq_true (by omega)] 
     rw [if_pos c0] at hst
     refine Z ?_
     have hv := ReadNb_calls B xs (d - 1) hxs (by omega) (by omega)
     have hm0 : (y.2.nbs.map Nb.d).length ≤ l.length := by rw [List.length_map]; omega
     unfold rNbT at hv
     cases hok : okNb xs (d - 1) with
     | none =>
      rw [hok] at hv hst
      dsimp only at hv hst
      subst hst
      refine Z ?_
      rw [k'b 1 (by omega) (by omega) (by omega) hd2]
      refine k'8 [] (hv) rfl rfl rfl ?_
      refine l_o0 rfl ?_
      refine adm ?_
      (try refine k'h rfl ?_)
      refine k'd (fst := false) 1 rfl rfl rfl ?_
      refine k'3 (.loadMov (q := owT (y.2.nbs.map Nb.d)) rfl rfl rfl rfl rfl rfl rfl) rfl rfl ?_
      refine Z ?_
      refine k'3 (.buildSlice (es := [Nb.d noNb]) rfl rfl rfl rfl rfl rfl (by intro x hx; simp at hx; subst hx; rfl) (by simp) (by decide) (by decide)) rfl rfl ?_
      have hm : (y.2.nbs.map Nb.d).length + [Nb.d noNb].length ≤ most := by simp [most] at *; omega
      refine k'3 (.append' rfl rfl rfl rfl ⟨_, _, rfl, rfl, by intro q; simp⟩ rfl rfl rfl rfl rfl (by rw [show [Nb.d noNb] = [noNb].map Nb.d from rfl, ← List.map_append]; exact Nb_fit _) (by decide) rfl hm rfl) rfl rfl ?_
      refine k'd (fst := false) 2 rfl rfl rfl ?_
      refine k'3 (.storeMov rfl rfl rfl rfl rfl rfl rfl (Nat.le_of_ble_eq_true rfl) rfl) rfl rfl ?_
      refine Z ?_
      rw [wS i (by omega)]
      exact fin _ rfl rfl rfl rfl rfl rfl rfl (by show [Ob.mu _, Ob.mu _] = _; unfold Rc; simp only [List.map_append]; rfl)
     | some v =>
      rw [hok] at hv hst
      dsimp only at hv hst
      subst hst
      refine Z ?_
      rw [k'b 1 (by omega) (by omega) (by omega) hd2]
      refine k'8 [] (hv) rfl rfl rfl ?_
      refine l_o0 rfl ?_
      refine adm ?_
      (try refine k'h rfl ?_)
      refine k'd (fst := false) 1 rfl rfl rfl ?_
      refine k'3 (.loadMov (q := owT (y.2.nbs.map Nb.d)) rfl rfl rfl rfl rfl rfl rfl) rfl rfl ?_
      refine Z ?_
      refine k'3 (.buildSlice (es := [Nb.d v]) rfl rfl rfl rfl rfl rfl (by intro x hx; simp at hx; subst hx; rfl) (by simp) (by decide) (by decide)) rfl rfl ?_
      have hm : (y.2.nbs.map Nb.d).length + [Nb.d v].length ≤ most := by simp [most] at *; omega
      refine k'3 (.append' rfl rfl rfl rfl ⟨_, _, rfl, rfl, by intro q; simp⟩ rfl rfl rfl rfl rfl (by rw [show [Nb.d v] = [v].map Nb.d from rfl, ← List.map_append]; exact Nb_fit _) (by decide) rfl hm rfl) rfl rfl ?_
      refine k'd (fst := false) 2 rfl rfl rfl ?_
      refine k'3 (.storeMov rfl rfl rfl rfl rfl rfl rfl (Nat.le_of_ble_eq_true rfl) rfl) rfl rfl ?_
      refine Z ?_
      rw [wS i (by omega)]
      exact fin _ rfl rfl rfl rfl rfl rfl rfl (by show [Ob.mu _, Ob.mu _] = _; unfold Rc; simp only [List.map_append]; rfl)
    rw [show decide (k ≤ 2) = false from decide_eq_false (by omega)]
    rw [if_neg c0] at hst
    refine Z ?_
    by_cases c1 : k = 3
    ·rw [show (k == 3) = true from by rw [beq_iff_eq]; omega] 
     rw [if_pos c1] at hst
     refine Z ?_
     have hv := ReadHi_calls B xs (d - 1) hxs (by omega) (by omega)
     have hm0 : (y.2.his.map Hi.d).length ≤ l.length := by rw [List.length_map]; omega
     unfold rHiT at hv
     cases hok : okHi xs (d - 1) with
     | none =>
      rw [hok] at hv hst
      dsimp only at hv hst
      subst hst
      refine Z ?_
      rw [k'b 1 (by omega) (by omega) (by omega) hd2]
      refine k'8 [] (hv) rfl rfl rfl ?_
      refine l_o0 rfl ?_
      refine adm ?_
      (try refine k'h rfl ?_)
      refine k'd (fst := false) 1 rfl rfl rfl ?_
      refine k'3 (.loadMov (q := owT (y.2.his.map Hi.d)) rfl rfl rfl rfl rfl rfl rfl) rfl rfl ?_
      refine Z ?_
      refine k'3 (.buildSlice (es := [Hi.d noHi]) rfl rfl rfl rfl rfl rfl (by intro x hx; simp at hx; subst hx; rfl) (by simp) (by decide) (by decide)) rfl rfl ?_
      have hm : (y.2.his.map Hi.d).length + [Hi.d noHi].length ≤ most := by simp [most] at *; omega
      refine k'3 (.append' rfl rfl rfl rfl ⟨_, _, rfl, rfl, by intro q; simp⟩ rfl rfl rfl rfl rfl (by rw [show [Hi.d noHi] = [noHi].map Hi.d from rfl, ← List.map_append]; exact Hi_fit _) (by decide) rfl hm rfl) rfl rfl ?_
      refine k'd (fst := false) 2 rfl rfl rfl ?_
      refine k'3 (.storeMov rfl rfl rfl rfl rfl rfl rfl (Nat.le_of_ble_eq_true rfl) rfl) rfl rfl ?_
      refine Z ?_
      rw [wS i (by omega)]
      exact fin _ rfl rfl rfl rfl rfl rfl rfl (by show [Ob.mu _, Ob.mu _] = _; unfold Rc; simp only [List.map_append]; rfl)
     | some v =>
      rw [hok] at hv hst
      dsimp only at hv hst
      subst hst
      refine Z ?_
      rw [k'b 1 (by omega) (by omega) (by omega) hd2]
      refine k'8 [] (hv) rfl rfl rfl ?_
      refine l_o0 rfl ?_
      refine adm ?_
      (try refine k'h rfl ?_)
      refine k'd (fst := false) 1 rfl rfl rfl ?_
      refine k'3 (.loadMov (q := owT (y.2.his.map Hi.d)) rfl rfl rfl rfl rfl rfl rfl) rfl rfl ?_
      refine Z ?_
      refine k'3 (.buildSlice (es := [Hi.d v]) rfl rfl rfl rfl rfl rfl (by intro x hx; simp at hx; subst hx; rfl) (by simp) (by decide) (by decide)) rfl rfl ?_
      have hm : (y.2.his.map Hi.d).length + [Hi.d v].length ≤ most := by simp [most] at *; omega
      refine k'3 (.append' rfl rfl rfl rfl ⟨_, _, rfl, rfl, by intro q; simp⟩ rfl rfl rfl rfl rfl (by rw [show [Hi.d v] = [v].map Hi.d from rfl, ← List.map_append]; exact Hi_fit _) (by decide) rfl hm rfl) rfl rfl ?_
      refine k'd (fst := false) 2 rfl rfl rfl ?_
      refine k'3 (.storeMov rfl rfl rfl rfl rfl rfl rfl (Nat.le_of_ble_eq_true rfl) rfl) rfl rfl ?_
      refine Z ?_
      rw [wS i (by omega)]
      exact fin _ rfl rfl rfl rfl rfl rfl rfl (by show [Ob.mu _, Ob.mu _] = _; unfold Rc; simp only [List.map_append]; rfl)
    rw [show (k == 3) = false from by rw [beq_eq_false_iff_ne]; omega]
    rw [if_neg c1] at hst
    refine Z ?_
    by_cases c2 : k = 4
    ·rw [show (k == 4) = true from by rw [beq_iff_eq]; omega] 
     rw [if_pos c2] at hst
     refine Z ?_
     have hv := ReadEh_calls B xs (d - 1) hxs (by omega) (by omega)
     have hm0 : (y.2.ehs.map Eh.d).length ≤ l.length := by rw [List.length_map]; omega
     unfold rEhT at hv
     cases hok : okEh xs (d - 1) with
     | none =>
      rw [hok] at hv hst
      dsimp only at hv hst
      subst hst
      refine Z ?_
      rw [k'b 1 (by omega) (by omega) (by omega) hd2]
      refine k'8 [] (hv) rfl rfl rfl ?_
      refine l_o0 rfl ?_
      refine adm ?_
      (try refine k'h rfl ?_)
      refine k'd (fst := false) 1 rfl rfl rfl ?_
      refine k'3 (.loadMov (q := owT (y.2.ehs.map Eh.d)) rfl rfl rfl rfl rfl rfl rfl) rfl rfl ?_
      refine Z ?_
      refine k'3 (.buildSlice (es := [Eh.d noEh]) rfl rfl rfl rfl rfl rfl (by intro x hx; simp at hx; subst hx; rfl) (by simp) (by decide) (by decide)) rfl rfl ?_
      have hm : (y.2.ehs.map Eh.d).length + [Eh.d noEh].length ≤ most := by simp [most] at *; omega
      refine k'3 (.append' rfl rfl rfl rfl ⟨_, _, rfl, rfl, by intro q; simp⟩ rfl rfl rfl rfl rfl (by rw [show [Eh.d noEh] = [noEh].map Eh.d from rfl, ← List.map_append]; exact Eh_fit _) (by decide) rfl hm rfl) rfl rfl ?_
      refine k'd (fst := false) 2 rfl rfl rfl ?_
      refine k'3 (.storeMov rfl rfl rfl rfl rfl rfl rfl (Nat.le_of_ble_eq_true rfl) rfl) rfl rfl ?_
      refine Z ?_
      rw [wS i (by omega)]
      exact fin _ rfl rfl rfl rfl rfl rfl rfl (by show [Ob.mu _, Ob.mu _] = _; unfold Rc; simp only [List.map_append]; rfl)
     | some v =>
      rw [hok] at hv hst
      dsimp only at hv hst
      subst hst
      refine Z ?_
      rw [k'b 1 (by omega) (by omega) (by omega) hd2]
      refine k'8 [] (hv) rfl rfl rfl ?_
      refine l_o0 rfl ?_
      refine adm ?_
      (try refine k'h rfl ?_)
      refine k'd (fst := false) 1 rfl rfl rfl ?_
      refine k'3 (.loadMov (q := owT (y.2.ehs.map Eh.d)) rfl rfl rfl rfl rfl rfl rfl) rfl rfl ?_
      refine Z ?_
      refine k'3 (.buildSlice (es := [Eh.d v]) rfl rfl rfl rfl rfl rfl (by intro x hx; simp at hx; subst hx; rfl) (by simp) (by decide) (by decide)) rfl rfl ?_
      have hm : (y.2.ehs.map Eh.d).length + [Eh.d v].length ≤ most := by simp [most] at *; omega
      refine k'3 (.append' rfl rfl rfl rfl ⟨_, _, rfl, rfl, by intro q; simp⟩ rfl rfl rfl rfl rfl (by rw [show [Eh.d v] = [v].map Eh.d from rfl, ← List.map_append]; exact Eh_fit _) (by decide) rfl hm rfl) rfl rfl ?_
      refine k'd (fst := false) 2 rfl rfl rfl ?_
      refine k'3 (.storeMov rfl rfl rfl rfl rfl rfl rfl (Nat.le_of_ble_eq_true rfl) rfl) rfl rfl ?_
      refine Z ?_
      rw [wS i (by omega)]
      exact fin _ rfl rfl rfl rfl rfl rfl rfl (by show [Ob.mu _, Ob.mu _] = _; unfold Rc; simp only [List.map_append]; rfl)
    rw [show (k == 4) = false from by rw [beq_eq_false_iff_ne]; omega]
    rw [if_neg c2] at hst
    refine Z ?_
    refine Z ?_
    have hv := ReadSu_calls B xs (d - 1) hxs (by omega) (by omega)
    have hm0 : (y.2.sus.map Su.d).length ≤ l.length := by rw [List.length_map]; omega
    unfold rSuT at hv
    cases hok : okSu xs (d - 1) with
    | none =>
     rw [hok] at hv hst
     dsimp only at hv hst
     subst hst
     refine Z ?_
     rw [k'b 1 (by omega) (by omega) (by omega) hd2]
     refine k'8 [] (hv) rfl rfl rfl ?_
     refine l_o0 rfl ?_
     refine adm ?_
     (try refine k'h rfl ?_)
     refine k'd (fst := false) 1 rfl rfl rfl ?_
     refine k'3 (.loadMov (q := owT (y.2.sus.map Su.d)) rfl rfl rfl rfl rfl rfl rfl) rfl rfl ?_
     refine Z ?_
     refine k'3 (.buildSlice (es := [Su.d noSu]) rfl rfl rfl rfl rfl rfl (by intro x hx; simp at hx; subst hx; rfl) (by simp) (by decide) (by decide)) rfl rfl ?_
     have hm : (y.2.sus.map Su.d).length + [Su.d noSu].length ≤ most := by simp [most] at *; omega
     refine k'3 (.append' rfl rfl rfl rfl ⟨_, _, rfl, rfl, by intro q; simp⟩ rfl rfl rfl rfl rfl (by rw [show [Su.d noSu] = [noSu].map Su.d from rfl, ← List.map_append]; exact Su_fit _) (by decide) rfl hm rfl) rfl rfl ?_
     refine k'd (fst := false) 2 rfl rfl rfl ?_
     refine k'3 (.storeMov rfl rfl rfl rfl rfl rfl rfl (Nat.le_of_ble_eq_true rfl) rfl) rfl rfl ?_
     refine Z ?_
     rw [wS i (by omega)]
     exact fin _ rfl rfl rfl rfl rfl rfl rfl (by show [Ob.mu _, Ob.mu _] = _; unfold Rc; simp only [List.map_append]; rfl)
    | some v =>
     rw [hok] at hv hst
     dsimp only at hv hst
     subst hst
     refine Z ?_
     rw [k'b 1 (by omega) (by omega) (by omega) hd2]
     refine k'8 [] (hv) rfl rfl rfl ?_
     refine l_o0 rfl ?_
     refine adm ?_
     (try refine k'h rfl ?_)
     refine k'd (fst := false) 1 rfl rfl rfl ?_
     refine k'3 (.loadMov (q := owT (y.2.sus.map Su.d)) rfl rfl rfl rfl rfl rfl rfl) rfl rfl ?_
     refine Z ?_
     refine k'3 (.buildSlice (es := [Su.d v]) rfl rfl rfl rfl rfl rfl (by intro x hx; simp at hx; subst hx; rfl) (by simp) (by decide) (by decide)) rfl rfl ?_
     have hm : (y.2.sus.map Su.d).length + [Su.d v].length ≤ most := by simp [most] at *; omega
     refine k'3 (.append' rfl rfl rfl rfl ⟨_, _, rfl, rfl, by intro q; simp⟩ rfl rfl rfl rfl rfl (by rw [show [Su.d v] = [v].map Su.d from rfl, ← List.map_append]; exact Su_fit _) (by decide) rfl hm rfl) rfl rfl ?_
     refine k'd (fst := false) 2 rfl rfl rfl ?_
     refine k'3 (.storeMov rfl rfl rfl rfl rfl rfl rfl (Nat.le_of_ble_eq_true rfl) rfl) rfl rfl ?_
     refine Z ?_
     rw [wS i (by omega)]
     exact fin _ rfl rfl rfl rfl rfl rfl rfl (by show [Ob.mu _, Ob.mu _] = _; unfold Rc; simp only [List.map_append]; rfl)
   ·rw [if_pos rfl] at hst
    subst hst
    refine Z ?_
    rw [t32w, wS i (by omega)]
    exact fin _ rfl rfl rfl rfl rfl rfl rfl rfl
   ·rw [if_neg (show ¬ (3 : Nat) = 2 by decide), if_pos rfl] at hst
    subst hst
    refine Z ?_
    rw [posB, wS i (by omega)]
    exact fin _ rfl rfl rfl rfl rfl rfl rfl rfl
  ·have he : i = l.length := by omega
   subst he
   rw [List.take_length, hY]
   refine Z ?_
   rw [hlen, show decide ((l.length : Int) < l.length) = false from decide_eq_false (by omega)]
   cases Y.1
   ·exact O
   exact O
