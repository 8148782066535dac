/- The reference: values read, and their lists. -/
import Derived.Test.YtnaojdjhjkendaaGreatDoorR4
import Derived.Test.YtnaojdjhjkendaaGreatDoorRS
set_option linter.unusedSimpArgs false
set_option linter.unusedVariables false
set_option maxRecDepth 100000
namespace Go.Proofs.YtnaojdjhjkendaaGreatDoor
open Go Go.Abs
variable (B : Fr)
/-! A value, record by record. -/
structure VSt where
 num : Nat
 s : List UInt8
 b : Bool
 n : Nat
 part : List UInt8
 u : List UInt8
def ns7 : List Nat := [1, 2, 3, 4, 5, 6, 7]
def VIs (k : VSt) (l : List Fld) : Prop := k.num = (oneF ns7 (k'1 tbV l)).num ∧ k.s = (if (oneF ns7 (k'1 tbV l)).num = 1 ∨ (oneF ns7 (k'1 tbV l)).num = 7 then (oneF ns7 (k'1 tbV l)).s else []) ∧ k.b = (if (oneF ns7 (k'1 tbV l)).num = 2 then decide (0 < (oneF ns7 (k'1 tbV l)).n) else false) ∧
 k.n = (if (oneF ns7 (k'1 tbV l)).num = 3 ∨ (oneF ns7 (k'1 tbV l)).num = 4 then (oneF ns7 (k'1 tbV l)).n else 0) ∧ k.part = (if (oneF ns7 (k'1 tbV l)).num = 5 ∨ (oneF ns7 (k'1 tbV l)).num = 6 then (oneF ns7 (k'1 tbV l)).all.flatten else []) ∧ k.u = unkL tbV l ∧ ((sel 1 (k'1 tbV l)).all fun x => txt x.s) = true
def VSt.next (k : VSt) (x : Fld) : VSt := ⟨x.num, if x.num = 1 ∨ x.num = 7 then x.s else [], if x.num = 2 then decide (0 < x.n) else false, if x.num = 3 ∨ x.num = 4 then x.n else 0, if x.num = 5 ∨ x.num = 6 then (if x.num = k.num then k.part ++ x.s else x.s) else [], k.u⟩
theorem tbV_num {n k : Nat} (hk : k < 8) (h : tbV n k = true) : n = 1 ∨ n = 2 ∨ n = 3 ∨ n = 4 ∨ n = 5 ∨ n = 6 ∨ n = 7 := by
 by_cases hn : n < 9
 ·have := (by decide : ∀ n < 9, ∀ k < 8, tbV n k = true → n = 1 ∨ n = 2 ∨ n = 3 ∨ n = 4 ∨ n = 5 ∨ n = 6 ∨ n = 7) n hn k hk h
  exact this
 ·rw [tbV_big (by omega)] at h; simp at h
theorem vis_unk {k : VSt} {l : List Fld} {x : Fld} (h : VIs k l) (hx : tbV x.num x.kind = false) : VIs ⟨k.num, k.s, k.b, k.n, k.part, k.u ++ x.raw⟩ (l ++ [x]) := by
 obtain ⟨h1, h2, h3, h4, h5, h6, h7⟩ := h
 have e1 : k'1 tbV (l ++ [x]) = k'1 tbV l := by rw [k'4, show isT tbV x = false from hx]; simp
 have e2 : unkL tbV (l ++ [x]) = unkL tbV l ++ x.raw := by rw [k'6, show isT tbV x = false from hx]; rfl
 unfold VIs
 rw [e1, e2]
 exact ⟨h1, h2, h3, h4, h5, by rw [← h6], h7⟩
theorem vis_next {k : VSt} {l : List Fld} {x : Fld} (h : VIs k l) (hk : x.kind < 8) (hx : tbV x.num x.kind = true) (ht : x.num = 1 → txt x.s = true) : VIs (k.next x) (l ++ [x]) := by
 obtain ⟨h1, h2, h3, h4, h5, h6, h7⟩ := h
 have hn := tbV_num hk hx
 have e1 : k'1 tbV (l ++ [x]) = k'1 tbV l ++ [x] := by rw [k'4, show isT tbV x = true from hx]; rfl
 have e2 : unkL tbV (l ++ [x]) = unkL tbV l := by rw [k'6, show isT tbV x = true from hx]; simp
 have hc : ns7.contains x.num = true := by rcases hn with h | h | h | h | h | h | h <;> rw [h] <;> rfl
 have e3 : oneF ns7 (k'1 tbV l ++ [x]) = if x.num = (oneF ns7 (k'1 tbV l)).num then ⟨x.num, x.n, x.s, (oneF ns7 (k'1 tbV l)).all ++ [x.s]⟩ else ⟨x.num, x.n, x.s, [x.s]⟩ := by
  rw [oneF_snoc]
  unfold k'm
  rw [hc]; simp
 have h8 : ((sel 1 (k'1 tbV l ++ [x])).all fun x => txt x.s) = true := by
  rw [sel_snoc]
  split
  ·rw [List.all_append, h7]; simp; exact ht ‹_›
  ·exact h7
 unfold VIs VSt.next
 rw [e1, e2, h1]
 by_cases hs : x.num = (oneF ns7 (k'1 tbV l)).num
 ·have e4 : oneF ns7 (k'1 tbV l ++ [x]) = ⟨x.num, x.n, x.s, (oneF ns7 (k'1 tbV l)).all ++ [x.s]⟩ := by rw [e3, if_pos hs]
  rw [e4]
  refine ⟨rfl, rfl, rfl, rfl, ?_, h6, h8⟩
  dsimp only
  by_cases h56 : x.num = 5 ∨ x.num = 6
  ·rw [if_pos h56, if_pos h56, if_pos hs, h5, if_pos (by rw [← hs]; exact h56)]; simp
  ·rw [if_neg h56, if_neg h56]
 ·have e4 : oneF ns7 (k'1 tbV l ++ [x]) = ⟨x.num, x.n, x.s, [x.s]⟩ := by rw [e3, if_neg hs]
  rw [e4]
  refine ⟨rfl, rfl, rfl, rfl, ?_, h6, h8⟩
  dsimp only
  by_cases h56 : x.num = 5 ∨ x.num = 6
  ·rw [if_pos h56, if_pos h56, if_neg hs]; simp
  ·rw [if_neg h56, if_neg h56]
theorem vis_fin {k : VSt} {l : List Fld} (h : VIs k l) (hf : ∀ x ∈ k'1 tbV l, FOk x) (oe : List UInt8 → Option Vl) (ok : List UInt8 → Option Kv) (d : Int) : (tellV oe ok d (k'1 tbV l)).map (fun f => f (unkL tbV l)) =
    (if k.num = 5 then (match okG tbL (fun _ l => k'7 oe 1 l) k.part (d - 1) with | none => none | some p => some (Vl.mk 5 [] false 0 p.1 [] p.2 k.u))
     else if k.num = 6 then (match okG tbL (fun _ l => k'7 ok 1 l) k.part (d - 1) with | none => none | some p => some (Vl.mk 6 [] false 0 [] p.1 p.2 k.u))
     else some (Vl.mk k.num k.s k.b k.n [] [] [] k.u)) ∧ (k.num = 5 ∨ k.num = 6 → k.s = [] ∧ k.b = false ∧ k.n = 0) := by
  obtain ⟨h1, h2, h3, h4, h5, h6, h7⟩ := h
  obtain ⟨-, -, -, o4⟩ := oneF_ok (ns := ns7) hf
  unfold tellV
  rw [if_neg (by rw [h7]; simp)]
  dsimp only
  rw [show ([1, 2, 3, 4, 5, 6, 7] : List Nat) = ns7 from rfl]
  generalize oneF ns7 (k'1 tbV l) = o at *
  rw [h1, h6, ← h6]
  have hnum : o.num = 0 ∨ o.num = 1 ∨ o.num = 2 ∨ o.num = 3 ∨ o.num = 4 ∨ o.num = 5 ∨ o.num = 6 ∨ o.num = 7 := by
    rcases o4 with h | ⟨h, -⟩
    · exact .inl h
    · right
      have : ns7.contains o.num = true := h
      simp [ns7] at this
      omega
  rcases hnum with h | h | h | h | h | h | h | h
  all_goals (rw [h] at h2 h3 h4 h5 ⊢; simp at h2 h3 h4 h5)
  · simp [h2, h3, h4]
  · simp [h2, h3, h4]
  · simp [h2, h3, h4]
  · simp [h2, h3, h4]
  · simp [h2, h3, h4]
  · refine ⟨?_, fun _ => ⟨h2, h3, h4⟩⟩
    rw [h5]
    simp
    cases okG tbL (fun _ l => k'7 oe 1 l) o.all.flatten (d - 1) <;> rfl
  · refine ⟨?_, fun _ => ⟨h2, h3, h4⟩⟩
    rw [h5]
    simp
    cases okG tbL (fun _ l => k'7 ok 1 l) o.all.flatten (d - 1) <;> rfl
  · simp [h2, h3, h4]
def vstC (k : VSt) : List T := [.d (.int .i64 k.num), sT k.s, .d (.bool k.b), .d (.int .u64 k.n), .d (.sl true []), .d (.sl true []), sT [], sT k.u]
theorem readList5_step (u s : List UInt8) (d : Int) (hl : s.length < big) (hd1 : -9223372036854775808 ≤ d) (hd2 : d < 9223372036854775808)
  (hV : 0 ≤ d → ∀ s', s'.length < big → k'5 (cx B) 100 [sT s', .d (.int .i64 (d - 1))] [] (rvT2 (okV s' (d - 1))) []) :
  k'5 (cx B) 194 [.d (.agg [.int .i64 5, .str [], .bool false, .int .u64 0, .sl true [], .sl true [], .str [], .str u]), sT s, .d (.int .i64 d)] [] (rvT2 (match okG tbL (fun _ l => k'7 (fun s => okV s (d - 1)) 1 l) s d with | none => none | some p => some (Vl.mk 5 [] false 0 p.1 [] p.2 u))) [] := by
 have h1 := k'v B s d hl hd1 hd2
 have hl' := hl
 unfold big at hl'
 unfold k'2l at h1
 have hG : okG tbL (fun _ l => k'7 (fun s => okV s (d - 1)) 1 l) s d = (match okL s d with | none => none | some l => (k'7 (fun s => okV s (d - 1)) 1 (k'1 tbL l)).map fun b => (b, unkL tbL l)) := by
  unfold okG
  cases okL s d with
  | none => rfl
  | some l =>
   simp only
   cases k'7 (fun s => okV s (d - 1)) 1 (k'1 tbL l) <;> rfl
 rw [hG]
 cases ho : okL s d with
 | none =>
  rw [ho] at h1
  dsimp only at h1 ⊢
  unfold rvT2
  refine l_bw Tryz.func194 0 [] ?_
  refine l_cw [] (h1) rfl rfl rfl ?_
  refine k'y (fun _ : Unit => 0) (fun _ => [(3, .ptr 0 0), (6, .ptr 1 0), (7, .d (.bool false)), (8, .d (.sl true [])), (9, .d (.bool false)), (10, iT 0)]) (fun _ => _) (fun _ => True) () trivial ⟨rfl, rfl, rfl, rfl, rfl, rfl, trivial⟩ rfl 2 rfl (fun _ => rfl) (fun _ => rfl) (fun _ => rfl) ?_
  intro _ _
  exact O
 | some l =>
  rw [ho] at h1
  obtain ⟨w1, w2⟩ := k'47 ho
  obtain ⟨-, -, -, hd0⟩ := k'1n ho
  dsimp only at h1 ⊢
  have hlen : (l.map Fld.d).length = l.length := by simp
  have hlok : LOk l := ⟨w2, by unfold big; omega⟩
  have hlb := hlok.len
  refine l_bw Tryz.func194 0 [] ?_
  refine l_cw [] (h1) rfl rfl rfl ?_
  refine k'1w (fun y : Nat × Bool × List Vl × List UInt8 => l.length - y.1) (fun y => [(2, .d (.int .i64 d)), (3, .ptr 0 0), (6, .ptr 1 0), (7, .d (.bool false)), (8, .d (slD (l.map Fld.d))), (9, .d (.bool y.2.1)), (10, iT y.1)])
   (fun y => [.mu [.d (.int .i64 5), sT [], .d (.bool false), .d (.int .u64 0), owT ((y.2.2.1.map Vl.sh).map VaS.d), .d (.sl true []), sT y.2.2.2, sT u], .mu ((VaS.d noVl.sh).cells.map T.d)])
   (fun y => y.1 ≤ l.length ∧ (y.2.1 = true → k'7 (fun s => okV s (d - 1)) 1 (k'1 tbL (l.take y.1)) = some y.2.2.1 ∧ y.2.2.2 = unkL tbL (l.take y.1) ∧ y.2.2.1.length ≤ y.1) ∧ (y.2.1 = false → k'7 (fun s => okV s (d - 1)) 1 (k'1 tbL l) = none)) (0, true, [], [])
   ⟨by omega, fun _ => ⟨by rw [List.take_zero]; rfl, by rw [List.take_zero]; rfl, by simp⟩, fun h => by simp at h⟩ ⟨rfl, rfl, rfl, rfl, rfl, rfl, rfl, trivial⟩ ?_ rfl 2 rfl (fun _ => rfl) (fun _ => rfl) (fun _ => rfl) ?_
  ·exact ⟨⟨.inr (.inl rfl), .inr (.inl rfl), .inr (.inl rfl), .inr (.inl rfl), .inr (.inr (.inr ⟨rfl, rfl⟩)), .inr (.inl rfl), .inr (.inl rfl), .inr (.inl rfl), trivial⟩, ⟨.inr (.inl rfl), .inr (.inl rfl), .inr (.inl rfl), .inr (.inl rfl), .inr (.inr (.inl ⟨_, _, rfl, rfl⟩)), .inr (.inr (.inl ⟨_, _, rfl, rfl⟩)), .inr (.inl rfl), .inr (.inl rfl), trivial⟩, trivial⟩
  rintro ⟨i, ok, vs, inn⟩ ⟨i1, i2, i3⟩
  dsimp only at i1 i2 i3 ⊢
  have hwi : i < l.length → IntKind.i64.wrap ((i : Int) + 1) = ((i + 1 : Nat) : Int) := fun h => by rw [k'1b (by omega) (by omega)]; omega
  by_cases hlt : i < l.length
  ·cases ok
   ·refine Z ?_
    rw [hlen, show decide ((i : Int) < l.length) = true from decide_eq_true (by omega)]
    refine Z ?_
    rw [i3 rfl]
    unfold rvT2
    exact k'j rfl
   obtain ⟨r1, r2, r3⟩ := i2 rfl
   obtain ⟨x, hx⟩ : ∃ x, l[i]? = some x := ⟨_, List.getElem?_eq_getElem hlt⟩
   have hdx : (l.map Fld.d)[i]? = some x.d := by rw [List.getElem?_map, hx]; rfl
   have htk : l.take (i + 1) = l.take i ++ [x] := by rw [List.take_add_one, hx]; rfl
   obtain ⟨hfx, hwx⟩ := k'1x hlok hx
   have hwt := k'1u l i
   have hul : inn.length ≤ wt (l.take i) := by rw [r2]; exact k'1y _ _
   have ht := k'14 B [10] x (by decide) (by intro t ht; simp at ht; omega)
   rw [tk_L _ _ hfx.kind] at ht
   refine Z ?_
   rw [hlen, show decide ((i : Int) < l.length) = true from decide_eq_true (by omega)]
   refine Z ?_
   refine x_cw [] (rlists_calls B) rfl rfl rfl ?_
   refine k'35 (.indexAddr (k := .i64) (n := i) (es := l.map Fld.d) (u := x.d) rfl rfl rfl rfl (.inl ⟨_, rfl⟩) rfl (by omega) (by simpa using hdx) rfl (by decide)) rfl rfl rfl ?_
   refine Z ?_
   refine x_cw [] (ht) rfl rfl rfl ?_
   cases hb : tbL x.num x.kind
   ·have hk : k'1 tbL (l.take (i + 1)) = k'1 tbL (l.take i) := by rw [htk, k'4, show isT tbL x = false from hb]; simp
    have hu : unkL tbL (l.take (i + 1)) = unkL tbL (l.take i) ++ x.raw := by rw [htk, k'6, show isT tbL x = false from hb]; rfl
    refine Z ?_
    refine k'35 (.indexAddr (k := .i64) (n := i) (es := l.map Fld.d) (u := x.d) rfl rfl rfl rfl (.inl ⟨_, rfl⟩) rfl (by omega) (by simpa using hdx) rfl (by decide)) rfl rfl rfl ?_
    refine Z ?_
    refine k'35 (.addStr rfl rfl rfl (by omega)) rfl rfl rfl ?_
    refine Z ?_
    rw [hwi hlt]
    exact ⟨(i + 1, true, vs, inn ++ x.raw), by show l.length - (i + 1) < _; omega, ⟨by show i + 1 ≤ _; omega, fun _ => ⟨by rw [hk]; exact r1, by rw [hu, ← r2], by show vs.length ≤ i + 1; omega⟩, fun h => by simp at h⟩, ⟨rfl, rfl, rfl, rfl, rfl, rfl, rfl, trivial⟩, rfl, k'g rfl⟩
   have hk : k'1 tbL (l.take (i + 1)) = k'1 tbL (l.take i) ++ [x] := by rw [htk, k'4, show isT tbL x = true from hb]; rfl
   have hu : unkL tbL (l.take (i + 1)) = unkL tbL (l.take i) := by rw [htk, k'6, show isT tbL x = true from hb]; simp
   have hn : x.num = 1 := by unfold tbL at hb; simp at hb; omega
   have hp := k'2 (x := x) r1
   rw [if_pos hn, ← hk] at hp
   have hxs : x.s.length < big := by have := hfx.s; unfold big; omega
   have hv := hV hd0 x.s hxs
   have hm0 : (vs.map Vl.sh).length ≤ i := by rw [List.length_map]; exact r3
   cases hok : okV x.s (d - 1) with
   | none =>
    rw [hok] at hv hp
    unfold rvT2 at hv
    dsimp only at hv
    refine Z ?_
    refine k'3 (.indexAddr (k := .i64) (n := i) (es := l.map Fld.d) (u := x.d) rfl rfl rfl rfl (.inl ⟨_, rfl⟩) rfl (by omega) (by simpa using hdx) rfl (by decide)) rfl rfl ?_
    refine Z ?_
    rw [k'b 1 (by omega) (by omega) (by omega) hd2]
    refine k'8 [] (hv) rfl rfl rfl ?_
    refine l_o0 rfl ?_
    refine adm ?_
    (try refine k'h rfl ?_)
    refine k'd (fst := false) 1 rfl rfl rfl ?_
    refine k'3 (.loadMov (q := owT ((vs.map Vl.sh).map VaS.d)) rfl rfl rfl rfl rfl rfl rfl) rfl rfl ?_
    refine Z ?_
    refine k'3 (.buildSlice (es := [VaS.d noVl.sh]) rfl rfl rfl rfl rfl rfl (by intro x hx; simp at hx; subst hx; rfl) (by simp) (by decide) (by decide)) rfl rfl ?_
    have hm : ((vs.map Vl.sh).map VaS.d).length + [VaS.d noVl.sh].length ≤ most := by simp [most] at *; omega
    refine k'3 (.append' rfl rfl rfl rfl ⟨_, _, rfl, rfl, by intro q; simp⟩ rfl rfl rfl rfl rfl (by rw [show [VaS.d noVl.sh] = [noVl.sh].map VaS.d from rfl, ← List.map_append]; exact VaS_fits _) (by decide) rfl hm rfl) rfl rfl ?_
    refine k'd (fst := false) 2 rfl rfl rfl ?_
    refine k'3 (.storeMov rfl rfl rfl rfl rfl rfl rfl (Nat.le_of_ble_eq_true rfl) rfl) rfl rfl ?_
    refine Z ?_
    rw [hwi hlt]
    exact ⟨(i + 1, false, vs ++ [noVl], inn), by show l.length - (i + 1) < _; omega, ⟨by show i + 1 ≤ _; omega, fun h => by simp at h, fun _ => k'1f (i + 1) hp⟩, ⟨rfl, rfl, rfl, rfl, rfl, rfl, rfl, trivial⟩, rfl, k'g (by rw [List.map_append, List.map_append]; rfl)⟩
   | some v =>
    rw [hok] at hv hp
    unfold rvT2 at hv
    dsimp only at hv
    refine Z ?_
    refine k'3 (.indexAddr (k := .i64) (n := i) (es := l.map Fld.d) (u := x.d) rfl rfl rfl rfl (.inl ⟨_, rfl⟩) rfl (by omega) (by simpa using hdx) rfl (by decide)) rfl rfl ?_
    refine Z ?_
    rw [k'b 1 (by omega) (by omega) (by omega) hd2]
    refine k'8 [] (hv) rfl rfl rfl ?_
    refine l_o0 rfl ?_
    refine adm ?_
    (try refine k'h rfl ?_)
    refine k'd (fst := false) 1 rfl rfl rfl ?_
    refine k'3 (.loadMov (q := owT ((vs.map Vl.sh).map VaS.d)) rfl rfl rfl rfl rfl rfl rfl) rfl rfl ?_
    refine Z ?_
    refine k'3 (.buildSlice (es := [VaS.d v.sh]) rfl rfl rfl rfl rfl rfl (by intro x hx; simp at hx; subst hx; rfl) (by simp) (by decide) (by decide)) rfl rfl ?_
    have hm : ((vs.map Vl.sh).map VaS.d).length + [VaS.d v.sh].length ≤ most := by simp [most] at *; omega
    refine k'3 (.append' rfl rfl rfl rfl ⟨_, _, rfl, rfl, by intro q; simp⟩ rfl rfl rfl rfl rfl (by rw [show [VaS.d v.sh] = [v.sh].map VaS.d from rfl, ← List.map_append]; exact VaS_fits _) (by decide) rfl hm rfl) rfl rfl ?_
    refine k'd (fst := false) 2 rfl rfl rfl ?_
    refine k'3 (.storeMov rfl rfl rfl rfl rfl rfl rfl (Nat.le_of_ble_eq_true rfl) rfl) rfl rfl ?_
    refine Z ?_
    rw [hwi hlt]
    exact ⟨(i + 1, true, vs ++ [v], inn), by show l.length - (i + 1) < _; omega, ⟨by show i + 1 ≤ _; omega, fun _ => ⟨hp, by rw [hu]; exact r2, by show (vs ++ [v]).length ≤ i + 1; simp; omega⟩, fun h => by simp at h⟩, ⟨rfl, rfl, rfl, rfl, rfl, rfl, rfl, trivial⟩, rfl, k'g (by rw [List.map_append, List.map_append]; rfl)⟩
  ·have he : i = l.length := by omega
   subst he
   refine Z ?_
   rw [hlen, show decide ((l.length : Int) < l.length) = false from decide_eq_false (by omega)]
   cases ok
   ·refine Z ?_
    rw [i3 rfl]
    unfold rvT2
    exact k'j rfl
   obtain ⟨r1, r2, -⟩ := i2 rfl
   rw [List.take_length] at r1 r2
   have hD : VaS.d (Vl.sh (Vl.mk 5 [] false 0 vs [] (unkL tbL l) u)) = .agg [.int .i64 5, .str [], .bool false, .int .u64 0, slD ((vs.map Vl.sh).map VaS.d), .sl true [], .str inn, .str u] := by
    rw [vs_map, r2]; rfl
   rw [r1]
   simp only [Option.map_some, rvT2]
   rw [hD]
   exact O
theorem readList6_step (u s : List UInt8) (d : Int) (hl : s.length < big) (hd1 : -9223372036854775808 ≤ d) (hd2 : d < 9223372036854775808)
  (hV : 0 ≤ d → ∀ s', s'.length < big → k'5 (cx B) 32 [sT s', .d (.int .i64 (d - 1))] [] (rkT (okK s' (d - 1))) []) :
  k'5 (cx B) 194 [.d (.agg [.int .i64 6, .str [], .bool false, .int .u64 0, .sl true [], .sl true [], .str [], .str u]), sT s, .d (.int .i64 d)] [] (rvT2 (match okG tbL (fun _ l => k'7 (fun s => okK s (d - 1)) 1 l) s d with | none => none | some p => some (Vl.mk 6 [] false 0 [] p.1 p.2 u))) [] := by
 have h1 := k'v B s d hl hd1 hd2
 have hl' := hl
 unfold big at hl'
 unfold k'2l at h1
 have hG : okG tbL (fun _ l => k'7 (fun s => okK s (d - 1)) 1 l) s d = (match okL s d with | none => none | some l => (k'7 (fun s => okK s (d - 1)) 1 (k'1 tbL l)).map fun b => (b, unkL tbL l)) := by
  unfold okG
  cases okL s d with
  | none => rfl
  | some l =>
   simp only
   cases k'7 (fun s => okK s (d - 1)) 1 (k'1 tbL l) <;> rfl
 rw [hG]
 cases ho : okL s d with
 | none =>
  rw [ho] at h1
  dsimp only at h1 ⊢
  unfold rvT2
  refine l_bw Tryz.func194 0 [] ?_
  refine l_cw [] (h1) rfl rfl rfl ?_
  refine k'y (fun _ : Unit => 0) (fun _ => [(3, .ptr 0 0), (6, .ptr 1 0), (7, .d (.bool false)), (8, .d (.sl true [])), (9, .d (.bool false)), (10, iT 0)]) (fun _ => _) (fun _ => True) () trivial ⟨rfl, rfl, rfl, rfl, rfl, rfl, trivial⟩ rfl 2 rfl (fun _ => rfl) (fun _ => rfl) (fun _ => rfl) ?_
  intro _ _
  exact O
 | some l =>
  rw [ho] at h1
  obtain ⟨w1, w2⟩ := k'47 ho
  obtain ⟨-, -, -, hd0⟩ := k'1n ho
  dsimp only at h1 ⊢
  have hlen : (l.map Fld.d).length = l.length := by simp
  have hlok : LOk l := ⟨w2, by unfold big; omega⟩
  have hlb := hlok.len
  refine l_bw Tryz.func194 0 [] ?_
  refine l_cw [] (h1) rfl rfl rfl ?_
  refine k'1w (fun y : Nat × Bool × List Kv × List UInt8 => l.length - y.1) (fun y => [(2, .d (.int .i64 d)), (3, .ptr 0 0), (6, .ptr 1 0), (7, .d (.bool false)), (8, .d (slD (l.map Fld.d))), (9, .d (.bool y.2.1)), (10, iT y.1)])
   (fun y => [.mu [.d (.int .i64 6), sT [], .d (.bool false), .d (.int .u64 0), .d (.sl true []), owT ((y.2.2.1.map Kv.sh).map KVs.d), sT y.2.2.2, sT u], .mu ((VaS.d noVl.sh).cells.map T.d)])
   (fun y => y.1 ≤ l.length ∧ (y.2.1 = true → k'7 (fun s => okK s (d - 1)) 1 (k'1 tbL (l.take y.1)) = some y.2.2.1 ∧ y.2.2.2 = unkL tbL (l.take y.1) ∧ y.2.2.1.length ≤ y.1) ∧ (y.2.1 = false → k'7 (fun s => okK s (d - 1)) 1 (k'1 tbL l) = none)) (0, true, [], [])
   ⟨by omega, fun _ => ⟨by rw [List.take_zero]; rfl, by rw [List.take_zero]; rfl, by simp⟩, fun h => by simp at h⟩ ⟨rfl, rfl, rfl, rfl, rfl, rfl, rfl, trivial⟩ ?_ rfl 2 rfl (fun _ => rfl) (fun _ => rfl) (fun _ => rfl) ?_
  ·exact ⟨⟨.inr (.inl rfl), .inr (.inl rfl), .inr (.inl rfl), .inr (.inl rfl), .inr (.inl rfl), .inr (.inr (.inr ⟨rfl, rfl⟩)), .inr (.inl rfl), .inr (.inl rfl), trivial⟩, ⟨.inr (.inl rfl), .inr (.inl rfl), .inr (.inl rfl), .inr (.inl rfl), .inr (.inr (.inl ⟨_, _, rfl, rfl⟩)), .inr (.inr (.inl ⟨_, _, rfl, rfl⟩)), .inr (.inl rfl), .inr (.inl rfl), trivial⟩, trivial⟩
  rintro ⟨i, ok, vs, inn⟩ ⟨i1, i2, i3⟩
  dsimp only at i1 i2 i3 ⊢
  have hwi : i < l.length → IntKind.i64.wrap ((i : Int) + 1) = ((i + 1 : Nat) : Int) := fun h => by rw [k'1b (by omega) (by omega)]; omega
  by_cases hlt : i < l.length
  ·cases ok
   ·refine Z ?_
    rw [hlen, show decide ((i : Int) < l.length) = true from decide_eq_true (by omega)]
    refine Z ?_
    rw [i3 rfl]
    unfold rvT2
    exact k'j rfl
   obtain ⟨r1, r2, r3⟩ := i2 rfl
   obtain ⟨x, hx⟩ : ∃ x, l[i]? = some x := ⟨_, List.getElem?_eq_getElem hlt⟩
   have hdx : (l.map Fld.d)[i]? = some x.d := by rw [List.getElem?_map, hx]; rfl
   have htk : l.take (i + 1) = l.take i ++ [x] := by rw [List.take_add_one, hx]; rfl
   obtain ⟨hfx, hwx⟩ := k'1x hlok hx
   have hwt := k'1u l i
   have hul : inn.length ≤ wt (l.take i) := by rw [r2]; exact k'1y _ _
   have ht := k'14 B [10] x (by decide) (by intro t ht; simp at ht; omega)
   rw [tk_L _ _ hfx.kind] at ht
   refine Z ?_
   rw [hlen, show decide ((i : Int) < l.length) = true from decide_eq_true (by omega)]
   refine Z ?_
   refine x_cw [] (rlists_calls B) rfl rfl rfl ?_
   refine k'35 (.indexAddr (k := .i64) (n := i) (es := l.map Fld.d) (u := x.d) rfl rfl rfl rfl (.inl ⟨_, rfl⟩) rfl (by omega) (by simpa using hdx) rfl (by decide)) rfl rfl rfl ?_
   refine Z ?_
   refine x_cw [] (ht) rfl rfl rfl ?_
   cases hb : tbL x.num x.kind
   ·have hk : k'1 tbL (l.take (i + 1)) = k'1 tbL (l.take i) := by rw [htk, k'4, show isT tbL x = false from hb]; simp
    have hu : unkL tbL (l.take (i + 1)) = unkL tbL (l.take i) ++ x.raw := by rw [htk, k'6, show isT tbL x = false from hb]; rfl
    refine Z ?_
    refine k'35 (.indexAddr (k := .i64) (n := i) (es := l.map Fld.d) (u := x.d) rfl rfl rfl rfl (.inl ⟨_, rfl⟩) rfl (by omega) (by simpa using hdx) rfl (by decide)) rfl rfl rfl ?_
    refine Z ?_
    refine k'35 (.addStr rfl rfl rfl (by omega)) rfl rfl rfl ?_
    refine Z ?_
    rw [hwi hlt]
    exact ⟨(i + 1, true, vs, inn ++ x.raw), by show l.length - (i + 1) < _; omega, ⟨by show i + 1 ≤ _; omega, fun _ => ⟨by rw [hk]; exact r1, by rw [hu, ← r2], by show vs.length ≤ i + 1; omega⟩, fun h => by simp at h⟩, ⟨rfl, rfl, rfl, rfl, rfl, rfl, rfl, trivial⟩, rfl, k'g rfl⟩
   have hk : k'1 tbL (l.take (i + 1)) = k'1 tbL (l.take i) ++ [x] := by rw [htk, k'4, show isT tbL x = true from hb]; rfl
   have hu : unkL tbL (l.take (i + 1)) = unkL tbL (l.take i) := by rw [htk, k'6, show isT tbL x = true from hb]; simp
   have hn : x.num = 1 := by unfold tbL at hb; simp at hb; omega
   have hp := k'2 (x := x) r1
   rw [if_pos hn, ← hk] at hp
   have hxs : x.s.length < big := by have := hfx.s; unfold big; omega
   have hv := hV hd0 x.s hxs
   have hm0 : (vs.map Kv.sh).length ≤ i := by rw [List.length_map]; exact r3
   cases hok : okK x.s (d - 1) with
   | none =>
    rw [hok] at hv hp
    unfold rkT at hv
    dsimp only at hv
    refine Z ?_
    refine k'3 (.indexAddr (k := .i64) (n := i) (es := l.map Fld.d) (u := x.d) rfl rfl rfl rfl (.inl ⟨_, rfl⟩) rfl (by omega) (by simpa using hdx) rfl (by decide)) rfl rfl ?_
    refine Z ?_
    rw [k'b 1 (by omega) (by omega) (by omega) hd2]
    refine k'8 [] (hv) rfl rfl rfl ?_
    refine l_o0 rfl ?_
    refine adm ?_
    (try refine k'h rfl ?_)
    refine k'd (fst := false) 1 rfl rfl rfl ?_
    refine k'3 (.loadMov (q := owT ((vs.map Kv.sh).map KVs.d)) rfl rfl rfl rfl rfl rfl rfl) rfl rfl ?_
    refine Z ?_
    refine k'3 (.buildSlice (es := [KVs.d noKv.sh]) rfl rfl rfl rfl rfl rfl (by intro x hx; simp at hx; subst hx; rfl) (by simp) (by decide) (by decide)) rfl rfl ?_
    have hm : ((vs.map Kv.sh).map KVs.d).length + [KVs.d noKv.sh].length ≤ most := by simp [most] at *; omega
    refine k'3 (.append' rfl rfl rfl rfl ⟨_, _, rfl, rfl, by intro q; simp⟩ rfl rfl rfl rfl rfl (by rw [show [KVs.d noKv.sh] = [noKv.sh].map KVs.d from rfl, ← List.map_append]; exact k'1r _) (by decide) rfl hm rfl) rfl rfl ?_
    refine k'd (fst := false) 2 rfl rfl rfl ?_
    refine k'3 (.storeMov rfl rfl rfl rfl rfl rfl rfl (Nat.le_of_ble_eq_true rfl) rfl) rfl rfl ?_
    refine Z ?_
    rw [hwi hlt]
    exact ⟨(i + 1, false, vs ++ [noKv], inn), by show l.length - (i + 1) < _; omega, ⟨by show i + 1 ≤ _; omega, fun h => by simp at h, fun _ => k'1f (i + 1) hp⟩, ⟨rfl, rfl, rfl, rfl, rfl, rfl, rfl, trivial⟩, rfl, k'g (by rw [List.map_append, List.map_append]; rfl)⟩
   | some v =>
    rw [hok] at hv hp
    unfold rkT at hv
    dsimp only at hv
    refine Z ?_
    refine k'3 (.indexAddr (k := .i64) (n := i) (es := l.map Fld.d) (u := x.d) rfl rfl rfl rfl (.inl ⟨_, rfl⟩) rfl (by omega) (by simpa using hdx) rfl (by decide)) rfl rfl ?_
    refine Z ?_
    rw [k'b 1 (by omega) (by omega) (by omega) hd2]
    refine k'8 [] (hv) rfl rfl rfl ?_
    refine l_o0 rfl ?_
    refine adm ?_
    (try refine k'h rfl ?_)
    refine k'd (fst := false) 1 rfl rfl rfl ?_
    refine k'3 (.loadMov (q := owT ((vs.map Kv.sh).map KVs.d)) rfl rfl rfl rfl rfl rfl rfl) rfl rfl ?_
    refine Z ?_
    refine k'3 (.buildSlice (es := [KVs.d v.sh]) rfl rfl rfl rfl rfl rfl (by intro x hx; simp at hx; subst hx; rfl) (by simp) (by decide) (by decide)) rfl rfl ?_
    have hm : ((vs.map Kv.sh).map KVs.d).length + [KVs.d v.sh].length ≤ most := by simp [most] at *; omega
    refine k'3 (.append' rfl rfl rfl rfl ⟨_, _, rfl, rfl, by intro q; simp⟩ rfl rfl rfl rfl rfl (by rw [show [KVs.d v.sh] = [v.sh].map KVs.d from rfl, ← List.map_append]; exact k'1r _) (by decide) rfl hm rfl) rfl rfl ?_
    refine k'd (fst := false) 2 rfl rfl rfl ?_
    refine k'3 (.storeMov rfl rfl rfl rfl rfl rfl rfl (Nat.le_of_ble_eq_true rfl) rfl) rfl rfl ?_
    refine Z ?_
    rw [hwi hlt]
    exact ⟨(i + 1, true, vs ++ [v], inn), by show l.length - (i + 1) < _; omega, ⟨by show i + 1 ≤ _; omega, fun _ => ⟨hp, by rw [hu]; exact r2, by show (vs ++ [v]).length ≤ i + 1; simp; omega⟩, fun h => by simp at h⟩, ⟨rfl, rfl, rfl, rfl, rfl, rfl, rfl, trivial⟩, rfl, k'g (by rw [List.map_append, List.map_append]; rfl)⟩
  ·have he : i = l.length := by omega
   subst he
   refine Z ?_
   rw [hlen, show decide ((l.length : Int) < l.length) = false from decide_eq_false (by omega)]
   cases ok
   ·refine Z ?_
    rw [i3 rfl]
    unfold rvT2
    exact k'j rfl
   obtain ⟨r1, r2, -⟩ := i2 rfl
   rw [List.take_length] at r1 r2
   have hD : VaS.d (Vl.sh (Vl.mk 6 [] false 0 [] vs (unkL tbL l) u)) = .agg [.int .i64 6, .str [], .bool false, .int .u64 0, .sl true [], slD ((vs.map Kv.sh).map KVs.d), .str inn, .str u] := by
    rw [ks_map, r2]; rfl
   rw [r1]
   simp only [Option.map_some, rvT2]
   rw [hD]
   exact O
theorem ReadValue_step (s : List UInt8) (d : Int) (hl : s.length < big) (hd1 : -9223372036854775808 ≤ d) (hd2 : d < 9223372036854775808)
  (h5 : 0 ≤ d → ∀ u s', s'.length < big → k'5 (cx B) 194 [.d (.agg [.int .i64 5, .str [], .bool false, .int .u64 0, .sl true [], .sl true [], .str [], .str u]), sT s', .d (.int .i64 (d - 1))] [] (rvT2 (match okG tbL (fun _ l => k'7 (fun s => okV s (d - 2)) 1 l) s' (d - 1) with | none => none | some p => some (Vl.mk 5 [] false 0 p.1 [] p.2 u))) [])
  (h6 : 0 ≤ d → ∀ u s', s'.length < big → k'5 (cx B) 194 [.d (.agg [.int .i64 6, .str [], .bool false, .int .u64 0, .sl true [], .sl true [], .str [], .str u]), sT s', .d (.int .i64 (d - 1))] [] (rvT2 (match okG tbL (fun _ l => k'7 (fun s => okK s (d - 2)) 1 l) s' (d - 1) with | none => none | some p => some (Vl.mk 6 [] false 0 [] p.1 p.2 u))) []) :
  k'5 (cx B) 100 [sT s, .d (.int .i64 d)] [] (rvT2 (okV s d)) [] := by
 have h1 := k'v B s d hl hd1 hd2
 have hl' := hl
 unfold big at hl'
 rw [okV_eq, okG_L]
 unfold k'2l at h1
 cases ho : okL s d with
 | none =>
  rw [ho] at h1
  dsimp only at h1 ⊢
  unfold rvT2
  refine l_bw Tryz.func100 0 [] ?_
  refine k'8 [] (h1) rfl rfl rfl ?_
  exact O
 | some l =>
  rw [ho] at h1
  obtain ⟨w1, w2⟩ := k'47 ho
  obtain ⟨-, -, -, hd0⟩ := k'1n ho
  dsimp only at h1 ⊢
  have hlen : (l.map Fld.d).length = l.length := by simp
  have hlok : LOk l := ⟨w2, by unfold big; omega⟩
  have hlb := hlok.len
  generalize hRR : (tellV (fun s => okV s (d - 2)) (fun s => okK s (d - 2)) d (k'1 tbV l)).map (fun f => f (unkL tbV l)) = RR
  refine l_bw Tryz.func100 0 [] ?_
  refine l_cw [] (h1) rfl rfl rfl ?_
  refine k'y (fun y : Nat × VSt => l.length - y.1) (fun y => [(1, .d (.int .i64 d)), (4, .ptr 0 0), (5, .d (.bool false)), (6, .d (slD (l.map Fld.d))), (8, .ptr 1 0), (9, sT y.2.part), (10, iT y.1)])
   (fun y => [_, .mu (vstC y.2)]) (fun y => y.1 ≤ l.length ∧ VIs y.2 (l.take y.1) ∧ y.2.part.length ≤ wt (l.take y.1)) (0, ⟨0, [], false, 0, [], []⟩) ⟨by omega, by rw [List.take_zero]; exact ⟨rfl, rfl, rfl, rfl, rfl, rfl, rfl⟩, by simp⟩ ⟨rfl, rfl, rfl, rfl, rfl, rfl, rfl, trivial⟩ rfl 2 rfl (fun _ => rfl) (fun _ => rfl) (fun _ => rfl) ?_
  rintro ⟨i, st⟩ ⟨i1, i2, i3⟩
  dsimp only at i1 i2 i3 ⊢
  have hwi : i < l.length → IntKind.i64.wrap ((i : Int) + 1) = ((i + 1 : Nat) : Int) := fun h => by rw [k'1b (by omega) (by omega)]; omega
  have hwt := k'1u l i
  have hul : st.u.length ≤ wt (l.take i) := by rw [i2.2.2.2.2.2.1]; exact k'1y _ _
  by_cases hlt : i < l.length
  ·obtain ⟨x, hx⟩ : ∃ x, l[i]? = some x := ⟨_, List.getElem?_eq_getElem hlt⟩
   have hdx : (l.map Fld.d)[i]? = some x.d := by rw [List.getElem?_map, hx]; rfl
   have htk : l.take (i + 1) = l.take i ++ [x] := by rw [List.take_add_one, hx]; rfl
   obtain ⟨hfx, hwx⟩ := k'1x hlok hx
   have hwn : wt (l.take (i + 1)) = wt (l.take i) + x.raw.length := by rw [htk, wt_snoc]
   have ht := k'14 B [10, 16, 24, 33, 42, 50, 58] x (by decide) (by intro t ht; simp at ht; omega)
   rw [tk_V _ _ hfx.kind] at ht
   have hxs : x.s.length < big := by have := hfx.s; unfold big; omega
   have hfs := hfx.s
   have htx := k'2i B x.s hxs
   refine Z ?_
   rw [hlen, show decide ((i : Int) < l.length) = true from decide_eq_true (by omega)]
   refine Z ?_
   refine k'3 (.indexAddr (k := .i64) (n := i) (es := l.map Fld.d) (u := x.d) rfl rfl rfl rfl (.inl ⟨_, rfl⟩) rfl (by omega) (by simpa using hdx) rfl (by decide)) rfl rfl ?_
   refine Z ?_
   refine x_cw [] (values_calls B) rfl rfl rfl ?_
   refine x_cw [] (ht) rfl rfl rfl ?_
   cases hb : tbV x.num x.kind
   ·have hk := vis_unk i2 hb
    rw [← htk] at hk
    refine Z ?_
    refine k'3 (.addStr rfl rfl rfl (by omega)) rfl rfl ?_
    refine Z ?_
    rw [hwi hlt]
    exact ⟨(i + 1, ⟨st.num, st.s, st.b, st.n, st.part, st.u ++ x.raw⟩), by show l.length - (i + 1) < _; omega, ⟨by show i + 1 ≤ _; omega, hk, by show st.part.length ≤ wt (l.take (i + 1)); omega⟩, ⟨rfl, rfl, rfl, rfl, rfl, rfl, rfl, trivial⟩, rfl, k'g rfl⟩
   have hk := fun h => vis_next i2 hfx.kind hb h
   rw [← htk] at hk
   have hnum := tbV_num hfx.kind hb
   have hone : x.num = 1 → txt x.s = false → RR = none := by
    intro e1 e2
    rw [← hRR]
    have hmem : x ∈ sel 1 (k'1 tbV l) := sel_mem.2 ⟨List.mem_filter.2 ⟨List.mem_of_getElem? hx, hb⟩, e1⟩
    have : ((sel 1 (k'1 tbV l)).all fun x => txt x.s) = false := by
     cases hh : (sel 1 (k'1 tbV l)).all fun x => txt x.s with
     | false => rfl
     | true => have := List.all_eq_true.1 hh x hmem; rw [e2] at this; simp at this
    unfold tellV
    rw [if_pos this]; rfl
   obtain ⟨xn, xk, xv, xs, xr⟩ := x
   dsimp only at *
   unfold VSt.next at hk
   dsimp only at hk
   refine Z ?_
   rcases hnum with rfl | rfl | rfl | rfl | rfl | rfl | rfl
   ·rw [nbeq 1 st.num]
    cases hq : (1 == st.num)
    ·refine Z ?_
     refine l_cw [] (htx) rfl rfl rfl ?_
     cases htxt : txt xs
     ·rw [hone rfl htxt]
      unfold rvT2
      exact O
     refine Z ?_
     rw [hwi hlt]
     have hk := hk (fun h => htxt)
     exact ⟨(i + 1, ⟨1, xs, false, 0, [], st.u⟩), by show l.length - (i + 1) < _; omega, ⟨by show i + 1 ≤ _; omega, by simpa using hk, by show List.length _ ≤ wt (l.take (i + 1)); simp <;> omega⟩, ⟨rfl, rfl, rfl, rfl, rfl, rfl, rfl, trivial⟩, rfl, k'g rfl⟩
    refine Z ?_
    refine l_cw [] (htx) rfl rfl rfl ?_
    cases htxt : txt xs
    ·rw [hone rfl htxt]
     unfold rvT2
     exact O
    refine Z ?_
    rw [hwi hlt]
    have hk := hk (fun h => htxt)
    exact ⟨(i + 1, ⟨1, xs, false, 0, [], st.u⟩), by show l.length - (i + 1) < _; omega, ⟨by show i + 1 ≤ _; omega, by simpa using hk, by show List.length _ ≤ wt (l.take (i + 1)); simp <;> omega⟩, ⟨rfl, rfl, rfl, rfl, rfl, rfl, rfl, trivial⟩, rfl, k'g rfl⟩
   ·rw [nbeq 2 st.num]
    cases hq : (2 == st.num)
    ·refine Z ?_
     rw [show ((xv : Int) != 0) = decide (0 < xv) by rw [Bool.eq_iff_iff]; simp; omega]
     rw [hwi hlt]
     have hk := hk (fun h => by omega)
     exact ⟨(i + 1, ⟨2, [], decide (0 < xv), 0, [], st.u⟩), by show l.length - (i + 1) < _; omega, ⟨by show i + 1 ≤ _; omega, by simpa using hk, by show List.length _ ≤ wt (l.take (i + 1)); simp <;> omega⟩, ⟨rfl, rfl, rfl, rfl, rfl, rfl, rfl, trivial⟩, rfl, k'g rfl⟩
    refine Z ?_
    rw [show ((xv : Int) != 0) = decide (0 < xv) by rw [Bool.eq_iff_iff]; simp; omega]
    rw [hwi hlt]
    have hk := hk (fun h => by omega)
    exact ⟨(i + 1, ⟨2, [], decide (0 < xv), 0, [], st.u⟩), by show l.length - (i + 1) < _; omega, ⟨by show i + 1 ≤ _; omega, by simpa using hk, by show List.length _ ≤ wt (l.take (i + 1)); simp <;> omega⟩, ⟨rfl, rfl, rfl, rfl, rfl, rfl, rfl, trivial⟩, rfl, k'g rfl⟩
   ·rw [nbeq 3 st.num]
    cases hq : (3 == st.num)
    ·refine Z ?_
     rw [hwi hlt]
     have hk := hk (fun h => by omega)
     exact ⟨(i + 1, ⟨3, [], false, xv, [], st.u⟩), by show l.length - (i + 1) < _; omega, ⟨by show i + 1 ≤ _; omega, by simpa using hk, by show List.length _ ≤ wt (l.take (i + 1)); simp <;> omega⟩, ⟨rfl, rfl, rfl, rfl, rfl, rfl, rfl, trivial⟩, rfl, k'g rfl⟩
    refine Z ?_
    rw [hwi hlt]
    have hk := hk (fun h => by omega)
    exact ⟨(i + 1, ⟨3, [], false, xv, [], st.u⟩), by show l.length - (i + 1) < _; omega, ⟨by show i + 1 ≤ _; omega, by simpa using hk, by show List.length _ ≤ wt (l.take (i + 1)); simp <;> omega⟩, ⟨rfl, rfl, rfl, rfl, rfl, rfl, rfl, trivial⟩, rfl, k'g rfl⟩
   ·rw [nbeq 4 st.num]
    cases hq : (4 == st.num)
    ·refine Z ?_
     rw [hwi hlt]
     have hk := hk (fun h => by omega)
     exact ⟨(i + 1, ⟨4, [], false, xv, [], st.u⟩), by show l.length - (i + 1) < _; omega, ⟨by show i + 1 ≤ _; omega, by simpa using hk, by show List.length _ ≤ wt (l.take (i + 1)); simp <;> omega⟩, ⟨rfl, rfl, rfl, rfl, rfl, rfl, rfl, trivial⟩, rfl, k'g rfl⟩
    refine Z ?_
    rw [hwi hlt]
    have hk := hk (fun h => by omega)
    exact ⟨(i + 1, ⟨4, [], false, xv, [], st.u⟩), by show l.length - (i + 1) < _; omega, ⟨by show i + 1 ≤ _; omega, by simpa using hk, by show List.length _ ≤ wt (l.take (i + 1)); simp <;> omega⟩, ⟨rfl, rfl, rfl, rfl, rfl, rfl, rfl, trivial⟩, rfl, k'g rfl⟩
   ·rw [nbeq 5 st.num]
    cases hq : (5 == st.num)
    ·have hq : ¬ 5 = st.num := by simpa using hq
     refine Z ?_
     refine k'3 (.addStr rfl rfl rfl (by first | omega | (simp; omega))) rfl rfl ?_
     refine Z ?_
     rw [hwi hlt]
     have hk := hk (fun h => by omega)
     exact ⟨(i + 1, ⟨5, [], false, 0, xs, st.u⟩), by show l.length - (i + 1) < _; omega, ⟨by show i + 1 ≤ _; omega, by simpa [hq] using hk, by show List.length _ ≤ wt (l.take (i + 1)); simp <;> omega⟩, ⟨rfl, rfl, rfl, rfl, rfl, rfl, rfl, trivial⟩, rfl, k'g rfl⟩
    have hq : 5 = st.num := by simpa using hq
    refine Z ?_
    refine k'3 (.addStr rfl rfl rfl (by first | omega | (simp; omega))) rfl rfl ?_
    refine Z ?_
    rw [hwi hlt]
    have hk := hk (fun h => by omega)
    exact ⟨(i + 1, ⟨5, [], false, 0, st.part ++ xs, st.u⟩), by show l.length - (i + 1) < _; omega, ⟨by show i + 1 ≤ _; omega, by simpa [← hq] using hk, by show List.length _ ≤ wt (l.take (i + 1)); simp <;> omega⟩, ⟨rfl, rfl, rfl, rfl, rfl, rfl, rfl, trivial⟩, rfl, k'g rfl⟩
   ·rw [nbeq 6 st.num]
    cases hq : (6 == st.num)
    ·have hq : ¬ 6 = st.num := by simpa using hq
     refine Z ?_
     refine k'3 (.addStr rfl rfl rfl (by first | omega | (simp; omega))) rfl rfl ?_
     refine Z ?_
     rw [hwi hlt]
     have hk := hk (fun h => by omega)
     exact ⟨(i + 1, ⟨6, [], false, 0, xs, st.u⟩), by show l.length - (i + 1) < _; omega, ⟨by show i + 1 ≤ _; omega, by simpa [hq] using hk, by show List.length _ ≤ wt (l.take (i + 1)); simp <;> omega⟩, ⟨rfl, rfl, rfl, rfl, rfl, rfl, rfl, trivial⟩, rfl, k'g rfl⟩
    have hq : 6 = st.num := by simpa using hq
    refine Z ?_
    refine k'3 (.addStr rfl rfl rfl (by first | omega | (simp; omega))) rfl rfl ?_
    refine Z ?_
    rw [hwi hlt]
    have hk := hk (fun h => by omega)
    exact ⟨(i + 1, ⟨6, [], false, 0, st.part ++ xs, st.u⟩), by show l.length - (i + 1) < _; omega, ⟨by show i + 1 ≤ _; omega, by simpa [← hq] using hk, by show List.length _ ≤ wt (l.take (i + 1)); simp <;> omega⟩, ⟨rfl, rfl, rfl, rfl, rfl, rfl, rfl, trivial⟩, rfl, k'g rfl⟩
   ·rw [nbeq 7 st.num]
    cases hq : (7 == st.num)
    ·refine Z ?_
     rw [hwi hlt]
     have hk := hk (fun h => by omega)
     exact ⟨(i + 1, ⟨7, xs, false, 0, [], st.u⟩), by show l.length - (i + 1) < _; omega, ⟨by show i + 1 ≤ _; omega, by simpa using hk, by show List.length _ ≤ wt (l.take (i + 1)); simp <;> omega⟩, ⟨rfl, rfl, rfl, rfl, rfl, rfl, rfl, trivial⟩, rfl, k'g rfl⟩
    refine Z ?_
    rw [hwi hlt]
    have hk := hk (fun h => by omega)
    exact ⟨(i + 1, ⟨7, xs, false, 0, [], st.u⟩), by show l.length - (i + 1) < _; omega, ⟨by show i + 1 ≤ _; omega, by simpa using hk, by show List.length _ ≤ wt (l.take (i + 1)); simp <;> omega⟩, ⟨rfl, rfl, rfl, rfl, rfl, rfl, rfl, trivial⟩, rfl, k'g rfl⟩
  ·have he : i = l.length := by omega
   subst he
   rw [List.take_length] at i2 i3
   have hfk : ∀ x ∈ k'1 tbV l, FOk x := fun x hx => w2 x (List.mem_filter.1 hx).1
   obtain ⟨f1, f2⟩ := vis_fin i2 hfk (fun s => okV s (d - 2)) (fun s => okK s (d - 2)) d
   rw [f1] at hRR
   have hnum := i2.1
   clear f1 i2
   obtain ⟨num, vs, vb, vn, part, u⟩ := st
   dsimp only at *
   have hpb : part.length < big := by unfold big; omega
   refine Z ?_
   rw [hlen, show decide ((l.length : Int) < l.length) = false from decide_eq_false (by omega)]
   refine Z ?_
   by_cases h5n : num = 5
   ·obtain ⟨rfl, rfl, rfl⟩ := f2 (.inl h5n)
    subst h5n
    have hc := h5 hd0 u part hpb
    rw [if_pos rfl] at hRR
    rw [hRR] at hc
    rw [show (((5 : Nat) : Int) == 5) = true from rfl]
    cases RR with
    | none =>
     unfold rvT2 at hc ⊢
     dsimp only at hc ⊢
     refine Z ?_
     rw [k'b 1 (by omega) (by omega) (by omega) hd2]
     refine k'8 [] (hc) rfl rfl rfl ?_
     exact O
    | some v =>
     unfold rvT2 at hc ⊢
     dsimp only at hc ⊢
     refine Z ?_
     rw [k'b 1 (by omega) (by omega) (by omega) hd2]
     refine k'8 [] (hc) rfl rfl rfl ?_
     exact O
   rw [if_neg h5n] at hRR
   rw [show ((num : Int) == 5) = false by simp; omega]
   refine Z ?_
   by_cases h6n : num = 6
   ·obtain ⟨rfl, rfl, rfl⟩ := f2 (.inr h6n)
    subst h6n
    have hc := h6 hd0 u part hpb
    rw [if_pos rfl] at hRR
    rw [hRR] at hc
    rw [show (((6 : Nat) : Int) == 6) = true from rfl]
    cases RR with
    | none =>
     unfold rvT2 at hc ⊢
     dsimp only at hc ⊢
     refine Z ?_
     rw [k'b 1 (by omega) (by omega) (by omega) hd2]
     refine k'8 [] (hc) rfl rfl rfl ?_
     exact O
    | some v =>
     unfold rvT2 at hc ⊢
     dsimp only at hc ⊢
     refine Z ?_
     rw [k'b 1 (by omega) (by omega) (by omega) hd2]
     refine k'8 [] (hc) rfl rfl rfl ?_
     exact O
   rw [if_neg h6n] at hRR
   rw [show ((num : Int) == 6) = false by simp; omega]
   rw [← hRR]
   unfold rvT2
   exact O
theorem rk_walk (k : Nat) : ∀ d : Int, d < k → -9223372036854775808 ≤ d → d < 9223372036854775808 → ∀ s, s.length < big →
  k'5 (cx B) 100 [sT s, .d (.int .i64 d)] [] (rvT2 (okV s d)) [] ∧ k'5 (cx B) 32 [sT s, .d (.int .i64 d)] [] (rkT (okK s d)) [] := by
 induction k with
 | zero =>
  intro d hk hd1 hd2 s hs
  exact ⟨ReadValue_step B s d hs hd1 hd2 (fun h => by omega) (fun h => by omega), ReadKey_step B s d hs hd1 hd2 (fun h => by omega)⟩
 | succ k ih =>
  intro d hk hd1 hd2 s hs
  refine ⟨ReadValue_step B s d hs hd1 hd2 (fun h u s' hs' => ?_) (fun h u s' hs' => ?_), ReadKey_step B s d hs hd1 hd2 (fun h s' hs' => (ih (d - 1) (by omega) (by omega) (by omega) s' hs').1)⟩
  ·have := readList5_step B u s' (d - 1) hs' (by omega) (by omega) (fun h s2 hs2 => (ih (d - 1 - 1) (by omega) (by omega) (by omega) s2 hs2).1)
   rw [show d - 1 - 1 = d - 2 by omega] at this
   exact this
  ·have := readList6_step B u s' (d - 1) hs' (by omega) (by omega) (fun h s2 hs2 => (ih (d - 1 - 1) (by omega) (by omega) (by omega) s2 hs2).2)
   rw [show d - 1 - 1 = d - 2 by omega] at this
   exact this
theorem k'1t (s : List UInt8) (d : Int) (hs : s.length < big) (hd1 : -9223372036854775808 ≤ d) (hd2 : d < 9223372036854775808) : k'5 (cx B) 32 [sT s, .d (.int .i64 d)] [] (rkT (okK s d)) [] :=
 (rk_walk B (d.toNat + 1) d (by omega) hd1 hd2 s hs).2
