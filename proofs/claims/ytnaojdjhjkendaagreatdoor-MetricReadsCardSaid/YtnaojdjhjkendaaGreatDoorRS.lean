/- The reference: numbers and records written. -/
import Derived.Test.YtnaojdjhjkendaaGreatDoorR4
import Derived.Test.YtnaojdjhjkendaaGreatDoorPAB
set_option linter.unusedSimpArgs false
set_option linter.unusedVariables false
set_option maxRecDepth 100000
namespace Go.Proofs.YtnaojdjhjkendaaGreatDoor
open Go Go.Abs
variable (B : Fr)
section
/-! No list and no text is longer than a list can be. -/
theorem Vl.Rs_at {l : List Vl} {xs : List D} (h : Vl.Rs l xs) {i : Nat} {x : D} (hx : xs[i]? = some x) : ∃ v, l[i]? = some v ∧ v.R x := by
 have hi : i < l.length := by rw [← Vl.Rs_len h]; exact (List.getElem?_eq_some_iff.1 hx).1
 obtain ⟨v, hv⟩ : ∃ v, l[i]? = some v := ⟨_, List.getElem?_eq_getElem hi⟩
 obtain ⟨x', e1, r1⟩ := Vl.Rs_get h hv
 rw [hx] at e1; injection e1 with e1; subst e1
 exact ⟨v, hv, r1⟩
end
section
theorem nbeq (k c : Nat) : ((k : Int) != (c : Int)) = !(k == c) := by rw [← ibeq]; rfl
theorem ref_same (n : Nat) : (∀ (a b : Vl) (xa xb : D), a.sz < n → a.sz < big → a.R xa → b.R xb → k'5 (cx B) 200 [.d xa, .d xb] [] (.d (.bool (a.eq b))) []) ∧
  (∀ (a b : Kv) (xa xb : D), a.sz < n → a.sz < big → a.R xa → b.R xb → k'5 (cx B) 105 [.d xa, .d xb] [] (.d (.bool (a.eq b))) []) ∧
  (∀ (a b : List Kv) (z w : Bool) (xa xb : List D), Kv.szs a < n → Kv.szs a < big → Kv.Rs a xa → Kv.Rs b xb → k'5 (cx B) 36 [.d (.sl z xa), .d (.sl w xb)] [] (.d (.bool (Kv.eqs a b))) []) := by
 induction n with
 | zero => exact ⟨fun _ _ _ _ h => by omega, fun _ _ _ _ h => by omega, fun _ _ _ _ _ _ h => by omega⟩
 | succ n ih =>
  obtain ⟨ihV, ihK, ihS⟩ := ih
  have lists : ∀ (m : Nat) (a b : List Kv) (z w : Bool) (xa xb : List D), (∀ k ∈ a, k.sz < m) → Kv.szs a < big → Kv.Rs a xa → Kv.Rs b xb → (∀ (a b : Kv) (xa xb : D), a.sz < m → a.sz < big → a.R xa → b.R xb → k'5 (cx B) 105 [.d xa, .d xb] [] (.d (.bool (a.eq b))) []) →
    k'5 (cx B) 36 [.d (.sl z xa), .d (.sl w xb)] [] (.d (.bool (Kv.eqs a b))) [] := by
   intro m a b z w xs ys hs hbig ha hb hK
   have hla := Kv.Rs_len ha
   have hlb := Kv.Rs_len hb
   have hls := Kv.len_szs a
   have hl : xs.length < 9223372036854775807 := by unfold big at hbig; omega
   rw [Kv.eqs_by, ← hla, ← hlb]
   have hf : ∀ (i : Nat) x y, xs[i]? = some x → ys[i]? = some y → k'5 (cx B) 105 [.d x, .d y] [] (.d (.bool (byI Kv.eq a b i))) [] := fun i x y hx hy => by
    obtain ⟨v, hv, r1⟩ := Kv.Rs_at ha hx
    obtain ⟨u, hu, r2⟩ := Kv.Rs_at hb hy
    have hm := List.mem_of_getElem? hv
    have := Kv.sz_mem hm
    have e : byI Kv.eq a b i = v.eq u := by unfold byI; rw [hv, hu]
    rw [e]
    exact hK v u x y (hs v hm) (by omega) r1 r2
   have hx := Kv.Rs_sh ha
   have hy := Kv.Rs_sh hb
   generalize byI Kv.eq a b = r at hf ⊢
   refine l_bw Tryz.func36 0 [] ?_
   rw [nbeq]
   cases hlen : (xs.length == ys.length)
   ·exact O
   have hlen := eq_of_beq hlen
   refine Z ?_
   refine k'y (fun i : Nat => xs.length - i) (fun i => [(0, .d (.sl z xs)), (1, .d (.sl w ys)), (5, iT i)]) (fun _ => []) (fun i => i ≤ xs.length ∧ (List.range i).all r = true) 0 ⟨by omega, rfl⟩ ⟨rfl, rfl, rfl, trivial⟩ rfl 0 rfl (fun _ => rfl) (fun _ => rfl) (fun _ => rfl) ?_
   rintro i ⟨i1, i2⟩
   refine Z ?_
   refine k'1q rfl (fun hd => ?_) (fun hd => ?_)
   ·have hlt : i < xs.length := by have := of_decide_eq_true hd; omega
    obtain ⟨x, hxi⟩ : ∃ x, xs[i]? = some x := ⟨_, List.getElem?_eq_getElem hlt⟩
    obtain ⟨y, hyi⟩ : ∃ y, ys[i]? = some y := ⟨_, List.getElem?_eq_getElem (by omega)⟩
    have hc := hf i x y hxi hyi
    obtain ⟨a0, a1, a2, a3, a4, a5, a6, a7, a8, a9, a10, a11, a12, rfl⟩ := hx x (List.mem_of_getElem? hxi)
    obtain ⟨b0, b1, b2, b3, b4, b5, b6, b7, b8, b9, b10, b11, b12, rfl⟩ := hy y (List.mem_of_getElem? hyi)
    have hin : (List.range xs.length).all r = true → r i = true := fun h => List.all_eq_true.1 h i (List.mem_range.2 hlt)
    refine Z ?_
    refine k'35 (.indexAddr (k := .i64) (n := i) (es := xs) rfl rfl rfl rfl (.inl ⟨_, rfl⟩) rfl (by omega) (by simpa using hxi) rfl (by decide)) rfl rfl rfl ?_
    refine Z ?_
    refine k'35 (.indexAddr (k := .i64) (n := i) (es := ys) rfl rfl rfl rfl (.inl ⟨_, rfl⟩) rfl (by omega) (by simpa using hyi) rfl (by decide)) rfl rfl rfl ?_
    refine Z ?_
    refine x_cw [] (hc) rfl rfl rfl ?_
    cases hr : r i
    ·rw [show (List.range xs.length).all r = false by cases hh : (List.range xs.length).all r with | false => rfl | true => rw [hin hh] at hr; simp at hr]
     exact O
    refine Z ?_
    rw [wS i (by omega)]
    exact ⟨i + 1, by omega, ⟨by omega, by rw [List.range_succ, List.all_append, i2]; simp [hr]⟩, ⟨rfl, rfl, rfl, trivial⟩, rfl, k'g rfl⟩
   ·have hge : i = xs.length := by have := of_decide_eq_false hd; omega
    subst hge
    rw [i2]
    exact O
  have hV : ∀ (a b : Vl) (xa xb : D), a.sz < n + 1 → a.sz < big → a.R xa → b.R xb → k'5 (cx B) 200 [.d xa, .d xb] [] (.d (.bool (a.eq b))) [] := by
   rintro ⟨kind, s, bb, nn, l, m, inner, u⟩ ⟨kind', s', bb', nn', l', m', inner', u'⟩ xa xb hsz hbig ⟨zl, xs, zm, ms, rfl, hl, hm⟩ ⟨zl', ys, zm', ms', rfl, hl', hm'⟩
   unfold Vl.sz at hsz hbig
   have h2 := lists n m m' zm zm' ms ms' (fun k hk => by have := Kv.sz_mem hk; omega) (by omega) hm hm' ihK
   have hla := Vl.Rs_len hl
   have hlb := Vl.Rs_len hl'
   have hls := Vl.len_szs l
   have hl0 : xs.length < 9223372036854775807 := by unfold big at hbig; omega
   rw [show Vl.eq (.mk kind s bb nn l m inner u) (.mk kind' s' bb' nn' l' m' inner' u') = (kind == kind' && s == s' && bb == bb' && nn == nn' && inner == inner' && u == u' && xs.length == ys.length && Kv.eqs m m' && (List.range xs.length).all (byI Vl.eq l l')) by
    rw [show Vl.eq (.mk kind s bb nn l m inner u) (.mk kind' s' bb' nn' l' m' inner' u') = (kind == kind' && s == s' && bb == bb' && nn == nn' && inner == inner' && u == u' && Vl.eqs l l' && Kv.eqs m m') by simp only [Vl.eq], Vl.eqs_by, hla, hlb]; ac_rfl]
   have hf : ∀ (i : Nat) x y, xs[i]? = some x → ys[i]? = some y → k'5 (cx B) 200 [.d x, .d y] [] (.d (.bool (byI Vl.eq l l' i))) [] := fun i x y hx hy => by
    have hi : i < l.length := by rw [← hla]; exact (List.getElem?_eq_some_iff.1 hx).1
    have hj : i < l'.length := by rw [← hlb]; exact (List.getElem?_eq_some_iff.1 hy).1
    obtain ⟨v, hv⟩ : ∃ v, l[i]? = some v := ⟨_, List.getElem?_eq_getElem hi⟩
    obtain ⟨u, hu⟩ : ∃ u, l'[i]? = some u := ⟨_, List.getElem?_eq_getElem hj⟩
    obtain ⟨x', e1, r1⟩ := Vl.Rs_get hl hv
    obtain ⟨y', e2, r2⟩ := Vl.Rs_get hl' hu
    rw [hx] at e1; injection e1 with e1; subst e1
    rw [hy] at e2; injection e2 with e2; subst e2
    have := Vl.sz_mem (List.mem_of_getElem? hv)
    have e : byI Vl.eq l l' i = v.eq u := by unfold byI; rw [hv, hu]
    rw [e]
    exact ihV v u x y (by omega) (by omega) r1 r2
   have hx := Vl.Rs_sh hl
   have hy := Vl.Rs_sh hl'
   generalize byI Vl.eq l l' = r at hf ⊢
   refine l_bw Tryz.func200 0 [] ?_
   try rw [show (kind != kind') = !(kind == kind') from rfl]
   cases e1 : (kind == kind') with
   | false =>
    exact O
   | true =>
   refine Z ?_
   cases e2 : (s == s') with
   | false =>
    exact O
   | true =>
   refine Z ?_
   try rw [show (bb != bb') = !(bb == bb') from rfl]
   cases e3 : (bb == bb') with
   | false =>
    exact O
   | true =>
   refine Z ?_
   rw [nbeq nn nn']
   cases e4 : (nn == nn') with
   | false =>
    exact O
   | true =>
   refine Z ?_
   cases e5 : (inner == inner') with
   | false =>
    exact O
   | true =>
   refine Z ?_
   cases e6 : (u == u') with
   | false =>
    exact O
   | true =>
   refine Z ?_
   rw [nbeq xs.length ys.length]
   cases e7 : (xs.length == ys.length) with
   | false =>
    exact O
   | true =>
   have hlen := eq_of_beq e7
   refine Z ?_
   refine l_cGw [] (h2) rfl rfl rfl rfl rfl ?_
   cases e8 : Kv.eqs m m' with
   | false =>
    exact O
   | true =>
   refine Z ?_
   refine k'y (fun i : Nat => xs.length - i) (fun i => [(2, .ptr 0 0), (3, .ptr 1 0), (5, iT i)]) (fun _ => _) (fun i => i ≤ xs.length ∧ (List.range i).all r = true) 0 ⟨by omega, rfl⟩ ⟨rfl, rfl, rfl, trivial⟩ rfl 2 rfl (fun _ => rfl) (fun _ => rfl) (fun _ => rfl) ?_
   rintro i ⟨i1, i2⟩
   refine Z ?_
   refine k'1q rfl (fun hd => ?_) (fun hd => ?_)
   ·have hlt : i < xs.length := by have := of_decide_eq_true hd; omega
    obtain ⟨x, hxi⟩ : ∃ x, xs[i]? = some x := ⟨_, List.getElem?_eq_getElem hlt⟩
    obtain ⟨y, hyi⟩ : ∃ y, ys[i]? = some y := ⟨_, List.getElem?_eq_getElem (by omega)⟩
    have hc := hf i x y hxi hyi
    obtain ⟨a0, a1, a2, a3, a4, a5, a6, a7, a8, a9, rfl⟩ := hx x (List.mem_of_getElem? hxi)
    obtain ⟨b0, b1, b2, b3, b4, b5, b6, b7, b8, b9, rfl⟩ := hy y (List.mem_of_getElem? hyi)
    have hin : (List.range xs.length).all r = true → r i = true := fun h => List.all_eq_true.1 h i (List.mem_range.2 hlt)
    refine Z ?_
    refine k'35 (.indexAddr (k := .i64) (n := i) (es := xs) rfl rfl rfl rfl (.inl ⟨_, rfl⟩) rfl (by omega) (by simpa using hxi) rfl (by decide)) rfl rfl rfl ?_
    refine Z ?_
    refine k'35 (.indexAddr (k := .i64) (n := i) (es := ys) rfl rfl rfl rfl (.inl ⟨_, rfl⟩) rfl (by omega) (by simpa using hyi) rfl (by decide)) rfl rfl rfl ?_
    refine Z ?_
    refine x_cw [] (hc) rfl rfl rfl ?_
    cases hr : r i
    ·rw [show (List.range xs.length).all r = false by cases hh : (List.range xs.length).all r with | false => rfl | true => rw [hin hh] at hr; simp at hr]
     exact O
    refine Z ?_
    rw [wS i (by omega)]
    exact ⟨i + 1, by omega, ⟨by omega, by rw [List.range_succ, List.all_append, i2]; simp [hr]⟩, ⟨rfl, rfl, rfl, trivial⟩, rfl, k'g rfl⟩
   ·have hge : i = xs.length := by have := of_decide_eq_false hd; omega
    subst hge
    rw [i2]
    exact O
  have hK : ∀ (a b : Kv) (xa xb : D), a.sz < n + 1 → a.sz < big → a.R xa → b.R xb → k'5 (cx B) 105 [.d xa, .d xb] [] (.d (.bool (a.eq b))) [] := by
   rintro ⟨key, has, ⟨kind, s, bb, nn, l, m, inner, vu⟩, u⟩ ⟨key', has', ⟨kind', s', bb', nn', l', m', inner', vu'⟩, u'⟩ xa xb hsz hbig ⟨zl, ls, zm, ms, rfl, hl, hm⟩ ⟨zl', ls', zm', ms', rfl, hl', hm'⟩
   unfold Kv.sz at hsz hbig
   have h1 := hV (.mk kind s bb nn l m inner vu) (.mk kind' s' bb' nn' l' m' inner' vu') _ _ (by omega) (by omega) ⟨zl, ls, zm, ms, rfl, hl, hm⟩ ⟨zl', ls', zm', ms', rfl, hl', hm'⟩
   rw [show Kv.eq (.mk key has (.mk kind s bb nn l m inner vu) u) (.mk key' has' (.mk kind' s' bb' nn' l' m' inner' vu') u') = (key == key' && has == has' && u == u' && Vl.eq (.mk kind s bb nn l m inner vu) (.mk kind' s' bb' nn' l' m' inner' vu')) by simp only [Kv.eq]]
   refine l_bw Tryz.func105 0 [] ?_
   cases e1 : (key == key')
   ·exact O
   refine Z ?_
   cases e2 : (has == has')
   ·exact O
   refine Z ?_
   cases e3 : (u == u')
   ·exact O
   refine Z ?_
   refine k'2x [] (h1) rfl rfl rfl rfl rfl ?_
   exact O
  exact ⟨hV, hK, fun a b z w xa xb hs hbig ha hb => lists (n + 1) a b z w xa xb (fun k hk => by have := Kv.sz_mem hk; omega) hbig ha hb hK⟩
theorem k'1s {a b : List Kv} {xs ys : List D} (z w : Bool) (hb : Kv.szs a < big) (h1 : Kv.Rs a xs) (h2 : Kv.Rs b ys) : k'5 (cx B) 36 [.d (.sl z xs), .d (.sl w ys)] [] (.d (.bool (Kv.eqs a b))) [] :=
 (ref_same B (Kv.szs a + 1)).2.2 a b z w xs ys (by omega) hb h1 h2
end
