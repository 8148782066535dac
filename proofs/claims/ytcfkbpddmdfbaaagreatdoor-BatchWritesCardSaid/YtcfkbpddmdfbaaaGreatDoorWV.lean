/- Values and attributes: are they alike? And more. -/
import Derived.Test.YtcfkbpddmdfbaaaGreatDoorWR
set_option linter.unusedSimpArgs false
set_option linter.unusedVariables false
set_option maxRecDepth 100000
/-! Values and attributes: are they alike? -/
namespace Go.Proofs.YtcfkbpddmdfbaaaGreatDoor
open Go Go.Abs
variable (B : Fr)
def VaSh (x : D) : Prop := ∃ (kind : Int) (s : List UInt8) (b : Bool) (n : Nat) (zl : Bool) (ls : List D) (zm : Bool) (ms : List D) (inner u : List UInt8), x = .agg [.int .i64 kind, .str s, .bool b, .int .u64 n, .sl zl ls, .sl zm ms, .str inner, .str u]
def KeSh (x : D) : Prop := ∃ (key : List UInt8) (has : Bool) (kind : Int) (s : List UInt8) (b : Bool) (n : Nat) (zl : Bool) (ls : List D) (zm : Bool) (ms : List D) (inner vu u : List UInt8), x = .agg [.str key, .bool has, .int .i64 kind, .str s, .bool b, .int .u64 n, .sl zl ls, .sl zm ms, .str inner, .str vu, .str u]
theorem Vl.R_sh : ∀ {v : Vl} {x : D}, v.R x → VaSh x
 | .mk .., _, ⟨_, _, _, _, h, _⟩ => ⟨_, _, _, _, _, _, _, _, _, _, h⟩
theorem Kv.R_sh : ∀ {v : Kv} {x : D}, v.R x → KeSh x
 | .mk _ _ (.mk ..) _, _, ⟨_, _, _, _, h, _⟩ => ⟨_, _, _, _, _, _, _, _, _, _, _, _, _, h⟩
theorem Vl.Rs_sh : ∀ {l : List Vl} {xs : List D}, Vl.Rs l xs → ∀ x ∈ xs, VaSh x
 | [], xs, h, x, hx => by have e : xs = [] := h; subst e; simp at hx
 | v :: l, _, ⟨y, ys, e, h2, h3⟩, x, hx => by
  subst e
  rcases List.mem_cons.1 hx with rfl | hx
  ·exact Vl.R_sh h2
  ·exact Vl.Rs_sh h3 x hx
theorem Kv.Rs_sh : ∀ {l : List Kv} {xs : List D}, Kv.Rs l xs → ∀ x ∈ xs, KeSh x
 | [], xs, h, x, hx => by have e : xs = [] := h; subst e; simp at hx
 | v :: l, _, ⟨y, ys, e, h2, h3⟩, x, hx => by
  subst e
  rcases List.mem_cons.1 hx with rfl | hx
  ·exact Kv.R_sh h2
  ·exact Kv.Rs_sh h3 x hx
theorem Vl.len_szs : ∀ l : List Vl, l.length ≤ Vl.szs l
 | [] => by simp
 | .mk .. :: l => by have := Vl.len_szs l; unfold Vl.szs Vl.sz; simp; omega
theorem Kv.len_szs : ∀ l : List Kv, l.length ≤ Kv.szs l
 | [] => by simp
 | .mk .. :: l => by have := Kv.len_szs l; unfold Kv.szs Kv.sz; simp; omega
def EqFP (G : Nat) (Sh : D → Prop) : Prop := ∀ (f : Nat) (z w : Bool) (xs ys : List D) (r : Nat → Bool), xs.length < 9223372036854775807 → (∀ x ∈ xs, Sh x) → (∀ x ∈ ys, Sh x) →
  (∀ (i : Nat) x y, xs[i]? = some x → ys[i]? = some y → k'0 (cx B) f [.d x, .d y] [] (.d (.bool (r i))) []) →
  k'0 (cx B) G [.d (.sl z xs), .d (.sl w ys), .d (.fn f [])] [] (.d (.bool (xs.length == ys.length && (List.range xs.length).all r))) []
theorem EqF_mk {G : Nat} {fn : Func} {Sh : D → Prop} (hF : Tryz.prog.funcs[G]? = some fn) (main : Tryz.prog.funcs[G]? = some fn → EqFP B G Sh := by
  intro hF f z w xs ys r hl hx hy hf
  refine l_body (X := cx B) hF rfl rfl rfl rfl rfl 0 [] rfl rfl ?_
  refine Y ?_
  by_cases hlen : xs.length = ys.length
  ·rw [show ((xs.length : Int) != (ys.length : Int)) = false by rw [hlen]; simp, show (xs.length == ys.length) = true by simp [hlen]]
   simp only [Bool.true_and]
   refine Y ?_
   refine k'8 (fun i : Nat => xs.length - i) (fun i => [(1, .d (.sl w ys)), (2, .d (.fn f [])), (15, .d (.sl z xs)), (16, iT xs.length), (17, iT i)]) (fun _ => []) (fun i => i ≤ xs.length ∧ (List.range i).all r = true) 0 ⟨by omega, rfl⟩ ⟨rfl, rfl, rfl, rfl, rfl, trivial⟩ rfl 0 rfl (fun _ => rfl) (fun _ => rfl) (fun _ => rfl) ?_
   rintro i ⟨i1, i2⟩
   refine Y ?_
   refine k'13 rfl (fun hd => ?_) (fun hd => ?_)
   ·have hlt : i < xs.length := by have := of_decide_eq_true hd; omega
    obtain ⟨x, hxi⟩ : ∃ x, xs[i]? = some x := ⟨_, List.getElem?_eq_getElem hlt⟩
    obtain ⟨y, hyi⟩ : ∃ y, ys[i]? = some y := ⟨_, List.getElem?_eq_getElem (by omega)⟩
    have hc := hf i x y hxi hyi
    have hsh := hx x (List.mem_of_getElem? hxi)
    revert hsh
    repeat refine forall_exists_index.2 fun _ => ?_
    rintro rfl
    have hsh := hy y (List.mem_of_getElem? hyi)
    revert hsh
    repeat refine forall_exists_index.2 fun _ => ?_
    rintro rfl
    have hin : (List.range xs.length).all r = true → r i = true := fun h => List.all_eq_true.1 h i (List.mem_range.2 hlt)
    refine Y ?_
    refine k'1 (.indexAddr (k := .i64) (n := i) (es := xs) rfl rfl rfl rfl (.inl ⟨_, rfl⟩) rfl (by omega) (by simpa using hxi) rfl (by decide)) rfl rfl ?_
    refine Y ?_
    refine k'1 (.indexAddr (k := .i64) (n := i) (es := ys) rfl rfl rfl rfl (.inl ⟨_, rfl⟩) rfl (by omega) (by simpa using hyi) rfl (by decide)) rfl rfl ?_
    refine Y ?_
    refine l_cw [] (hc) rfl rfl rfl ?_
    cases hr : r i
    ·rw [show (List.range xs.length).all r = false by cases hh : (List.range xs.length).all r with | false => rfl | true => rw [hin hh] at hr; simp at hr]
     exact Z
    refine Y ?_
    rw [wS i (by omega)]
    exact ⟨i + 1, by omega, ⟨by omega, by rw [List.range_succ, List.all_append, i2]; simp [hr]⟩, ⟨rfl, rfl, rfl, rfl, rfl, trivial⟩, rfl, k'z rfl⟩
   ·have hge : i = xs.length := by have := of_decide_eq_false hd; omega
    subst hge
    rw [i2]
    exact Z
  ·rw [show ((xs.length : Int) != (ys.length : Int)) = true by simp; omega, show (xs.length == ys.length) = false by simp [hlen]]
   exact Z) : EqFP B G Sh := main hF
theorem EqF_Va_calls : EqFP B 327 VaSh := EqF_mk B Tryz.func327
theorem EqF_Ke_calls : EqFP B 187 KeSh := EqF_mk B Tryz.func187
def byI {α : Type} (p : α → α → Bool) (a b : List α) (i : Nat) : Bool :=
 match a[i]?, b[i]? with
 | some x, some y => p x y
 | _, _ => true
theorem k'3i {α : Type} (p : α → α → Bool) (eqs : List α → List α → Bool) (h0 : eqs [] [] = true) (h1 : ∀ x a y b, eqs (x :: a) (y :: b) = (p x y && eqs a b)) (h2 : ∀ x a, eqs (x :: a) [] = false) (h3 : ∀ x a, eqs [] (x :: a) = false) :
  ∀ a b : List α, eqs a b = (a.length == b.length && (List.range a.length).all (byI p a b))
 | [], [] => by rw [h0]; rfl
 | x :: a, [] => by rw [h2]; rfl
 | [], x :: a => by rw [h3]; rfl
 | x :: a, y :: b => by
  rw [h1, k'3i p eqs h0 h1 h2 h3 a b, List.length_cons, List.length_cons, List.range_succ_eq_map, List.all_cons, List.all_map]
  have e1 : byI p (x :: a) (y :: b) 0 = p x y := rfl
  have e2 : (byI p (x :: a) (y :: b) ∘ Nat.succ) = byI p a b := by funext i; rfl
  have e3 : (a.length + 1 == b.length + 1) = (a.length == b.length) := by
   by_cases h : a.length = b.length
   ·simp [h]
   ·rw [show (a.length == b.length) = false by simp [h]]; simp; omega
  rw [e1, e2, e3]
  cases p x y <;> cases (a.length == b.length) <;> simp
theorem Vl.eqs_by (a b : List Vl) : Vl.eqs a b = (a.length == b.length && (List.range a.length).all (byI Vl.eq a b)) :=
 k'3i Vl.eq Vl.eqs (by simp [Vl.eqs]) (fun _ _ _ _ => by simp [Vl.eqs]) (fun _ _ => by simp [Vl.eqs]) (fun _ _ => by simp [Vl.eqs]) a b
theorem Kv.eqs_by (a b : List Kv) : Kv.eqs a b = (a.length == b.length && (List.range a.length).all (byI Kv.eq a b)) :=
 k'3i Kv.eq Kv.eqs (by simp [Kv.eqs]) (fun _ _ _ _ => by simp [Kv.eqs]) (fun _ _ => by simp [Kv.eqs]) (fun _ _ => by simp [Kv.eqs]) a b
theorem val_same (n : Nat) : (∀ (a b : Vl) (xa xb : D), a.sz < n → a.sz < big → a.R xa → b.R xb → k'0 (cx B) 246 [.d xa, .d xb] [] (.d (.bool (a.eq b))) []) ∧
  (∀ (a b : Kv) (xa xb : D), a.sz < n → a.sz < big → a.R xa → b.R xb → k'0 (cx B) 188 [.d xa, .d xb] [] (.d (.bool (a.eq b))) []) ∧
  (∀ (a b : List Kv) (z w : Bool) (xa xb : List D), Kv.szs a < n → Kv.szs a < big → Kv.Rs a xa → Kv.Rs b xb → k'0 (cx B) 138 [.d (.sl z xa), .d (.sl w xb)] [] (.d (.bool (Kv.eqs a b))) []) := by
 induction n with
 | zero => exact ⟨fun _ _ _ _ h => by omega, fun _ _ _ _ h => by omega, fun _ _ _ _ _ _ h => by omega⟩
 | succ n ih =>
  obtain ⟨ihV, ihK, ihS⟩ := ih
  have lists : ∀ (m : Nat) (a b : List Kv) (z w : Bool) (xa xb : List D), (∀ k ∈ a, k.sz < m) → Kv.szs a < big → Kv.Rs a xa → Kv.Rs b xb → (∀ (a b : Kv) (xa xb : D), a.sz < m → a.sz < big → a.R xa → b.R xb → k'0 (cx B) 188 [.d xa, .d xb] [] (.d (.bool (a.eq b))) []) →
    k'0 (cx B) 138 [.d (.sl z xa), .d (.sl w xb)] [] (.d (.bool (Kv.eqs a b))) [] := by
   intro m a b z w xa xb hs hbig ha hb hK
   have hla := Kv.Rs_len ha
   have hlb := Kv.Rs_len hb
   have hls := Kv.len_szs a
   have h1 := EqF_Ke_calls B 188 z w xa xb (byI Kv.eq a b) (by unfold big at hbig; omega) (Kv.Rs_sh ha) (Kv.Rs_sh hb) (fun i x y hx hy => by
    have hi : i < a.length := by rw [← hla]; exact (List.getElem?_eq_some_iff.1 hx).1
    have hj : i < b.length := by rw [← hlb]; exact (List.getElem?_eq_some_iff.1 hy).1
    obtain ⟨v, hv⟩ : ∃ v, a[i]? = some v := ⟨_, List.getElem?_eq_getElem hi⟩
    obtain ⟨u, hu⟩ : ∃ u, b[i]? = some u := ⟨_, List.getElem?_eq_getElem hj⟩
    obtain ⟨x', e1, r1⟩ := Kv.Rs_get ha hv
    obtain ⟨y', e2, r2⟩ := Kv.Rs_get hb hu
    rw [hx] at e1; injection e1 with e1; subst e1
    rw [hy] at e2; injection e2 with e2; subst e2
    have hm := List.mem_of_getElem? hv
    have := Kv.sz_mem hm
    have e : byI Kv.eq a b i = v.eq u := by unfold byI; rw [hv, hu]
    rw [e]
    exact hK v u x y (hs v hm) (by omega) r1 r2)
   rw [hla, hlb, ← Kv.eqs_by] at h1
   refine l_bw Tryz.func138 0 [] ?_
   refine k'2 [] (h1) rfl rfl rfl ?_
   exact Z
  have hV : ∀ (a b : Vl) (xa xb : D), a.sz < n + 1 → a.sz < big → a.R xa → b.R xb → k'0 (cx B) 246 [.d xa, .d xb] [] (.d (.bool (a.eq b))) [] := by
   rintro ⟨kind, s, bb, nn, l, m, inner, u⟩ ⟨kind', s', bb', nn', l', m', inner', u'⟩ xa xb hsz hbig ⟨zl, ls, zm, ms, rfl, hl, hm⟩ ⟨zl', ls', zm', ms', rfl, hl', hm'⟩
   unfold Vl.sz at hsz hbig
   have h2 := lists n m m' zm zm' ms ms' (fun k hk => by have := Kv.sz_mem hk; omega) (by omega) hm hm' ihK
   have hla := Vl.Rs_len hl
   have hlb := Vl.Rs_len hl'
   have hls := Vl.len_szs l
   have h1 := EqF_Va_calls B 246 zl zl' ls ls' (byI Vl.eq l l') (by unfold big at hbig; omega) (Vl.Rs_sh hl) (Vl.Rs_sh hl') (fun i x y hx hy => by
    have hi : i < l.length := by rw [← hla]; exact (List.getElem?_eq_some_iff.1 hx).1
    have hj : i < l'.length := by rw [← hlb]; exact (List.getElem?_eq_some_iff.1 hy).1
    obtain ⟨v, hv⟩ : ∃ v, l[i]? = some v := ⟨_, List.getElem?_eq_getElem hi⟩
    obtain ⟨u, hu⟩ : ∃ u, l'[i]? = some u := ⟨_, List.getElem?_eq_getElem hj⟩
    obtain ⟨x', e1, r1⟩ := Vl.Rs_get hl hv
    obtain ⟨y', e2, r2⟩ := Vl.Rs_get hl' hu
    rw [hx] at e1; injection e1 with e1; subst e1
    rw [hy] at e2; injection e2 with e2; subst e2
    have := Vl.sz_mem (List.mem_of_getElem? hv)
    have e : byI Vl.eq l l' i = v.eq u := by unfold byI; rw [hv, hu]
    rw [e]
    exact ihV v u x y (by omega) (by omega) r1 r2)
   rw [hla, hlb, ← Vl.eqs_by] at h1
   rw [show Vl.eq (.mk kind s bb nn l m inner u) (.mk kind' s' bb' nn' l' m' inner' u') = (kind == kind' && s == s' && bb == bb' && nn == nn' && inner == inner' && u == u' && Vl.eqs l l' && Kv.eqs m m') by simp only [Vl.eq]]
   refine l_bw Tryz.func246 0 [] ?_
   cases e1 : (kind == kind')
   ·exact Z
   refine Y ?_
   cases e2 : (s == s')
   ·exact Z
   refine Y ?_
   cases e3 : (bb == bb')
   ·exact Z
   refine Y ?_
   try rw [ibeq nn nn']
   cases e4 : (nn == nn')
   ·exact Z
   refine Y ?_
   cases e5 : (inner == inner')
   ·exact Z
   refine Y ?_
   cases e6 : (u == u')
   ·exact Z
   refine Y ?_
   refine k'23 [] (h1) rfl rfl rfl rfl rfl ?_
   cases e7 : Vl.eqs l l'
   ·exact Z
   refine Y ?_
   refine k'a [] (h2) rfl rfl rfl rfl rfl ?_
   exact Z
  have hK : ∀ (a b : Kv) (xa xb : D), a.sz < n + 1 → a.sz < big → a.R xa → b.R xb → k'0 (cx B) 188 [.d xa, .d xb] [] (.d (.bool (a.eq b))) [] := by
   rintro ⟨key, has, ⟨kind, s, bb, nn, l, m, inner, vu⟩, u⟩ ⟨key', has', ⟨kind', s', bb', nn', l', m', inner', vu'⟩, u'⟩ xa xb hsz hbig ⟨zl, ls, zm, ms, rfl, hl, hm⟩ ⟨zl', ls', zm', ms', rfl, hl', hm'⟩
   unfold Kv.sz at hsz hbig
   have h1 := hV (.mk kind s bb nn l m inner vu) (.mk kind' s' bb' nn' l' m' inner' vu') _ _ (by omega) (by omega) ⟨zl, ls, zm, ms, rfl, hl, hm⟩ ⟨zl', ls', zm', ms', rfl, hl', hm'⟩
   rw [show Kv.eq (.mk key has (.mk kind s bb nn l m inner vu) u) (.mk key' has' (.mk kind' s' bb' nn' l' m' inner' vu') u') = (key == key' && has == has' && u == u' && Vl.eq (.mk kind s bb nn l m inner vu) (.mk kind' s' bb' nn' l' m' inner' vu')) by simp only [Kv.eq]]
   refine l_bw Tryz.func188 0 [] ?_
   cases e1 : (key == key')
   ·exact Z
   refine Y ?_
   cases e2 : (has == has')
   ·exact Z
   refine Y ?_
   cases e3 : (u == u')
   ·exact Z
   refine Y ?_
   refine k'a [] (h1) rfl rfl rfl rfl rfl ?_
   exact Z
  exact ⟨hV, hK, fun a b z w xa xb hs hbig ha hb => lists (n + 1) a b z w xa xb (fun k hk => by have := Kv.sz_mem hk; omega) hbig ha hb hK⟩
end Go.Proofs.YtcfkbpddmdfbaaaGreatDoor
/-! Values and attributes: may they be? -/
namespace Go.Proofs.YtcfkbpddmdfbaaaGreatDoor
open Go Go.Abs
variable (B : Fr)
theorem nested_calls (kind : Int) (s : List UInt8) (b : Bool) (n : Nat) (zl : Bool) (ls : List D) (zm : Bool) (ms : List D) (inner u : List UInt8) :
  k'0 (cx B) 407 [.d (.agg [.int .i64 kind, .str s, .bool b, .int .u64 n, .sl zl ls, .sl zm ms, .str inner, .str u])] [] (.d (.bool (k'1s ls.length ms.length inner))) [] := by
 unfold k'1s
 refine l_bw Tryz.func407 0 [] ?_
 rw [show (((ls.length : Nat) : Int) == 0) = (ls.length == 0) from ibeq ls.length 0]
 cases h1 : (ls.length == 0)
 ·exact Z
 refine Y ?_
 rw [show (((ms.length : Nat) : Int) == 0) = (ms.length == 0) from ibeq ms.length 0]
 cases h2 : (ms.length == 0)
 ·exact Z
 exact Z
theorem plain_calls (kind : Int) (s : List UInt8) (b : Bool) (n : Nat) (zl : Bool) (ls : List D) (zm : Bool) (ms : List D) (inner u : List UInt8) :
  k'0 (cx B) 406 [.d (.agg [.int .i64 kind, .str s, .bool b, .int .u64 n, .sl zl ls, .sl zm ms, .str inner, .str u])] [] (.d (.bool (n == 0 && !b && k'1s ls.length ms.length inner))) [] := by
 refine l_bw Tryz.func406 0 [] ?_
 rw [show (((n : Nat) : Int) == 0) = (n == 0) from ibeq n 0]
 cases h1 : (n == 0)
 ·exact Z
 refine Y ?_
 cases b
 rotate_left
 ·exact Z
 refine Y ?_
 refine k'a [] (nested_calls B kind s false n zl ls zm ms inner u) rfl rfl rfl rfl rfl ?_
 exact Z
theorem bare_calls (kind : Int) (s : List UInt8) (b : Bool) (n : Nat) (zl : Bool) (ls : List D) (zm : Bool) (ms : List D) (inner u : List UInt8) (hs : s.length < big) :
  k'0 (cx B) 328 [.d (.agg [.int .i64 kind, .str s, .bool b, .int .u64 n, .sl zl ls, .sl zm ms, .str inner, .str u])] [] (.d (.bool (k'1l kind s b n ls.length ms.length inner))) [] := by
 have hp := plain_calls B kind s b n zl ls zm ms inner u
 have hn := nested_calls B kind s b n zl ls zm ms inner u
 have e0 : (((n : Nat) : Int) == 0) = (n == 0) := ibeq n 0
 have el : (((ls.length : Nat) : Int) == 0) = (ls.length == 0) := ibeq ls.length 0
 have em : (((ms.length : Nat) : Int) == 0) = (ms.length == 0) := ibeq ms.length 0
 by_cases k1 : kind = 1
 ·subst k1
  simp only [k'1l, if_true]
  refine l_bw Tryz.func328 0 [] ?_
  refine l_cw [] (k'1g B s hs) rfl rfl rfl ?_
  cases h1 : txt s
  ·exact Z
  refine Y ?_
  refine k'a [] (hp) rfl rfl rfl rfl rfl ?_
  exact Z
 by_cases k7 : kind = 7
 ·subst k7
  simp only [k'1l]
  refine l_bw Tryz.func328 0 [] ?_
  refine k'2 [] (hp) rfl rfl rfl ?_
  exact Z
 by_cases k2 : kind = 2
 ·subst k2
  simp only [k'1l]
  refine l_bw Tryz.func328 0 [] ?_
  cases h1 : (s == [])
  ·exact Z
  refine Y ?_
  rw [e0]
  cases h2 : (n == 0)
  ·exact Z
  refine Y ?_
  refine k'a [] (hn) rfl rfl rfl rfl rfl ?_
  exact Z
 by_cases k34 : kind = 3 ∨ kind = 4
 ·rcases k34 with rfl | rfl
  all_goals simp only [k'1l]
  ·refine l_bw Tryz.func328 0 [] ?_
   cases h1 : (s == [])
   ·exact Z
   refine Y ?_
   cases b
   rotate_left
   ·exact Z
   refine Y ?_
   refine k'a [] (hn) rfl rfl rfl rfl rfl ?_
   exact Z
  ·refine l_bw Tryz.func328 0 [] ?_
   cases h1 : (s == [])
   ·exact Z
   refine Y ?_
   cases b
   rotate_left
   ·exact Z
   refine Y ?_
   refine k'a [] (hn) rfl rfl rfl rfl rfl ?_
   exact Z
 by_cases k0 : kind = 0
 ·subst k0
  simp only [k'1l]
  refine l_bw Tryz.func328 0 [] ?_
  cases h1 : (s == [])
  ·exact Z
  refine Y ?_
  rw [e0]
  cases h2 : (n == 0)
  ·exact Z
  refine Y ?_
  cases b
  rotate_left
  ·exact Z
  refine Y ?_
  refine k'a [] (hn) rfl rfl rfl rfl rfl ?_
  exact Z
 by_cases k5 : kind = 5
 ·subst k5
  simp only [k'1l]
  refine l_bw Tryz.func328 0 [] ?_
  cases h1 : (s == [])
  ·exact Z
  refine Y ?_
  rw [e0]
  cases h2 : (n == 0)
  ·exact Z
  refine Y ?_
  cases b
  rotate_left
  ·exact Z
  refine Y ?_
  rw [em]
  exact k'i rfl
 by_cases k6 : kind = 6
 ·subst k6
  simp only [k'1l]
  refine l_bw Tryz.func328 0 [] ?_
  cases h1 : (s == [])
  ·exact Z
  refine Y ?_
  rw [e0]
  cases h2 : (n == 0)
  ·exact Z
  refine Y ?_
  cases b
  rotate_left
  ·exact Z
  refine Y ?_
  rw [el]
  exact k'i rfl
 simp only [k'1l, k1, k7, k2, k34, k0, k5, k6, if_false]
 have n1 : (kind == 1) = false := by simp [k1]
 have n7 : (kind == 7) = false := by simp [k7]
 have n2 : (kind == 2) = false := by simp [k2]
 have n3 : (kind == 3) = false := by simp; omega
 have n4 : (kind == 4) = false := by simp; omega
 have n0 : (kind == 0) = false := by simp [k0]
 have n5 : (kind == 5) = false := by simp [k5]
 have n6 : (kind == 6) = false := by simp [k6]
 refine l_bw Tryz.func328 0 [] ?_
 rw [n1]
 refine Y ?_
 rw [n7]
 refine Y ?_
 rw [n2]
 refine Y ?_
 rw [n3]
 refine Y ?_
 rw [n4]
 refine Y ?_
 rw [n0]
 refine Y ?_
 rw [n5]
 refine Y ?_
 rw [n6]
 exact Z
def atB {α : Type} (p : α → Bool) (a : List α) (i : Nat) : Bool :=
 match a[i]? with
 | some x => p x
 | none => true
theorem atB_all {α : Type} (p : α → Bool) : ∀ a : List α, a.all p = (List.range a.length).all (atB p a)
 | [] => rfl
 | x :: a => by
  rw [List.all_cons, atB_all p a, List.length_cons, List.range_succ_eq_map, List.all_cons, List.all_map]
  have e2 : (atB p (x :: a) ∘ Nat.succ) = atB p a := by funext i; rfl
  rw [e2]
  rfl
theorem k'5 {d : Int} (k : Int) (h0 : 0 ≤ k) (h1 : k ≤ 100) (hd : -9223372036854775000 ≤ d) (hd2 : d < 9223372036854775808) : IntKind.i64.wrap (d - k) = d - k := by rw [k'10 (by omega) (by omega)]
theorem noVl_R : noVl.R (.agg [.int .i64 0, .str [], .bool false, .int .u64 0, .sl true [], .sl true [], .str [], .str []]) := ⟨true, [], true, [], rfl, rfl, rfl⟩
theorem isNo_is (v : Vl) : v.isNo = v.eq noVl := by
 rcases v with ⟨kind, s, b, n, l, m, inner, u⟩
 have e1 : ∀ l : List Vl, Vl.eqs l [] = (l.length == 0) := fun l => by cases l <;> simp [Vl.eqs]
 have e2 : ∀ l : List Kv, Kv.eqs l [] = (l.length == 0) := fun l => by cases l <;> simp [Kv.eqs]
 unfold noVl Vl.isNo
 rw [show Vl.eq (.mk kind s b n l m inner u) (.mk 0 [] false 0 [] [] [] []) = (kind == 0 && s == [] && b == false && n == 0 && inner == [] && u == [] && Vl.eqs l [] && Kv.eqs m []) by simp only [Vl.eq], e1, e2]
theorem val_may (n : Nat) : (∀ (a : Vl) (xa : D) (d : Int), a.sz < n → a.sz < big → -9223372036854775000 ≤ d → d < 9223372036854775808 → a.R xa → k'0 (cx B) 247 [.d xa, .d (.int .i64 d)] [] (.d (.bool (a.may d))) []) ∧
  (∀ (a : Kv) (xa : D) (d : Int), a.sz < n → a.sz < big → -9223372036854775000 ≤ d → d < 9223372036854775808 → a.R xa → k'0 (cx B) 189 [.d xa, .d (.int .i64 d)] [] (.d (.bool (a.may d))) []) ∧
  (∀ (a : List Kv) (z : Bool) (xa : List D) (d : Int), Kv.szs a < n → Kv.szs a < big → -9223372036854775000 ≤ d → d < 9223372036854775808 → Kv.Rs a xa → k'0 (cx B) 139 [.d (.sl z xa), .d (.int .i64 d)] [] (.d (.bool (Kv.mays a d))) []) := by
 induction n with
 | zero => exact ⟨fun _ _ _ h => by omega, fun _ _ _ h => by omega, fun _ _ _ _ h => by omega⟩
 | succ n ih =>
  obtain ⟨ihV, ihK, ihS⟩ := ih
  have lists : ∀ (m : Nat) (a : List Kv) (z : Bool) (xa : List D) (d : Int), (∀ k ∈ a, k.sz < m) → Kv.szs a < big → -9223372036854775000 ≤ d → d < 9223372036854775808 → Kv.Rs a xa → (∀ (a : Kv) (xa : D) (d : Int), a.sz < m → a.sz < big → -9223372036854775000 ≤ d → d < 9223372036854775808 → a.R xa → k'0 (cx B) 189 [.d xa, .d (.int .i64 d)] [] (.d (.bool (a.may d))) []) →
    k'0 (cx B) 139 [.d (.sl z xa), .d (.int .i64 d)] [] (.d (.bool (Kv.mays a d))) [] := by
   intro m a z xs d hs hbig hd1 hd2 ha hK
   have hla := Kv.Rs_len ha
   have hls := Kv.len_szs a
   have hl : xs.length < 9223372036854775807 := by unfold big at hbig; omega
   rw [Kv.mays_all, atB_all, ← hla]
   have hf : ∀ (i : Nat) x, xs[i]? = some x → k'0 (cx B) 189 [.d x, .d (.int .i64 d)] [] (.d (.bool (atB (fun v => v.may d) a i))) [] := fun i x hx => by
    have hi : i < a.length := by rw [← hla]; exact (List.getElem?_eq_some_iff.1 hx).1
    obtain ⟨v, hv⟩ : ∃ v, a[i]? = some v := ⟨_, List.getElem?_eq_getElem hi⟩
    obtain ⟨x', e1, r1⟩ := Kv.Rs_get ha hv
    rw [hx] at e1; injection e1 with e1; subst e1
    have hm := List.mem_of_getElem? hv
    have := Kv.sz_mem hm
    have e : atB (fun v => v.may d) a i = v.may d := by unfold atB; rw [hv]
    rw [e]
    exact hK v x d (hs v hm) (by omega) hd1 hd2 r1
   have hsh := Kv.Rs_sh ha
   generalize atB (fun v : Kv => v.may d) a = r at hf ⊢
   refine l_bw Tryz.func139 0 [] ?_
   refine k'8 (fun i : Nat => xs.length - i) (fun i => [(1, .d (.int .i64 d)), (7, .d (.sl z xs)), (8, iT xs.length), (9, iT i)]) (fun _ => []) (fun i => i ≤ xs.length ∧ (List.range i).all r = true) 0 ⟨by omega, rfl⟩ ⟨rfl, rfl, rfl, rfl, trivial⟩ rfl 0 rfl (fun _ => rfl) (fun _ => rfl) (fun _ => rfl) ?_
   rintro i ⟨i1, i2⟩
   refine Y ?_
   refine k'13 rfl (fun hd => ?_) (fun hd => ?_)
   ·have hlt : i < xs.length := by have := of_decide_eq_true hd; omega
    obtain ⟨x, hxi⟩ : ∃ x, xs[i]? = some x := ⟨_, List.getElem?_eq_getElem hlt⟩
    have hc := hf i x hxi
    obtain ⟨a0, a1, a2, a3, a4, a5, a6, a7, a8, a9, a10, a11, a12, rfl⟩ := hsh x (List.mem_of_getElem? hxi)
    have hin : (List.range xs.length).all r = true → r i = true := fun h => List.all_eq_true.1 h i (List.mem_range.2 hlt)
    refine Y ?_
    refine k'1 (.indexAddr (k := .i64) (n := i) (es := xs) rfl rfl rfl rfl (.inl ⟨_, rfl⟩) rfl (by omega) (by simpa using hxi) rfl (by decide)) rfl rfl ?_
    refine Y ?_
    refine l_cw [] (hc) rfl rfl rfl ?_
    cases hr : r i
    ·rw [show (List.range xs.length).all r = false by cases hh : (List.range xs.length).all r with | false => rfl | true => rw [hin hh] at hr; simp at hr]
     exact Z
    refine Y ?_
    rw [wS i (by omega)]
    exact ⟨i + 1, by omega, ⟨by omega, by rw [List.range_succ, List.all_append, i2]; simp [hr]⟩, ⟨rfl, rfl, rfl, rfl, trivial⟩, rfl, k'z rfl⟩
   ·have hge : i = xs.length := by have := of_decide_eq_false hd; omega
    subst hge
    rw [i2]
    exact Z
  have hV : ∀ (a : Vl) (xa : D) (d : Int), a.sz < n + 1 → a.sz < big → -9223372036854775000 ≤ d → d < 9223372036854775808 → a.R xa → k'0 (cx B) 247 [.d xa, .d (.int .i64 d)] [] (.d (.bool (a.may d))) [] := by
   rintro ⟨kind, s, bb, nn, l, m, inner, u⟩ xa d hsz hbig hd1 hd2 ⟨zl, ls, zm, ms, rfl, hl, hm⟩
   unfold Vl.sz at hsz hbig
   have hla := Vl.Rs_len hl
   have hlb := Kv.Rs_len hm
   have hlsz := Vl.len_szs l
   unfold Vl.may
   have h0 := bare_calls B kind s bb nn zl ls zm ms inner u (by omega)
   have h1 := k'o B 291 tbV (tbV_calls B) u d (by omega) (by omega) hd2
   rw [hla, hlb] at h0
   by_cases hd0 : d < 0
   ·rw [show decide (0 ≤ d) = false from decide_eq_false (by omega)]
    refine l_bw Tryz.func247 0 [] ?_
    rw [show decide (d < 0) = true from decide_eq_true hd0]
    exact Z
   rw [show decide (0 ≤ d) = true from decide_eq_true (by omega)]
   cases hb : k'1l kind s bb nn l.length m.length inner with
   | false =>
    rw [hb] at h0
    refine l_bw Tryz.func247 0 [] ?_
    rw [show decide (d < 0) = false from decide_eq_false hd0]
    refine Y ?_
    refine k'a [] (h0) rfl rfl rfl rfl rfl ?_
    exact Z
   | true =>
   rw [hb] at h0
   cases hr : k'1a tbV u d with
   | false =>
    rw [hr] at h1
    refine l_bw Tryz.func247 0 [] ?_
    rw [show decide (d < 0) = false from decide_eq_false hd0]
    refine Y ?_
    refine k'23 [] (h0) rfl rfl rfl rfl rfl ?_
    refine k'a [] (h1) rfl rfl rfl rfl rfl ?_
    exact Z
   | true =>
   rw [hr] at h1
   by_cases h56 : kind = 5 ∨ kind = 6
   rotate_left
   ·rw [if_neg h56]
    have n5 : (kind != 5) = true := by simp; omega
    have n6 : (kind != 6) = true := by simp; omega
    refine l_bw Tryz.func247 0 [] ?_
    rw [show decide (d < 0) = false from decide_eq_false hd0]
    refine Y ?_
    refine k'23 [] (h0) rfl rfl rfl rfl rfl ?_
    refine k'23 [] (h1) rfl rfl rfl rfl rfl ?_
    rw [n5]
    refine Y ?_
    rw [n6]
    exact Z
   rw [if_pos h56]
   have k56 : (kind != 5 && kind != 6) = false := by rcases h56 with rfl | rfl <;> rfl
   by_cases hd3 : d < 1
   ·rw [show decide (1 ≤ d) = false from decide_eq_false (by omega)]
    rcases h56 with rfl | rfl
    all_goals (
    refine l_bw Tryz.func247 0 [] ?_
    rw [show decide (d < 0) = false from decide_eq_false hd0]
    refine Y ?_
    refine k'23 [] (h0) rfl rfl rfl rfl rfl ?_
    refine k'23 [] (h1) rfl rfl rfl rfl rfl ?_
    rw [show decide (d < 1) = true from decide_eq_true hd3]
    exact Z)
   rw [show decide (1 ≤ d) = true from decide_eq_true (by omega)]
   have h2 := k'o B 329 tbL (tbL_calls B) inner (d - 1) (by omega) (by omega) (by omega)
   have h3 := lists n m zm ms (d - 2) (fun k hk => by have := Kv.sz_mem hk; omega) (by omega) (by omega) (by omega) hm ihK
   cases hr2 : k'1a tbL inner (d - 1) with
   | false =>
    rw [hr2] at h2
    rcases h56 with rfl | rfl
    all_goals (
    refine l_bw Tryz.func247 0 [] ?_
    rw [show decide (d < 0) = false from decide_eq_false hd0]
    refine Y ?_
    refine k'23 [] (h0) rfl rfl rfl rfl rfl ?_
    refine k'23 [] (h1) rfl rfl rfl rfl rfl ?_
    rw [show decide (d < 1) = false from decide_eq_false hd3]
    refine Y ?_
    rw [k'5 1 (by omega) (by omega) (by omega) hd2]
    refine k'a [] (h2) rfl rfl rfl rfl rfl ?_
    exact Z)
   | true =>
   rw [hr2] at h2
   have hlen : ls.length < 9223372036854775807 := by unfold big at hbig; omega
   rw [Vl.mays_all, atB_all, ← hla]
   have hf : ∀ (i : Nat) x, ls[i]? = some x → k'0 (cx B) 247 [.d x, .d (.int .i64 (d - 2))] [] (.d (.bool (atB (fun v => v.may (d - 2)) l i))) [] := fun i x hx => by
    have hi : i < l.length := by rw [← hla]; exact (List.getElem?_eq_some_iff.1 hx).1
    obtain ⟨v, hv⟩ : ∃ v, l[i]? = some v := ⟨_, List.getElem?_eq_getElem hi⟩
    obtain ⟨x', e1, r1⟩ := Vl.Rs_get hl hv
    rw [hx] at e1; injection e1 with e1; subst e1
    have := Vl.sz_mem (List.mem_of_getElem? hv)
    have e : atB (fun v => v.may (d - 2)) l i = v.may (d - 2) := by unfold atB; rw [hv]
    rw [e]
    exact ihV v x (d - 2) (by omega) (by omega) (by omega) (by omega) r1
   have hsh := Vl.Rs_sh hl
   generalize atB (fun v : Vl => v.may (d - 2)) l = r at hf ⊢
   rcases h56 with rfl | rfl
   all_goals (
   refine l_bw Tryz.func247 0 [] ?_
   rw [show decide (d < 0) = false from decide_eq_false hd0]
   refine Y ?_
   refine k'23 [] (h0) rfl rfl rfl rfl rfl ?_
   refine k'23 [] (h1) rfl rfl rfl rfl rfl ?_
   rw [show decide (d < 1) = false from decide_eq_false hd3]
   refine Y ?_
   rw [k'5 1 (by omega) (by omega) (by omega) hd2]
   refine k'23 [] (h2) rfl rfl rfl rfl rfl ?_
   refine k'8 (fun i : Nat => ls.length - i) (fun i => [(1, .d (.int .i64 d)), (2, .ptr 0 0), (40, .d (.sl zl ls)), (41, iT ls.length), (42, iT i)]) (fun _ => _) (fun i => i ≤ ls.length ∧ (List.range i).all r = true) 0 ⟨by omega, rfl⟩ ⟨rfl, rfl, rfl, rfl, rfl, trivial⟩ rfl 1 rfl (fun _ => rfl) (fun _ => rfl) (fun _ => rfl) ?_
   rintro i ⟨i1, i2⟩
   refine Y ?_
   refine k'13 rfl (fun hd => ?_) (fun hd => ?_)
   ·have hlt : i < ls.length := by have := of_decide_eq_true hd; omega
    obtain ⟨x, hxi⟩ : ∃ x, ls[i]? = some x := ⟨_, List.getElem?_eq_getElem hlt⟩
    have hc := hf i x hxi
    obtain ⟨a0, a1, a2, a3, a4, a5, a6, a7, a8, a9, rfl⟩ := hsh x (List.mem_of_getElem? hxi)
    have hin : (List.range ls.length).all r = true → r i = true := fun h => List.all_eq_true.1 h i (List.mem_range.2 hlt)
    refine Y ?_
    refine k'1 (.indexAddr (k := .i64) (n := i) (es := ls) rfl rfl rfl rfl (.inl ⟨_, rfl⟩) rfl (by omega) (by simpa using hxi) rfl (by decide)) rfl rfl ?_
    refine Y ?_
    rw [k'5 2 (by omega) (by omega) (by omega) hd2]
    refine l_cw [] (hc) rfl rfl rfl ?_
    cases hr : r i
    ·rw [show (List.range ls.length).all r = false by cases hh : (List.range ls.length).all r with | false => rfl | true => rw [hin hh] at hr; simp at hr]
     exact Z
    refine Y ?_
    rw [wS i (by omega)]
    exact ⟨i + 1, by omega, ⟨by omega, by rw [List.range_succ, List.all_append, i2]; simp [hr]⟩, ⟨rfl, rfl, rfl, rfl, rfl, trivial⟩, rfl, k'z rfl⟩
   ·have hge : i = ls.length := by have := of_decide_eq_false hd; omega
    subst hge
    rw [i2]
    refine Y ?_
    rw [k'5 2 (by omega) (by omega) (by omega) hd2]
    refine k'2 [] (h3) rfl rfl rfl ?_
    exact Z)
  have hK : ∀ (a : Kv) (xa : D) (d : Int), a.sz < n + 1 → a.sz < big → -9223372036854775000 ≤ d → d < 9223372036854775808 → a.R xa → k'0 (cx B) 189 [.d xa, .d (.int .i64 d)] [] (.d (.bool (a.may d))) [] := by
   rintro ⟨key, has, ⟨kind, s, bb, nn, l, m, inner, vu⟩, u⟩ xa d hsz hbig hd1 hd2 ⟨zl, ls, zm, ms, rfl, hl, hm⟩
   unfold Kv.sz at hsz hbig
   have hR : (Vl.mk kind s bb nn l m inner vu).R (.agg [.int .i64 kind, .str s, .bool bb, .int .u64 nn, .sl zl ls, .sl zm ms, .str inner, .str vu]) := ⟨zl, ls, zm, ms, rfl, hl, hm⟩
   unfold Kv.may
   have h0 := k'1g B key (by omega)
   have h1 := k'o B 218 tbK (tbK_calls B) u d (by omega) (by omega) hd2
   have h3 := (val_same B (n + 1)).1 (.mk kind s bb nn l m inner vu) noVl _ _ (by omega) (by omega) hR noVl_R
   rw [← isNo_is] at h3
   by_cases hd0 : d < 0
   ·rw [show decide (0 ≤ d) = false from decide_eq_false (by omega)]
    refine l_bw Tryz.func189 0 [] ?_
    rw [show decide (d < 0) = true from decide_eq_true hd0]
    exact Z
   rw [show decide (0 ≤ d) = true from decide_eq_true (by omega)]
   have h2 := hV (.mk kind s bb nn l m inner vu) _ (d - 1) (by omega) (by omega) (by omega) (by omega) hR
   cases hb : txt key with
   | false =>
    rw [hb] at h0
    refine l_bw Tryz.func189 0 [] ?_
    rw [show decide (d < 0) = false from decide_eq_false hd0]
    refine Y ?_
    refine k'a [] (h0) rfl rfl rfl rfl rfl ?_
    exact Z
   | true =>
   rw [hb] at h0
   cases hr : k'1a tbK u d with
   | false =>
    rw [hr] at h1
    refine l_bw Tryz.func189 0 [] ?_
    rw [show decide (d < 0) = false from decide_eq_false hd0]
    refine Y ?_
    refine k'23 [] (h0) rfl rfl rfl rfl rfl ?_
    refine k'a [] (h1) rfl rfl rfl rfl rfl ?_
    exact Z
   | true =>
   rw [hr] at h1
   cases has
   rotate_left
   ·refine l_bw Tryz.func189 0 [] ?_
    rw [show decide (d < 0) = false from decide_eq_false hd0]
    refine Y ?_
    refine k'23 [] (h0) rfl rfl rfl rfl rfl ?_
    refine k'23 [] (h1) rfl rfl rfl rfl rfl ?_
    rw [k'5 1 (by omega) (by omega) (by omega) hd2]
    refine k'2 [] (h2) rfl rfl rfl ?_
    exact Z
   refine l_bw Tryz.func189 0 [] ?_
   rw [show decide (d < 0) = false from decide_eq_false hd0]
   refine Y ?_
   refine k'23 [] (h0) rfl rfl rfl rfl rfl ?_
   refine k'23 [] (h1) rfl rfl rfl rfl rfl ?_
   refine k'2 [] (h3) rfl rfl rfl ?_
   exact Z
  exact ⟨hV, hK, fun a z xa d hs hbig hd1 hd2 ha => lists (n + 1) a z xa d (fun k hk => by have := Kv.sz_mem hk; omega) hbig hd1 hd2 ha hK⟩
end Go.Proofs.YtcfkbpddmdfbaaaGreatDoor
/-! What is written. -/
namespace Go.Proofs.YtcfkbpddmdfbaaaGreatDoor
open Go Go.Abs
variable (B : Fr)
def Wr (f : Nat) (args : List T) (o : List UInt8) : Prop := ∀ (a : T) (l : List UInt8), adOk a → l.length + o.length < big →
 ∃ a', adOk a' ∧ k'0 (cx B) f (.ptr 0 0 :: args) [.mu [a, bT l]] (.tup []) [.mu [a', bT (l ++ o)]]
theorem wr_few (n m : Nat) (h1 : 1 ≤ n) (h2 : n ≤ 536870911) (hm : m < 2 ^ 64) : Wr B 80 [iT n, uT m] (fewV n m) := fun a l ha hl => ⟨.me, .inl rfl, Few_calls B a l n m ha h1 h2 hm (by omega)⟩
theorem k'4a (n : Nat) (s : List UInt8) (h1 : 1 ≤ n) (h2 : n ≤ 536870911) : Wr B 39 [iT n, sT s] (paV n s) := fun a l ha hl => ⟨.me, .inl rfl, k'43 B a l n s ha h1 h2 (by simp [paV] at hl; omega)⟩
theorem k'24 (n : Nat) (s : List UInt8) (h1 : 1 ≤ n) (h2 : n ≤ 536870911) : Wr B 37 [iT n, sT s] (txV n s) := fun a l ha hl => by
 by_cases h0 : s = []
 ·subst h0
  exact ⟨a, ha, by rw [show txV n [] = [] from rfl, List.append_nil]; exact Text_nil B a l n ha⟩
 ·rw [show txV n s = paV n s from if_neg h0] at hl ⊢
  exact ⟨.me, .inl rfl, Text_calls B a l n s ha h1 h2 h0 (by simp [paV] at hl; omega)⟩
theorem wr_var (n m : Nat) (h1 : 1 ≤ n) (h2 : n ≤ 536870911) (hm : m < 2 ^ 64) : Wr B 36 [iT n, uT m] (vrV n m) := fun a l ha hl => Var_any B a l n m ha h1 h2 hm (by omega)
theorem wr_eight (n m : Nat) (h1 : 1 ≤ n) (h2 : n ≤ 536870911) : Wr B 386 [iT n, uT m] (e8V n m) := fun a l ha hl => by
 refine ⟨.me, .inl rfl, ?_⟩
 have h0 := Fixed_calls B n m h1 h2
 have h3 := k'3c B a l (tagV n 1 ++ le8 m) ha (by unfold big e8V at hl; unfold most; omega)
 unfold e8V
 generalize l ++ (tagV n 1 ++ le8 m) = y at *
 rcases ha with rfl | rfl | rfl <;> (rcases l with _ | ⟨c, l⟩ <;> (rcases y with _ | ⟨c', y⟩ <;> (
 refine l_bw Tryz.func386 1 [] ?_
 refine k'2 [] (h0) rfl rfl rfl ?_
 refine k'2 [0] (h3) rfl rfl rfl ?_
 exact Z)))
theorem k'1m (n m : Nat) (h1 : 1 ≤ n) (h2 : n ≤ 536870911) : Wr B 389 [iT n, uT m] (fxV n m) := fun a l ha hl => by
 by_cases h0 : m = 0
 ·subst h0
  refine ⟨a, ha, ?_⟩
  rw [show fxV n 0 = [] from rfl, List.append_nil]
  rcases ha with rfl | rfl | rfl <;> (rcases l with _ | ⟨c, l⟩ <;> (
  refine l_b0 Tryz.func389 1 [] ?_
  exact Z))
 ·rw [show fxV n m = e8V n m from if_neg h0] at hl ⊢
  obtain ⟨a', ha', h3⟩ := wr_eight B n m h1 h2 a l ha hl
  refine ⟨a', ha', ?_⟩
  generalize l ++ e8V n m = y at *
  rcases ha with rfl | rfl | rfl <;> (rcases ha' with rfl | rfl | rfl <;> (rcases l with _ | ⟨c, l⟩ <;> (rcases y with _ | ⟨c', y⟩ <;> (
  refine l_bw Tryz.func389 1 [] ?_
  rw [show decide ((m : Int) > 0) = true from decide_eq_true (by omega)]
  refine Y ?_
  refine k'2 [0] (h3) rfl rfl rfl ?_
  exact Z))))
theorem wr_either (h : Bool) (n m : Nat) (h1 : 1 ≤ n) (h2 : n ≤ 536870911) : Wr B 390 [.d (.bool h), iT n, uT m] (opV n h m) := fun a l ha hl => by
 cases h
 ·refine ⟨a, ha, ?_⟩
  rw [show opV n false m = [] from rfl, List.append_nil]
  rcases ha with rfl | rfl | rfl <;> (rcases l with _ | ⟨c, l⟩ <;> (
  refine l_b0 Tryz.func390 1 [] ?_
  exact Z))
 rw [show opV n true m = e8V n m from rfl] at hl ⊢
 obtain ⟨a', ha', h3⟩ := wr_eight B n m h1 h2 a l ha hl
 refine ⟨a', ha', ?_⟩
 generalize l ++ e8V n m = y at *
 rcases ha with rfl | rfl | rfl <;> (rcases ha' with rfl | rfl | rfl <;> (rcases l with _ | ⟨c, l⟩ <;> (rcases y with _ | ⟨c', y⟩ <;> (
 refine l_bw Tryz.func390 1 [] ?_
 refine k'2 [0] (h3) rfl rfl rfl ?_
 exact Z))))
theorem paV_ge (n : Nat) (s : List UInt8) : 1 + s.length ≤ (paV n s).length := by
 have : 0 < (putV s.length).length := by
  have := putV_ne s.length
  cases h : putV s.length with
  | nil => exact absurd h this
  | cons _ _ => simp
 unfold paV; simp; omega
theorem psV_count (n : Nat) : ∀ ms : List (List UInt8), ms.length ≤ (psV n ms).length
 | [] => by simp
 | s :: ms => by
  have := psV_count n ms; have := paV_ge n s
  rw [show psV n (s :: ms) = paV n s ++ psV n ms by simp [psV]]
  simp; omega
theorem psV_app (n : Nat) (a b : List (List UInt8)) : psV n (a ++ b) = psV n a ++ psV n b := by simp [psV]
theorem psV_take (n : Nat) {ms : List (List UInt8)} {i : Nat} {s : List UInt8} (h : ms[i]? = some s) : (psV n (ms.take i)).length + s.length < (psV n ms).length := by
 have h2 : psV n ms = psV n (ms.take (i + 1)) ++ psV n (ms.drop (i + 1)) := by rw [← psV_app, List.take_append_drop]
 have h3 : psV n (ms.take (i + 1)) = psV n (ms.take i) ++ paV n s := by rw [List.take_add_one, h, psV_app]; simp [psV]
 have := paV_ge n s
 rw [h2, h3]; simp; omega
theorem ad_if {a : T} (ha : adOk a) {p : Prop} [Decidable p] : adOk (if p then a else .me) := by
 split
 ·exact ha
 ·exact .inl rfl
def PartsP (G : Nat) (Sh : D → Prop) : Prop := ∀ (n : Nat), 1 ≤ n → n ≤ 536870911 → ∀ (d : Int), -9223372036854775000 ≤ d → d < 9223372036854775808 → ∀ (f : Nat) (z : Bool) (xs : List D) (ms : List (List UInt8)), ms.length = xs.length → (∀ x ∈ xs, Sh x) →
  (∀ (i : Nat) x s, xs[i]? = some x → ms[i]? = some s → k'0 (cx B) f [.d x, .d (.int .i64 (d - 1))] [] (.tup [sT s, .d .nili]) []) →
  Wr B G [iT n, .d (.sl z xs), .d (.int .i64 d), .d (.fn f [])] (psV n ms)
theorem k'33 {G : Nat} {fn : Func} {Sh : D → Prop} (hF : Tryz.prog.funcs[G]? = some fn) (main : Tryz.prog.funcs[G]? = some fn → PartsP B G Sh := by
  intro hF n h1 h2 d hd1 hd2 f z xs ms hlen hx hf a l ha hl
  have hpl := psV_count n ms
  have hb : ms.length < 34359738368 := by unfold big at hl; omega
  refine ⟨if ms.length = 0 then a else .me, ad_if ha, ?_⟩
  refine l_body (X := cx B) hF rfl rfl rfl rfl rfl 1 [] rfl rfl ?_
  refine Y ?_
  refine k'8 (fun i : Nat => xs.length - i) (fun i => [(0, .ptr 0 0), (1, iT n), (3, .d (.int .i64 d)), (4, .d (.fn f [])), (14, .d (.sl z xs)), (15, iT xs.length), (16, iT i)]) (fun i => [.mu [if i = 0 then a else .me, bT (l ++ psV n (ms.take i))]]) (fun i => i ≤ xs.length) 0 (by omega) ⟨rfl, rfl, rfl, rfl, rfl, rfl, rfl, trivial⟩ (by simp [psV]) 1 rfl (fun _ => rfl) (fun i => by
   have : adOk (if i = 0 then a else .me) := ad_if ha
   simp [k'6 this]) (fun _ => rfl) ?_
  intro i i1
  have ha2 : adOk (if i = 0 then a else .me) := ad_if ha
  refine Y ?_
  refine k'13 rfl (fun hd => ?_) (fun hd => ?_)
  ·have hlt : i < xs.length := by have := of_decide_eq_true hd; omega
   obtain ⟨x, hxi⟩ : ∃ x, xs[i]? = some x := ⟨_, List.getElem?_eq_getElem hlt⟩
   obtain ⟨s, hsi⟩ : ∃ s, ms[i]? = some s := ⟨_, List.getElem?_eq_getElem (by omega)⟩
   have hc := hf i x s hxi hsi
   have hsh := hx x (List.mem_of_getElem? hxi)
   revert hsh
   repeat refine forall_exists_index.2 fun _ => ?_
   rintro rfl
   have hsp := psV_take n hsi
   have h3 := k'43 B _ (l ++ psV n (ms.take i)) n s ha2 h1 h2 (by simp; omega)
   rw [List.append_assoc, show psV n (ms.take i) ++ (tagV n 2 ++ (putV s.length ++ s)) = psV n (ms.take (i + 1)) by rw [List.take_add_one, hsi]; simp [psV, paV]] at h3
   refine Y ?_
   refine k'1 (.indexAddr (k := .i64) (n := i) (es := xs) rfl rfl rfl rfl (.inl ⟨_, rfl⟩) rfl (by omega) (by simpa using hxi) rfl (by decide)) rfl rfl ?_
   refine Y ?_
   rw [k'5 1 (by omega) (by omega) hd1 hd2]
   refine l_cw [] (hc) rfl rfl rfl ?_
   refine l_wr [0] (h3) ha2 (.inl rfl) ?_
   rw [wS i (by omega)]
   exact ⟨i + 1, by omega, by omega, ⟨rfl, rfl, rfl, rfl, rfl, rfl, rfl, trivial⟩, by simp [k'6 (.inl rfl)], k'z (by simp)⟩
  ·have hge : i = xs.length := by have := of_decide_eq_false hd; omega
   subst hge
   rw [show ms.take xs.length = ms by rw [← hlen, List.take_length], hlen]
   generalize (if xs.length = 0 then a else .me) = aa at ha2 ⊢
   refine Y ?_
   exact l_end trivial (by decide) rfl rfl rfl rfl (by simp [k'6 ha2])) : PartsP B G Sh := main hF
theorem Parts_Ke_wr : PartsP B 179 KeSh := k'33 B Tryz.func179
theorem parts_Va_calls (f : Nat) (z : Bool) (xs : List D) (ms : List (List UInt8)) (u : List UInt8) (hlen : ms.length = xs.length) (hx : ∀ x ∈ xs, VaSh x) (hl : (psV 1 ms).length + u.length < big)
  (hf : ∀ (i : Nat) x s, xs[i]? = some x → ms[i]? = some s → k'0 (cx B) f [.d x] [] (sT s) []) :
  k'0 (cx B) 387 [.d (.sl z xs), .d (.fn f []), sT u] [] (sT (psV 1 ms ++ u)) [] := by
 have hpl := psV_count 1 ms
 have hb : ms.length < 34359738368 := by unfold big at hl; omega
 refine l_bw Tryz.func387 0 [] ?_
 refine k'8 (fun i : Nat => xs.length - i) (fun i => [(1, .d (.fn f [])), (2, sT u), (7, .ptr 0 0), (10, .d (.sl z xs)), (11, iT xs.length), (12, iT i)]) (fun i => [.mu [if i = 0 then .nw 71 2 else .me, bT (psV 1 (ms.take i))]]) (fun i => i ≤ xs.length) 0 (by omega) ⟨rfl, rfl, rfl, rfl, rfl, rfl, trivial⟩ rfl 1 rfl (fun _ => rfl) (fun i => by
  have : adOk (if i = 0 then .nw 71 2 else .me) := ad_if (.inr (.inr rfl))
  simp [k'6 this]) (fun _ => rfl) ?_
 intro i i1
 have ha2 : adOk (if i = 0 then .nw 71 2 else .me) := ad_if (.inr (.inr rfl))
 refine Y ?_
 refine k'13 rfl (fun hd => ?_) (fun hd => ?_)
 ·have hlt : i < xs.length := by have := of_decide_eq_true hd; omega
  obtain ⟨x, hxi⟩ : ∃ x, xs[i]? = some x := ⟨_, List.getElem?_eq_getElem hlt⟩
  obtain ⟨s, hsi⟩ : ∃ s, ms[i]? = some s := ⟨_, List.getElem?_eq_getElem (by omega)⟩
  have hc := hf i x s hxi hsi
  obtain ⟨a0, a1, a2, a3, a4, a5, a6, a7, a8, a9, rfl⟩ := hx x (List.mem_of_getElem? hxi)
  have hsp := psV_take 1 hsi
  have h3 := k'43 B _ (psV 1 (ms.take i)) 1 s ha2 (by omega) (by omega) (by omega)
  rw [show psV 1 (ms.take i) ++ (tagV 1 2 ++ (putV s.length ++ s)) = psV 1 (ms.take (i + 1)) by rw [List.take_add_one, hsi]; simp [psV, paV]] at h3
  refine Y ?_
  refine k'1 (.indexAddr (k := .i64) (n := i) (es := xs) rfl rfl rfl rfl (.inl ⟨_, rfl⟩) rfl (by omega) (by simpa using hxi) rfl (by decide)) rfl rfl ?_
  refine Y ?_
  refine l_cw [] (hc) rfl rfl rfl ?_
  refine l_wr [0] (h3) ha2 (.inl rfl) ?_
  rw [wS i (by omega)]
  exact ⟨i + 1, by omega, by omega, ⟨rfl, rfl, rfl, rfl, rfl, rfl, trivial⟩, by simp [k'6 (.inl rfl)], k'z (by simp)⟩
 ·have hge : i = xs.length := by have := of_decide_eq_false hd; omega
  subst hge
  rw [show ms.take xs.length = ms by rw [← hlen, List.take_length]]
  generalize (if xs.length = 0 then T.nw 71 2 else .me) = aa at ha2 ⊢
  have h3 := k'3c B _ (psV 1 ms) u ha2 (by unfold big at hl; simp [most]; omega)
  have h4 := k'2z B .me (psV 1 ms ++ u) (.inl rfl) (by unfold big at hl; simp [most]; omega)
  refine Y ?_
  refine l_wr [0] (h3) ha2 (.inl rfl) ?_
  refine k'1f [0] (h4) rfl rfl rfl rfl rfl rfl rfl (by decide) (by simp [k'6 (.inl rfl)]) rfl rfl rfl rfl ?_
  exact Z
theorem parts_Ke_calls (f : Nat) (z : Bool) (xs : List D) (ms : List (List UInt8)) (u : List UInt8) (hlen : ms.length = xs.length) (hx : ∀ x ∈ xs, KeSh x) (hl : (psV 1 ms).length + u.length < big)
  (hf : ∀ (i : Nat) x s, xs[i]? = some x → ms[i]? = some s → k'0 (cx B) f [.d x] [] (sT s) []) :
  k'0 (cx B) 388 [.d (.sl z xs), .d (.fn f []), sT u] [] (sT (psV 1 ms ++ u)) [] := by
 have hpl := psV_count 1 ms
 have hb : ms.length < 34359738368 := by unfold big at hl; omega
 refine l_bw Tryz.func388 0 [] ?_
 refine k'8 (fun i : Nat => xs.length - i) (fun i => [(1, .d (.fn f [])), (2, sT u), (7, .ptr 0 0), (10, .d (.sl z xs)), (11, iT xs.length), (12, iT i)]) (fun i => [.mu [if i = 0 then .nw 71 2 else .me, bT (psV 1 (ms.take i))]]) (fun i => i ≤ xs.length) 0 (by omega) ⟨rfl, rfl, rfl, rfl, rfl, rfl, trivial⟩ rfl 1 rfl (fun _ => rfl) (fun i => by
  have : adOk (if i = 0 then .nw 71 2 else .me) := ad_if (.inr (.inr rfl))
  simp [k'6 this]) (fun _ => rfl) ?_
 intro i i1
 have ha2 : adOk (if i = 0 then .nw 71 2 else .me) := ad_if (.inr (.inr rfl))
 refine Y ?_
 refine k'13 rfl (fun hd => ?_) (fun hd => ?_)
 ·have hlt : i < xs.length := by have := of_decide_eq_true hd; omega
  obtain ⟨x, hxi⟩ : ∃ x, xs[i]? = some x := ⟨_, List.getElem?_eq_getElem hlt⟩
  obtain ⟨s, hsi⟩ : ∃ s, ms[i]? = some s := ⟨_, List.getElem?_eq_getElem (by omega)⟩
  have hc := hf i x s hxi hsi
  obtain ⟨a0, a1, a2, a3, a4, a5, a6, a7, a8, a9, a10, a11, a12, rfl⟩ := hx x (List.mem_of_getElem? hxi)
  have hsp := psV_take 1 hsi
  have h3 := k'43 B _ (psV 1 (ms.take i)) 1 s ha2 (by omega) (by omega) (by omega)
  rw [show psV 1 (ms.take i) ++ (tagV 1 2 ++ (putV s.length ++ s)) = psV 1 (ms.take (i + 1)) by rw [List.take_add_one, hsi]; simp [psV, paV]] at h3
  refine Y ?_
  refine k'1 (.indexAddr (k := .i64) (n := i) (es := xs) rfl rfl rfl rfl (.inl ⟨_, rfl⟩) rfl (by omega) (by simpa using hxi) rfl (by decide)) rfl rfl ?_
  refine Y ?_
  refine l_cw [] (hc) rfl rfl rfl ?_
  refine l_wr [0] (h3) ha2 (.inl rfl) ?_
  rw [wS i (by omega)]
  exact ⟨i + 1, by omega, by omega, ⟨rfl, rfl, rfl, rfl, rfl, rfl, trivial⟩, by simp [k'6 (.inl rfl)], k'z (by simp)⟩
 ·have hge : i = xs.length := by have := of_decide_eq_false hd; omega
  subst hge
  rw [show ms.take xs.length = ms by rw [← hlen, List.take_length]]
  generalize (if xs.length = 0 then T.nw 71 2 else .me) = aa at ha2 ⊢
  have h3 := k'3c B _ (psV 1 ms) u ha2 (by unfold big at hl; simp [most]; omega)
  have h4 := k'2z B .me (psV 1 ms ++ u) (.inl rfl) (by unfold big at hl; simp [most]; omega)
  refine Y ?_
  refine l_wr [0] (h3) ha2 (.inl rfl) ?_
  refine k'1f [0] (h4) rfl rfl rfl rfl rfl rfl rfl (by decide) (by simp [k'6 (.inl rfl)]) rfl rfl rfl rfl ?_
  exact Z
end Go.Proofs.YtcfkbpddmdfbaaaGreatDoor
/-! Values and attributes written. -/
namespace Go.Proofs.YtcfkbpddmdfbaaaGreatDoor
open Go Go.Abs
variable (B : Fr)
theorem k'1z : adOk (.nw 71 2) := .inr (.inr rfl)
theorem k'21 {a : T} {l s : List UInt8} (ha : adOk a) (hl : l.length + s.length < big) :
  k'0 (cx B) 38 [.ptr 0 0, sT s] [.mu [a, bT l]] (.tup []) [.mu [.me, bT (l ++ s)]] ∧ k'0 (cx B) 40 [.ptr 0 0] [.mu [.me, bT (l ++ s)]] (sT (l ++ s)) [.mu [.me, .undef]] :=
 ⟨k'3c B a l s ha (by unfold big at hl; unfold most; omega), k'2z B .me (l ++ s) (.inl rfl) (by unfold big at hl; unfold most; simp; omega)⟩
theorem val_write (n : Nat) : (∀ (a : Vl) (xa : D), a.sz < n → a.sz < big → a.wf → a.R xa → k'0 (cx B) 312 [.d xa] [] (sT a.mar) []) ∧
  (∀ (a : Kv) (xa : D), a.sz < n → a.sz < big → a.wf → a.R xa → k'0 (cx B) 242 [.d xa] [] (sT a.mar) []) := by
 induction n with
 | zero => exact ⟨fun _ _ h => by omega, fun _ _ h => by omega⟩
 | succ n ih =>
  obtain ⟨ihV, ihK⟩ := ih
  have hV : ∀ (a : Vl) (xa : D), a.sz < n + 1 → a.sz < big → a.wf → a.R xa → k'0 (cx B) 312 [.d xa] [] (sT a.mar) [] := by
   rintro ⟨kind, s, bb, nn, l, m, inner, u⟩ xa hsz hbig hwf ⟨zl, ls, zm, ms, rfl, hl, hm⟩
   have hmar := Vl.mar_len (.mk kind s bb nn l m inner u)
   obtain ⟨-, -, hn, hwl, hwm⟩ := hwf
   have hlen : (Vl.mk kind s bb nn l m inner u).mar.length < big := by omega
   unfold Vl.sz at hsz hbig
   have hla : (Vl.mars l).length = ls.length := by rw [Vl.mars_map, List.length_map, Vl.Rs_len hl]
   have hlb : (Kv.mars m).length = ms.length := by rw [Kv.mars_map, List.length_map, Kv.Rs_len hm]
   have hf1 : ∀ (i : Nat) x s, ls[i]? = some x → (Vl.mars l)[i]? = some s → k'0 (cx B) 312 [.d x] [] (sT s) [] := fun i x s hx hs => by
    rw [Vl.mars_map, List.getElem?_map] at hs
    cases hv : l[i]? with
    | none => rw [hv] at hs; simp at hs
    | some v =>
     rw [hv] at hs
     injection hs with hs; subst hs
     obtain ⟨x', e1, r1⟩ := Vl.Rs_get hl hv
     rw [hx] at e1; injection e1 with e1; subst e1
     have hmem := List.mem_of_getElem? hv
     have := Vl.sz_mem hmem
     exact ihV v x (by omega) (by omega) (Vl.wf_mem hwl v hmem) r1
   have hf2 : ∀ (i : Nat) x s, ms[i]? = some x → (Kv.mars m)[i]? = some s → k'0 (cx B) 242 [.d x] [] (sT s) [] := fun i x s hx hs => by
    rw [Kv.mars_map, List.getElem?_map] at hs
    cases hv : m[i]? with
    | none => rw [hv] at hs; simp at hs
    | some v =>
     rw [hv] at hs
     injection hs with hs; subst hs
     obtain ⟨x', e1, r1⟩ := Kv.Rs_get hm hv
     rw [hx] at e1; injection e1 with e1; subst e1
     have hmem := List.mem_of_getElem? hv
     have := Kv.sz_mem hmem
     exact ihK v x (by omega) (by omega) (Kv.wf_mem hwm v hmem) r1
   by_cases k1 : kind = 1
   ·subst k1
    have e : (Vl.mk 1 s bb nn l m inner u).mar = paV 1 s ++ u := rfl
    rw [e] at hlen ⊢
    obtain ⟨a1, ha1, c1⟩ := k'4a B 1 s (by omega) (by omega) (.nw 71 2) [] k'1z (by simp at hlen ⊢; omega)
    rw [List.nil_append] at c1
    obtain ⟨c2, c3⟩ := k'21 B (s := u) ha1 (l := paV 1 s) (by simp at hlen ⊢; omega)
    generalize paV 1 s = o at c1 c2 c3 ⊢
    refine l_bw Tryz.func312 0 [] ?_
    refine l_wr [1] (c1) k'1z ha1 ?_
    refine l_wr [1] (c2) ha1 (.inl rfl) ?_
    refine k'1f [1] (c3) rfl rfl rfl rfl rfl rfl rfl (by decide) (by simp [k'6 (.inl rfl)]) rfl rfl rfl rfl ?_
    exact Z
   by_cases k7 : kind = 7
   ·subst k7
    have e : (Vl.mk 7 s bb nn l m inner u).mar = paV 7 s ++ u := rfl
    rw [e] at hlen ⊢
    obtain ⟨a1, ha1, c1⟩ := k'4a B 7 s (by omega) (by omega) (.nw 71 2) [] k'1z (by simp at hlen ⊢; omega)
    rw [List.nil_append] at c1
    obtain ⟨c2, c3⟩ := k'21 B (s := u) ha1 (l := paV 7 s) (by simp at hlen ⊢; omega)
    generalize paV 7 s = o at c1 c2 c3 ⊢
    refine l_bw Tryz.func312 0 [] ?_
    refine l_wr [1] (c1) k'1z ha1 ?_
    refine l_wr [1] (c2) ha1 (.inl rfl) ?_
    refine k'1f [1] (c3) rfl rfl rfl rfl rfl rfl rfl (by decide) (by simp [k'6 (.inl rfl)]) rfl rfl rfl rfl ?_
    exact Z
   by_cases k2 : kind = 2
   ·subst k2
    cases bb
    rotate_left
    ·have e : (Vl.mk 2 s true nn l m inner u).mar = fewV 2 1 ++ u := rfl
     rw [e] at hlen ⊢
     obtain ⟨a1, ha1, c1⟩ := wr_few B 2 1 (by omega) (by omega) (by omega) (.nw 71 2) [] k'1z (by simp at hlen ⊢; omega)
     rw [List.nil_append] at c1
     obtain ⟨c2, c3⟩ := k'21 B (s := u) ha1 (l := fewV 2 1) (by simp at hlen ⊢; omega)
     generalize fewV 2 1 = o at c1 c2 c3 ⊢
     refine l_bw Tryz.func312 0 [] ?_
     refine l_wr [1] (c1) k'1z ha1 ?_
     refine l_wr [1] (c2) ha1 (.inl rfl) ?_
     refine k'1f [1] (c3) rfl rfl rfl rfl rfl rfl rfl (by decide) (by simp [k'6 (.inl rfl)]) rfl rfl rfl rfl ?_
     exact Z
    have e : (Vl.mk 2 s false nn l m inner u).mar = fewV 2 nn ++ u := rfl
    rw [e] at hlen ⊢
    obtain ⟨a1, ha1, c1⟩ := wr_few B 2 nn (by omega) (by omega) hn (.nw 71 2) [] k'1z (by simp at hlen ⊢; omega)
    rw [List.nil_append] at c1
    obtain ⟨c2, c3⟩ := k'21 B (s := u) ha1 (l := fewV 2 nn) (by simp at hlen ⊢; omega)
    generalize fewV 2 nn = o at c1 c2 c3 ⊢
    refine l_bw Tryz.func312 0 [] ?_
    refine l_wr [1] (c1) k'1z ha1 ?_
    refine l_wr [1] (c2) ha1 (.inl rfl) ?_
    refine k'1f [1] (c3) rfl rfl rfl rfl rfl rfl rfl (by decide) (by simp [k'6 (.inl rfl)]) rfl rfl rfl rfl ?_
    exact Z
   by_cases k3 : kind = 3
   ·subst k3
    have e : (Vl.mk 3 s bb nn l m inner u).mar = fewV 3 nn ++ u := rfl
    rw [e] at hlen ⊢
    obtain ⟨a1, ha1, c1⟩ := wr_few B 3 nn (by omega) (by omega) hn (.nw 71 2) [] k'1z (by simp at hlen ⊢; omega)
    rw [List.nil_append] at c1
    obtain ⟨c2, c3⟩ := k'21 B (s := u) ha1 (l := fewV 3 nn) (by simp at hlen ⊢; omega)
    generalize fewV 3 nn = o at c1 c2 c3 ⊢
    refine l_bw Tryz.func312 0 [] ?_
    refine l_wr [1] (c1) k'1z ha1 ?_
    refine l_wr [1] (c2) ha1 (.inl rfl) ?_
    refine k'1f [1] (c3) rfl rfl rfl rfl rfl rfl rfl (by decide) (by simp [k'6 (.inl rfl)]) rfl rfl rfl rfl ?_
    exact Z
   by_cases k4 : kind = 4
   ·subst k4
    have e : (Vl.mk 4 s bb nn l m inner u).mar = e8V 4 nn ++ u := rfl
    rw [e] at hlen ⊢
    obtain ⟨a1, ha1, c1⟩ := wr_eight B 4 nn (by omega) (by omega) (.nw 71 2) [] k'1z (by simp at hlen ⊢; omega)
    rw [List.nil_append] at c1
    obtain ⟨c2, c3⟩ := k'21 B (s := u) ha1 (l := e8V 4 nn) (by simp at hlen ⊢; omega)
    generalize e8V 4 nn = o at c1 c2 c3 ⊢
    refine l_bw Tryz.func312 0 [] ?_
    refine l_wr [1] (c1) k'1z ha1 ?_
    refine l_wr [1] (c2) ha1 (.inl rfl) ?_
    refine k'1f [1] (c3) rfl rfl rfl rfl rfl rfl rfl (by decide) (by simp [k'6 (.inl rfl)]) rfl rfl rfl rfl ?_
    exact Z
   by_cases k5 : kind = 5
   ·subst k5
    have e : (Vl.mk 5 s bb nn l m inner u).mar = paV 5 (psV 1 (Vl.mars l) ++ inner) ++ u := rfl
    rw [e] at hlen ⊢
    obtain ⟨a1, ha1, c1⟩ := k'4a B 5 (psV 1 (Vl.mars l) ++ inner) (by omega) (by omega) (.nw 71 2) [] k'1z (by simp at hlen ⊢; omega)
    rw [List.nil_append] at c1
    obtain ⟨c2, c3⟩ := k'21 B (s := u) ha1 (l := paV 5 (psV 1 (Vl.mars l) ++ inner)) (by simp at hlen ⊢; omega)
    have h4 := parts_Va_calls B 312 zl ls (Vl.mars l) inner hla (Vl.Rs_sh hl) (by simp [paV] at hlen ⊢; omega) hf1
    generalize paV 5 (psV 1 (Vl.mars l) ++ inner) = o at c1 c2 c3 ⊢
    refine l_bw Tryz.func312 0 [] ?_
    refine k'2 [] (h4) rfl rfl rfl ?_
    refine l_wr [1] (c1) k'1z ha1 ?_
    refine l_wr [1] (c2) ha1 (.inl rfl) ?_
    refine k'1f [1] (c3) rfl rfl rfl rfl rfl rfl rfl (by decide) (by simp [k'6 (.inl rfl)]) rfl rfl rfl rfl ?_
    exact Z
   by_cases k6 : kind = 6
   ·subst k6
    have e : (Vl.mk 6 s bb nn l m inner u).mar = paV 6 (psV 1 (Kv.mars m) ++ inner) ++ u := rfl
    rw [e] at hlen ⊢
    obtain ⟨a1, ha1, c1⟩ := k'4a B 6 (psV 1 (Kv.mars m) ++ inner) (by omega) (by omega) (.nw 71 2) [] k'1z (by simp at hlen ⊢; omega)
    rw [List.nil_append] at c1
    obtain ⟨c2, c3⟩ := k'21 B (s := u) ha1 (l := paV 6 (psV 1 (Kv.mars m) ++ inner)) (by simp at hlen ⊢; omega)
    have h4 := parts_Ke_calls B 242 zm ms (Kv.mars m) inner hlb (Kv.Rs_sh hm) (by simp [paV] at hlen ⊢; omega) hf2
    generalize paV 6 (psV 1 (Kv.mars m) ++ inner) = o at c1 c2 c3 ⊢
    refine l_bw Tryz.func312 0 [] ?_
    refine k'2 [] (h4) rfl rfl rfl ?_
    refine l_wr [1] (c1) k'1z ha1 ?_
    refine l_wr [1] (c2) ha1 (.inl rfl) ?_
    refine k'1f [1] (c3) rfl rfl rfl rfl rfl rfl rfl (by decide) (by simp [k'6 (.inl rfl)]) rfl rfl rfl rfl ?_
    exact Z
   have e : (Vl.mk kind s bb nn l m inner u).mar = u := by simp [Vl.mar, k1, k7, k2, k3, k4, k5, k6]
   rw [e] at hlen ⊢
   obtain ⟨c2, c3⟩ := k'21 B (s := u) k'1z (l := []) (by simpa using hlen)
   rw [List.nil_append] at c2 c3
   have n1 : (kind == 1) = false := by simp [k1]
   have n2 : (kind == 2) = false := by simp [k2]
   have n3 : (kind == 3) = false := by simp [k3]
   have n4 : (kind == 4) = false := by simp [k4]
   have n5 : (kind == 5) = false := by simp [k5]
   have n6 : (kind == 6) = false := by simp [k6]
   have n7 : (kind == 7) = false := by simp [k7]
   refine l_bw Tryz.func312 0 [] ?_
   rw [n1]
   refine Y ?_
   rw [n7]
   refine Y ?_
   rw [n2]
   refine Y ?_
   rw [n3]
   refine Y ?_
   rw [n4]
   refine Y ?_
   rw [n5]
   refine Y ?_
   rw [n6]
   refine Y ?_
   refine l_wr [1] (c2) k'1z (.inl rfl) ?_
   refine k'1f [1] (c3) rfl rfl rfl rfl rfl rfl rfl (by decide) (by simp [k'6 (.inl rfl)]) rfl rfl rfl rfl ?_
   exact Z
  have hK : ∀ (a : Kv) (xa : D), a.sz < n + 1 → a.sz < big → a.wf → a.R xa → k'0 (cx B) 242 [.d xa] [] (sT a.mar) [] := by
   rintro ⟨key, has, ⟨kind, s, bb, nn, l, m, inner, vu⟩, u⟩ xa hsz hbig hwf ⟨zl, ls, zm, ms, rfl, hl, hm⟩
   have hmar := Kv.mar_len (.mk key has (.mk kind s bb nn l m inner vu) u)
   have hlen : (Kv.mk key has (.mk kind s bb nn l m inner vu) u).mar.length < big := by omega
   unfold Kv.sz at hsz hbig
   have hR : (Vl.mk kind s bb nn l m inner vu).R (.agg [.int .i64 kind, .str s, .bool bb, .int .u64 nn, .sl zl ls, .sl zm ms, .str inner, .str vu]) := ⟨zl, ls, zm, ms, rfl, hl, hm⟩
   have h4 := hV (.mk kind s bb nn l m inner vu) _ (by omega) (by omega) hwf hR
   cases has
   rotate_left
   ·have e : (Kv.mk key true (.mk kind s bb nn l m inner vu) u).mar = txV 1 key ++ paV 2 (Vl.mk kind s bb nn l m inner vu).mar ++ u := by simp [Kv.mar]
    rw [e] at hlen ⊢
    obtain ⟨a0, ha0, c0⟩ := k'24 B 1 key (by omega) (by omega) (.nw 71 2) [] k'1z (by simp at hlen ⊢; omega)
    rw [List.nil_append] at c0
    obtain ⟨a1, ha1, c1⟩ := k'4a B 2 (Vl.mk kind s bb nn l m inner vu).mar (by omega) (by omega) a0 (txV 1 key) ha0 (by simp at hlen ⊢; omega)
    obtain ⟨c2, c3⟩ := k'21 B (s := u) ha1 (l := txV 1 key ++ paV 2 (Vl.mk kind s bb nn l m inner vu).mar) (by simp at hlen ⊢; omega)
    generalize txV 1 key ++ paV 2 (Vl.mk kind s bb nn l m inner vu).mar = o at c1 c2 c3 ⊢
    generalize txV 1 key = o0 at c0 c1 ⊢
    refine l_bw Tryz.func242 0 [] ?_
    refine l_wr [1] (c0) k'1z ha0 ?_
    refine l_cw [] (h4) rfl rfl rfl ?_
    refine l_wr [1] (c1) ha0 ha1 ?_
    refine l_wr [1] (c2) ha1 (.inl rfl) ?_
    refine k'1f [1] (c3) rfl rfl rfl rfl rfl rfl rfl (by decide) (by simp [k'6 (.inl rfl)]) rfl rfl rfl rfl ?_
    exact Z
   have e : (Kv.mk key false (.mk kind s bb nn l m inner vu) u).mar = txV 1 key ++ u := by simp [Kv.mar]
   rw [e] at hlen ⊢
   obtain ⟨a1, ha1, c0⟩ := k'24 B 1 key (by omega) (by omega) (.nw 71 2) [] k'1z (by simp at hlen ⊢; omega)
   rw [List.nil_append] at c0
   obtain ⟨c2, c3⟩ := k'21 B (s := u) ha1 (l := txV 1 key) (by simp at hlen ⊢; omega)
   generalize txV 1 key = o at c0 c2 c3 ⊢
   refine l_bw Tryz.func242 0 [] ?_
   refine l_wr [1] (c0) k'1z ha1 ?_
   refine l_wr [1] (c2) ha1 (.inl rfl) ?_
   refine k'1f [1] (c3) rfl rfl rfl rfl rfl rfl rfl (by decide) (by simp [k'6 (.inl rfl)]) rfl rfl rfl rfl ?_
   exact Z
  exact ⟨hV, hK⟩
theorem MarshalKey_calls (a : Kv) (xa : D) (d : Int) (hbig : a.sz < big) (hwf : a.wf) (hR : a.R xa) (hd1 : -9223372036854775000 ≤ d) (hd2 : d < 9223372036854775808) :
  k'0 (cx B) 180 [.d xa, .d (.int .i64 d)] [] (if a.may d then .tup [sT a.mar, .d .nili] else .tup [sT [], .d (Er.code 8).d]) [] := by
 have h1 := (val_may B (a.sz + 1)).2.1 a xa d (by omega) hbig hd1 hd2 hR
 have h2 := (val_write B (a.sz + 1)).2 a xa (by omega) hbig hwf hR
 obtain ⟨a0, a1, a2, a3, a4, a5, a6, a7, a8, a9, a10, a11, a12, rfl⟩ := Kv.R_sh hR
 cases hc : a.may d
 ·rw [hc] at h1
  refine l_bw Tryz.func180 0 [] ?_
  refine k'2 [] (h1) rfl rfl rfl ?_
  exact Z
 rw [hc] at h1
 refine l_bw Tryz.func180 0 [] ?_
 refine l_cw [] (h1) rfl rfl rfl ?_
 refine k'2 [] (h2) rfl rfl rfl ?_
 exact Z
