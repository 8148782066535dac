/- Values and attributes: are they alike? -/
import Derived.Test.YtaenjdichndafaaGreatDoorW6
set_option linter.unusedSimpArgs false
set_option linter.unusedVariables false
set_option maxRecDepth 100000
namespace Go.Proofs.YtaenjdichndafaaGreatDoor
open Go Go.Abs
variable (B : Fr)
def VaSh (x : D) : Prop := ∃ (kind : Int) (s : List UInt8) (b : Bool) (n : Nat) (zl : Bool) (ls : List D) (zm : Bool) (ms : List D) (inner u : List UInt8), x = .agg [.int .i64 kind, .str s, .bool b, .int .u64 n, .sl zl ls, .sl zm ms, .str inner, .str u]
def KeSh (x : D) : Prop := ∃ (key : List UInt8) (has : Bool) (kind : Int) (s : List UInt8) (b : Bool) (n : Nat) (zl : Bool) (ls : List D) (zm : Bool) (ms : List D) (inner vu u : List UInt8), x = .agg [.str key, .bool has, .int .i64 kind, .str s, .bool b, .int .u64 n, .sl zl ls, .sl zm ms, .str inner, .str vu, .str u]
theorem Vl.R_sh : ∀ {v : Vl} {x : D}, v.R x → VaSh x
  | .mk .., _, ⟨_, _, _, _, h, _⟩ => ⟨_, _, _, _, _, _, _, _, _, _, h⟩
theorem Kv.R_sh : ∀ {v : Kv} {x : D}, v.R x → KeSh x
  | .mk _ _ (.mk ..) _, _, ⟨_, _, _, _, h, _⟩ => ⟨_, _, _, _, _, _, _, _, _, _, _, _, _, h⟩
theorem Vl.Rs_sh : ∀ {l : List Vl} {xs : List D}, Vl.Rs l xs → ∀ x ∈ xs, VaSh x
  | [], xs, h, x, hx => by have e : xs = [] := h; subst e; simp at hx
  | v :: l, _, ⟨y, ys, e, h2, h3⟩, x, hx => by
    subst e
    rcases List.mem_cons.1 hx with rfl | hx
    · exact Vl.R_sh h2
    · exact Vl.Rs_sh h3 x hx
theorem Kv.Rs_sh : ∀ {l : List Kv} {xs : List D}, Kv.Rs l xs → ∀ x ∈ xs, KeSh x
  | [], xs, h, x, hx => by have e : xs = [] := h; subst e; simp at hx
  | v :: l, _, ⟨y, ys, e, h2, h3⟩, x, hx => by
    subst e
    rcases List.mem_cons.1 hx with rfl | hx
    · exact Kv.R_sh h2
    · exact Kv.Rs_sh h3 x hx
theorem Vl.len_szs : ∀ l : List Vl, l.length ≤ Vl.szs l
  | [] => by simp
  | .mk .. :: l => by have := Vl.len_szs l; unfold Vl.szs Vl.sz; simp; omega
theorem Kv.len_szs : ∀ l : List Kv, l.length ≤ Kv.szs l
  | [] => by simp
  | .mk .. :: l => by have := Kv.len_szs l; unfold Kv.szs Kv.sz; simp; omega
theorem EqF_Va_calls (f : Nat) (z w : Bool) (xs ys : List D) (r : Nat → Bool) (hl : xs.length < 9223372036854775807) (hx : ∀ x ∈ xs, VaSh x) (hy : ∀ x ∈ ys, VaSh x)
    (hf : ∀ (i : Nat) x y, xs[i]? = some x → ys[i]? = some y → CallsA (cx B) f [.d x, .d y] [] (.d (.bool (r i))) []) :
    CallsA (cx B) 152 [.d (.sl z xs), .d (.sl w ys), .d (.fn f [])] [] (.d (.bool (xs.length == ys.length && (List.range xs.length).all r))) [] := by
  refine l_body (X := cx B) (fn := Tryz.f152) Tryz.func152 rfl rfl rfl rfl rfl 0 [] rfl rfl ?_
  refine walk ?_
  by_cases hlen : xs.length = ys.length
  · rw [show ((xs.length : Int) != (ys.length : Int)) = false by rw [hlen]; simp, show (xs.length == ys.length) = true by simp [hlen]]
    simp only [Bool.true_and]
    refine walk ?_
    refine l_loop (fun i : Nat => xs.length - i) (fun i => [(1, .d (.sl w ys)), (2, .d (.fn f [])), (15, .d (.sl z xs)), (16, iT xs.length), (17, iT i)]) (fun _ => []) (fun i => i ≤ xs.length ∧ (List.range i).all r = true) 0 ⟨by omega, rfl⟩ ⟨rfl, rfl, rfl, rfl, rfl, trivial⟩ rfl 0 rfl (fun _ => rfl) (fun _ => rfl) (fun _ => rfl) ?_
    rintro i ⟨i1, i2⟩
    refine walk ?_
    refine r_cond rfl (fun hd => ?_) (fun hd => ?_)
    · have hlt : i < xs.length := by have := of_decide_eq_true hd; omega
      obtain ⟨x, hxi⟩ : ∃ x, xs[i]? = some x := ⟨_, List.getElem?_eq_getElem hlt⟩
      obtain ⟨y, hyi⟩ : ∃ y, ys[i]? = some y := ⟨_, List.getElem?_eq_getElem (by omega)⟩
      have hc := hf i x y hxi hyi
      obtain ⟨a0, a1, a2, a3, a4, a5, a6, a7, a8, a9, rfl⟩ := hx x (List.mem_of_getElem? hxi)
      obtain ⟨b0, b1, b2, b3, b4, b5, b6, b7, b8, b9, rfl⟩ := hy y (List.mem_of_getElem? hyi)
      have hin : (List.range xs.length).all r = true → r i = true := fun h => List.all_eq_true.1 h i (List.mem_range.2 hlt)
      refine walk ?_
      refine l_step (.indexAddr (k := .i64) (n := i) (es := xs) rfl rfl rfl rfl (.inl ⟨_, rfl⟩) rfl (by omega) (by simpa using hxi) rfl (by decide)) rfl rfl ?_
      refine walk ?_
      refine l_step (.indexAddr (k := .i64) (n := i) (es := ys) rfl rfl rfl rfl (.inl ⟨_, rfl⟩) rfl (by omega) (by simpa using hyi) rfl (by decide)) rfl rfl ?_
      refine walk ?_
      refine l_call [] (hc) rfl rfl rfl rfl rfl rfl rfl (by decide) rfl rfl rfl rfl rfl ?_
      refine walk ?_
      cases hr : r i with
      | false =>
        rw [show (List.range xs.length).all r = false by cases hh : (List.range xs.length).all r with | false => rfl | true => rw [hin hh] at hr; simp at hr]
        refine walk ?_
        exact l_end trivial (by decide) rfl rfl rfl rfl rfl
      | true =>
        refine walk ?_
        rw [show IntKind.i64.wrap ((i : Int) + 1) = ((i + 1 : Nat) : Int) by rw [wrapI (by omega) (by omega)]; omega]
        exact ⟨i + 1, by omega, ⟨by omega, by rw [List.range_succ, List.all_append, i2]; simp [hr]⟩, ⟨rfl, rfl, rfl, rfl, rfl, trivial⟩, rfl, wk_eq rfl⟩
    · have hge : i = xs.length := by have := of_decide_eq_false hd; omega
      subst hge
      rw [i2]
      refine walk ?_
      exact l_end trivial (by decide) rfl rfl rfl rfl rfl
  · rw [show ((xs.length : Int) != (ys.length : Int)) = true by simp; omega, show (xs.length == ys.length) = false by simp [hlen]]
    refine walk ?_
    exact l_end trivial (by decide) rfl rfl rfl rfl rfl

theorem EqF_Ke_calls (f : Nat) (z w : Bool) (xs ys : List D) (r : Nat → Bool) (hl : xs.length < 9223372036854775807) (hx : ∀ x ∈ xs, KeSh x) (hy : ∀ x ∈ ys, KeSh x)
    (hf : ∀ (i : Nat) x y, xs[i]? = some x → ys[i]? = some y → CallsA (cx B) f [.d x, .d y] [] (.d (.bool (r i))) []) :
    CallsA (cx B) 99 [.d (.sl z xs), .d (.sl w ys), .d (.fn f [])] [] (.d (.bool (xs.length == ys.length && (List.range xs.length).all r))) [] := by
  refine l_body (X := cx B) (fn := Tryz.f99) Tryz.func99 rfl rfl rfl rfl rfl 0 [] rfl rfl ?_
  refine walk ?_
  by_cases hlen : xs.length = ys.length
  · rw [show ((xs.length : Int) != (ys.length : Int)) = false by rw [hlen]; simp, show (xs.length == ys.length) = true by simp [hlen]]
    simp only [Bool.true_and]
    refine walk ?_
    refine l_loop (fun i : Nat => xs.length - i) (fun i => [(1, .d (.sl w ys)), (2, .d (.fn f [])), (15, .d (.sl z xs)), (16, iT xs.length), (17, iT i)]) (fun _ => []) (fun i => i ≤ xs.length ∧ (List.range i).all r = true) 0 ⟨by omega, rfl⟩ ⟨rfl, rfl, rfl, rfl, rfl, trivial⟩ rfl 0 rfl (fun _ => rfl) (fun _ => rfl) (fun _ => rfl) ?_
    rintro i ⟨i1, i2⟩
    refine walk ?_
    refine r_cond rfl (fun hd => ?_) (fun hd => ?_)
    · have hlt : i < xs.length := by have := of_decide_eq_true hd; omega
      obtain ⟨x, hxi⟩ : ∃ x, xs[i]? = some x := ⟨_, List.getElem?_eq_getElem hlt⟩
      obtain ⟨y, hyi⟩ : ∃ y, ys[i]? = some y := ⟨_, List.getElem?_eq_getElem (by omega)⟩
      have hc := hf i x y hxi hyi
      obtain ⟨a0, a1, a2, a3, a4, a5, a6, a7, a8, a9, a10, a11, a12, rfl⟩ := hx x (List.mem_of_getElem? hxi)
      obtain ⟨b0, b1, b2, b3, b4, b5, b6, b7, b8, b9, b10, b11, b12, rfl⟩ := hy y (List.mem_of_getElem? hyi)
      have hin : (List.range xs.length).all r = true → r i = true := fun h => List.all_eq_true.1 h i (List.mem_range.2 hlt)
      refine walk ?_
      refine l_step (.indexAddr (k := .i64) (n := i) (es := xs) rfl rfl rfl rfl (.inl ⟨_, rfl⟩) rfl (by omega) (by simpa using hxi) rfl (by decide)) rfl rfl ?_
      refine walk ?_
      refine l_step (.indexAddr (k := .i64) (n := i) (es := ys) rfl rfl rfl rfl (.inl ⟨_, rfl⟩) rfl (by omega) (by simpa using hyi) rfl (by decide)) rfl rfl ?_
      refine walk ?_
      refine l_call [] (hc) rfl rfl rfl rfl rfl rfl rfl (by decide) rfl rfl rfl rfl rfl ?_
      refine walk ?_
      cases hr : r i with
      | false =>
        rw [show (List.range xs.length).all r = false by cases hh : (List.range xs.length).all r with | false => rfl | true => rw [hin hh] at hr; simp at hr]
        refine walk ?_
        exact l_end trivial (by decide) rfl rfl rfl rfl rfl
      | true =>
        refine walk ?_
        rw [show IntKind.i64.wrap ((i : Int) + 1) = ((i + 1 : Nat) : Int) by rw [wrapI (by omega) (by omega)]; omega]
        exact ⟨i + 1, by omega, ⟨by omega, by rw [List.range_succ, List.all_append, i2]; simp [hr]⟩, ⟨rfl, rfl, rfl, rfl, rfl, trivial⟩, rfl, wk_eq rfl⟩
    · have hge : i = xs.length := by have := of_decide_eq_false hd; omega
      subst hge
      rw [i2]
      refine walk ?_
      exact l_end trivial (by decide) rfl rfl rfl rfl rfl
  · rw [show ((xs.length : Int) != (ys.length : Int)) = true by simp; omega, show (xs.length == ys.length) = false by simp [hlen]]
    refine walk ?_
    exact l_end trivial (by decide) rfl rfl rfl rfl rfl

/-- One by one. -/
def byI {α : Type} (p : α → α → Bool) (a b : List α) (i : Nat) : Bool :=
  match a[i]?, b[i]? with
  | some x, some y => p x y
  | _, _ => true
theorem byI_all {α : Type} (p : α → α → Bool) (eqs : List α → List α → Bool) (h0 : eqs [] [] = true) (h1 : ∀ x a y b, eqs (x :: a) (y :: b) = (p x y && eqs a b)) (h2 : ∀ x a, eqs (x :: a) [] = false) (h3 : ∀ x a, eqs [] (x :: a) = false) :
    ∀ a b : List α, eqs a b = (a.length == b.length && (List.range a.length).all (byI p a b))
  | [], [] => by rw [h0]; rfl
  | x :: a, [] => by rw [h2]; rfl
  | [], x :: a => by rw [h3]; rfl
  | x :: a, y :: b => by
    rw [h1, byI_all p eqs h0 h1 h2 h3 a b, List.length_cons, List.length_cons, List.range_succ_eq_map, List.all_cons, List.all_map]
    have e1 : byI p (x :: a) (y :: b) 0 = p x y := rfl
    have e2 : (byI p (x :: a) (y :: b) ∘ Nat.succ) = byI p a b := by funext i; rfl
    have e3 : (a.length + 1 == b.length + 1) = (a.length == b.length) := by
      by_cases h : a.length = b.length
      · simp [h]
      · rw [show (a.length == b.length) = false by simp [h]]; simp; omega
    rw [e1, e2, e3]
    cases p x y <;> cases (a.length == b.length) <;> simp
theorem Vl.eqs_by (a b : List Vl) : Vl.eqs a b = (a.length == b.length && (List.range a.length).all (byI Vl.eq a b)) :=
  byI_all Vl.eq Vl.eqs (by simp [Vl.eqs]) (fun _ _ _ _ => by simp [Vl.eqs]) (fun _ _ => by simp [Vl.eqs]) (fun _ _ => by simp [Vl.eqs]) a b
theorem Kv.eqs_by (a b : List Kv) : Kv.eqs a b = (a.length == b.length && (List.range a.length).all (byI Kv.eq a b)) :=
  byI_all Kv.eq Kv.eqs (by simp [Kv.eqs]) (fun _ _ _ _ => by simp [Kv.eqs]) (fun _ _ => by simp [Kv.eqs]) (fun _ _ => by simp [Kv.eqs]) a b
theorem val_same (n : Nat) : (∀ (a b : Vl) (xa xb : D), a.sz < n → a.sz < big → a.R xa → b.R xb → CallsA (cx B) 129 [.d xa, .d xb] [] (.d (.bool (a.eq b))) []) ∧
    (∀ (a b : Kv) (xa xb : D), a.sz < n → a.sz < big → a.R xa → b.R xb → CallsA (cx B) 100 [.d xa, .d xb] [] (.d (.bool (a.eq b))) []) ∧
    (∀ (a b : List Kv) (z w : Bool) (xa xb : List D), Kv.szs a < n → Kv.szs a < big → Kv.Rs a xa → Kv.Rs b xb → CallsA (cx B) 58 [.d (.sl z xa), .d (.sl w xb)] [] (.d (.bool (Kv.eqs a b))) []) := by
  induction n with
  | zero => exact ⟨fun _ _ _ _ h => by omega, fun _ _ _ _ h => by omega, fun _ _ _ _ _ _ h => by omega⟩
  | succ n ih =>
    obtain ⟨ihV, ihK, ihS⟩ := ih
    have lists : ∀ (m : Nat) (a b : List Kv) (z w : Bool) (xa xb : List D), (∀ k ∈ a, k.sz < m) → Kv.szs a < big → Kv.Rs a xa → Kv.Rs b xb → (∀ (a b : Kv) (xa xb : D), a.sz < m → a.sz < big → a.R xa → b.R xb → CallsA (cx B) 100 [.d xa, .d xb] [] (.d (.bool (a.eq b))) []) →
        CallsA (cx B) 58 [.d (.sl z xa), .d (.sl w xb)] [] (.d (.bool (Kv.eqs a b))) [] := by
      intro m a b z w xa xb hs hbig ha hb hK
      have hla := Kv.Rs_len ha
      have hlb := Kv.Rs_len hb
      have hls := Kv.len_szs a
      have h1 := EqF_Ke_calls B 100 z w xa xb (byI Kv.eq a b) (by unfold big at hbig; omega) (Kv.Rs_sh ha) (Kv.Rs_sh hb) (fun i x y hx hy => by
        have hi : i < a.length := by rw [← hla]; exact (List.getElem?_eq_some_iff.1 hx).1
        have hj : i < b.length := by rw [← hlb]; exact (List.getElem?_eq_some_iff.1 hy).1
        obtain ⟨v, hv⟩ : ∃ v, a[i]? = some v := ⟨_, List.getElem?_eq_getElem hi⟩
        obtain ⟨u, hu⟩ : ∃ u, b[i]? = some u := ⟨_, List.getElem?_eq_getElem hj⟩
        obtain ⟨x', e1, r1⟩ := Kv.Rs_get ha hv
        obtain ⟨y', e2, r2⟩ := Kv.Rs_get hb hu
        rw [hx] at e1; injection e1 with e1; subst e1
        rw [hy] at e2; injection e2 with e2; subst e2
        have hm := List.mem_of_getElem? hv
        have := Kv.sz_mem hm
        have e : byI Kv.eq a b i = v.eq u := by unfold byI; rw [hv, hu]
        rw [e]
        exact hK v u x y (hs v hm) (by omega) r1 r2)
      rw [hla, hlb, ← Kv.eqs_by] at h1
      refine l_body (X := cx B) (fn := Tryz.f58) Tryz.func58 rfl rfl rfl rfl rfl 0 [] rfl rfl ?_
      refine walk ?_
      refine l_call [] (h1) rfl rfl rfl rfl rfl rfl rfl (by decide) rfl rfl rfl rfl rfl ?_
      refine walk ?_
      exact l_end trivial (by decide) rfl rfl rfl rfl rfl
    have hV : ∀ (a b : Vl) (xa xb : D), a.sz < n + 1 → a.sz < big → a.R xa → b.R xb → CallsA (cx B) 129 [.d xa, .d xb] [] (.d (.bool (a.eq b))) [] := by
      rintro ⟨kind, s, bb, nn, l, m, inner, u⟩ ⟨kind', s', bb', nn', l', m', inner', u'⟩ xa xb hsz hbig ⟨zl, ls, zm, ms, rfl, hl, hm⟩ ⟨zl', ls', zm', ms', rfl, hl', hm'⟩
      unfold Vl.sz at hsz hbig
      have h2 := lists n m m' zm zm' ms ms' (fun k hk => by have := Kv.sz_mem hk; omega) (by omega) hm hm' ihK
      have hla := Vl.Rs_len hl
      have hlb := Vl.Rs_len hl'
      have hls := Vl.len_szs l
      have h1 := EqF_Va_calls B 129 zl zl' ls ls' (byI Vl.eq l l') (by unfold big at hbig; omega) (Vl.Rs_sh hl) (Vl.Rs_sh hl') (fun i x y hx hy => by
        have hi : i < l.length := by rw [← hla]; exact (List.getElem?_eq_some_iff.1 hx).1
        have hj : i < l'.length := by rw [← hlb]; exact (List.getElem?_eq_some_iff.1 hy).1
        obtain ⟨v, hv⟩ : ∃ v, l[i]? = some v := ⟨_, List.getElem?_eq_getElem hi⟩
        obtain ⟨u, hu⟩ : ∃ u, l'[i]? = some u := ⟨_, List.getElem?_eq_getElem hj⟩
        obtain ⟨x', e1, r1⟩ := Vl.Rs_get hl hv
        obtain ⟨y', e2, r2⟩ := Vl.Rs_get hl' hu
        rw [hx] at e1; injection e1 with e1; subst e1
        rw [hy] at e2; injection e2 with e2; subst e2
        have := Vl.sz_mem (List.mem_of_getElem? hv)
        have e : byI Vl.eq l l' i = v.eq u := by unfold byI; rw [hv, hu]
        rw [e]
        exact ihV v u x y (by omega) (by omega) r1 r2)
      rw [hla, hlb, ← Vl.eqs_by] at h1
      rw [show Vl.eq (.mk kind s bb nn l m inner u) (.mk kind' s' bb' nn' l' m' inner' u') = (kind == kind' && s == s' && bb == bb' && nn == nn' && inner == inner' && u == u' && Vl.eqs l l' && Kv.eqs m m') by simp only [Vl.eq]]
      refine l_body (X := cx B) (fn := Tryz.f129) Tryz.func129 rfl rfl rfl rfl rfl 0 [] rfl rfl ?_
      refine walk ?_
      cases e1 : (kind == kind') with
      | false =>
        refine walk ?_
        exact l_end trivial (by decide) rfl rfl rfl rfl rfl
      | true =>
        refine walk ?_
        cases e2 : (s == s') with
        | false =>
          refine walk ?_
          exact l_end trivial (by decide) rfl rfl rfl rfl rfl
        | true =>
          refine walk ?_
          cases e3 : (bb == bb') with
          | false =>
            refine walk ?_
            exact l_end trivial (by decide) rfl rfl rfl rfl rfl
          | true =>
            refine walk ?_
            try rw [ibeq nn nn']
            cases e4 : (nn == nn') with
            | false =>
              refine walk ?_
              exact l_end trivial (by decide) rfl rfl rfl rfl rfl
            | true =>
              refine walk ?_
              cases e5 : (inner == inner') with
              | false =>
                refine walk ?_
                exact l_end trivial (by decide) rfl rfl rfl rfl rfl
              | true =>
                refine walk ?_
                cases e6 : (u == u') with
                | false =>
                  refine walk ?_
                  exact l_end trivial (by decide) rfl rfl rfl rfl rfl
                | true =>
                  refine walk ?_
                  refine l_callG [] (h1) rfl rfl rfl rfl rfl rfl rfl rfl rfl (by decide) rfl rfl rfl rfl rfl ?_
                  refine walk ?_
                  cases e7 : Vl.eqs l l' with
                  | false =>
                    refine walk ?_
                    exact l_end trivial (by decide) rfl rfl rfl rfl rfl
                  | true =>
                    refine walk ?_
                    refine l_callG [] (h2) rfl rfl rfl rfl rfl rfl rfl rfl rfl (by decide) rfl rfl rfl rfl rfl ?_
                    refine walk ?_
                    exact l_end trivial (by decide) rfl rfl rfl rfl rfl
    have hK : ∀ (a b : Kv) (xa xb : D), a.sz < n + 1 → a.sz < big → a.R xa → b.R xb → CallsA (cx B) 100 [.d xa, .d xb] [] (.d (.bool (a.eq b))) [] := by
      rintro ⟨key, has, ⟨kind, s, bb, nn, l, m, inner, vu⟩, u⟩ ⟨key', has', ⟨kind', s', bb', nn', l', m', inner', vu'⟩, u'⟩ xa xb hsz hbig ⟨zl, ls, zm, ms, rfl, hl, hm⟩ ⟨zl', ls', zm', ms', rfl, hl', hm'⟩
      unfold Kv.sz at hsz hbig
      have h1 := hV (.mk kind s bb nn l m inner vu) (.mk kind' s' bb' nn' l' m' inner' vu') _ _ (by omega) (by omega) ⟨zl, ls, zm, ms, rfl, hl, hm⟩ ⟨zl', ls', zm', ms', rfl, hl', hm'⟩
      rw [show Kv.eq (.mk key has (.mk kind s bb nn l m inner vu) u) (.mk key' has' (.mk kind' s' bb' nn' l' m' inner' vu') u') = (key == key' && has == has' && u == u' && Vl.eq (.mk kind s bb nn l m inner vu) (.mk kind' s' bb' nn' l' m' inner' vu')) by simp only [Kv.eq]]
      refine l_body (X := cx B) (fn := Tryz.f100) Tryz.func100 rfl rfl rfl rfl rfl 0 [] rfl rfl ?_
      refine walk ?_
      cases e1 : (key == key') with
      | false =>
        refine walk ?_
        exact l_end trivial (by decide) rfl rfl rfl rfl rfl
      | true =>
        refine walk ?_
        cases e2 : (has == has') with
        | false =>
          refine walk ?_
          exact l_end trivial (by decide) rfl rfl rfl rfl rfl
        | true =>
          refine walk ?_
          cases e3 : (u == u') with
          | false =>
            refine walk ?_
            exact l_end trivial (by decide) rfl rfl rfl rfl rfl
          | true =>
            refine walk ?_
            refine l_callG [] (h1) rfl rfl rfl rfl rfl rfl rfl rfl rfl (by decide) rfl rfl rfl rfl rfl ?_
            refine walk ?_
            exact l_end trivial (by decide) rfl rfl rfl rfl rfl
    exact ⟨hV, hK, fun a b z w xa xb hs hbig ha hb => lists (n + 1) a b z w xa xb (fun k hk => by have := Kv.sz_mem hk; omega) hbig ha hb hK⟩
end Go.Proofs.YtaenjdichndafaaGreatDoor
