/- Numbers of a value: may they be? Who is the first in a list? -/
import Derived.Test.YtaenjdichndafaaGreatDoorPA
set_option linter.unusedSimpArgs false
set_option linter.unusedVariables false
set_option maxRecDepth 100000
namespace Go.Proofs.YtaenjdichndafaaGreatDoor
open Go Go.Abs
/-- A closure over two variables, which never turn any more. -/
theorem closure2 {X : Ctx} {o : Oper} {v : Operand → T} {H : List Ob} {f : FuncId} {x y : Operand} {j k : Nat} {cs cs' : List T} {ds ds' : List D} (ho : o.op = .makeFunc (.func f) #[] #[x, y]) (hx : v x = .ptr j 0) (hy : v y = .ptr k 0) (hjk : j ≠ k) (hj : H[j]? = some (.mu cs)) (hc : shares cs = some ds) (hk : H[k]? = some (.mu cs')) (hc' : shares cs' = some ds') :
    StepE X o v H ⟨.d (.fn f [.box ds, .box ds']), none, (H.set j (.fro ds)).set k (.fro ds')⟩ :=
  .hsem (not_call ho (by simp)) (by rw [ho]; rfl) fun s hs hH N F ρ a w next Q hd h kk => by
    subst hH
    have hx' := (hs x (by rw [ho]; simp [Op.operands])).trans hx
    have hy' := (hs y (by rw [ho]; simp [Op.operands])).trans hy
    obtain ⟨lx, hxv⟩ := h.val x
    rw [hx'] at hxv
    obtain ⟨b, hb, ex⟩ := hxv.inv_ptr
    obtain ⟨ly, hyv⟩ := h.val y
    rw [hy'] at hyv
    obtain ⟨b', hb', ey⟩ := hyv.inv_ptr
    obtain ⟨F1, g1, g2, g3⟩ := h.freeze hb hj hc
    obtain ⟨F2, q1, q2, q3⟩ := g1.freeze (cs := cs') hb' (by show (s.H.set j (.fro ds))[k]? = _; rw [List.getElem?_set_ne hjk]; exact hk) hc'
    refine wp_value (v := .func (.func f) #[] #[.pointer (some ⟨b, 0, none⟩), .pointer (some ⟨b', 0, none⟩)]) (by simp [execOp, ho, Instr.makeFunc, ex, ey]) (kk F2 ρ _ w ?_ (g2.trans q2))
    exact q1.put hd fun d _ => .d (.fn (vs := [_, _]) (.cons (g3.mono q2.sub) (.cons q3 .nil)))
variable (B : Fr)
theorem MayNumber_calls (k : Int) (n : Nat) : CallsA (cx B) 59 [.d (.int .i64 k), uT n] [] (.d (.bool (mayNum k n))) [] := by
  unfold mayNum
  refine l_body (X := cx B) (fn := Tryz.f59) Tryz.func59 rfl rfl rfl rfl rfl 0 [] rfl rfl ?_
  refine walk ?_
  rw [show decide (k ≥ 0) = decide (0 ≤ k) from rfl]
  cases h1 : decide (0 ≤ k) with
  | false =>
    refine walk ?_
    exact l_end trivial (by decide) rfl rfl rfl rfl rfl
  | true =>
    refine walk ?_
    cases h2 : decide (k ≤ 2) with
    | false =>
      refine walk ?_
      exact l_end trivial (by decide) rfl rfl rfl rfl rfl
    | true =>
      refine walk ?_
      rw [show decide (k > 0) = decide (0 < k) from rfl]
      cases h3 : decide (0 < k) with
      | true =>
        refine walk ?_
        exact l_end trivial (by decide) rfl rfl rfl rfl rfl
      | false =>
        refine walk ?_
        rw [show (((n : Nat) : Int) == 0) = (n == 0) from ibeq n 0]
        exact l_end trivial (by decide) rfl rfl rfl rfl rfl
/-- The first that is so, or -1. -/
def idxF (q : Nat → Bool) (n : Nat) : Int := match (List.range n).find? q with | some i => (i : Int) | none => -1
theorem idx_hit {q : Nat → Bool} {n i : Nat} (hi : i < n) (h : q i = true) (h2 : ∀ j < i, q j = false) : idxF q n = i := by
  unfold idxF
  rw [show (List.range n).find? q = some i from List.find?_range_eq_some.2 ⟨h, List.mem_range.2 hi, fun j hj => by rw [h2 j hj]; rfl⟩]
theorem idx_miss {q : Nat → Bool} {n : Nat} (h2 : ∀ j < n, q j = false) : idxF q n = -1 := by
  unfold idxF
  rw [show (List.range n).find? q = none from List.find?_eq_none.2 fun j hj => by rw [h2 j (List.mem_range.1 hj)]; simp]
theorem idx_all (r : Nat → Bool) (n : Nat) : decide (idxF (fun i => !r i) n ≥ 0) = !(List.range n).all r := by
  unfold idxF
  cases h : (List.range n).find? fun i => !r i with
  | none =>
    have h := List.find?_eq_none.1 h
    rw [show (List.range n).all r = true from List.all_eq_true.2 fun x hx => by simpa using h x hx]; rfl
  | some i =>
    have h1 := List.find?_some h
    have h2 := List.mem_of_find?_eq_some h
    rw [show (List.range n).all r = false by
      cases hh : (List.range n).all r with
      | false => rfl
      | true => have := List.all_eq_true.1 hh i h2; rw [this] at h1; simp at h1]
    simp
/-- A relation, one by one. -/
def RsOf {α : Type} (R : α → D → Prop) (l : List α) (xs : List D) : Prop := xs.length = l.length ∧ ∀ (i : Nat) v, l[i]? = some v → ∃ x, xs[i]? = some x ∧ R v x
theorem RsOf.at {α : Type} {R : α → D → Prop} {l : List α} {xs : List D} (h : RsOf R l xs) {i : Nat} {x : D} (hx : xs[i]? = some x) : ∃ v, l[i]? = some v ∧ R v x := by
  have hi : i < l.length := by rw [← h.1]; exact (List.getElem?_eq_some_iff.1 hx).1
  obtain ⟨v, hv⟩ : ∃ v, l[i]? = some v := ⟨_, List.getElem?_eq_getElem hi⟩
  obtain ⟨x', e1, r1⟩ := h.2 i v hv
  rw [hx] at e1; injection e1 with e1; subst e1
  exact ⟨v, hv, r1⟩
theorem RsOf.mem {α : Type} {R : α → D → Prop} {l : List α} {xs : List D} (h : RsOf R l xs) {x : D} (hx : x ∈ xs) : ∃ v ∈ l, R v x := by
  obtain ⟨i, hi⟩ := List.getElem?_of_mem hx
  obtain ⟨v, hv, r⟩ := h.at hi
  exact ⟨v, List.mem_of_getElem? hv, r⟩
theorem RsOf.map {α : Type} {R : α → D → Prop} {f : α → D} (h : ∀ v, R v (f v)) (l : List α) : RsOf R l (l.map f) :=
  ⟨by simp, fun i v hv => ⟨f v, by rw [List.getElem?_map, hv]; rfl, h v⟩⟩
theorem RsOf.nil {α : Type} (R : α → D → Prop) : RsOf R [] [] := ⟨rfl, fun i v hv => by simp at hv⟩
theorem Kv.Rs_at {l : List Kv} {xs : List D} (h : Kv.Rs l xs) {i : Nat} {x : D} (hx : xs[i]? = some x) : ∃ v, l[i]? = some v ∧ v.R x := by
  have hi : i < l.length := by rw [← Kv.Rs_len h]; exact (List.getElem?_eq_some_iff.1 hx).1
  obtain ⟨v, hv⟩ : ∃ v, l[i]? = some v := ⟨_, List.getElem?_eq_getElem hi⟩
  obtain ⟨x', e1, r1⟩ := Kv.Rs_get h hv
  rw [hx] at e1; injection e1 with e1; subst e1
  exact ⟨v, hv, r1⟩
theorem SameKeys_calls {a b : List Kv} {xs ys : List D} (z w : Bool) (hb : Kv.szs a < big) (h1 : Kv.Rs a xs) (h2 : Kv.Rs b ys) : CallsA (cx B) 58 [.d (.sl z xs), .d (.sl w ys)] [] (.d (.bool (Kv.eqs a b))) [] :=
  (val_same B (Kv.szs a + 1)).2.2 a b z w xs ys (by omega) hb h1 h2
theorem MayKeys_calls {a : List Kv} {xs : List D} (z : Bool) (d : Int) (hb : Kv.szs a < big) (hd1 : -9223372036854775000 ≤ d) (hd2 : d < 9223372036854775808) (h1 : Kv.Rs a xs) : CallsA (cx B) 60 [.d (.sl z xs), .d (.int .i64 d)] [] (.d (.bool (a.all fun k => k.may d))) [] := by
  rw [← Kv.mays_all]
  exact (val_may B (Kv.szs a + 1)).2.2 a z xs d (by omega) hb hd1 hd2 h1
theorem PartsK_wr {a : List Kv} {xs : List D} (n : Nat) (h1 : 1 ≤ n) (h2 : n ≤ 536870911) (z : Bool) (d : Int) (hb : Kv.szs a < big) (hw : ∀ k ∈ a, k.wf) (hm : (a.all fun k => k.may (d - 1)) = true) (hd1 : 0 ≤ d) (hd2 : d < 9223372036854775808) (hR : Kv.Rs a xs) :
    Wr B 54 [iT n, .d (.sl z xs), .d (.int .i64 d), .d (.fn 55 [])] (psV n (Kv.mars a)) :=
  Parts_Ke_wr B n h1 h2 d (by omega) hd2 55 z xs (Kv.mars a) (by rw [Kv.mars_map, List.length_map, Kv.Rs_len hR]) (Kv.Rs_sh hR) fun i x s hx hs => by
    obtain ⟨v, hv, r⟩ := Kv.Rs_at hR hx
    rw [Kv.mars_map, List.getElem?_map, hv] at hs
    injection hs with hs; subst hs
    have hmem := List.mem_of_getElem? hv
    have := Kv.sz_mem hmem
    have h3 := MarshalKey_calls B v x (d - 1) (by omega) (hw v hmem) r (by omega) (by omega)
    rw [if_pos (List.all_eq_true.1 hm v hmem)] at h3
    exact h3
def orD (e : Option Er) (a b : D) : D := match e with | none => a | some _ => b
theorem sum_ge {α : Type} {sz : α → Nat} (h : ∀ x, 1 ≤ sz x) (l : List α) : l.length ≤ (l.map sz).sum := by
  induction l with
  | nil => simp
  | cons x l ih => have := h x; rw [List.map_cons, List.sum_cons, List.length_cons]; omega
theorem lok_s {l : List Fld} (h : LOk l) {x : Fld} (hx : x ∈ l) : x.s.length < big := by
  obtain ⟨i, hi⟩ := List.getElem?_of_mem hx
  obtain ⟨h1, h2⟩ := lok_get h hi
  have := h1.s; have := h.2
  omega
theorem kn_pos2 {tb : Nat → Nat → Bool} {s : List UInt8} {d : Int} {x : Fld} (h : x ∈ knB tb s d) : 0 ≤ d := kn_pos (num := x.num) (List.any_eq_true.2 ⟨x, h, by simp⟩)
theorem ks_map (a : List Kv) : (a.map Kv.sh).map KVs.d = Kv.ds a := by
  rw [List.map_map, Kv.ds_map]
  exact List.map_congr_left fun v _ => Kv.sh_d v
end Go.Proofs.YtaenjdichndafaaGreatDoor
