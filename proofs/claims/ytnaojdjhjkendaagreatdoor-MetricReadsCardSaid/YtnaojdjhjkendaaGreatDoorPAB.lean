/- Values and attributes: are they alike? And more. -/
import Derived.Test.YtnaojdjhjkendaaGreatDoorWR
set_option linter.unusedSimpArgs false
set_option linter.unusedVariables false
set_option maxRecDepth 100000
namespace Go.Proofs.YtnaojdjhjkendaaGreatDoor
open Go Go.Abs
variable (B : Fr)
/-! Values and attributes: are they alike? -/
section
def VaSh (x : D) : Prop := ∃ (kind : Int) (s : List UInt8) (b : Bool) (n : Nat) (zl : Bool) (ls : List D) (zm : Bool) (ms : List D) (inner u : List UInt8), x = .agg [.int .i64 kind, .str s, .bool b, .int .u64 n, .sl zl ls, .sl zm ms, .str inner, .str u]
def KeSh (x : D) : Prop := ∃ (key : List UInt8) (has : Bool) (kind : Int) (s : List UInt8) (b : Bool) (n : Nat) (zl : Bool) (ls : List D) (zm : Bool) (ms : List D) (inner vu u : List UInt8), x = .agg [.str key, .bool has, .int .i64 kind, .str s, .bool b, .int .u64 n, .sl zl ls, .sl zm ms, .str inner, .str vu, .str u]
theorem Vl.R_sh : ∀ {v : Vl} {x : D}, v.R x → VaSh x
 | .mk .., _, ⟨_, _, _, _, h, _⟩ => ⟨_, _, _, _, _, _, _, _, _, _, h⟩
theorem Kv.R_sh : ∀ {v : Kv} {x : D}, v.R x → KeSh x
 | .mk _ _ (.mk ..) _, _, ⟨_, _, _, _, h, _⟩ => ⟨_, _, _, _, _, _, _, _, _, _, _, _, _, h⟩
theorem Vl.Rs_sh : ∀ {l : List Vl} {xs : List D}, Vl.Rs l xs → ∀ x ∈ xs, VaSh x
 | [], xs, h, x, hx => by have e : xs = [] := h; subst e; simp at hx
 | v :: l, _, ⟨y, ys, e, h2, h3⟩, x, hx => by
  subst e
  rcases List.mem_cons.1 hx with rfl | hx
  ·exact Vl.R_sh h2
  ·exact Vl.Rs_sh h3 x hx
theorem Kv.Rs_sh : ∀ {l : List Kv} {xs : List D}, Kv.Rs l xs → ∀ x ∈ xs, KeSh x
 | [], xs, h, x, hx => by have e : xs = [] := h; subst e; simp at hx
 | v :: l, _, ⟨y, ys, e, h2, h3⟩, x, hx => by
  subst e
  rcases List.mem_cons.1 hx with rfl | hx
  ·exact Kv.R_sh h2
  ·exact Kv.Rs_sh h3 x hx
theorem Vl.len_szs : ∀ l : List Vl, l.length ≤ Vl.szs l
 | [] => by simp
 | .mk .. :: l => by have := Vl.len_szs l; unfold Vl.szs Vl.sz; simp; omega
theorem Kv.len_szs : ∀ l : List Kv, l.length ≤ Kv.szs l
 | [] => by simp
 | .mk .. :: l => by have := Kv.len_szs l; unfold Kv.szs Kv.sz; simp; omega
def byI {α : Type} (p : α → α → Bool) (a b : List α) (i : Nat) : Bool :=
 match a[i]?, b[i]? with
 | some x, some y => p x y
 | _, _ => true
theorem k'4d {α : Type} (p : α → α → Bool) (eqs : List α → List α → Bool) (h0 : eqs [] [] = true) (h1 : ∀ x a y b, eqs (x :: a) (y :: b) = (p x y && eqs a b)) (h2 : ∀ x a, eqs (x :: a) [] = false) (h3 : ∀ x a, eqs [] (x :: a) = false) :
  ∀ a b : List α, eqs a b = (a.length == b.length && (List.range a.length).all (byI p a b))
 | [], [] => by rw [h0]; rfl
 | x :: a, [] => by rw [h2]; rfl
 | [], x :: a => by rw [h3]; rfl
 | x :: a, y :: b => by
  rw [h1, k'4d p eqs h0 h1 h2 h3 a b, List.length_cons, List.length_cons, List.range_succ_eq_map, List.all_cons, List.all_map]
  have e1 : byI p (x :: a) (y :: b) 0 = p x y := rfl
  have e2 : (byI p (x :: a) (y :: b) ∘ Nat.succ) = byI p a b := by funext i; rfl
  have e3 : (a.length + 1 == b.length + 1) = (a.length == b.length) := by
   by_cases h : a.length = b.length
   ·simp [h]
   ·rw [show (a.length == b.length) = false by simp [h]]; simp; omega
  rw [e1, e2, e3]
  cases p x y <;> cases (a.length == b.length) <;> simp
theorem Vl.eqs_by (a b : List Vl) : Vl.eqs a b = (a.length == b.length && (List.range a.length).all (byI Vl.eq a b)) :=
 k'4d Vl.eq Vl.eqs (by simp [Vl.eqs]) (fun _ _ _ _ => by simp [Vl.eqs]) (fun _ _ => by simp [Vl.eqs]) (fun _ _ => by simp [Vl.eqs]) a b
theorem Kv.eqs_by (a b : List Kv) : Kv.eqs a b = (a.length == b.length && (List.range a.length).all (byI Kv.eq a b)) :=
 k'4d Kv.eq Kv.eqs (by simp [Kv.eqs]) (fun _ _ _ _ => by simp [Kv.eqs]) (fun _ _ => by simp [Kv.eqs]) (fun _ _ => by simp [Kv.eqs]) a b
end
/-! Values and attributes: may they be? -/
section
theorem k'b {d : Int} (k : Int) (h0 : 0 ≤ k) (h1 : k ≤ 100) (hd : -9223372036854775000 ≤ d) (hd2 : d < 9223372036854775808) : IntKind.i64.wrap (d - k) = d - k := by rw [k'1b (by omega) (by omega)]
end
/-! What is written. -/
/-! Values and attributes written. -/
/-! Lists of messages, numbers of one of two kinds: what is written, what is read. -/
section
section
variable {α : Type} (ok : List UInt8 → Int → Option α) (mar : α → List UInt8) (may : α → Int → Bool) (fine : α → Prop)
def Back : Prop := ∀ (d : Int) (x : α), fine x → may x d = true → ok (mar x) d = some x ∧ ∀ e, e ≤ d → may x e = false → ok (mar x) e = none
def Told (sz : α → Nat) (c : Nat) : Prop := ∀ (d : Int) (s : List UInt8) (x : α), ok s d = some x → may x d = true ∧ fine x ∧ sz x ≤ c + c * s.length
variable {ok mar may fine}
theorem Back.list (h : Back ok mar may fine) {l : List α} {d : Int} (hf : ∀ x ∈ l, fine x) (hm : (l.all fun x => may x d) = true) :
  mapO (fun s => ok s d) (l.map mar) = some l ∧ ∀ e, e ≤ d → (l.all fun x => may x e) = false → mapO (fun s => ok s e) (l.map mar) = none := by
 have hm := List.all_eq_true.1 hm
 refine ⟨mapO_id fun x hx => (h d x (hf x hx) (hm x hx)).1, fun e he hn => ?_⟩
 obtain ⟨x, hx, hxe⟩ := all_false hn
 exact mapO_none (List.mem_map.2 ⟨x, hx, rfl⟩) ((h d x (hf x hx) (hm x hx)).2 e he hxe)
theorem Told.list {sz : α → Nat} {c : Nat} (h : Told ok may fine sz c) {d : Int} : ∀ {l : List Fld} {r : List α}, (∀ x ∈ l, FOk x) → mapO (fun x => ok x.s d) l = some r →
  (r.all fun x => may x d) = true ∧ (∀ x ∈ r, fine x) ∧ (r.map sz).sum ≤ c * wt l
 | [], r, _, hr => by simp [mapO] at hr; subst hr; simp
 | x :: l, r, hf, hr => by
  have hx := (hf x (List.mem_cons_self ..)).s
  unfold mapO at hr
  split at hr
  ·simp at hr
  ·rename_i y hy
   split at hr
   ·simp at hr
   ·rename_i r' hr'
    injection hr with hr; subst hr
    obtain ⟨h1, h2, h3⟩ := Told.list h (fun y hy => hf y (List.mem_cons_of_mem _ hy)) hr'
    obtain ⟨g1, g2, g3⟩ := h d _ _ hy
    refine ⟨by rw [List.all_cons, g1, h1]; rfl, fun z hz => ?_, ?_⟩
    ·rcases List.mem_cons.1 hz with rfl | hz
     ·exact g2
     ·exact h2 z hz
    ·have e : (x.s.length + 1) * c ≤ x.raw.length * c := Nat.mul_le_mul_right c hx
     rw [List.map_cons, List.sum_cons, wt_cons, Nat.mul_add, Nat.mul_comm c x.raw.length]
     rw [Nat.add_mul, Nat.one_mul] at e
     rw [Nat.mul_comm c x.s.length] at g3
     omega
theorem Told.parts {sz : α → Nat} {c : Nat} (h : Told ok may fine sz c) {d : Int} {l : List Fld} {r : List α} {num : Nat} (hf : ∀ x ∈ l, FOk x) (hr : k'7 (fun s => ok s d) num l = some r) :
  (r.all fun x => may x d) = true ∧ (∀ x ∈ r, fine x) ∧ (r.map sz).sum ≤ c * wt l := by
 obtain ⟨a, b, e⟩ := h.list (fok_sel hf num) hr
 exact ⟨a, b, Nat.le_trans e (Nat.mul_le_mul_left c (wt_sel num l))⟩
end
theorem k'3b {α : Type} {sz : α → Nat} {l : List α} {x : α} (h : x ∈ l) : sz x ≤ (l.map sz).sum := by
 induction l with
 | nil => simp at h
 | cons y l ih =>
  rw [List.map_cons, List.sum_cons]
  rcases List.mem_cons.1 h with rfl | h
  ·omega
  ·have := ih h; omega
theorem psV_sum {α : Type} {sz : α → Nat} {mar : α → List UInt8} (n : Nat) (l : List α) (h : ∀ x ∈ l, (mar x).length + 20 ≤ sz x) : (psV n (l.map mar)).length ≤ (l.map sz).sum := by
 induction l with
 | nil => simp [psV]
 | cons x l ih =>
  have h1 := h x (List.mem_cons_self ..)
  have h2 := ih fun y hy => h y (List.mem_cons_of_mem _ hy)
  have h3 := k'3t n (mar x)
  rw [List.map_cons, List.map_cons, List.sum_cons, show psV n (mar x :: l.map mar) = paV n (mar x) ++ psV n (l.map mar) from rfl, List.length_append]
  omega
/-! Attributes. -/
theorem Kv.szs_sum : ∀ l : List Kv, Kv.szs l = (l.map Kv.sz).sum
 | [] => rfl
 | k :: l => by rw [Kv.szs, Kv.szs_sum l]; rfl
theorem Kv_told : Told okK Kv.may Kv.wf Kv.sz 100 := fun d s x h => by
 obtain ⟨a, b, c⟩ := (val_told (d.toNat + 1) d (by omega)).2 s x h
 exact ⟨a, b, by omega⟩
theorem Kv.marsP_len (n : Nat) (l : List Kv) : (psV n (Kv.mars l)).length ≤ Kv.szs l := by
 rw [Kv.mars_map, Kv.szs_sum]
 exact psV_sum n l fun x _ => Kv.mar_len x
theorem Kv.mars_lt {l : List Kv} (h : Kv.szs l < big) : ∀ s ∈ Kv.mars l, s.length < 2 ^ 64 := fun s hs => by
 rw [Kv.mars_map] at hs
 obtain ⟨k, hk, rfl⟩ := List.mem_map.1 hs
 have h1 := Kv.mar_len k; have h2 := Kv.sz_mem hk
 unfold big at h; omega
/-! Numbers: a double, or an integer. -/
def mayNum (k : Int) (n : Nat) : Bool := decide (0 ≤ k) && decide (k ≤ 2) && (decide (0 < k) || n == 0)
def selN (ns : List Nat) (l : List Fld) : List Fld := l.filter fun x => ns.contains x.num
theorem selN_app (ns : List Nat) (a b : List Fld) : selN ns (a ++ b) = selN ns a ++ selN ns b := by unfold selN; rw [List.filter_append]
theorem selN_of {n : Nat} {l : List Fld} (h : ∀ x ∈ l, x.num = n) (ns : List Nat) : selN ns l = if ns.contains n then l else [] := by
 unfold selN
 split
 ·rename_i e
  exact List.filter_eq_self.2 fun x hx => by rw [h x hx]; exact e
 ·rename_i e
  exact List.filter_eq_nil_iff.2 fun x hx => by rw [h x hx]; exact e
theorem oneF_selN (ns : List Nat) (l : List Fld) : oneF ns (selN ns l) = oneF ns l := by
 unfold oneF
 generalize noOne = o
 induction l generalizing o with
 | nil => rfl
 | cons x l ih =>
  unfold selN at ih ⊢
  rw [List.filter_cons, List.foldl_cons]
  cases hc : ns.contains x.num with
  | true => rw [if_pos rfl, List.foldl_cons]; exact ih _
  | false =>
   have : k'm ns o x = o := by unfold k'm; rw [hc]; rfl
   rw [if_neg (by simp), this]; exact ih _
section
variable (ns : List Nat) (n v : Nat) (s : List UInt8) (b : Bool)
theorem selN_fx : selN ns (fxF n v) = if ns.contains n then fxF n v else [] := selN_of (by unfold fxF; split <;> simp [e8R]) ns
theorem selN_op : selN ns (opF n b v) = if ns.contains n then opF n b v else [] := selN_of (by unfold opF; split <;> simp [e8R]) ns
theorem selN_tx : selN ns (txF n s) = if ns.contains n then txF n s else [] := selN_of (by unfold txF; split <;> simp [paR]) ns
theorem selN_ps (l : List (List UInt8)) : selN ns (psF n l) = if ns.contains n then psF n l else [] := selN_of (by unfold psF; simp [paR]) ns
theorem selN_vr : selN ns (vrF n v) = if ns.contains n then vrF n v else [] := selN_of (by unfold vrF; split <;> simp [fewR]) ns
end
theorem tell_num {a b : Nat} (hab : a ≠ b) (ha : a ≠ 0) (hb : b ≠ 0) {k : Int} {v : Nat} (h : mayNum k v = true) : k'32 a b (oneF [a, b] (opF a (k == 1) v ++ opF b (k == 2) v)) = (k.toNat, v) := by
 unfold mayNum at h
 simp only [Bool.and_eq_true, decide_eq_true_eq, Bool.or_eq_true, beq_iff_eq] at h
 obtain ⟨⟨h1, h2⟩, h3⟩ := h
 have h3 : k = 0 → v = 0 := fun hk => by rcases h3 with h3 | h3 <;> omega
 have hk : k = 0 ∨ k = 1 ∨ k = 2 := by omega
 rcases hk with rfl | rfl | rfl
 ·have := h3 rfl; subst this
  show k'32 a b noOne = _
  unfold k'32 noOne
  rw [if_neg (fun h => ha h.symm), if_neg (fun h => hb h.symm)]; rfl
 ·show k'32 a b (k'm [a, b] noOne (e8R a v)) = _
  have : k'm [a, b] noOne (e8R a v) = ⟨a, v, [], [[]]⟩ := by
   unfold k'm
   rw [if_pos (by simp [e8R])]
   split <;> simp [e8R, noOne]
  rw [this]; simp [k'32]
 ·show k'32 a b (k'm [a, b] noOne (e8R b v)) = _
  have : k'm [a, b] noOne (e8R b v) = ⟨b, v, [], [[]]⟩ := by
   unfold k'm
   rw [if_pos (by simp [e8R])]
   split <;> simp [e8R, noOne]
  rw [this]; simp [k'32, Ne.symm hab]
theorem oneF_num {ns : List Nat} {l : List Fld} (h : ∀ x ∈ l, FOk x) : (oneF ns l).n < 2 ^ 64 := (oneF_ok h).1
theorem num_told {a b : Nat} {l : List Fld} (h : ∀ x ∈ l, FOk x) : mayNum ((k'32 a b (oneF [a, b] l)).1 : Int) (k'32 a b (oneF [a, b] l)).2 = true ∧ (k'32 a b (oneF [a, b] l)).2 < 2 ^ 64 := by
 have := oneF_num (ns := [a, b]) h
 unfold k'32
 split
 ·exact ⟨rfl, this⟩
 ·split
  ·exact ⟨rfl, this⟩
  ·exact ⟨rfl, by show 0 < 2 ^ 64; omega⟩
theorem k'26 (n v : Nat) : (fxV n v).length ≤ 18 := by
 have := e8V_len n v
 unfold fxV; split
 ·simp
 ·exact this
theorem k'4b (n : Nat) (b : Bool) (v : Nat) : (opV n b v).length ≤ 18 := by
 cases b with
 | false => simp [opV]
 | true => exact e8V_len n v
theorem k'2v {α : Type} (ok : List UInt8 → Option α) {n : Nat} {l : List Fld} {ms : List (List UInt8)} (h : sel n l = psF n ms) : k'7 ok n l = mapO ok ms := by
 have h2 := tell_ps n ok ms
 unfold k'7 at h2 ⊢
 rw [k'11, if_pos rfl] at h2
 rw [h, h2]
theorem k'24 {n v : Nat} {l : List Fld} (h : sel n l = fxF n v) : (k'a l n).n = v := by rw [← sel_last, h]; exact tell_fx n v
theorem last_vr {n v : Nat} {l : List Fld} (h : sel n l = vrF n v) : (k'a l n).n = v := by rw [← sel_last, h]; exact tell_vr n v
theorem last_tx {n : Nat} {s : List UInt8} {l : List Fld} (h : sel n l = txF n s) : (k'a l n).s = s := by rw [← sel_last, h]; exact tell_tx n s
end
/-! Numbers of a value: may they be? Who is the first in a list? -/
section
def RsOf {α : Type} (R : α → D → Prop) (l : List α) (xs : List D) : Prop := xs.length = l.length ∧ ∀ (i : Nat) v, l[i]? = some v → ∃ x, xs[i]? = some x ∧ R v x
theorem RsOf.at {α : Type} {R : α → D → Prop} {l : List α} {xs : List D} (h : RsOf R l xs) {i : Nat} {x : D} (hx : xs[i]? = some x) : ∃ v, l[i]? = some v ∧ R v x := by
 have hi : i < l.length := by rw [← h.1]; exact (List.getElem?_eq_some_iff.1 hx).1
 obtain ⟨v, hv⟩ : ∃ v, l[i]? = some v := ⟨_, List.getElem?_eq_getElem hi⟩
 obtain ⟨x', e1, r1⟩ := h.2 i v hv
 rw [hx] at e1; injection e1 with e1; subst e1
 exact ⟨v, hv, r1⟩
theorem RsOf.mem {α : Type} {R : α → D → Prop} {l : List α} {xs : List D} (h : RsOf R l xs) {x : D} (hx : x ∈ xs) : ∃ v ∈ l, R v x := by
 obtain ⟨i, hi⟩ := List.getElem?_of_mem hx
 obtain ⟨v, hv, r⟩ := h.at hi
 exact ⟨v, List.mem_of_getElem? hv, r⟩
theorem RsOf.map {α : Type} {R : α → D → Prop} {f : α → D} (h : ∀ v, R v (f v)) (l : List α) : RsOf R l (l.map f) :=
 ⟨by simp, fun i v hv => ⟨f v, by rw [List.getElem?_map, hv]; rfl, h v⟩⟩
theorem RsOf.nil {α : Type} (R : α → D → Prop) : RsOf R [] [] := ⟨rfl, fun i v hv => by simp at hv⟩
theorem Kv.Rs_at {l : List Kv} {xs : List D} (h : Kv.Rs l xs) {i : Nat} {x : D} (hx : xs[i]? = some x) : ∃ v, l[i]? = some v ∧ v.R x := by
 have hi : i < l.length := by rw [← Kv.Rs_len h]; exact (List.getElem?_eq_some_iff.1 hx).1
 obtain ⟨v, hv⟩ : ∃ v, l[i]? = some v := ⟨_, List.getElem?_eq_getElem hi⟩
 obtain ⟨x', e1, r1⟩ := Kv.Rs_get h hv
 rw [hx] at e1; injection e1 with e1; subst e1
 exact ⟨v, hv, r1⟩
def orD (e : Option Er) (a b : D) : D := match e with | none => a | some _ => b
theorem sum_ge {α : Type} {sz : α → Nat} (h : ∀ x, 1 ≤ sz x) (l : List α) : l.length ≤ (l.map sz).sum := by
 induction l with
 | nil => simp
 | cons x l ih => have := h x; rw [List.map_cons, List.sum_cons, List.length_cons]; omega
/-! Lists of a type: alike, may they be, written. -/
theorem lok_s {l : List Fld} (h : LOk l) {x : Fld} (hx : x ∈ l) : x.s.length < big := by
 obtain ⟨i, hi⟩ := List.getElem?_of_mem hx
 obtain ⟨h1, h2⟩ := k'1x h hi
 have := h1.s; have := h.2
 omega
theorem k'2j {tb : Nat → Nat → Bool} {s : List UInt8} {d : Int} {x : Fld} (h : x ∈ knB tb s d) : 0 ≤ d := k'25 (num := x.num) (List.any_eq_true.2 ⟨x, h, by simp⟩)
theorem ks_map (a : List Kv) : (a.map Kv.sh).map KVs.d = Kv.ds a := by
 rw [List.map_map, Kv.ds_map]
 exact List.map_congr_left fun v _ => Kv.sh_d v
end
/-! What is read, with records behind it and before it; one behind the other. -/
section
section
variable {α : Type} {tb : Nat → Nat → Bool} {tell : Int → List Fld → Option (List UInt8 → α)} {setU : α → List UInt8 → α} {getU : α → List UInt8} {s t w : List UInt8} {d : Int} {x y : α}
end
theorem k'22 {a b : Nat} (hab : a ≠ b) (ha : a ≠ 0) (hb : b ≠ 0) {k : List Fld} {x : Fld} : k'32 a b (oneF [a, b] (k ++ [x])) = if x.num = a then (1, x.n) else if x.num = b then (2, x.n) else k'32 a b (oneF [a, b] k) := by
 rw [oneF_snoc]
 by_cases h1 : x.num = a
 ·rw [if_pos h1]
  have : k'32 a b (k'm [a, b] (oneF [a, b] k) x) = (1, x.n) := by
   unfold k'm
   rw [if_pos (by simp [h1])]
   unfold k'32
   split <;> simp [h1]
  exact this
 ·rw [if_neg h1]
  by_cases h2 : x.num = b
  ·rw [if_pos h2]
   unfold k'm
   rw [if_pos (by simp [h2])]
   unfold k'32
   split <;> simp [h2, Ne.symm hab]
  ·rw [if_neg h2]
   unfold k'm
   rw [if_neg (by simp [h1, h2])]
def RdZ (B : Fr) {α : Type} (f : Nat) (dS : α → D) (z : α) (o : Option α) (s : List UInt8) (d : Int) : Prop :=
 match o with
 | some x => k'5 (cx B) f [sT s, .d (.int .i64 d)] [] (.tup [.d (dS x), .d .nili]) []
 | none => ∃ e : Er, EIn s.length e ∧ k'5 (cx B) f [sT s, .d (.int .i64 d)] [] (.tup [.d (dS z), .d e.d]) []
theorem RdZ.at {B : Fr} {α : Type} {f : Nat} {dS : α → D} {z : α} {o : Option α} {s : List UInt8} {d : Int} (h : RdZ B f dS z o s d) : RdAt B f [] dS id o s d := by
 unfold RdZ at h
 unfold RdAt
 cases o with
 | some x => exact h
 | none => obtain ⟨e, h1, h2⟩ := h; exact ⟨z, e, h1, h2⟩
end
