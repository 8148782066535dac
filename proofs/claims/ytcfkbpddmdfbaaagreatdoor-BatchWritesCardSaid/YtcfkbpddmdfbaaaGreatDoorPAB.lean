/- Lists of messages, numbers of one of two kinds: what is written, what is read. And more. -/
import Derived.Test.YtcfkbpddmdfbaaaGreatDoorWV
set_option linter.unusedSimpArgs false
set_option linter.unusedVariables false
set_option maxRecDepth 100000
/-! Lists of messages, numbers of one of two kinds: what is written, what is read. -/
namespace Go.Proofs.YtcfkbpddmdfbaaaGreatDoor
open Go Go.Abs
section
variable {α : Type} (ok : List UInt8 → Int → Option α) (mar : α → List UInt8) (may : α → Int → Bool) (fine : α → Prop)
def Back : Prop := ∀ (d : Int) (x : α), fine x → may x d = true → ok (mar x) d = some x ∧ ∀ e, e ≤ d → may x e = false → ok (mar x) e = none
def Told (sz : α → Nat) (c : Nat) : Prop := ∀ (d : Int) (s : List UInt8) (x : α), ok s d = some x → may x d = true ∧ fine x ∧ sz x ≤ c + c * s.length
variable {ok mar may fine}
theorem Back.list (h : Back ok mar may fine) {l : List α} {d : Int} (hf : ∀ x ∈ l, fine x) (hm : (l.all fun x => may x d) = true) :
  mapO (fun s => ok s d) (l.map mar) = some l ∧ ∀ e, e ≤ d → (l.all fun x => may x e) = false → mapO (fun s => ok s e) (l.map mar) = none := by
 have hm := List.all_eq_true.1 hm
 refine ⟨mapO_id fun x hx => (h d x (hf x hx) (hm x hx)).1, fun e he hn => ?_⟩
 obtain ⟨x, hx, hxe⟩ := all_false hn
 exact mapO_none (List.mem_map.2 ⟨x, hx, rfl⟩) ((h d x (hf x hx) (hm x hx)).2 e he hxe)
theorem Told.list {sz : α → Nat} {c : Nat} (h : Told ok may fine sz c) {d : Int} : ∀ {l : List Fld} {r : List α}, (∀ x ∈ l, FOk x) → mapO (fun x => ok x.s d) l = some r →
  (r.all fun x => may x d) = true ∧ (∀ x ∈ r, fine x) ∧ (r.map sz).sum ≤ c * wt l
 | [], r, _, hr => by simp [mapO] at hr; subst hr; simp
 | x :: l, r, hf, hr => by
  have hx := (hf x (List.mem_cons_self ..)).s
  unfold mapO at hr
  split at hr
  ·simp at hr
  ·rename_i y hy
   split at hr
   ·simp at hr
   ·rename_i r' hr'
    injection hr with hr; subst hr
    obtain ⟨h1, h2, h3⟩ := Told.list h (fun y hy => hf y (List.mem_cons_of_mem _ hy)) hr'
    obtain ⟨g1, g2, g3⟩ := h d _ _ hy
    refine ⟨by rw [List.all_cons, g1, h1]; rfl, fun z hz => ?_, ?_⟩
    ·rcases List.mem_cons.1 hz with rfl | hz
     ·exact g2
     ·exact h2 z hz
    ·have e : (x.s.length + 1) * c ≤ x.raw.length * c := Nat.mul_le_mul_right c hx
     rw [List.map_cons, List.sum_cons, wt_cons, Nat.mul_add, Nat.mul_comm c x.raw.length]
     rw [Nat.add_mul, Nat.one_mul] at e
     rw [Nat.mul_comm c x.s.length] at g3
     omega
theorem Told.parts {sz : α → Nat} {c : Nat} (h : Told ok may fine sz c) {d : Int} {l : List Fld} {r : List α} {num : Nat} (hf : ∀ x ∈ l, FOk x) (hr : k'1o (fun s => ok s d) num l = some r) :
  (r.all fun x => may x d) = true ∧ (∀ x ∈ r, fine x) ∧ (r.map sz).sum ≤ c * wt l := by
 obtain ⟨a, b, e⟩ := h.list (fok_sel hf num) hr
 exact ⟨a, b, Nat.le_trans e (Nat.mul_le_mul_left c (wt_sel num l))⟩
end
theorem k'x {α : Type} {sz : α → Nat} {l : List α} {x : α} (h : x ∈ l) : sz x ≤ (l.map sz).sum := by
 induction l with
 | nil => simp at h
 | cons y l ih =>
  rw [List.map_cons, List.sum_cons]
  rcases List.mem_cons.1 h with rfl | h
  ·omega
  ·have := ih h; omega
theorem k'1v {α : Type} {sz : α → Nat} {mar : α → List UInt8} (n : Nat) (l : List α) (h : ∀ x ∈ l, (mar x).length + 20 ≤ sz x) : (psV n (l.map mar)).length ≤ (l.map sz).sum := by
 induction l with
 | nil => simp [psV]
 | cons x l ih =>
  have h1 := h x (List.mem_cons_self ..)
  have h2 := ih fun y hy => h y (List.mem_cons_of_mem _ hy)
  have h3 := k'2b n (mar x)
  rw [List.map_cons, List.map_cons, List.sum_cons, show psV n (mar x :: l.map mar) = paV n (mar x) ++ psV n (l.map mar) from rfl, List.length_append]
  omega
/-! Attributes. -/
theorem Kv.szs_sum : ∀ l : List Kv, Kv.szs l = (l.map Kv.sz).sum
 | [] => rfl
 | k :: l => by rw [Kv.szs, Kv.szs_sum l]; rfl
theorem Kv.wfs_all : ∀ l : List Kv, Kv.wfs l ↔ ∀ k ∈ l, k.wf
 | [] => by simp [Kv.wfs]
 | k :: l => by rw [Kv.wfs, Kv.wfs_all l]; simp
theorem Kv.marsP_len (n : Nat) (l : List Kv) : (psV n (Kv.mars l)).length ≤ Kv.szs l := by
 rw [Kv.mars_map, Kv.szs_sum]
 exact k'1v n l fun x _ => Kv.mar_len x
theorem Kv.mars_lt {l : List Kv} (h : Kv.szs l < big) : ∀ s ∈ Kv.mars l, s.length < 2 ^ 64 := fun s hs => by
 rw [Kv.mars_map] at hs
 obtain ⟨k, hk, rfl⟩ := List.mem_map.1 hs
 have h1 := Kv.mar_len k; have h2 := Kv.sz_mem hk
 unfold big at h; omega
/-! Numbers: a double, or an integer. -/
def mayNum (k : Int) (n : Nat) : Bool := decide (0 ≤ k) && decide (k ≤ 2) && (decide (0 < k) || n == 0)
def selN (ns : List Nat) (l : List Fld) : List Fld := l.filter fun x => ns.contains x.num
theorem selN_app (ns : List Nat) (a b : List Fld) : selN ns (a ++ b) = selN ns a ++ selN ns b := by unfold selN; rw [List.filter_append]
theorem selN_of {n : Nat} {l : List Fld} (h : ∀ x ∈ l, x.num = n) (ns : List Nat) : selN ns l = if ns.contains n then l else [] := by
 unfold selN
 split
 ·rename_i e
  exact List.filter_eq_self.2 fun x hx => by rw [h x hx]; exact e
 ·rename_i e
  exact List.filter_eq_nil_iff.2 fun x hx => by rw [h x hx]; exact e
theorem oneF_selN (ns : List Nat) (l : List Fld) : oneF ns (selN ns l) = oneF ns l := by
 unfold oneF
 generalize noOne = o
 induction l generalizing o with
 | nil => rfl
 | cons x l ih =>
  unfold selN at ih ⊢
  rw [List.filter_cons, List.foldl_cons]
  cases hc : ns.contains x.num with
  | true => rw [if_pos rfl, List.foldl_cons]; exact ih _
  | false =>
   have : oneStep ns o x = o := by unfold oneStep; rw [hc]; rfl
   rw [if_neg (by simp), this]; exact ih _
section
variable (ns : List Nat) (n v : Nat) (s : List UInt8) (b : Bool)
theorem selN_fx : selN ns (fxF n v) = if ns.contains n then fxF n v else [] := selN_of (by unfold fxF; split <;> simp [e8R]) ns
theorem selN_op : selN ns (opF n b v) = if ns.contains n then opF n b v else [] := selN_of (by unfold opF; split <;> simp [e8R]) ns
theorem selN_tx : selN ns (txF n s) = if ns.contains n then txF n s else [] := selN_of (by unfold txF; split <;> simp [paR]) ns
theorem selN_ps (l : List (List UInt8)) : selN ns (psF n l) = if ns.contains n then psF n l else [] := selN_of (by unfold psF; simp [paR]) ns
theorem selN_vr : selN ns (vrF n v) = if ns.contains n then vrF n v else [] := selN_of (by unfold vrF; split <;> simp [fewR]) ns
end
theorem tell_num {a b : Nat} (hab : a ≠ b) (ha : a ≠ 0) (hb : b ≠ 0) {k : Int} {v : Nat} (h : mayNum k v = true) : numKN a b (oneF [a, b] (opF a (k == 1) v ++ opF b (k == 2) v)) = (k.toNat, v) := by
 unfold mayNum at h
 simp only [Bool.and_eq_true, decide_eq_true_eq, Bool.or_eq_true, beq_iff_eq] at h
 obtain ⟨⟨h1, h2⟩, h3⟩ := h
 have h3 : k = 0 → v = 0 := fun hk => by rcases h3 with h3 | h3 <;> omega
 have hk : k = 0 ∨ k = 1 ∨ k = 2 := by omega
 rcases hk with rfl | rfl | rfl
 ·have := h3 rfl; subst this
  show numKN a b noOne = _
  unfold numKN noOne
  rw [if_neg (fun h => ha h.symm), if_neg (fun h => hb h.symm)]; rfl
 ·show numKN a b (oneStep [a, b] noOne (e8R a v)) = _
  have : oneStep [a, b] noOne (e8R a v) = ⟨a, v, [], [[]]⟩ := by
   unfold oneStep
   rw [if_pos (by simp [e8R])]
   split <;> simp [e8R, noOne]
  rw [this]; simp [numKN]
 ·show numKN a b (oneStep [a, b] noOne (e8R b v)) = _
  have : oneStep [a, b] noOne (e8R b v) = ⟨b, v, [], [[]]⟩ := by
   unfold oneStep
   rw [if_pos (by simp [e8R])]
   split <;> simp [e8R, noOne]
  rw [this]; simp [numKN, Ne.symm hab]
theorem k'2e (n v : Nat) : (fxV n v).length ≤ 18 := by
 have := e8V_len n v
 unfold fxV; split
 ·simp
 ·exact this
theorem k'4f (n : Nat) (b : Bool) (v : Nat) : (opV n b v).length ≤ 18 := by
 cases b with
 | false => simp [opV]
 | true => exact e8V_len n v
theorem k'2g {α : Type} (ok : List UInt8 → Option α) {n : Nat} {l : List Fld} {ms : List (List UInt8)} (h : sel n l = psF n ms) : k'1o ok n l = mapO ok ms := by
 have h2 := tell_ps n ok ms
 unfold k'1o at h2 ⊢
 rw [k'p, if_pos rfl] at h2
 rw [h, h2]
theorem k'2c {n v : Nat} {l : List Fld} (h : sel n l = fxF n v) : (k'19 l n).n = v := by rw [← sel_last, h]; exact tell_fx n v
theorem last_vr {n v : Nat} {l : List Fld} (h : sel n l = vrF n v) : (k'19 l n).n = v := by rw [← sel_last, h]; exact tell_vr n v
theorem last_tx {n : Nat} {s : List UInt8} {l : List Fld} (h : sel n l = txF n s) : (k'19 l n).s = s := by rw [← sel_last, h]; exact tell_tx n s
end Go.Proofs.YtcfkbpddmdfbaaaGreatDoor
/-! Numbers of a value: may they be? Who is the first in a list? -/
namespace Go.Proofs.YtcfkbpddmdfbaaaGreatDoor
open Go Go.Abs
theorem closure2 {X : Ctx} {o : Oper} {v : Operand → T} {H : List Ob} {f : FuncId} {x y : Operand} {j k : Nat} {cs cs' : List T} {ds ds' : List D} (ho : o.op = .makeFunc (.func f) #[] #[x, y]) (hx : v x = .ptr j 0) (hy : v y = .ptr k 0) (hjk : j ≠ k) (hj : H[j]? = some (.mu cs)) (hc : shares cs = some ds) (hk : H[k]? = some (.mu cs')) (hc' : shares cs' = some ds') :
  k'g X o v H ⟨.d (.fn f [.box ds, .box ds']), none, (H.set j (.fro ds)).set k (.fro ds')⟩ :=
 .hsem (k'26 ho (by simp)) (by rw [ho]; rfl) fun s hs hH N F ρ a w next Q hd h kk => by
  subst hH
  have hx' := (hs x (by rw [ho]; simp [Op.operands])).trans hx
  have hy' := (hs y (by rw [ho]; simp [Op.operands])).trans hy
  obtain ⟨lx, hxv⟩ := h.val x
  rw [hx'] at hxv
  obtain ⟨b, hb, ex⟩ := hxv.inv_ptr
  obtain ⟨ly, hyv⟩ := h.val y
  rw [hy'] at hyv
  obtain ⟨b', hb', ey⟩ := hyv.inv_ptr
  obtain ⟨F1, g1, g2, g3⟩ := h.freeze hb hj hc
  obtain ⟨F2, q1, q2, q3⟩ := g1.freeze (cs := cs') hb' (by show (s.H.set j (.fro ds))[k]? = _; rw [List.getElem?_set_ne hjk]; exact hk) hc'
  refine k'm (v := .func (.func f) #[] #[.pointer (some ⟨b, 0, none⟩), .pointer (some ⟨b', 0, none⟩)]) (by simp [execOp, ho, Instr.makeFunc, ex, ey]) (kk F2 ρ _ w ?_ (g2.trans q2))
  exact q1.put hd fun d _ => .d (.fn (vs := [_, _]) (.cons (g3.mono q2.sub) (.cons q3 .nil)))
variable (B : Fr)
theorem k'4h (k : Int) (n : Nat) : k'0 (cx B) 333 [.d (.int .i64 k), uT n] [] (.d (.bool (mayNum k n))) [] := by
 unfold mayNum
 refine l_bw Tryz.func333 0 [] ?_
 rw [show decide (k ≥ 0) = decide (0 ≤ k) from rfl]
 cases h1 : decide (0 ≤ k)
 ·exact Z
 refine Y ?_
 cases h2 : decide (k ≤ 2)
 ·exact Z
 refine Y ?_
 rw [show decide (k > 0) = decide (0 < k) from rfl]
 cases h3 : decide (0 < k)
 rotate_left
 ·exact Z
 refine Y ?_
 rw [show (((n : Nat) : Int) == 0) = (n == 0) from ibeq n 0]
 exact k'i rfl
def idxF (q : Nat → Bool) (n : Nat) : Int := match (List.range n).find? q with | some i => (i : Int) | none => -1
theorem idx_hit {q : Nat → Bool} {n i : Nat} (hi : i < n) (h : q i = true) (h2 : ∀ j < i, q j = false) : idxF q n = i := by
 unfold idxF
 rw [show (List.range n).find? q = some i from List.find?_range_eq_some.2 ⟨h, List.mem_range.2 hi, fun j hj => by rw [h2 j hj]; rfl⟩]
theorem idx_miss {q : Nat → Bool} {n : Nat} (h2 : ∀ j < n, q j = false) : idxF q n = -1 := by
 unfold idxF
 rw [show (List.range n).find? q = none from List.find?_eq_none.2 fun j hj => by rw [h2 j (List.mem_range.1 hj)]; simp]
theorem idx_all (r : Nat → Bool) (n : Nat) : decide (idxF (fun i => !r i) n ≥ 0) = !(List.range n).all r := by
 unfold idxF
 cases h : (List.range n).find? fun i => !r i with
 | none =>
  have h := List.find?_eq_none.1 h
  rw [show (List.range n).all r = true from List.all_eq_true.2 fun x hx => by simpa using h x hx]; rfl
 | some i =>
  have h1 := List.find?_some h
  have h2 := List.mem_of_find?_eq_some h
  rw [show (List.range n).all r = false by
   cases hh : (List.range n).all r with
   | false => rfl
   | true => have := List.all_eq_true.1 hh i h2; rw [this] at h1; simp at h1]
  simp
def IdxP (G : Nat) (Sh : D → Prop) : Prop := ∀ (f : Nat) (cap : List D) (z : Bool) (xs : List D) (q : Nat → Bool), xs.length < 9223372036854775807 → (∀ x ∈ xs, Sh x) →
  (∀ (i : Nat) x, xs[i]? = some x → k'0 (cx B) f ([.d x] ++ cap.map T.d) [] (.d (.bool (q i))) []) →
  k'0 (cx B) G [.d (.sl z xs), .d (.fn f cap)] [] (.d (.int .i64 (idxF q xs.length))) []
theorem k'2a {G : Nat} {fn : Func} {Sh : D → Prop} (hF : Tryz.prog.funcs[G]? = some fn) (main : Tryz.prog.funcs[G]? = some fn → IdxP B G Sh := by
  intro hF f cap z xs q hl hx hf
  refine l_body (X := cx B) hF rfl rfl rfl rfl rfl 0 [] rfl rfl ?_
  refine Y ?_
  refine k'8 (fun i : Nat => xs.length - i) (fun i => [(0, .d (.sl z xs)), (1, .d (.fn f cap)), (7, iT xs.length), (8, iT i)]) (fun _ => []) (fun i => i ≤ xs.length ∧ ∀ j < i, q j = false) 0 ⟨by omega, fun j hj => by omega⟩ ⟨rfl, rfl, rfl, rfl, trivial⟩ rfl 0 rfl (fun _ => rfl) (fun _ => rfl) (fun _ => rfl) ?_
  rintro i ⟨i1, i2⟩
  refine Y ?_
  refine k'13 rfl (fun hd => ?_) (fun hd => ?_)
  ·have hlt : i < xs.length := by have := of_decide_eq_true hd; omega
   obtain ⟨x, hxi⟩ : ∃ x, xs[i]? = some x := ⟨_, List.getElem?_eq_getElem hlt⟩
   have hc := hf i x hxi
   have hsh := hx x (List.mem_of_getElem? hxi)
   revert hsh
   repeat refine forall_exists_index.2 fun _ => ?_
   rintro rfl
   refine Y ?_
   refine k'1 (.indexAddr (k := .i64) (n := i) (es := xs) rfl rfl rfl rfl (.inl ⟨_, rfl⟩) rfl (by omega) (by simpa using hxi) rfl (by decide)) rfl rfl ?_
   refine Y ?_
   refine l_cw [] (hc) rfl rfl rfl ?_
   cases hr : q i
   rotate_left
   ·rw [idx_hit hlt hr i2]
    exact Z
   refine Y ?_
   rw [wS i (by omega)]
   exact ⟨i + 1, by omega, ⟨by omega, fun j hj => by
    rcases Nat.lt_or_ge j i with h | h
    ·exact i2 j h
    ·rw [show j = i by omega]; exact hr⟩, ⟨rfl, rfl, rfl, rfl, trivial⟩, rfl, k'z rfl⟩
  ·have hge : i = xs.length := by have := of_decide_eq_false hd; omega
   subst hge
   rw [idx_miss i2]
   exact Z) : IdxP B G Sh := main hF
def All1P (G : Nat) (Sh : D → Prop) : Prop := ∀ (f : Nat) (d : Int) (b : Bool) (x : D), -9223372036854775000 ≤ d → d < 9223372036854775808 → Sh x → k'0 (cx B) f [.d x, .d (.int .i64 (d - 1))] [] (.d (.bool b)) [] →
  k'0 (cx B) G ([.d x] ++ [.box [.fn f []], .box [.int .i64 d]].map T.d) [] (.d (.bool (!b))) []
theorem All1_mk {G : Nat} {fn : Func} {Sh : D → Prop} (hF : Tryz.prog.funcs[G]? = some fn) (main : Tryz.prog.funcs[G]? = some fn → All1P B G Sh := by
  intro hF f d b x hd1 hd2 hsh hc
  revert hsh hc
  repeat refine forall_exists_index.2 fun _ => ?_
  rintro rfl hc
  refine l_body (X := cx B) hF rfl rfl rfl rfl rfl 0 [] rfl rfl ?_
  refine Y ?_
  rw [k'5 1 (by omega) (by omega) hd1 hd2]
  refine k'2 [] (hc) rfl rfl rfl ?_
  exact Z) : All1P B G Sh := main hF
def ContP (G GI : Nat) : Prop := ∀ (z : Bool) (xs : List D) (g : Nat) (cap : List D) (k : Int), k'0 (cx B) GI [.d (.sl z xs), .d (.fn g cap)] [] (.d (.int .i64 k)) [] → k'0 (cx B) G [.d (.sl z xs), .d (.fn g cap)] [] (.d (.bool (decide (k ≥ 0)))) []
theorem Cont_mk {G GI : Nat} {fn : Func} (hF : Tryz.prog.funcs[G]? = some fn) (main : Tryz.prog.funcs[G]? = some fn → ContP B G GI := by
  intro hF z xs g cap k h1
  refine l_body (X := cx B) hF rfl rfl rfl rfl rfl 0 [] rfl rfl ?_
  refine Y ?_
  refine k'2 [] (h1) rfl rfl rfl ?_
  exact Z) : ContP B G GI := main hF
def AllcP (G GC G1 : Nat) : Prop := ∀ (f : Nat) (z : Bool) (xs : List D) (d : Int) (b : Bool), k'0 (cx B) GC [.d (.sl z xs), .d (.fn G1 [.box [.fn f []], .box [.int .i64 d]])] [] (.d (.bool (!b))) [] → k'0 (cx B) G [.d (.sl z xs), .d (.int .i64 d), .d (.fn f [])] [] (.d (.bool b)) []
theorem Allc_mk {G GC G1 : Nat} {fn : Func} (hF : Tryz.prog.funcs[G]? = some fn) (main : Tryz.prog.funcs[G]? = some fn → AllcP B G GC G1 := by
  intro hF f z xs d b h2
  refine l_body (X := cx B) hF rfl rfl rfl rfl rfl 0 [] rfl rfl ?_
  refine Y ?_
  refine k'1 (closure2 rfl rfl rfl (by simp) rfl rfl rfl rfl) rfl rfl ?_
  refine l_cw [] (h2) rfl rfl rfl ?_
  rw [Bool.not_not]
  exact k'i rfl) : AllcP B G GC G1 := main hF
def AllP (G : Nat) (Sh : D → Prop) : Prop := ∀ (f : Nat) (z : Bool) (xs : List D) (d : Int) (r : Nat → Bool), xs.length < 9223372036854775807 → -9223372036854775000 ≤ d → d < 9223372036854775808 → (∀ x ∈ xs, Sh x) →
  (∀ (i : Nat) x, xs[i]? = some x → k'0 (cx B) f [.d x, .d (.int .i64 (d - 1))] [] (.d (.bool (r i))) []) →
  k'0 (cx B) G [.d (.sl z xs), .d (.int .i64 d), .d (.fn f [])] [] (.d (.bool ((List.range xs.length).all r))) []
theorem All_of {G GC GI G1 : Nat} {Sh : D → Prop} (h1 : All1P B G1 Sh) (hI : IdxP B GI Sh) (hC : ContP B GC GI) (hA : AllcP B G GC G1) : AllP B G Sh := fun f z xs d r hl hd1 hd2 hx hf =>
 hA f z xs d _ (idx_all r xs.length ▸ hC z xs G1 _ _ (hI G1 _ z xs (fun i => !r i) hl hx fun i x hxi => h1 f d (r i) x hd1 hd2 (hx x (List.mem_of_getElem? hxi)) (hf i x hxi)))
def RsOf {α : Type} (R : α → D → Prop) (l : List α) (xs : List D) : Prop := xs.length = l.length ∧ ∀ (i : Nat) v, l[i]? = some v → ∃ x, xs[i]? = some x ∧ R v x
theorem RsOf.at {α : Type} {R : α → D → Prop} {l : List α} {xs : List D} (h : RsOf R l xs) {i : Nat} {x : D} (hx : xs[i]? = some x) : ∃ v, l[i]? = some v ∧ R v x := by
 have hi : i < l.length := by rw [← h.1]; exact (List.getElem?_eq_some_iff.1 hx).1
 obtain ⟨v, hv⟩ : ∃ v, l[i]? = some v := ⟨_, List.getElem?_eq_getElem hi⟩
 obtain ⟨x', e1, r1⟩ := h.2 i v hv
 rw [hx] at e1; injection e1 with e1; subst e1
 exact ⟨v, hv, r1⟩
theorem RsOf.mem {α : Type} {R : α → D → Prop} {l : List α} {xs : List D} (h : RsOf R l xs) {x : D} (hx : x ∈ xs) : ∃ v ∈ l, R v x := by
 obtain ⟨i, hi⟩ := List.getElem?_of_mem hx
 obtain ⟨v, hv, r⟩ := h.at hi
 exact ⟨v, List.mem_of_getElem? hv, r⟩
theorem RsOf.map {α : Type} {R : α → D → Prop} {f : α → D} (h : ∀ v, R v (f v)) (l : List α) : RsOf R l (l.map f) :=
 ⟨by simp, fun i v hv => ⟨f v, by rw [List.getElem?_map, hv]; rfl, h v⟩⟩
theorem RsOf.nil {α : Type} (R : α → D → Prop) : RsOf R [] [] := ⟨rfl, fun i v hv => by simp at hv⟩
theorem Kv.Rs_at {l : List Kv} {xs : List D} (h : Kv.Rs l xs) {i : Nat} {x : D} (hx : xs[i]? = some x) : ∃ v, l[i]? = some v ∧ v.R x := by
 have hi : i < l.length := by rw [← Kv.Rs_len h]; exact (List.getElem?_eq_some_iff.1 hx).1
 obtain ⟨v, hv⟩ : ∃ v, l[i]? = some v := ⟨_, List.getElem?_eq_getElem hi⟩
 obtain ⟨x', e1, r1⟩ := Kv.Rs_get h hv
 rw [hx] at e1; injection e1 with e1; subst e1
 exact ⟨v, hv, r1⟩
theorem SameKeys_calls {a b : List Kv} {xs ys : List D} (z w : Bool) (hb : Kv.szs a < big) (h1 : Kv.Rs a xs) (h2 : Kv.Rs b ys) : k'0 (cx B) 138 [.d (.sl z xs), .d (.sl w ys)] [] (.d (.bool (Kv.eqs a b))) [] :=
 (val_same B (Kv.szs a + 1)).2.2 a b z w xs ys (by omega) hb h1 h2
theorem k'1d {a : List Kv} {xs : List D} (z : Bool) (d : Int) (hb : Kv.szs a < big) (hd1 : -9223372036854775000 ≤ d) (hd2 : d < 9223372036854775808) (h1 : Kv.Rs a xs) : k'0 (cx B) 139 [.d (.sl z xs), .d (.int .i64 d)] [] (.d (.bool (a.all fun k => k.may d))) [] := by
 rw [← Kv.mays_all]
 exact (val_may B (Kv.szs a + 1)).2.2 a z xs d (by omega) hb hd1 hd2 h1
theorem k'2n {a : List Kv} {xs : List D} (n : Nat) (h1 : 1 ≤ n) (h2 : n ≤ 536870911) (z : Bool) (d : Int) (hb : Kv.szs a < big) (hw : ∀ k ∈ a, k.wf) (hm : (a.all fun k => k.may (d - 1)) = true) (hd1 : 0 ≤ d) (hd2 : d < 9223372036854775808) (hR : Kv.Rs a xs) :
  Wr B 179 [iT n, .d (.sl z xs), .d (.int .i64 d), .d (.fn 180 [])] (psV n (Kv.mars a)) :=
 Parts_Ke_wr B n h1 h2 d (by omega) hd2 180 z xs (Kv.mars a) (by rw [Kv.mars_map, List.length_map, Kv.Rs_len hR]) (Kv.Rs_sh hR) fun i x s hx hs => by
  obtain ⟨v, hv, r⟩ := Kv.Rs_at hR hx
  rw [Kv.mars_map, List.getElem?_map, hv] at hs
  injection hs with hs; subst hs
  have hmem := List.mem_of_getElem? hv
  have := Kv.sz_mem hmem
  have h3 := MarshalKey_calls B v x (d - 1) (by omega) (hw v hmem) r (by omega) (by omega)
  rw [if_pos (List.all_eq_true.1 hm v hmem)] at h3
  exact h3
theorem k'22 {α : Type} {sz : α → Nat} (h : ∀ x, 1 ≤ sz x) (l : List α) : l.length ≤ (l.map sz).sum := by
 induction l with
 | nil => simp
 | cons x l ih => have := h x; rw [List.map_cons, List.sum_cons, List.length_cons]; omega
/-! Lists of a type: alike, may they be, written. -/
def AllRP {S : Type} (G f : Nat) (R : S → D → Prop) (sz : S → Nat) (may : S → Int → Bool) : Prop := ∀ {a : List S} {xs : List D} (z : Bool) (d : Int), (a.map sz).sum < big → 0 ≤ d → d < 9223372036854775808 → RsOf R a xs → k'0 (cx B) G [.d (.sl z xs), .d (.int .i64 d), .d (.fn f [])] [] (.d (.bool (a.all fun k => may k (d - 1)))) []
theorem All_R {S : Type} {G f : Nat} {R : S → D → Prop} {Sh : D → Prop} {sz : S → Nat} {may : S → Int → Bool} (hA : AllP B G Sh) (hsh : ∀ {l : List S} {xs : List D}, RsOf R l xs → ∀ x ∈ xs, Sh x) (hsz : ∀ x, 1 ≤ sz x)
  (hM : ∀ (v : S) (x : D) (d : Int), sz v < big → R v x → -9223372036854775808 ≤ d → d < 9223372036854775808 → k'0 (cx B) f [.d x, .d (.int .i64 d)] [] (.d (.bool (may v d))) []) : AllRP B G f R sz may := fun {a xs} z d hb hd1 hd2 h1 => by
 have hla := k'22 hsz a
 have h := hA f z xs d (atB (fun k => may k (d - 1)) a) (by rw [h1.1]; unfold big at hb; omega) (by omega) hd2 (hsh h1) (fun i x hx => by
  obtain ⟨v, hv, r1⟩ := h1.at hx
  have hm := k'x (sz := sz) (List.mem_of_getElem? hv)
  have e : atB (fun k => may k (d - 1)) a i = may v (d - 1) := by unfold atB; rw [hv]
  rw [e]
  exact hM v x (d - 1) (by omega) r1 (by omega) (by omega))
 rw [h1.1, ← atB_all] at h
 exact h
def k'35 {S : Type} (G f : Nat) (R : S → D → Prop) (sz : S → Nat) (wf : S → Prop) (may : S → Int → Bool) (mar : S → List UInt8) : Prop := ∀ {a : List S} {xs : List D} (n : Nat), 1 ≤ n → n ≤ 536870911 → ∀ (z : Bool) (d : Int), (a.map sz).sum < big → (∀ k ∈ a, wf k) → (a.all fun k => may k (d - 1)) = true → 0 ≤ d → d < 9223372036854775808 → RsOf R a xs →
  Wr B G [iT n, .d (.sl z xs), .d (.int .i64 d), .d (.fn f [])] (psV n (a.map mar))
theorem Parts_R0 {S : Type} {G f : Nat} {R : S → D → Prop} {Sh : D → Prop} {sz : S → Nat} {wf : S → Prop} {may : S → Int → Bool} {mar : S → List UInt8} (hP : PartsP B G Sh) (hsh : ∀ {l : List S} {xs : List D}, RsOf R l xs → ∀ x ∈ xs, Sh x)
  (hM : ∀ (v : S) (x : D) (d : Int), sz v < big → wf v → R v x → -9223372036854775808 ≤ d → d < 9223372036854775808 → may v d = true → k'0 (cx B) f [.d x, .d (.int .i64 d)] [] (.tup [sT (mar v), .d .nili]) []) : k'35 B G f R sz wf may mar := fun {a xs} n h1 h2 z d hb hw hm hd1 hd2 hR =>
 hP n h1 h2 d (by omega) hd2 f z xs (a.map mar) (by rw [List.length_map, hR.1]) (hsh hR) fun i x s hx hs => by
  obtain ⟨v, hv, r⟩ := hR.at hx
  rw [List.getElem?_map, hv] at hs
  injection hs with hs; subst hs
  have hmem := List.mem_of_getElem? hv
  have := k'x (sz := sz) hmem
  exact hM v x (d - 1) (by omega) (hw v hmem) r (by omega) (by omega) (List.all_eq_true.1 hm v hmem)
theorem Parts_R {S : Type} {G f : Nat} {R : S → D → Prop} {Sh : D → Prop} {sz : S → Nat} {wf : S → Prop} {may : S → Int → Bool} {mar : S → List UInt8} (hP : PartsP B G Sh) (hsh : ∀ {l : List S} {xs : List D}, RsOf R l xs → ∀ x ∈ xs, Sh x)
  (hM : ∀ (v : S) (x : D) (d : Int), sz v < big → wf v → R v x → -9223372036854775808 ≤ d → d < 9223372036854775808 → k'0 (cx B) f [.d x, .d (.int .i64 d)] [] (if may v d then .tup [sT (mar v), .d .nili] else .tup [sT [], .d (Er.code 8).d]) []) : k'35 B G f R sz wf may mar :=
 Parts_R0 B hP hsh fun v x d a b c e g h => by have := hM v x d a b c e g; rw [if_pos h] at this; exact this
end Go.Proofs.YtcfkbpddmdfbaaaGreatDoor
/-! What is read, with records behind it and before it; one behind the other. -/
namespace Go.Proofs.YtcfkbpddmdfbaaaGreatDoor
open Go Go.Abs
section
variable {α : Type} {tb : Nat → Nat → Bool} {tell : Int → List Fld → Option (List UInt8 → α)} {setU : α → List UInt8 → α} {getU : α → List UInt8} {s t w : List UInt8} {d : Int} {x y : α}
end
