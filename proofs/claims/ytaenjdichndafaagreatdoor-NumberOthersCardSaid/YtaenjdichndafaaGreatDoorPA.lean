/- Lists of messages, numbers of one of two kinds: what is written, what is read. -/
import Derived.Test.YtaenjdichndafaaGreatDoorP4
import Derived.Test.YtaenjdichndafaaGreatDoorWA
set_option linter.unusedSimpArgs false
set_option linter.unusedVariables false
set_option maxRecDepth 100000
namespace Go.Proofs.YtaenjdichndafaaGreatDoor
open Go Go.Abs
section
variable {α : Type} (ok : List UInt8 → Int → Option α) (mar : α → List UInt8) (may : α → Int → Bool) (fine : α → Prop)
/-- What is written is read; less deep it is none, where it may not be. -/
def Back : Prop := ∀ (d : Int) (x : α), fine x → may x d = true → ok (mar x) d = some x ∧ ∀ e, e ≤ d → may x e = false → ok (mar x) e = none
/-- What is read may be, and is no longer than so. -/
def Told (sz : α → Nat) (c : Nat) : Prop := ∀ (d : Int) (s : List UInt8) (x : α), ok s d = some x → may x d = true ∧ fine x ∧ sz x ≤ c + c * s.length
variable {ok mar may fine}
theorem all_false2 {p : α → Bool} {l : List α} (h : l.all p = false) : ∃ x ∈ l, p x = false := all_false h
theorem Back.list (h : Back ok mar may fine) {l : List α} {d : Int} (hf : ∀ x ∈ l, fine x) (hm : (l.all fun x => may x d) = true) :
    mapO (fun s => ok s d) (l.map mar) = some l ∧ ∀ e, e ≤ d → (l.all fun x => may x e) = false → mapO (fun s => ok s e) (l.map mar) = none := by
  have hm := List.all_eq_true.1 hm
  refine ⟨mapO_id fun x hx => (h d x (hf x hx) (hm x hx)).1, fun e he hn => ?_⟩
  obtain ⟨x, hx, hxe⟩ := all_false hn
  exact mapO_none (List.mem_map.2 ⟨x, hx, rfl⟩) ((h d x (hf x hx) (hm x hx)).2 e he hxe)
theorem Told.list {sz : α → Nat} {c : Nat} (h : Told ok may fine sz c) {d : Int} : ∀ {l : List Fld} {r : List α}, (∀ x ∈ l, FOk x) → mapO (fun x => ok x.s d) l = some r →
    (r.all fun x => may x d) = true ∧ (∀ x ∈ r, fine x) ∧ (r.map sz).sum ≤ c * wt l
  | [], r, _, hr => by simp [mapO] at hr; subst hr; simp
  | x :: l, r, hf, hr => by
    have hx := (hf x (List.mem_cons_self ..)).s
    unfold mapO at hr
    split at hr
    · simp at hr
    · rename_i y hy
      split at hr
      · simp at hr
      · rename_i r' hr'
        injection hr with hr; subst hr
        obtain ⟨h1, h2, h3⟩ := Told.list h (fun y hy => hf y (List.mem_cons_of_mem _ hy)) hr'
        obtain ⟨g1, g2, g3⟩ := h d _ _ hy
        refine ⟨by rw [List.all_cons, g1, h1]; rfl, fun z hz => ?_, ?_⟩
        · rcases List.mem_cons.1 hz with rfl | hz
          · exact g2
          · exact h2 z hz
        · have e : (x.s.length + 1) * c ≤ x.raw.length * c := Nat.mul_le_mul_right c hx
          rw [List.map_cons, List.sum_cons, wt_cons, Nat.mul_add, Nat.mul_comm c x.raw.length]
          rw [Nat.add_mul, Nat.one_mul] at e
          rw [Nat.mul_comm c x.s.length] at g3
          omega
theorem Told.parts {sz : α → Nat} {c : Nat} (h : Told ok may fine sz c) {d : Int} {l : List Fld} {r : List α} {num : Nat} (hf : ∀ x ∈ l, FOk x) (hr : partsO (fun s => ok s d) num l = some r) :
    (r.all fun x => may x d) = true ∧ (∀ x ∈ r, fine x) ∧ (r.map sz).sum ≤ c * wt l := by
  obtain ⟨a, b, e⟩ := h.list (fok_sel hf num) hr
  exact ⟨a, b, Nat.le_trans e (Nat.mul_le_mul_left c (wt_sel num l))⟩
end
theorem sum_mem {α : Type} {sz : α → Nat} {l : List α} {x : α} (h : x ∈ l) : sz x ≤ (l.map sz).sum := by
  induction l with
  | nil => simp at h
  | cons y l ih =>
    rw [List.map_cons, List.sum_cons]
    rcases List.mem_cons.1 h with rfl | h
    · omega
    · have := ih h; omega
theorem psV_sum {α : Type} {sz : α → Nat} {mar : α → List UInt8} (n : Nat) (l : List α) (h : ∀ x ∈ l, (mar x).length + 20 ≤ sz x) : (psV n (l.map mar)).length ≤ (l.map sz).sum := by
  induction l with
  | nil => simp [psV]
  | cons x l ih =>
    have h1 := h x (List.mem_cons_self ..)
    have h2 := ih fun y hy => h y (List.mem_cons_of_mem _ hy)
    have h3 := paV_len n (mar x)
    rw [List.map_cons, List.map_cons, List.sum_cons, show psV n (mar x :: l.map mar) = paV n (mar x) ++ psV n (l.map mar) from rfl, List.length_append]
    omega
/-! Attributes. -/
theorem Kv.szs_sum : ∀ l : List Kv, Kv.szs l = (l.map Kv.sz).sum
  | [] => rfl
  | k :: l => by rw [Kv.szs, Kv.szs_sum l]; rfl
theorem Kv.wfs_all : ∀ l : List Kv, Kv.wfs l ↔ ∀ k ∈ l, k.wf
  | [] => by simp [Kv.wfs]
  | k :: l => by rw [Kv.wfs, Kv.wfs_all l]; simp
theorem Kv_back : Back okK Kv.mar Kv.may (fun v => v.sz < big ∧ v.wf) := fun d x hf hm => (val_back (d.toNat + 1) d (by omega)).2 x hf.1 hf.2 hm
theorem Kv_told : Told okK Kv.may Kv.wf Kv.sz 100 := fun d s x h => by
  obtain ⟨a, b, c⟩ := (val_told (d.toNat + 1) d (by omega)).2 s x h
  exact ⟨a, b, by omega⟩
theorem Kv.marsP_len (n : Nat) (l : List Kv) : (psV n (Kv.mars l)).length ≤ Kv.szs l := by
  rw [Kv.mars_map, Kv.szs_sum]
  exact psV_sum n l fun x _ => Kv.mar_len x
theorem Kv.mars_lt {l : List Kv} (h : Kv.szs l < big) : ∀ s ∈ Kv.mars l, s.length < 2 ^ 64 := fun s hs => by
  rw [Kv.mars_map] at hs
  obtain ⟨k, hk, rfl⟩ := List.mem_map.1 hs
  have h1 := Kv.mar_len k; have h2 := Kv.sz_mem hk
  unfold big at h; omega
/-! Numbers: a double, or an integer. -/
def mayNum (k : Int) (n : Nat) : Bool := decide (0 ≤ k) && decide (k ≤ 2) && (decide (0 < k) || n == 0)
def selN (ns : List Nat) (l : List Fld) : List Fld := l.filter fun x => ns.contains x.num
theorem selN_app (ns : List Nat) (a b : List Fld) : selN ns (a ++ b) = selN ns a ++ selN ns b := by unfold selN; rw [List.filter_append]
theorem selN_of {n : Nat} {l : List Fld} (h : ∀ x ∈ l, x.num = n) (ns : List Nat) : selN ns l = if ns.contains n then l else [] := by
  unfold selN
  split
  · rename_i e
    exact List.filter_eq_self.2 fun x hx => by rw [h x hx]; exact e
  · rename_i e
    exact List.filter_eq_nil_iff.2 fun x hx => by rw [h x hx]; exact e
theorem oneF_selN (ns : List Nat) (l : List Fld) : oneF ns (selN ns l) = oneF ns l := by
  unfold oneF
  generalize noOne = o
  induction l generalizing o with
  | nil => rfl
  | cons x l ih =>
    unfold selN at ih ⊢
    rw [List.filter_cons, List.foldl_cons]
    cases hc : ns.contains x.num with
    | true => rw [if_pos rfl, List.foldl_cons]; exact ih _
    | false =>
      have : oneStep ns o x = o := by unfold oneStep; rw [hc]; rfl
      rw [if_neg (by simp), this]; exact ih _
section
variable (ns : List Nat) (n v : Nat) (s : List UInt8) (b : Bool)
theorem selN_fx : selN ns (fxF n v) = if ns.contains n then fxF n v else [] := selN_of (by unfold fxF; split <;> simp [e8R]) ns
theorem selN_op : selN ns (opF n b v) = if ns.contains n then opF n b v else [] := selN_of (by unfold opF; split <;> simp [e8R]) ns
theorem selN_tx : selN ns (txF n s) = if ns.contains n then txF n s else [] := selN_of (by unfold txF; split <;> simp [paR]) ns
theorem selN_ps (l : List (List UInt8)) : selN ns (psF n l) = if ns.contains n then psF n l else [] := selN_of (by unfold psF; simp [paR]) ns
theorem selN_vr : selN ns (vrF n v) = if ns.contains n then vrF n v else [] := selN_of (by unfold vrF; split <;> simp [fewR]) ns
theorem selN_pa : selN ns (paF n s) = if ns.contains n then paF n s else [] := selN_of (by unfold paF; simp [paR]) ns
theorem selN_fl : selN ns (flF n b) = if ns.contains n then flF n b else [] := selN_of (by unfold flF; split <;> simp [fewR]) ns
theorem tell_by : bytesL (txF n s) n = s := by
  unfold txF; split
  · rename_i h; rw [h]; rfl
  · unfold bytesL; simp [paR]
end
theorem tell_num {a b : Nat} (hab : a ≠ b) (ha : a ≠ 0) (hb : b ≠ 0) {k : Int} {v : Nat} (h : mayNum k v = true) : numKN a b (oneF [a, b] (opF a (k == 1) v ++ opF b (k == 2) v)) = (k.toNat, v) := by
  unfold mayNum at h
  simp only [Bool.and_eq_true, decide_eq_true_eq, Bool.or_eq_true, beq_iff_eq] at h
  obtain ⟨⟨h1, h2⟩, h3⟩ := h
  have h3 : k = 0 → v = 0 := fun hk => by rcases h3 with h3 | h3 <;> omega
  have hk : k = 0 ∨ k = 1 ∨ k = 2 := by omega
  rcases hk with rfl | rfl | rfl
  · have := h3 rfl; subst this
    show numKN a b noOne = _
    unfold numKN noOne
    rw [if_neg (fun h => ha h.symm), if_neg (fun h => hb h.symm)]; rfl
  · show numKN a b (oneStep [a, b] noOne (e8R a v)) = _
    have : oneStep [a, b] noOne (e8R a v) = ⟨a, v, [], [[]]⟩ := by
      unfold oneStep
      rw [if_pos (by simp [e8R])]
      split <;> simp [e8R, noOne]
    rw [this]; simp [numKN]
  · show numKN a b (oneStep [a, b] noOne (e8R b v)) = _
    have : oneStep [a, b] noOne (e8R b v) = ⟨b, v, [], [[]]⟩ := by
      unfold oneStep
      rw [if_pos (by simp [e8R])]
      split <;> simp [e8R, noOne]
    rw [this]; simp [numKN, Ne.symm hab]
theorem oneF_num {ns : List Nat} {l : List Fld} (h : ∀ x ∈ l, FOk x) : (oneF ns l).n < 2 ^ 64 := (oneF_ok h).1
theorem num_told {a b : Nat} {l : List Fld} (h : ∀ x ∈ l, FOk x) : mayNum ((numKN a b (oneF [a, b] l)).1 : Int) (numKN a b (oneF [a, b] l)).2 = true ∧ (numKN a b (oneF [a, b] l)).2 < 2 ^ 64 := by
  have := oneF_num (ns := [a, b]) h
  unfold numKN
  split
  · exact ⟨rfl, this⟩
  · split
    · exact ⟨rfl, this⟩
    · exact ⟨rfl, by show 0 < 2 ^ 64; omega⟩
/-- The last one counts, of two lists. -/
theorem oneF_fold {ns : List Nat} : ∀ (l : List Fld) (o : OneS), ((l.foldl (oneStep ns) o).num, (l.foldl (oneStep ns) o).n) = if (selN ns l).isEmpty then (o.num, o.n) else ((oneF ns l).num, (oneF ns l).n)
  | [], o => rfl
  | x :: l, o => by
    have e : selN ns (x :: l) = if ns.contains x.num then x :: selN ns l else selN ns l := by unfold selN; rw [List.filter_cons]
    have e2 : oneF ns (x :: l) = l.foldl (oneStep ns) (oneStep ns noOne x) := rfl
    rw [List.foldl_cons, e]
    cases hc : ns.contains x.num with
    | false =>
      have h : ∀ o, oneStep ns o x = o := fun o => by unfold oneStep; rw [hc]; rfl
      rw [h, oneF_fold l, e2, h]; rfl
    | true =>
      have h : ∀ o, ((oneStep ns o x).num, (oneStep ns o x).n) = (x.num, x.n) := fun o => by
        unfold oneStep; rw [hc]; simp only [if_true]; split <;> rfl
      rw [if_pos rfl, List.isEmpty_cons, if_neg (by simp), e2, oneF_fold l (oneStep ns noOne x), oneF_fold l (oneStep ns o x), h, h]
theorem fxV_len (n v : Nat) : (fxV n v).length ≤ 18 := by
  have := e8V_len n v
  unfold fxV; split
  · simp
  · exact this
theorem opV_len (n : Nat) (b : Bool) (v : Nat) : (opV n b v).length ≤ 18 := by
  cases b with
  | false => simp [opV]
  | true => exact e8V_len n v
theorem parts_of {α : Type} (ok : List UInt8 → Option α) {n : Nat} {l : List Fld} {ms : List (List UInt8)} (h : sel n l = psF n ms) : partsO ok n l = mapO ok ms := by
  have h2 := tell_ps n ok ms
  unfold partsO at h2 ⊢
  rw [sel_ps, if_pos rfl] at h2
  rw [h, h2]
theorem last_fx {n v : Nat} {l : List Fld} (h : sel n l = fxF n v) : (lastF l n).n = v := by rw [← sel_last, h]; exact tell_fx n v
theorem last_vr {n v : Nat} {l : List Fld} (h : sel n l = vrF n v) : (lastF l n).n = v := by rw [← sel_last, h]; exact tell_vr n v
theorem last_tx {n : Nat} {s : List UInt8} {l : List Fld} (h : sel n l = txF n s) : (lastF l n).s = s := by rw [← sel_last, h]; exact tell_tx n s
theorem bytes_tx {n : Nat} {s : List UInt8} {l : List Fld} (h : sel n l = txF n s) : bytesL l n = s := by
  have h2 := tell_by n s
  rw [bytesL_sel] at h2 ⊢
  rw [sel_tx, if_pos rfl] at h2
  rw [h, h2]
end Go.Proofs.YtaenjdichndafaaGreatDoor
