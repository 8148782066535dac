/- What a message's records of a number tell; what is written, as records. -/
import Derived.Test.YtaenjdichndafaaGreatDoorP4
import Derived.Test.YtaenjdichndafaaGreatDoorW0
set_option linter.unusedSimpArgs false
set_option linter.unusedVariables false
set_option maxRecDepth 100000
namespace Go.Proofs.YtaenjdichndafaaGreatDoor
open Go Go.Abs
/-- The records of a number. -/
def sel (num : Nat) (l : List Fld) : List Fld := l.filter fun x => x.num == num
theorem sel_nil (m : Nat) : sel m [] = [] := rfl
theorem sel_app (m : Nat) (a b : List Fld) : sel m (a ++ b) = sel m a ++ sel m b := by unfold sel; rw [List.filter_append]
theorem sel_cons (m : Nat) (x : Fld) (l : List Fld) : sel m (x :: l) = if x.num = m then x :: sel m l else sel m l := by
  unfold sel
  rw [List.filter_cons]
  by_cases h : x.num = m <;> simp [h]
theorem sel_mem {m : Nat} {l : List Fld} {x : Fld} : x ∈ sel m l ↔ x ∈ l ∧ x.num = m := by unfold sel; simp
theorem sel_of {n : Nat} {l : List Fld} (h : ∀ x ∈ l, x.num = n) (m : Nat) : sel m l = if n = m then l else [] := by
  unfold sel
  split
  · rename_i e; subst e
    exact List.filter_eq_self.2 fun x hx => by simpa using h x hx
  · rename_i e
    exact List.filter_eq_nil_iff.2 fun x hx => by have := h x hx; simp; omega
theorem sel_any (m : Nat) (l : List Fld) : anyL (sel m l) m = anyL l m := by
  induction l with
  | nil => rfl
  | cons x l ih => rw [sel_cons, anyL_cons]; split <;> (rename_i h; simp [anyL_cons, h, ih])
theorem sel_last (m : Nat) (l : List Fld) : lastF (sel m l) m = lastF l m := by
  induction l with
  | nil => rfl
  | cons x l ih =>
    rw [sel_cons, lastF_cons]
    split
    · rename_i h; rw [lastF_cons, sel_any, ih, if_pos h]
    · rename_i h
      rw [ih]
      cases ha : anyL l m with
      | true => simp
      | false => rw [lastF_no ha]; simp [h]

theorem sel_pack (rd : List UInt8 → Except Er (List Nat)) (m : Nat) (l : List Fld) : packO rd m (sel m l) = packO rd m l := by
  induction l with
  | nil => rfl
  | cons x l ih => rw [sel_cons]; split <;> (rename_i h; simp [packO, h, ih])
theorem anyL_sel (m : Nat) (l : List Fld) : anyL l m = !(sel m l).isEmpty := by
  induction l with
  | nil => rfl
  | cons x l ih => rw [sel_cons, anyL_cons, ih]; split <;> (rename_i h; simp [h])
theorem bytesL_sel (m : Nat) (l : List Fld) : bytesL l m = (sel m l).flatMap Fld.s := rfl
theorem fok_sel {l : List Fld} (h : ∀ x ∈ l, FOk x) (m : Nat) : ∀ x ∈ sel m l, FOk x := fun x hx => h x (sel_mem.1 hx).1
/-- One by one, if all of them can be. -/
def mapO {α β : Type} (f : α → Option β) : List α → Option (List β)
  | [] => some []
  | x :: l => match f x with
    | none => none
    | some y => match mapO f l with
      | none => none
      | some r => some (y :: r)
section
variable {α β γ : Type} {f g : α → Option β}
theorem mapO_some : ∀ {l : List α} {r : List β}, mapO f l = some r → l.length = r.length ∧ ∀ (i : Nat) (x : α) (y : β), l[i]? = some x → r[i]? = some y → f x = some y
  | [], r, h => by simp [mapO] at h; subst h; simp
  | x :: l, r, h => by
    unfold mapO at h
    split at h
    · simp at h
    · rename_i y hy
      split at h
      · simp at h
      · rename_i r' hr
        injection h with h; subst h
        obtain ⟨h1, h2⟩ := mapO_some hr
        refine ⟨by simp [h1], fun i a b ha hb => ?_⟩
        cases i with
        | zero => simp at ha hb; subst ha; subst hb; exact hy
        | succ i => simp at ha hb; exact h2 i a b ha hb
theorem mapO_mem : ∀ {l : List α} {r : List β}, mapO f l = some r → ∀ y ∈ r, ∃ x ∈ l, f x = some y
  | [], r, h => by simp [mapO] at h; subst h; simp
  | x :: l, r, h => by
    unfold mapO at h
    split at h
    · simp at h
    · rename_i y hy
      split at h
      · simp at h
      · rename_i r' hr
        injection h with h; subst h
        intro b hb
        rcases List.mem_cons.1 hb with rfl | hb
        · exact ⟨x, List.mem_cons_self .., hy⟩
        · obtain ⟨a, h1, h2⟩ := mapO_mem hr b hb
          exact ⟨a, List.mem_cons_of_mem _ h1, h2⟩
theorem mapO_get : ∀ {l : List α} {r : List β}, mapO f l = some r → ∀ x ∈ l, ∃ y ∈ r, f x = some y
  | [], r, h => by simp
  | x :: l, r, h => by
    unfold mapO at h
    split at h
    · simp at h
    · rename_i y hy
      split at h
      · simp at h
      · rename_i r' hr
        injection h with h; subst h
        intro b hb
        rcases List.mem_cons.1 hb with rfl | hb
        · exact ⟨y, List.mem_cons_self .., hy⟩
        · obtain ⟨a, h1, h2⟩ := mapO_get hr b hb
          exact ⟨a, List.mem_cons_of_mem _ h1, h2⟩
theorem mapO_none : ∀ {l : List α} {x : α}, x ∈ l → f x = none → mapO f l = none
  | y :: l, x, hx, h => by
    unfold mapO
    rcases List.mem_cons.1 hx with rfl | hx
    · rw [h]
    · cases f y with
      | none => rfl
      | some z => simp only; rw [mapO_none hx h]
theorem mapO_nget : ∀ {l : List α}, mapO f l = none → ∃ x ∈ l, f x = none
  | [], h => by simp [mapO] at h
  | y :: l, h => by
    unfold mapO at h
    split at h
    · rename_i hy; exact ⟨y, List.mem_cons_self .., hy⟩
    · split at h
      · rename_i hr
        obtain ⟨x, h1, h2⟩ := mapO_nget hr
        exact ⟨x, List.mem_cons_of_mem _ h1, h2⟩
      · simp at h
theorem mapO_app : ∀ {a b : List α}, mapO f (a ++ b) = (match mapO f a with
    | none => none
    | some x => match mapO f b with
      | none => none
      | some y => some (x ++ y))
  | [], b => by simp only [List.nil_append, mapO]; cases mapO f b <;> rfl
  | x :: a, b => by
    simp only [List.cons_append, mapO]
    cases f x with
    | none => rfl
    | some y =>
      simp only
      rw [mapO_app]
      cases mapO f a with
      | none => rfl
      | some r => simp only; cases mapO f b <;> rfl
theorem mapO_map (h : γ → α) : ∀ (l : List γ), mapO f (l.map h) = mapO (fun x => f (h x)) l
  | [] => rfl
  | x :: l => by simp only [List.map_cons, mapO, mapO_map h l]
theorem mapO_id {h : β → α} : ∀ {l : List β}, (∀ y ∈ l, f (h y) = some y) → mapO f (l.map h) = some l
  | [], _ => rfl
  | y :: l, k => by
    simp only [List.map_cons, mapO, k y (List.mem_cons_self ..)]
    rw [mapO_id fun z hz => k z (List.mem_cons_of_mem _ hz)]
theorem mapO_congr : ∀ {l : List α}, (∀ x ∈ l, f x = g x) → mapO f l = mapO g l
  | [], _ => rfl
  | x :: l, h => by
    simp only [mapO]
    rw [h x (List.mem_cons_self ..), mapO_congr fun z hz => h z (List.mem_cons_of_mem _ hz)]
end
/-- A list of parts. -/
def partsO {α : Type} (ok : List UInt8 → Option α) (num : Nat) (l : List Fld) : Option (List α) := mapO (fun x => ok x.s) (sel num l)
theorem partsO_app {α : Type} (ok : List UInt8 → Option α) (num : Nat) (a b : List Fld) : partsO ok num (a ++ b) = (match partsO ok num a with
    | none => none
    | some x => match partsO ok num b with
      | none => none
      | some y => some (x ++ y)) := by unfold partsO; rw [sel_app, mapO_app]
/-- A part that may lack. -/
def partO {α : Type} (ok : List UInt8 → Option α) (z : α) (num : Nat) (l : List Fld) : Option (Bool × α) :=
  if anyL l num then (match ok (bytesL l num) with | none => none | some x => some (true, x)) else some (false, z)
/-! What is written, as records. -/
def fxV (n v : Nat) : List UInt8 := if v = 0 then [] else tagV n 1 ++ le8 v
def e8V (n v : Nat) : List UInt8 := tagV n 1 ++ le8 v
def paV (n : Nat) (s : List UInt8) : List UInt8 := tagV n 2 ++ (putV s.length ++ s)
def txV (n : Nat) (s : List UInt8) : List UInt8 := if s = [] then [] else paV n s
def psV (n : Nat) (l : List (List UInt8)) : List UInt8 := l.flatMap (paV n)
def opV (n : Nat) (h : Bool) (v : Nat) : List UInt8 := if h then e8V n v else []
def fewV (n v : Nat) : List UInt8 := tagV n 0 ++ putV v
def flV (n : Nat) (b : Bool) : List UInt8 := if b then fewV n 1 else []
def packW (l : List Nat) : List UInt8 := l.flatMap le8
def pwV (n : Nat) (cs : List Nat) : List UInt8 := txV n (packW cs)
def e8R (n v : Nat) : Fld := ⟨n, 1, v, [], e8V n v⟩
def paR (n : Nat) (s : List UInt8) : Fld := ⟨n, 2, 0, s, paV n s⟩
def fewR (n v : Nat) : Fld := ⟨n, 0, v, [], fewV n v⟩
def fxF (n v : Nat) : List Fld := if v = 0 then [] else [e8R n v]
def e8F (n v : Nat) : List Fld := [e8R n v]
def paF (n : Nat) (s : List UInt8) : List Fld := [paR n s]
def txF (n : Nat) (s : List UInt8) : List Fld := if s = [] then [] else [paR n s]
def psF (n : Nat) (l : List (List UInt8)) : List Fld := l.map (paR n)
def opF (n : Nat) (h : Bool) (v : Nat) : List Fld := if h then [e8R n v] else []
def fewF (n v : Nat) : List Fld := [fewR n v]
def vrF (n v : Nat) : List Fld := if v = 0 then [] else [fewR n v]
def flF (n : Nat) (b : Bool) : List Fld := if b then [fewR n 1] else []
def pwF (n : Nat) (cs : List Nat) : List Fld := txF n (packW cs)
section
variable {n v : Nat} (h1 : 1 ≤ n) (h2 : n ≤ 536870911) (d : Int)
include h1 h2
theorem all_e8 (hv : v < 2 ^ 64) : all (e8V n v) d = .ok [e8R n v] := by
  have h := recE_f64 d (le8 v) h1 h2 (le8_len v)
  rw [le8_N hv] at h
  exact rec_all h
theorem all_fx (hv : v < 2 ^ 64) : all (fxV n v) d = .ok (fxF n v) := by
  unfold fxV fxF
  split
  · exact all_nil d
  · exact all_e8 h1 h2 d hv
theorem all_op (b : Bool) (hv : v < 2 ^ 64) : all (opV n b v) d = .ok (opF n b v) := by
  cases b with
  | false => exact all_nil d
  | true => exact all_e8 h1 h2 d hv
theorem all_pa {s : List UInt8} (hs : s.length < 2 ^ 64) : all (paV n s) d = .ok [paR n s] := rec_all (recE_str d s h1 h2 hs)
theorem all_tx {s : List UInt8} (hs : s.length < 2 ^ 64) : all (txV n s) d = .ok (txF n s) := by
  unfold txV txF
  split
  · exact all_nil d
  · exact all_pa h1 h2 d hs
theorem all_ps : ∀ {l : List (List UInt8)}, (∀ s ∈ l, s.length < 2 ^ 64) → all (psV n l) d = .ok (psF n l)
  | [], _ => all_nil d
  | s :: l, h => all_app_ok (all_pa h1 h2 d (h s (List.mem_cons_self ..))) (all_ps fun t ht => h t (List.mem_cons_of_mem _ ht))
theorem all_few (hv : v < 2 ^ 64) : all (fewV n v) d = .ok [fewR n v] := rec_all (recE_var d h1 h2 hv)
theorem all_vr (hv : v < 2 ^ 64) : all (vrV n v) d = .ok (vrF n v) := by
  unfold vrV vrF
  split
  · exact all_nil d
  · exact all_few h1 h2 d hv
theorem all_fl (b : Bool) : all (flV n b) d = .ok (flF n b) := by
  cases b with
  | false => exact all_nil d
  | true => exact all_few h1 h2 d (by omega)
end
theorem pkV_tx (n : Nat) (cs : List Nat) : pkV n cs = txV n (packV cs) := by
  unfold pkV txV
  by_cases h : cs = []
  · subst h; rfl
  · rw [if_neg h, if_neg]
    · rfl
    · cases cs with
      | nil => exact absurd rfl h
      | cons c cs => simp [packV, putV_ne]
theorem packW_len (l : List Nat) : (packW l).length = 8 * l.length := by
  induction l with
  | nil => rfl
  | cons n l ih => simp [packW, le8_len] at *; omega
section
variable (n m v : Nat) (s : List UInt8) (b : Bool)
theorem sel_fx : sel m (fxF n v) = if n = m then fxF n v else [] := sel_of (by unfold fxF; split <;> simp [e8R]) m
theorem sel_e8 : sel m (e8F n v) = if n = m then e8F n v else [] := sel_of (by unfold e8F; simp [e8R]) m
theorem sel_op : sel m (opF n b v) = if n = m then opF n b v else [] := sel_of (by unfold opF; split <;> simp [e8R]) m
theorem sel_pa : sel m (paF n s) = if n = m then paF n s else [] := sel_of (by unfold paF; simp [paR]) m
theorem sel_tx : sel m (txF n s) = if n = m then txF n s else [] := sel_of (by unfold txF; split <;> simp [paR]) m
theorem sel_ps (l : List (List UInt8)) : sel m (psF n l) = if n = m then psF n l else [] := sel_of (by unfold psF; simp [paR]) m
theorem sel_few : sel m (fewF n v) = if n = m then fewF n v else [] := sel_of (by unfold fewF; simp [fewR]) m
theorem sel_vr : sel m (vrF n v) = if n = m then vrF n v else [] := sel_of (by unfold vrF; split <;> simp [fewR]) m
theorem sel_fl : sel m (flF n b) = if n = m then flF n b else [] := sel_of (by unfold flF; split <;> simp [fewR]) m
end
theorem known_of {tb : Nat → Nat → Bool} {l : List Fld} (h : ∀ x ∈ l, isT tb x = true) : knownL tb l = l ∧ unkL tb l = [] := by
  refine ⟨List.filter_eq_self.2 h, ?_⟩
  unfold unkL
  rw [List.filter_eq_nil_iff.2 fun x hx => by rw [h x hx]; simp]; rfl
def inT (tb : Nat → Nat → Bool) (l : List Fld) : Bool := l.all (isT tb)
theorem inT_app (tb : Nat → Nat → Bool) (a b : List Fld) : inT tb (a ++ b) = (inT tb a && inT tb b) := by unfold inT; rw [List.all_append]
theorem known_in {tb : Nat → Nat → Bool} {l : List Fld} (h : inT tb l = true) : knownL tb l = l ∧ unkL tb l = [] := known_of fun x hx => List.all_eq_true.1 h x hx
section
variable {tb : Nat → Nat → Bool} (n v : Nat) (s : List UInt8) (b : Bool)
theorem in_fx (h : tb n 1 = true) : inT tb (fxF n v) = true := by unfold fxF inT; split <;> simp [isT, e8R, h]
theorem in_e8 (h : tb n 1 = true) : inT tb (e8F n v) = true := by unfold e8F inT; simp [isT, e8R, h]
theorem in_op (h : tb n 1 = true) : inT tb (opF n b v) = true := by unfold opF inT; split <;> simp [isT, e8R, h]
theorem in_pa (h : tb n 2 = true) : inT tb (paF n s) = true := by unfold paF inT; simp [isT, paR, h]
theorem in_tx (h : tb n 2 = true) : inT tb (txF n s) = true := by unfold txF inT; split <;> simp [isT, paR, h]
theorem in_ps (l : List (List UInt8)) (h : tb n 2 = true) : inT tb (psF n l) = true := by unfold psF inT; simp [isT, paR, h]
theorem in_few (h : tb n 0 = true) : inT tb (fewF n v) = true := by unfold fewF inT; simp [isT, fewR, h]
theorem in_vr (h : tb n 0 = true) : inT tb (vrF n v) = true := by unfold vrF inT; split <;> simp [isT, fewR, h]
theorem in_fl (h : tb n 0 = true) : inT tb (flF n b) = true := by unfold flF inT; split <;> simp [isT, fewR, h]
end
section
variable (n v : Nat) (s : List UInt8) (b : Bool)
theorem last_one (x : Fld) (h : x.num = n) : lastF [x] n = x := by rw [lastF_cons, if_neg (by simp [anyL]), if_pos h]
theorem tell_fx : (lastF (fxF n v) n).n = v := by
  unfold fxF; split
  · rename_i h; rw [h]; rfl
  · rw [last_one n _ rfl]; rfl
theorem tell_tx : (lastF (txF n s) n).s = s := by
  unfold txF; split
  · rename_i h; rw [h]; rfl
  · rw [last_one n _ rfl]; rfl
theorem tell_vr : (lastF (vrF n v) n).n = v := by
  unfold vrF; split
  · rename_i h; rw [h]; rfl
  · rw [last_one n _ rfl]; rfl
theorem tell_fl : decide (0 < (lastF (flF n b) n).n) = b := by
  cases b with
  | false => rfl
  | true =>
    show decide (0 < (lastF [fewR n 1] n).n) = true
    rw [last_one n _ rfl]; rfl
theorem tell_op (h : b = true ∨ v = 0) : anyL (opF n b v) n = b ∧ (lastF (opF n b v) n).n = v := by
  cases b with
  | false =>
    have : v = 0 := by simpa using h
    subst this; exact ⟨rfl, rfl⟩
  | true =>
    show anyL [e8R n v] n = true ∧ (lastF [e8R n v] n).n = v
    rw [last_one n _ rfl]; simp [anyL, e8R]
theorem tell_ps {α : Type} (ok : List UInt8 → Option α) (l : List (List UInt8)) : partsO ok n (psF n l) = mapO ok l := by
  unfold partsO
  rw [sel_ps, if_pos rfl]
  unfold psF
  rw [mapO_map]
  exact mapO_congr fun x _ => rfl
theorem tell_pk {rd : List UInt8 → Except Er (List Nat)} {cs : List Nat} (h0 : s = [] → cs = []) (h : rd s = .ok cs) : packO rd n (txF n s) = some cs := by
  unfold txF; split
  · rename_i e; rw [h0 e]; rfl
  · unfold packO paR
    simp only [if_true, h]
    simp [packO]
end
end Go.Proofs.YtaenjdichndafaaGreatDoor
