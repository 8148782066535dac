/- Values and attributes: what they are, their bytes, what may be, what is read. -/
import Derived.Test.YtaenjdichndafaaGreatDoorP5
import Derived.Test.YtaenjdichndafaaGreatDoorW3
set_option linter.unusedSimpArgs false
set_option linter.unusedVariables false
set_option maxRecDepth 100000
namespace Go.Proofs.YtaenjdichndafaaGreatDoor
open Go Go.Abs
mutual
inductive Vl where
  | mk (kind : Int) (s : List UInt8) (b : Bool) (n : Nat) (l : List Vl) (m : List Kv) (inner u : List UInt8)
inductive Kv where
  | mk (key : List UInt8) (has : Bool) (v : Vl) (u : List UInt8)
end
def noVl : Vl := .mk 0 [] false 0 [] [] [] []
/-! How much there is. -/
mutual
def Vl.sz : Vl → Nat
  | .mk _ s _ _ l m inner u => 60 + s.length + inner.length + u.length + Vl.szs l + Kv.szs m
def Vl.szs : List Vl → Nat
  | [] => 0
  | v :: r => v.sz + Vl.szs r
def Kv.sz : Kv → Nat
  | .mk key _ v u => 40 + key.length + u.length + v.sz
def Kv.szs : List Kv → Nat
  | [] => 0
  | k :: r => k.sz + Kv.szs r
end
theorem Vl.sz_mem : ∀ {l : List Vl} {v : Vl}, v ∈ l → v.sz ≤ Vl.szs l
  | x :: l, v, h => by
    rcases List.mem_cons.1 h with rfl | h
    · simp [Vl.szs]
    · have := Vl.sz_mem h; simp [Vl.szs]; omega
theorem Kv.sz_mem : ∀ {l : List Kv} {v : Kv}, v ∈ l → v.sz ≤ Kv.szs l
  | x :: l, v, h => by
    rcases List.mem_cons.1 h with rfl | h
    · simp [Kv.szs]
    · have := Kv.sz_mem h; simp [Kv.szs]; omega
/-! The numbers are numbers. -/
mutual
def Vl.wf : Vl → Prop
  | .mk kind _ _ n l m _ _ => -9223372036854775808 ≤ kind ∧ kind < 9223372036854775808 ∧ n < 2 ^ 64 ∧ Vl.wfs l ∧ Kv.wfs m
def Vl.wfs : List Vl → Prop
  | [] => True
  | v :: r => v.wf ∧ Vl.wfs r
def Kv.wf : Kv → Prop
  | .mk _ _ v _ => v.wf
def Kv.wfs : List Kv → Prop
  | [] => True
  | k :: r => k.wf ∧ Kv.wfs r
end
theorem Vl.wf_mem : ∀ {l : List Vl}, Vl.wfs l → ∀ v ∈ l, v.wf
  | x :: l, h, v, hv => by
    rcases List.mem_cons.1 hv with rfl | hv
    · exact h.1
    · exact Vl.wf_mem h.2 v hv
theorem Kv.wf_mem : ∀ {l : List Kv}, Kv.wfs l → ∀ v ∈ l, v.wf
  | x :: l, h, v, hv => by
    rcases List.mem_cons.1 hv with rfl | hv
    · exact h.1
    · exact Kv.wf_mem h.2 v hv
theorem Vl.wf_of : ∀ {l : List Vl}, (∀ v ∈ l, v.wf) → Vl.wfs l
  | [], _ => trivial
  | x :: l, h => ⟨h x (List.mem_cons_self ..), Vl.wf_of fun v hv => h v (List.mem_cons_of_mem _ hv)⟩
theorem Kv.wf_of : ∀ {l : List Kv}, (∀ v ∈ l, v.wf) → Kv.wfs l
  | [], _ => trivial
  | x :: l, h => ⟨h x (List.mem_cons_self ..), Kv.wf_of fun v hv => h v (List.mem_cons_of_mem _ hv)⟩
/-! Their bytes. -/
mutual
def Vl.mar : Vl → List UInt8
  | .mk kind s b n l m inner u =>
    (if kind = 1 then paV 1 s else if kind = 7 then paV 7 s else if kind = 2 then fewV 2 (if b then 1 else n) else if kind = 3 then fewV 3 n else if kind = 4 then e8V 4 n
      else if kind = 5 then paV 5 (psV 1 (Vl.mars l) ++ inner) else if kind = 6 then paV 6 (psV 1 (Kv.mars m) ++ inner) else []) ++ u
def Vl.mars : List Vl → List (List UInt8)
  | [] => []
  | v :: r => v.mar :: Vl.mars r
def Kv.mar : Kv → List UInt8
  | .mk key has v u => txV 1 key ++ (if has then paV 2 v.mar else []) ++ u
def Kv.mars : List Kv → List (List UInt8)
  | [] => []
  | k :: r => k.mar :: Kv.mars r
end
theorem Vl.mars_map : ∀ l : List Vl, Vl.mars l = l.map Vl.mar
  | [] => rfl
  | v :: l => by rw [Vl.mars, Vl.mars_map l]; rfl
theorem Kv.mars_map : ∀ l : List Kv, Kv.mars l = l.map Kv.mar
  | [] => rfl
  | v :: l => by rw [Kv.mars, Kv.mars_map l]; rfl
theorem paV_len (n : Nat) (s : List UInt8) : (paV n s).length ≤ 20 + s.length := by
  have := tagV_len n 2; have := putV_len s.length
  unfold paV; simp; omega
theorem txV_len (n : Nat) (s : List UInt8) : (txV n s).length ≤ 20 + s.length := by
  have := paV_len n s
  unfold txV; split <;> simp; omega
theorem fewV_len (n v : Nat) : (fewV n v).length ≤ 20 := by
  have := tagV_len n 0; have := putV_len v
  unfold fewV; simp; omega
theorem e8V_len (n v : Nat) : (e8V n v).length ≤ 18 := by
  have := tagV_len n 1; have := le8_len v
  unfold e8V; simp; omega
theorem psV_cons (n : Nat) (s : List UInt8) (l : List (List UInt8)) : psV n (s :: l) = paV n s ++ psV n l := rfl
mutual
theorem Vl.mar_len : ∀ v : Vl, v.mar.length + 20 ≤ v.sz
  | .mk kind s b n l m inner u => by
    have h1 := paV_len 1 s
    have h2 := paV_len 7 s
    have h3 := fewV_len 2 (if b then 1 else n)
    have h4 := fewV_len 3 n
    have h5 := e8V_len 4 n
    have h6 := paV_len 5 (psV 1 (Vl.mars l) ++ inner)
    have h7 := paV_len 6 (psV 1 (Kv.mars m) ++ inner)
    have h8 := Vl.mars_len l
    have h9 := Kv.mars_len m
    rw [List.length_append] at h6 h7
    unfold Vl.mar Vl.sz
    rw [List.length_append]
    split
    · omega
    split
    · omega
    split
    · omega
    split
    · omega
    split
    · omega
    split
    · omega
    split
    · omega
    · simp; omega
theorem Vl.mars_len : ∀ l : List Vl, (psV 1 (Vl.mars l)).length ≤ Vl.szs l
  | [] => by simp [Vl.mars, Vl.szs, psV]
  | v :: r => by
    have h1 := Vl.mar_len v
    have h2 := Vl.mars_len r
    have h3 := paV_len 1 v.mar
    unfold Vl.mars Vl.szs
    rw [psV_cons, List.length_append]; omega
theorem Kv.mar_len : ∀ k : Kv, k.mar.length + 20 ≤ k.sz
  | .mk key has v u => by
    have h1 := Vl.mar_len v
    have h2 := txV_len 1 key
    have h3 := paV_len 2 v.mar
    unfold Kv.mar Kv.sz
    rw [List.length_append, List.length_append]
    split
    · omega
    · simp; omega
theorem Kv.mars_len : ∀ l : List Kv, (psV 1 (Kv.mars l)).length ≤ Kv.szs l
  | [] => by simp [Kv.mars, Kv.szs, psV]
  | v :: r => by
    have h1 := Kv.mar_len v
    have h2 := Kv.mars_len r
    have h3 := paV_len 1 v.mar
    unfold Kv.mars Kv.szs
    rw [psV_cons, List.length_append]; omega
end
/-! May they be? -/
def nestB (ll lm : Nat) (inner : List UInt8) : Bool := ll == 0 && lm == 0 && inner == []
def bareV (kind : Int) (s : List UInt8) (b : Bool) (n ll lm : Nat) (inner : List UInt8) : Bool :=
  if kind = 1 then txt s && (n == 0 && !b && nestB ll lm inner)
  else if kind = 7 then n == 0 && !b && nestB ll lm inner
  else if kind = 2 then s == [] && n == 0 && nestB ll lm inner
  else if kind = 3 ∨ kind = 4 then s == [] && !b && nestB ll lm inner
  else if kind = 0 then s == [] && n == 0 && !b && nestB ll lm inner
  else if kind = 5 then s == [] && n == 0 && !b && lm == 0
  else if kind = 6 then s == [] && n == 0 && !b && ll == 0
  else false
def Vl.isNo : Vl → Bool
  | .mk kind s b n l m inner u => kind == 0 && s == [] && b == false && n == 0 && inner == [] && u == [] && l.length == 0 && m.length == 0
mutual
def Vl.may : Vl → Int → Bool
  | .mk kind s b n l m inner u, d => decide (0 ≤ d) && bareV kind s b n l.length m.length inner && restB tbV u d &&
    (if kind = 5 ∨ kind = 6 then decide (1 ≤ d) && restB tbL inner (d - 1) && Vl.mays l (d - 2) && Kv.mays m (d - 2) else true)
def Vl.mays : List Vl → Int → Bool
  | [], _ => true
  | v :: r, d => v.may d && Vl.mays r d
def Kv.may : Kv → Int → Bool
  | .mk key has v u, d => decide (0 ≤ d) && txt key && restB tbK u d && (if has then v.may (d - 1) else v.isNo)
def Kv.mays : List Kv → Int → Bool
  | [], _ => true
  | k :: r, d => k.may d && Kv.mays r d
end
theorem Vl.mays_all : ∀ (l : List Vl) (d : Int), Vl.mays l d = l.all fun v => v.may d
  | [], _ => rfl
  | v :: l, d => by rw [Vl.mays, Vl.mays_all l d]; rfl
theorem Kv.mays_all : ∀ (l : List Kv) (d : Int), Kv.mays l d = l.all fun v => v.may d
  | [], _ => rfl
  | v :: l, d => by rw [Kv.mays, Kv.mays_all l d]; rfl
theorem Vl.isNo_eq {v : Vl} (h : v.isNo = true) : v = noVl := by
  cases v with
  | mk kind s b n l m inner u =>
  unfold Vl.isNo at h
  simp at h
  obtain ⟨⟨⟨⟨⟨⟨⟨rfl, rfl⟩, rfl⟩, rfl⟩, rfl⟩, rfl⟩, rfl⟩, rfl⟩ := h
  rfl
/-! What is read. -/
/-- What a value's records tell; its elements' readers stand two levels below. -/
def tellV (oe : List UInt8 → Option Vl) (ok : List UInt8 → Option Kv) (d : Int) (l : List Fld) : Option (List UInt8 → Vl) :=
  if ((sel 1 l).all fun x => txt x.s) = false then none else
  let o := oneF [1, 2, 3, 4, 5, 6, 7] l
  if o.num = 1 ∨ o.num = 7 then some fun u => .mk o.num o.s false 0 [] [] [] u
  else if o.num = 2 then some fun u => .mk 2 [] (decide (0 < o.n)) 0 [] [] [] u
  else if o.num = 3 ∨ o.num = 4 then some fun u => .mk o.num [] false o.n [] [] [] u
  else if o.num = 5 then (match okG tbL (fun _ l => partsO oe 1 l) o.all.flatten (d - 1) with
    | none => none
    | some p => some fun u => .mk 5 [] false 0 p.1 [] p.2 u)
  else if o.num = 6 then (match okG tbL (fun _ l => partsO ok 1 l) o.all.flatten (d - 1) with
    | none => none
    | some p => some fun u => .mk 6 [] false 0 [] p.1 p.2 u)
  else some fun u => .mk 0 [] false 0 [] [] [] u
def tellK (ov : List UInt8 → Option Vl) (d : Int) (l : List Fld) : Option (List UInt8 → Kv) :=
  if ((sel 1 l).all fun x => txt x.s) = false then none else
  match partO ov noVl 2 l with
  | none => none
  | some p => some fun u => .mk (lastF l 1).s p.1 p.2 u
def apO {α : Type} (p : Option ((List UInt8 → α) × List UInt8)) : Option α := p.map fun p => p.1 p.2
def okVK : Nat → (List UInt8 → Option Vl) × (List UInt8 → Option Kv)
  | 0 => (fun _ => none, fun _ => none)
  | 1 => (fun s => apO (okG tbV (tellV (fun _ => none) (fun _ => none)) s 0), fun s => apO (okG tbK (tellK fun _ => none) s 0))
  | k + 2 => (fun s => apO (okG tbV (tellV (okVK k).1 (okVK k).2) s ((k : Int) + 1)), fun s => apO (okG tbK (tellK (okVK (k + 1)).1) s ((k : Int) + 1)))
def okV (s : List UInt8) (d : Int) : Option Vl := (okVK (d + 1).toNat).1 s
def okK (s : List UInt8) (d : Int) : Option Kv := (okVK (d + 1).toNat).2 s
theorem okV_eq (s : List UInt8) (d : Int) : okV s d = apO (okG tbV (tellV (fun s => okV s (d - 2)) fun s => okK s (d - 2)) s d) := by
  rcases Int.lt_or_le d 0 with h | h
  · rw [okG_neg h]
    unfold okV
    rw [show (d + 1).toNat = 0 by omega]; rfl
  · obtain ⟨k, rfl⟩ : ∃ n : Nat, d = n := ⟨d.toNat, by omega⟩
    rcases k with _ | k
    · rfl
    · unfold okV okK
      rw [show (((k + 1 : Nat) : Int) + 1).toNat = k + 2 by omega, show (((k + 1 : Nat) : Int) - 2 + 1).toNat = k by omega]
      rfl
theorem okK_eq (s : List UInt8) (d : Int) : okK s d = apO (okG tbK (tellK fun s => okV s (d - 1)) s d) := by
  rcases Int.lt_or_le d 0 with h | h
  · rw [okG_neg h]
    unfold okK
    rw [show (d + 1).toNat = 0 by omega]; rfl
  · obtain ⟨k, rfl⟩ : ∃ n : Nat, d = n := ⟨d.toNat, by omega⟩
    rcases k with _ | k
    · rfl
    · unfold okV okK
      rw [show (((k + 1 : Nat) : Int) + 1).toNat = k + 2 by omega, show (((k + 1 : Nat) : Int) - 1 + 1).toNat = k + 1 by omega]
      rfl
end Go.Proofs.YtaenjdichndafaaGreatDoor
