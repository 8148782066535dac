/- What is read, with records behind it and before it; one behind the other. -/
import Derived.Test.YtaenjdichndafaaGreatDoorWB
set_option linter.unusedSimpArgs false
set_option linter.unusedVariables false
set_option maxRecDepth 100000
namespace Go.Proofs.YtaenjdichndafaaGreatDoor
open Go Go.Abs
section
variable {α : Type} {tb : Nat → Nat → Bool} {tell : Int → List Fld → Option (List UInt8 → α)} {setU : α → List UInt8 → α} {getU : α → List UInt8} {s t w : List UInt8} {d : Int} {x y : α}
/-- What is told takes the unknown records as they are. -/
def Takes (tell : Int → List Fld → Option (List UInt8 → α)) (setU : α → List UInt8 → α) (getU : α → List UInt8) : Prop := ∀ d l f, tell d l = some f → ∀ u, getU (f u) = u ∧ ∀ v, setU (f u) v = f v
theorem apO_right (H : Takes tell setU getU) (hw : mayU tb w d = true) (h : apO (okG tb tell s d) = some x) : apO (okG tb tell (s ++ w) d) = some (setU x (getU x ++ w)) := by
  obtain ⟨f, u, h1, rfl⟩ := apO_some h
  obtain ⟨l, -, h2, -⟩ := okG_inv h1
  obtain ⟨h3, h4⟩ := H _ _ _ h2 u
  rw [okG_right hw h1]
  show some (f (u ++ w)) = _
  rw [h3, h4]
theorem apO_left (H : Takes tell setU getU) (hw : mayU tb w d = true) (h : apO (okG tb tell s d) = some x) : apO (okG tb tell (w ++ s) d) = some (setU x (w ++ getU x)) := by
  obtain ⟨f, u, h1, rfl⟩ := apO_some h
  obtain ⟨l, -, h2, -⟩ := okG_inv h1
  obtain ⟨h3, h4⟩ := H _ _ _ h2 u
  rw [okG_left hw, h1]
  show some (f (w ++ u)) = _
  rw [h3, h4]
theorem apO_nget (h : apO (okG tb tell s d) = none) : okG tb tell s d = none := by
  unfold apO at h
  cases ho : okG tb tell s d with
  | none => rfl
  | some p => rw [ho] at h; simp at h
theorem apO_left_none (hw : 0 ≤ d → mayU tb w d = true) (h : apO (okG tb tell s d) = none) : apO (okG tb tell (w ++ s) d) = none := by
  rw [okG_left_none hw (apO_nget h)]; rfl
theorem apO_pos (h : apO (okG tb tell s d) = some x) : 0 ≤ d := by
  obtain ⟨f, u, h1, -⟩ := apO_some h
  exact okG_pos h1
theorem apO_bad {e : Er} (h : apO (okG tb tell s d) = some x) (ht : all t d = .error e) : apO (okG tb tell (s ++ t) d) = none ∧ readE (s ++ t) d = some (e.sh s.length) := by
  obtain ⟨f, u, h1, -⟩ := apO_some h
  obtain ⟨h2, h3⟩ := okG_bad h1 ht
  exact ⟨by rw [h2]; rfl, h3⟩
theorem okG_two {f g : List UInt8 → α} {u v : List UInt8} (h1 : okG tb tell s d = some (f, u)) (h2 : okG tb tell t d = some (g, v)) : ∃ l1 l2, tell d l1 = some f ∧ tell d l2 = some g ∧ okG tb tell (s ++ t) d = (tell d (l1 ++ l2)).map fun b => (b, u ++ v) := by
  obtain ⟨a, a1, a2, a3, -⟩ := okG_inv h1
  obtain ⟨b, b1, b2, b3, -⟩ := okG_inv h2
  dsimp only at a2 a3 b2 b3
  refine ⟨_, _, a2, b2, ?_⟩
  unfold okG
  rw [okL_app a1 b1]
  simp only
  rw [knownL_app, unkL_app, ← a3, ← b3]
  cases tell d (knownL tb a ++ knownL tb b) <;> rfl
end
theorem oneF_in {ns : List Nat} : ∀ (l : List Fld) (o : OneS), selN ns l ≠ [] → ns.contains (l.foldl (oneStep ns) o).num = true
  | [], o, h => absurd rfl h
  | x :: l, o, h => by
    have e : selN ns (x :: l) = if ns.contains x.num then x :: selN ns l else selN ns l := by unfold selN; rw [List.filter_cons]
    rw [List.foldl_cons]
    by_cases hl : selN ns l = []
    · have h2 := oneF_fold (ns := ns) l (oneStep ns o x)
      rw [hl] at h2
      simp only [List.isEmpty_nil, if_true, Prod.mk.injEq] at h2
      rw [h2.1]
      cases hc : ns.contains x.num with
      | true => unfold oneStep; rw [hc]; simp only [if_true]; split <;> exact hc
      | false => rw [e, hc, hl] at h; simp at h
    · exact oneF_in l _ hl
theorem num_app {a b : Nat} (ha : a ≠ 0) (hb : b ≠ 0) (l1 l2 : List Fld) : numKN a b (oneF [a, b] (l1 ++ l2)) = if (numKN a b (oneF [a, b] l2)).1 = 0 then numKN a b (oneF [a, b] l1) else numKN a b (oneF [a, b] l2) := by
  have h : oneF [a, b] (l1 ++ l2) = l2.foldl (oneStep [a, b]) (oneF [a, b] l1) := by unfold oneF; rw [List.foldl_append]
  have h2 := oneF_fold (ns := [a, b]) l2 (oneF [a, b] l1)
  have key : ∀ o o' : OneS, (o.num, o.n) = (o'.num, o'.n) → numKN a b o = numKN a b o' := fun o o' e => by
    simp only [Prod.mk.injEq] at e
    unfold numKN
    rw [e.1, e.2]
  by_cases he : selN [a, b] l2 = []
  · rw [he] at h2
    simp only [List.isEmpty_nil, if_true] at h2
    have h3 : numKN a b (oneF [a, b] l2) = (0, 0) := by
      rw [← oneF_selN, he]
      show numKN a b noOne = _
      unfold numKN noOne
      rw [if_neg (fun h => ha h.symm), if_neg (fun h => hb h.symm)]
    rw [h3, if_pos rfl, h]
    exact key _ _ h2
  · have hm := oneF_in (ns := [a, b]) l2 noOne he
    have hm : (oneF [a, b] l2).num = a ∨ (oneF [a, b] l2).num = b := by
      have : [a, b].contains (oneF [a, b] l2).num = true := hm
      simpa using this
    have h3 : (numKN a b (oneF [a, b] l2)).1 ≠ 0 := by
      unfold numKN
      rcases hm with e | e
      · rw [if_pos e]; simp
      · by_cases e2 : (oneF [a, b] l2).num = a
        · rw [if_pos e2]; simp
        · rw [if_neg e2, if_pos e]; simp
    rw [if_neg h3, h]
    rw [show (selN [a, b] l2).isEmpty = false by simpa using he] at h2
    exact key _ _ h2
theorem lastF_app2 (a b : List Fld) (n : Nat) : lastF (a ++ b) n = if anyL b n then lastF b n else lastF a n := by
  induction a with
  | nil =>
    rw [List.nil_append]
    cases h : anyL b n with
    | true => rfl
    | false => rw [lastF_no h]; rfl
  | cons x a ih =>
    rw [List.cons_append, lastF_cons, lastF_cons, ih]
    have : anyL (a ++ b) n = (anyL a n || anyL b n) := by unfold anyL; rw [List.any_append]
    rw [this]
    cases anyL a n <;> cases anyL b n <;> simp
/-- Reads these bytes, or tells nothing but an error of theirs. -/
def RdZ (B : Fr) {α : Type} (f : Nat) (dS : α → D) (z : α) (o : Option α) (s : List UInt8) (d : Int) : Prop :=
  match o with
  | some x => CallsA (cx B) f [sT s, .d (.int .i64 d)] [] (.tup [.d (dS x), .d .nili]) []
  | none => ∃ e : Er, EIn s.length e ∧ CallsA (cx B) f [sT s, .d (.int .i64 d)] [] (.tup [.d (dS z), .d e.d]) []
theorem RdZ.at {B : Fr} {α : Type} {f : Nat} {dS : α → D} {z : α} {o : Option α} {s : List UInt8} {d : Int} (h : RdZ B f dS z o s d) : RdAt B f [] dS id o s d := by
  unfold RdZ at h
  unfold RdAt
  cases o with
  | some x => exact h
  | none => obtain ⟨e, h1, h2⟩ := h; exact ⟨z, e, h1, h2⟩
end Go.Proofs.YtaenjdichndafaaGreatDoor
