/- What a reader tells, step by step: parts, lists, texts; or the first error. -/
import Derived.Test.YtaenjdichndafaaGreatDoorP9
import Derived.Test.YtaenjdichndafaaGreatDoorR5
set_option linter.unusedSimpArgs false
set_option linter.unusedVariables false
set_option maxRecDepth 100000
namespace Go.Proofs.YtaenjdichndafaaGreatDoor
open Go Go.Abs
variable (B : Fr)
/-- A function reads these bytes at a depth: it tells what they are, or an error of theirs. -/
def RdAt {α S : Type} (f : Nat) (cap : List D) (dS : S → D) (sh : α → S) (o : Option α) (s : List UInt8) (d : Int) : Prop :=
  match o with
  | some x => CallsA (cx B) f ([sT s, .d (.int .i64 d)] ++ cap.map T.d) [] (.tup [.d (dS (sh x)), .d .nili]) []
  | none => ∃ (y : S) (e : Er), EIn s.length e ∧ CallsA (cx B) f ([sT s, .d (.int .i64 d)] ++ cap.map T.d) [] (.tup [.d (dS y), .d e.d]) []
/-- A step of a reader: behind an error nothing turns it; else it tells what it is to tell, or the first error. -/
def Tells {α β : Type} (n : Nat) (e : Option Er) (t : Option α) (sh : α → β) (v : β) (e' : Option Er) : Prop :=
  match e, t with
  | some x, _ => e' = some x
  | none, some a => v = sh a ∧ e' = none
  | none, none => ∃ er, e' = some er ∧ EIn n er
section
variable {α β : Type} {n : Nat} {e e' : Option Er} {t : Option α} {sh : α → β} {v : β}
theorem Tells.ok (h : Tells n e t sh v none) : e = none ∧ ∃ a, t = some a ∧ v = sh a := by
  cases e with
  | some x => simp [Tells] at h
  | none =>
    cases t with
    | some a => exact ⟨rfl, a, rfl, h.1⟩
    | none => obtain ⟨er, h1, -⟩ := h; simp at h1
theorem Tells.keep {x : Er} (h : Tells n (some x) t sh v e') : e' = some x := h
theorem Tells.get {a : α} (h : Tells n none (some a) sh v e') : v = sh a ∧ e' = none := h
theorem Tells.ein (h : Tells n e t sh v e') (he : ∀ x, e = some x → EIn n x) : ∀ x, e' = some x → EIn n x := by
  intro x hx
  cases e with
  | some y => have : e' = some y := h; rw [this] at hx; injection hx with hx; subst hx; exact he _ rfl
  | none =>
    cases t with
    | some a => rw [h.2] at hx; simp at hx
    | none => obtain ⟨er, h1, h2⟩ := h; rw [h1] at hx; injection hx with hx; subst hx; exact h2
end
theorem rd_choose {α S : Type} {f : Nat} {cap : List D} {dS : S → D} {sh : α → S} {ok : List UInt8 → Option α} {d : Int} {l : List Fld} {num : Nat} (z : S) (h : ∀ x ∈ l, x.num = num → RdAt B f cap dS sh (ok x.s) x.s d) :
    ∃ rd : List UInt8 → S × Option Er, (∀ x ∈ l, x.num = num → CallsA (cx B) f ([sT x.s, .d (.int .i64 d)] ++ cap.map T.d) [] (.tup [.d (dS (rd x.s).1), .d (eD (rd x.s).2)]) []) ∧
      (∀ x ∈ l, x.num = num → match ok x.s with | some a => rd x.s = (sh a, none) | none => ∃ e, EIn x.s.length e ∧ (rd x.s).2 = some e) := by
  have key : ∀ s : List UInt8, ∃ p : S × Option Er, (∃ x ∈ l, x.num = num ∧ x.s = s) → (CallsA (cx B) f ([sT s, .d (.int .i64 d)] ++ cap.map T.d) [] (.tup [.d (dS p.1), .d (eD p.2)]) [] ∧ match ok s with | some a => p = (sh a, none) | none => ∃ e, EIn s.length e ∧ p.2 = some e) := by
    intro s
    by_cases hx : ∃ x ∈ l, x.num = num ∧ x.s = s
    · obtain ⟨x, h1, h2, rfl⟩ := hx
      have h3 := h x h1 h2
      unfold RdAt at h3
      cases ho : ok x.s with
      | some a => rw [ho] at h3; exact ⟨(sh a, none), fun _ => ⟨h3, rfl⟩⟩
      | none => rw [ho] at h3; obtain ⟨y, e, h4, h5⟩ := h3; exact ⟨(y, some e), fun _ => ⟨h5, e, h4, rfl⟩⟩
    · exact ⟨(z, none), fun hh => absurd hh hx⟩
  obtain ⟨rd, hrd⟩ := Classical.axiomOfChoice key
  exact ⟨rd, fun x h1 h2 => (hrd x.s ⟨x, h1, h2, rfl⟩).1, fun x h1 h2 => (hrd x.s ⟨x, h1, h2, rfl⟩).2⟩
theorem listF_err {S : Type} (rd : List UInt8 → S × Option Er) (n : Int) (num : Nat) (e : Er) : ∀ (l : List Fld) (a : List S), (l.foldl (listStep rd n num) (a, some e)).2 = some e
  | [], _ => rfl
  | x :: l, a => by
    rw [List.foldl_cons]
    have : ∃ a', listStep rd n num (a, some e) x = (a', some e) := by
      unfold listStep
      split
      · exact ⟨_, by cases (rd x.s).2 <;> rfl⟩
      · exact ⟨_, rfl⟩
    obtain ⟨a', h⟩ := this
    rw [h]; exact listF_err rd n num e l a'
theorem listF_tells {α S : Type} {rd : List UInt8 → S × Option Er} {ok : List UInt8 → Option α} {sh : α → S} {l : List Fld} (n num : Nat) (e : Option Er) (h : ∀ x ∈ l, x.num = num → match ok x.s with | some a => rd x.s = (sh a, none) | none => ∃ e, EIn x.s.length e ∧ (rd x.s).2 = some e) :
    Tells n e (partsO ok num l) (List.map sh) (listF rd n num l e).1 (listF rd n num l e).2 := by
  cases e with
  | some x => exact listF_err rd n num x l []
  | none =>
    have key : ∀ (l : List Fld) (a : List S), (∀ x ∈ l, x.num = num → match ok x.s with | some a => rd x.s = (sh a, none) | none => ∃ e, EIn x.s.length e ∧ (rd x.s).2 = some e) →
        match partsO ok num l with
        | some r => l.foldl (listStep rd n num) (a, none) = (a ++ r.map sh, none)
        | none => ∃ er, (l.foldl (listStep rd n num) (a, none)).2 = some er ∧ EIn n er := by
      intro l
      induction l with
      | nil => intro a _; simp [partsO, sel_nil, mapO]
      | cons x l ih =>
        intro a h
        have h' := fun y hy => h y (List.mem_cons_of_mem _ hy)
        have hx := h x (List.mem_cons_self ..)
        unfold partsO at ih ⊢
        rw [sel_cons, List.foldl_cons]
        by_cases hn : x.num = num
        · rw [if_pos hn]
          have hx := hx hn
          unfold mapO
          cases ho : ok x.s with
          | none =>
            rw [ho] at hx
            obtain ⟨er, h1, h2⟩ := hx
            simp only
            obtain ⟨e1, g1, g2⟩ := fail_in n num er h1.2
            have hs : listStep rd n num (a, none) x = (a ++ [(rd x.s).1], some e1) := by unfold listStep; rw [if_pos hn, h2]; simp only; rw [g1]
            rw [hs]
            exact ⟨e1, listF_err rd n num e1 l _, g2⟩
          | some b =>
            rw [ho] at hx
            simp only at hx ⊢
            have hs : listStep rd n num (a, none) x = (a ++ [sh b], none) := by unfold listStep; rw [if_pos hn, hx]; rfl
            rw [hs]
            have := ih (a ++ [sh b]) h'
            cases hm : mapO (fun x => ok x.s) (sel num l) with
            | none => rw [hm] at this; exact this
            | some r => rw [hm] at this; simp only at this ⊢; rw [this]; simp
        · rw [if_neg hn]
          have hs : listStep rd n num (a, none) x = (a, none) := by unfold listStep; rw [if_neg hn]
          rw [hs]; exact ih a h'
    have := key l [] h
    unfold Tells listF
    cases hp : partsO ok num l with
    | none => rw [hp] at this; exact this
    | some r => rw [hp] at this; simp only at this ⊢; rw [this]; simp
/-- A text; all of its number must be texts. -/
def textO (num : Nat) (l : List Fld) : Option (List UInt8) := if ((sel num l).all fun x => txt x.s) then some (lastF l num).s else none
theorem chk_gc (s : List UInt8) {e : Er} (h : chkE s = some e) : gc (codeOf e) := by
  unfold chkE at h
  split at h
  · simp at h
  · injection h with h; subst h; exact .inr (.inr (.inr (.inl rfl)))
theorem chkF_keep (n : Int) (num : Nat) (e : Er) : ∀ l : List Fld, chkF n num l (some e) = some e
  | [] => rfl
  | x :: l => by
    unfold chkF
    rw [List.foldl_cons]
    have : (if x.num = num then failE n num (some e) (chkE x.s) else some e) = some e := by
      split
      · cases chkE x.s <;> rfl
      · rfl
    rw [this]; exact chkF_keep n num e l
theorem chkF_tells (n num : Nat) (e : Option Er) (l : List Fld) : Tells n e (textO num l) id (lastF l num).s (chkF n num l e) := by
  cases e with
  | some x => exact chkF_keep n num x l
  | none =>
    have key : ∀ l : List Fld, match (sel num l).all fun x => txt x.s with
        | true => chkF n num l none = none
        | false => ∃ er, chkF n num l none = some er ∧ EIn n er := by
      intro l
      induction l with
      | nil => rfl
      | cons x l ih =>
        rw [sel_cons]
        have hc : chkF n num (x :: l) none = chkF n num l (if x.num = num then failE n num none (chkE x.s) else none) := rfl
        rw [hc]
        by_cases hn : x.num = num
        · rw [if_pos hn, if_pos hn, List.all_cons]
          cases ht : txt x.s with
          | true => rw [show chkE x.s = none by unfold chkE; rw [ht]; rfl]; exact ih
          | false =>
            have hce : chkE x.s = some (.loc (whU x.s) (.code 5)) := by unfold chkE; rw [ht]; rfl
            rw [hce]
            obtain ⟨e1, g1, g2⟩ := fail_in n num (.loc (whU x.s) (.code 5)) (chk_gc x.s hce)
            rw [g1, chkF_keep]
            exact ⟨e1, rfl, g2⟩
        · rw [if_neg hn, if_neg hn]; exact ih
    have := key l
    unfold textO Tells
    cases ht : (sel num l).all fun x => txt x.s with
    | true => rw [ht] at this; exact ⟨rfl, this⟩
    | false => rw [ht] at this; exact this
theorem rText_tells (hB : BOk B) (e : Option Er) (u : List UInt8) (d : Int) (n : Nat) (l : List Fld) (num : Nat) (hl : LOk l) :
    ∃ v e', CallsA (cx B) 82 [.ptr 0 0, iT num] [rO e u d n l] (sT v) [rO e' u d n l] ∧ Tells n e (textO num l) id v e' ∧ v = (lastF l num).s :=
  ⟨_, _, rText_calls B hB e u d n l num hl, chkF_tells n num e l, rfl⟩
/-- Numbers that may be packed. -/
theorem packF_tells {rd : List UInt8 → Except Er (List Nat)} (hg : ∀ s e, rd s = .error e → gc (codeOf e)) (n num : Nat) (e : Option Er) (l : List Fld) : Tells n e (packO rd num l) id (packF rd n num l e).1 (packF rd n num l e).2 := by
  cases e with
  | some x => exact packF_err rd n num l x
  | none =>
    unfold Tells
    cases hp : packO rd num l with
    | some b => rw [packF_some _ hp]; exact ⟨rfl, rfl⟩
    | none =>
      obtain ⟨s, x, -, h2, h3⟩ := packF_none (n : Int) hp
      obtain ⟨e1, g1, g2⟩ := fail_in n num x (hg _ _ h2)
      exact ⟨e1, by rw [h3, g1], g2⟩
theorem List_KVs_tells (hB : BOk B) {α : Type} (ok : List UInt8 → Option α) (sh : α → KVs) (z : KVs) (f : Nat) (cap : List D) (e : Option Er) (u : List UInt8) (d : Int) (n : Nat) (l : List Fld) (num : Nat) (hl : LOk l) (hd1 : anyL l num = true → -9223372036854775808 < d) (hd2 : d < 9223372036854775808)
    (h : ∀ x ∈ l, x.num = num → RdAt B f cap KVs.d sh (ok x.s) x.s (d - 1)) :
    ∃ vs e', CallsA (cx B) 39 [.ptr 0 0, iT num, .d (.fn f cap)] [rO e u d n l] (.d (slD (vs.map KVs.d))) [rO e' u d n l] ∧ Tells n e (partsO ok num l) (List.map sh) vs e' := by
  obtain ⟨rd, h1, h2⟩ := rd_choose B z h
  exact ⟨_, _, List_KVs_calls B hB f cap rd e u d n l num hl hd1 hd2 h1, listF_tells n num e h2⟩

theorem List_Exm_tells (hB : BOk B) {α : Type} (ok : List UInt8 → Option α) (sh : α → Exm) (z : Exm) (f : Nat) (cap : List D) (e : Option Er) (u : List UInt8) (d : Int) (n : Nat) (l : List Fld) (num : Nat) (hl : LOk l) (hd1 : anyL l num = true → -9223372036854775808 < d) (hd2 : d < 9223372036854775808)
    (h : ∀ x ∈ l, x.num = num → RdAt B f cap Exm.d sh (ok x.s) x.s (d - 1)) :
    ∃ vs e', CallsA (cx B) 66 [.ptr 0 0, iT num, .d (.fn f cap)] [rO e u d n l] (.d (slD (vs.map Exm.d))) [rO e' u d n l] ∧ Tells n e (partsO ok num l) (List.map sh) vs e' := by
  obtain ⟨rd, h1, h2⟩ := rd_choose B z h
  exact ⟨_, _, List_Exm_calls B hB f cap rd e u d n l num hl hd1 hd2 h1, listF_tells n num e h2⟩

end Go.Proofs.YtaenjdichndafaaGreatDoor
