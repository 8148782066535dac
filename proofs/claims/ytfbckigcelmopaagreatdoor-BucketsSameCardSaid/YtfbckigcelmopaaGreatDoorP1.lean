/- Records of a message: what two lists, one behind the other, tell; numbers that may be packed. -/
import Derived.Test.YtfbckigcelmopaaGreatDoorP0
import Derived.Test.YtfbckigcelmopaaGreatDoorX25
set_option linter.unusedSimpArgs false
set_option linter.unusedVariables false
set_option maxRecDepth 100000
namespace Go.Proofs.YtfbckigcelmopaaGreatDoor
open Go Go.Abs
theorem knownL_app (tb : Nat → Nat → Bool) (a b : List Fld) : knownL tb (a ++ b) = knownL tb a ++ knownL tb b := by unfold knownL; rw [List.filter_append]
theorem unkL_app (tb : Nat → Nat → Bool) (a b : List Fld) : unkL tb (a ++ b) = unkL tb a ++ unkL tb b := by unfold unkL; rw [List.filter_append, List.flatMap_append]
theorem anyL_app (a b : List Fld) (num : Nat) : anyL (a ++ b) num = (anyL a num || anyL b num) := by unfold anyL; rw [List.any_append]
theorem bytesL_app (a b : List Fld) (num : Nat) : bytesL (a ++ b) num = bytesL a num ++ bytesL b num := by unfold bytesL; rw [List.filter_append, List.flatMap_append]
theorem anyL_cons (x : Fld) (l : List Fld) (num : Nat) : anyL (x :: l) num = (x.num == num || anyL l num) := rfl
theorem lastF_cons (x : Fld) (l : List Fld) (num : Nat) : lastF (x :: l) num = if anyL l num then lastF l num else if x.num = num then x else noFld := rfl
theorem lastF_no {l : List Fld} {num : Nat} (h : anyL l num = false) : lastF l num = noFld := by
  induction l with
  | nil => rfl
  | cons x l ih =>
    rw [anyL_cons, Bool.or_eq_false_iff] at h
    unfold lastF
    have h2 : l.any (fun x => x.num == num) = false := h.2
    have h1 : ¬ x.num = num := by simpa using h.1
    rw [h2, if_neg h1]; simp
theorem lastF_app (a b : List Fld) (num : Nat) : lastF (a ++ b) num = if anyL b num then lastF b num else lastF a num := by
  induction a with
  | nil =>
    cases h : anyL b num with
    | true => simp
    | false => simp [lastF_no h, lastF]
  | cons x a ih =>
    rw [List.cons_append, lastF_cons, lastF_cons, ih, anyL_app]
    cases h : anyL b num with
    | true => simp
    | false => simp
theorem lastF_num {l : List Fld} {num : Nat} (h : anyL l num = true) : (lastF l num).num = num ∧ lastF l num ∈ l := by
  induction l with
  | nil => simp [anyL] at h
  | cons x l ih =>
    rw [anyL_cons] at h
    unfold lastF
    have e : ∀ l : List Fld, l.any (fun x => x.num == num) = anyL l num := fun _ => rfl
    rw [e]
    cases h2 : anyL l num with
    | true => simp only [if_true]; exact ⟨(ih h2).1, List.mem_cons_of_mem _ (ih h2).2⟩
    | false =>
      rw [h2] at h
      have h1 : x.num = num := by simpa using h
      rw [if_neg (by simp), if_pos h1]; exact ⟨h1, List.mem_cons_self ..⟩
theorem hasL_any {l : List Fld} {num : Nat} (hn : num ≠ 0) : hasL l num = anyL l num := by
  unfold hasL
  cases h : anyL l num with
  | true => rw [(lastF_num h).1]; simp
  | false => rw [lastF_no h]; simp [noFld]; omega
/-- Numbers that may be packed, if all can be read. -/
def packO (rd : List UInt8 → Except Er (List Nat)) (num : Nat) : List Fld → Option (List Nat)
  | [] => some []
  | x :: l => if x.num = num then (if x.kind = 2 then (match rd x.s with | .ok a => (packO rd num l).map (a ++ ·) | .error _ => none) else (packO rd num l).map (x.n :: ·)) else packO rd num l
theorem failE_nn (n : Int) (num : Nat) (e : Option Er) : failE n num e none = e := by cases e <;> rfl
theorem failE_some (n : Int) (num : Nat) (e er : Er) : failE n num (some e) (some er) = some e := rfl
theorem fold_err (rd : List UInt8 → Except Er (List Nat)) (n : Int) (num : Nat) (e : Er) : ∀ (l : List Fld) (a : List Nat), (l.foldl (packStep rd n num) (a, some e)).2 = some e
  | [], _ => rfl
  | x :: l, a => by
    rw [List.foldl_cons]
    have : ∃ a', packStep rd n num (a, some e) x = (a', some e) := by
      unfold packStep
      split
      · split
        · split
          · exact ⟨_, rfl⟩
          · exact ⟨_, rfl⟩
        · exact ⟨_, rfl⟩
      · exact ⟨_, rfl⟩
    obtain ⟨a', h⟩ := this
    rw [h]; exact fold_err rd n num e l a'
theorem fold_pack (rd : List UInt8 → Except Er (List Nat)) (n : Int) (num : Nat) : ∀ (l : List Fld) (a : List Nat), (match packO rd num l with
    | some b => l.foldl (packStep rd n num) (a, none) = (a ++ b, none)
    | none => ∃ s e, (∃ x ∈ l, x.num = num ∧ x.kind = 2 ∧ x.s = s) ∧ rd s = .error e ∧ (l.foldl (packStep rd n num) (a, none)).2 = failE n num none (some e))
  | [], a => by simp [packO]
  | x :: l, a => by
    unfold packO
    rw [List.foldl_cons]
    by_cases hn : x.num = num
    · rw [if_pos hn]
      by_cases hk : x.kind = 2
      · rw [if_pos hk]
        cases hr : rd x.s with
        | error e =>
          simp only
          refine ⟨x.s, e, ⟨x, List.mem_cons_self .., hn, hk, rfl⟩, hr, ?_⟩
          have : packStep rd n num (a, none) x = (a, failE n num none (some e)) := by unfold packStep; rw [if_pos hn, if_pos hk, hr]
          rw [this]
          exact fold_err rd n num _ l a
        | ok ns =>
          have hs : packStep rd n num (a, none) x = (a ++ ns, none) := by unfold packStep; rw [if_pos hn, if_pos hk, hr]; rfl
          rw [hs]
          have ih := fold_pack rd n num l (a ++ ns)
          cases hp : packO rd num l with
          | some b => rw [hp] at ih; simp only [Option.map_some] at ih ⊢; rw [ih, List.append_assoc]
          | none =>
            rw [hp] at ih; simp only [Option.map_none] at ih ⊢
            obtain ⟨s, e, ⟨y, h1, h2⟩, h3⟩ := ih
            exact ⟨s, e, ⟨y, List.mem_cons_of_mem _ h1, h2⟩, h3⟩
      · rw [if_neg hk]
        have hs : packStep rd n num (a, none) x = (a ++ [x.n], none) := by unfold packStep; rw [if_pos hn, if_neg hk]
        rw [hs]
        have ih := fold_pack rd n num l (a ++ [x.n])
        cases hp : packO rd num l with
        | some b => rw [hp] at ih; simp only [Option.map_some] at ih ⊢; rw [ih, List.append_assoc]; rfl
        | none =>
          rw [hp] at ih; simp only [Option.map_none] at ih ⊢
          obtain ⟨s, e, ⟨y, h1, h2⟩, h3⟩ := ih
          exact ⟨s, e, ⟨y, List.mem_cons_of_mem _ h1, h2⟩, h3⟩
    · rw [if_neg hn]
      have hs : packStep rd n num (a, none) x = (a, none) := by unfold packStep; rw [if_neg hn]
      rw [hs]
      have ih := fold_pack rd n num l a
      cases hp : packO rd num l with
      | some b => rw [hp] at ih; exact ih
      | none =>
        rw [hp] at ih
        obtain ⟨s, e, ⟨y, h1, h2⟩, h3⟩ := ih
        exact ⟨s, e, ⟨y, List.mem_cons_of_mem _ h1, h2⟩, h3⟩
theorem packF_some {rd : List UInt8 → Except Er (List Nat)} {num : Nat} {l : List Fld} {b : List Nat} (n : Int) (h : packO rd num l = some b) : packF rd n num l none = (b, none) := by
  have := fold_pack rd n num l []
  rw [h] at this
  simpa [packF] using this
theorem packF_none {rd : List UInt8 → Except Er (List Nat)} {num : Nat} {l : List Fld} (n : Int) (h : packO rd num l = none) : ∃ s e, (∃ x ∈ l, x.num = num ∧ x.kind = 2 ∧ x.s = s) ∧ rd s = .error e ∧ (packF rd n num l none).2 = failE n num none (some e) := by
  have := fold_pack rd n num l []
  rw [h] at this
  simpa [packF] using this
theorem packF_err (rd : List UInt8 → Except Er (List Nat)) (n : Int) (num : Nat) (l : List Fld) (e : Er) : (packF rd n num l (some e)).2 = some e := fold_err rd n num e l []
theorem packO_app {rd : List UInt8 → Except Er (List Nat)} {num : Nat} : ∀ {a b : List Fld} {x y : List Nat}, packO rd num a = some x → packO rd num b = some y → packO rd num (a ++ b) = some (x ++ y)
  | [], b, x, y, h, k => by simp [packO] at h; subst h; simpa using k
  | c :: a, b, x, y, h, k => by
    rw [List.cons_append]
    unfold packO at h ⊢
    split at h
    · rw [if_pos ‹_›]
      split at h
      · rw [if_pos ‹_›]
        split at h
        · rename_i ns hr
          cases hp : packO rd num a with
          | none => rw [hp] at h; simp at h
          | some z =>
            rw [hp] at h; simp at h; subst h
            rw [packO_app hp k]; simp
        · simp at h
      · rw [if_neg ‹_›]
        cases hp : packO rd num a with
        | none => rw [hp] at h; simp at h
        | some z =>
          rw [hp] at h; simp at h; subst h
          rw [packO_app hp k]; simp
    · rw [if_neg ‹_›]; exact packO_app h k
theorem packO_app_none {rd : List UInt8 → Except Er (List Nat)} {num : Nat} : ∀ {a b : List Fld} {x : List Nat}, packO rd num a = some x → packO rd num b = none → packO rd num (a ++ b) = none
  | [], b, x, h, k => k
  | c :: a, b, x, h, k => by
    rw [List.cons_append]
    unfold packO at h ⊢
    split at h
    · rw [if_pos ‹_›]
      split at h
      · rw [if_pos ‹_›]
        split at h
        · cases hp : packO rd num a with
          | none => rw [hp] at h; simp at h
          | some z => rw [packO_app_none hp k]; rfl
        · simp at h
      · rw [if_neg ‹_›]
        cases hp : packO rd num a with
        | none => rw [hp] at h; simp at h
        | some z => rw [packO_app_none hp k]; rfl
    · rw [if_neg ‹_›]; exact packO_app_none h k
/-! Buckets. -/
/-- What a message's records tell, if it is one. -/
def okL (s : List UInt8) (d : Int) : Option (List Fld) :=
  if d < 0 then none else match all s d with
    | .ok l => some l
    | .error _ => none
theorem okL_some {s : List UInt8} {d : Int} {l : List Fld} (h : okL s d = some l) : readE s d = none ∧ fldsE s d = l ∧ all s d = .ok l ∧ 0 ≤ d := by
  unfold okL at h
  split at h
  · simp at h
  · rename_i hd
    split at h <;> simp at h
    rename_i a; subst h
    unfold readE fldsE
    rw [if_neg hd, if_neg hd, a]
    exact ⟨rfl, rfl, rfl, by omega⟩
theorem okL_none {s : List UInt8} {d : Int} (h : okL s d = none) : (∃ e, readE s d = some e) ∧ fldsE s d = [] := by
  unfold okL at h
  unfold readE fldsE
  split at h
  · rename_i hd; rw [if_pos hd, if_pos hd]; exact ⟨⟨_, rfl⟩, rfl⟩
  · rename_i hd
    rw [if_neg hd, if_neg hd]
    split at h <;> simp at h
    rename_i a; rw [a]; exact ⟨⟨_, rfl⟩, rfl⟩
theorem okL_mk {s : List UInt8} {d : Int} {l : List Fld} (hd : 0 ≤ d) (h : all s d = .ok l) : okL s d = some l := by
  unfold okL; rw [if_neg (by omega), h]
theorem okL_app {s t : List UInt8} {d : Int} {a b : List Fld} (h : okL s d = some a) (k : okL t d = some b) : okL (s ++ t) d = some (a ++ b) := by
  obtain ⟨-, -, h1, h2⟩ := okL_some h
  obtain ⟨-, -, k1, -⟩ := okL_some k
  exact okL_mk h2 (all_app_ok h1 k1)
/-- Buckets, if they are. -/
def okB (s : List UInt8) (d : Int) : Option Bk :=
  match okL s d with
  | none => none
  | some l => match packO vars 2 (knownL tbB l) with
    | none => none
    | some ns => some ⟨zag32 (lastF (knownL tbB l) 1).n, ns, unkL tbB l⟩
theorem ubB_okB (s : List UInt8) (d : Int) : (match okB s d with
    | some b => ubB s d = (b, none)
    | none => ∃ e, ubB s d = (noBk, some e)) := by
  unfold okB
  cases h : okL s d with
  | none =>
    obtain ⟨⟨e, he⟩, hf⟩ := okL_none h
    simp only
    have : (bkOf s d).2 = some e := by unfold bkOf; rw [he]; exact packF_err _ _ _ _ _
    unfold ubB; rw [this]; exact ⟨e, rfl⟩
  | some l =>
    obtain ⟨h1, h2, -⟩ := okL_some h
    simp only
    have hk : knB tbB s d = knownL tbB l := by unfold knB; rw [h2]
    have hu : unB tbB s d = unkL tbB l := by unfold unB; rw [h2]
    cases hp : packO vars 2 (knownL tbB l) with
    | some ns =>
      have : bkOf s d = (ns, none) := by unfold bkOf; rw [h1, hk]; exact packF_some _ hp
      unfold ubB; rw [this, hk, hu]
    | none =>
      obtain ⟨t, e, -, -, h3⟩ := packF_none (s.length : Int) hp
      have : ∃ e', (bkOf s d).2 = some e' := by unfold bkOf; rw [h1, hk, h3]; exact ⟨_, rfl⟩
      obtain ⟨e', h4⟩ := this
      unfold ubB; rw [h4]; exact ⟨e', rfl⟩
theorem okB_some {s : List UInt8} {d : Int} {b : Bk} (h : okB s d = some b) : ubB s d = (b, none) := by have := ubB_okB s d; rw [h] at this; exact this
theorem okB_none {s : List UInt8} {d : Int} (h : okB s d = none) : ∃ e, ubB s d = (noBk, some e) := by have := ubB_okB s d; rw [h] at this; exact this
theorem okB_app {s t : List UInt8} {d : Int} {x y : Bk} (h : okB s d = some x) (k : okB t d = some y) : ∃ z, okB (s ++ t) d = some z ∧ z.u = x.u ++ y.u ∧ z.cs = x.cs ++ y.cs ∧ (y.off = 0 ∨ z.off = y.off) := by
  unfold okB at h k ⊢
  cases h1 : okL s d with
  | none => rw [h1] at h; simp at h
  | some a =>
    cases k1 : okL t d with
    | none => rw [k1] at k; simp at k
    | some b =>
      rw [h1] at h; rw [k1] at k
      rw [okL_app h1 k1]
      simp only at h k ⊢
      cases h2 : packO vars 2 (knownL tbB a) with
      | none => rw [h2] at h; simp at h
      | some p =>
        cases k2 : packO vars 2 (knownL tbB b) with
        | none => rw [k2] at k; simp at k
        | some q =>
          rw [h2] at h; rw [k2] at k
          simp only [Option.some.injEq] at h k
          subst h; subst k
          rw [knownL_app, packO_app h2 k2, unkL_app]
          refine ⟨_, rfl, rfl, rfl, ?_⟩
          simp only
          rw [lastF_app]
          cases hb : anyL (knownL tbB b) 1 with
          | true => right; rfl
          | false => left; rw [lastF_no hb]; rfl
theorem packO_len {rd : List UInt8 → Except Er (List Nat)} (hr : ∀ s l, rd s = .ok l → l.length ≤ s.length) {num : Nat} : ∀ {l : List Fld} {ns : List Nat}, (∀ x ∈ l, FOk x) → packO rd num l = some ns → ns.length ≤ wt l
  | [], ns, _, h => by simp [packO] at h; subst h; simp [wt]
  | x :: l, ns, hl, h => by
    have h1 := (hl x (List.mem_cons_self ..)).s
    have ih := fun {m} => packO_len hr (num := num) (l := l) (ns := m) fun y hy => hl y (List.mem_cons_of_mem _ hy)
    have hw : wt (x :: l) = x.raw.length + wt l := by simp [wt]
    unfold packO at h
    split at h
    · split at h
      · split at h
        · rename_i a e
          have := hr _ _ e
          cases hp : packO rd num l with
          | none => rw [hp] at h; simp at h
          | some m => rw [hp] at h; simp at h; subst h; have := ih hp; simp; omega
        · simp at h
      · cases hp : packO rd num l with
        | none => rw [hp] at h; simp at h
        | some m => rw [hp] at h; simp at h; subst h; have := ih hp; simp; omega
    · have := ih h; omega
theorem okL_wt {s : List UInt8} {d : Int} {l : List Fld} (h : okL s d = some l) : wt l ≤ s.length ∧ ∀ x ∈ l, FOk x := by
  obtain ⟨-, -, h1, -⟩ := okL_some h
  exact ⟨by have := allE_raw h1; unfold wt; omega, allE_fok h1⟩
theorem unkL_len (tb : Nat → Nat → Bool) (l : List Fld) : (unkL tb l).length ≤ wt l := unk_le tb l
theorem okB_len {s : List UInt8} {d : Int} {b : Bk} (h : okB s d = some b) : b.u.length ≤ s.length ∧ b.cs.length ≤ s.length := by
  unfold okB at h
  cases h1 : okL s d with
  | none => rw [h1] at h; simp at h
  | some l =>
    obtain ⟨w1, w2⟩ := okL_wt h1
    rw [h1] at h
    simp only at h
    cases h2 : packO vars 2 (knownL tbB l) with
    | none => rw [h2] at h; simp at h
    | some ns =>
      rw [h2] at h
      simp only [Option.some.injEq] at h
      subst h
      have a1 := unkL_len tbB l
      have a2 := packO_len (fun s l h => vars_len h) (fun x hx => w2 x (List.mem_filter.1 hx).1) h2
      have a3 := wt_filter (isT tbB) l
      unfold knownL at a2
      simp only
      omega
end Go.Proofs.YtfbckigcelmopaaGreatDoor
