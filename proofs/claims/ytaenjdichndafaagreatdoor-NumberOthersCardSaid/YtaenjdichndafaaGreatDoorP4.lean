/- Unknown records behind and ahead; groups as deep as told. -/
import Derived.Test.YtaenjdichndafaaGreatDoorPG
set_option linter.unusedSimpArgs false
set_option linter.unusedVariables false
set_option maxRecDepth 100000
namespace Go.Proofs.YtaenjdichndafaaGreatDoor
open Go Go.Abs
/-- May these be what is unknown of a message with this table? -/
def mayU (tb : Nat → Nat → Bool) (u : List UInt8) (d : Int) : Bool := decide (d ≥ 0) && restB tb u d
theorem mayU_B (u : List UInt8) (d : Int) : mayU tbB u d = mayB u d := rfl
theorem mayU_okL {tb : Nat → Nat → Bool} {u : List UInt8} {d : Int} (h : mayU tb u d = true) : ∃ l, okL u d = some l ∧ knownL tb l = [] ∧ unkL tb l = u := by
  unfold mayU restB at h
  rw [Bool.and_eq_true] at h
  obtain ⟨hd, h⟩ := h
  have hd := of_decide_eq_true hd
  cases ha : all u d with
  | error e => rw [ha] at h; simp at h
  | ok l =>
    rw [ha] at h
    simp only [Bool.not_eq_true'] at h
    obtain ⟨h1, h2⟩ := rest_none h
    exact ⟨l, okL_mk hd ha, h1, by rw [h2, all_cat ha]⟩
/-- What a message tells: by its known records, and its unknown ones. -/
def okG {β : Type} (tb : Nat → Nat → Bool) (tell : Int → List Fld → Option β) (s : List UInt8) (d : Int) : Option (β × List UInt8) :=
  match okL s d with
  | none => none
  | some l => match tell d (knownL tb l) with
    | none => none
    | some b => some (b, unkL tb l)
theorem okL_left {s w : List UInt8} {d : Int} {l2 : List Fld} (h : okL w d = some l2) : okL (w ++ s) d = (okL s d).map (l2 ++ ·) := by
  obtain ⟨-, -, k4, hd⟩ := okL_some h
  cases ho : okL s d with
  | none =>
    unfold okL at ho ⊢
    rw [if_neg (by omega)] at ho ⊢
    cases ha : all s d with
    | ok l => rw [ha] at ho; simp at ho
    | error e => rw [all_app_err k4 ha]; rfl
  | some l => rw [okL_app h ho]; rfl
theorem okL_neg {s : List UInt8} {d : Int} (h : d < 0) : okL s d = none := by unfold okL; rw [if_pos h]
section
variable {β : Type} {tb : Nat → Nat → Bool} {tell : Int → List Fld → Option β} {s w : List UInt8} {d : Int}
theorem okG_pos {b : β × List UInt8} (h : okG tb tell s d = some b) : 0 ≤ d := by
  unfold okG at h
  cases ho : okL s d with
  | none => rw [ho] at h; simp at h
  | some l => exact (okL_some ho).2.2.2
theorem okG_all {b : β × List UInt8} (h : okG tb tell s d = some b) : ∃ l, all s d = .ok l := by
  unfold okG at h
  cases ho : okL s d with
  | none => rw [ho] at h; simp at h
  | some l => exact ⟨l, (okL_some ho).2.2.1⟩
theorem okG_neg (h : d < 0) : okG tb tell s d = none := by unfold okG; rw [okL_neg h]
theorem okG_right {b : β × List UInt8} (hw : mayU tb w d = true) (h : okG tb tell s d = some b) : okG tb tell (s ++ w) d = some (b.1, b.2 ++ w) := by
  obtain ⟨l2, k1, k2, k3⟩ := mayU_okL hw
  unfold okG at h ⊢
  cases ho : okL s d with
  | none => rw [ho] at h; simp at h
  | some l =>
    rw [ho] at h
    rw [okL_app ho k1]
    simp only at h ⊢
    rw [knownL_app, k2, List.append_nil, unkL_app, k3]
    cases hp : tell d (knownL tb l) with
    | none => rw [hp] at h; simp at h
    | some ns =>
      rw [hp] at h
      simp only [Option.some.injEq] at h ⊢
      subst h; rfl
theorem okG_left (hw : mayU tb w d = true) : okG tb tell (w ++ s) d = (okG tb tell s d).map fun b => (b.1, w ++ b.2) := by
  obtain ⟨l2, k1, k2, k3⟩ := mayU_okL hw
  unfold okG
  rw [okL_left k1]
  cases ho : okL s d with
  | none => rfl
  | some l =>
    simp only [Option.map_some]
    rw [knownL_app, k2, List.nil_append, unkL_app, k3]
    cases hp : tell d (knownL tb l) with
    | none => rfl
    | some ns => rfl
theorem okG_left_none (hw : 0 ≤ d → mayU tb w d = true) (h : okG tb tell s d = none) : okG tb tell (w ++ s) d = none := by
  by_cases hd : 0 ≤ d
  · rw [okG_left (hw hd), h]; rfl
  · exact okG_neg (by omega)
theorem okG_bad {t : List UInt8} {e : Er} {b : β × List UInt8} (h : okG tb tell s d = some b) (ht : all t d = .error e) : okG tb tell (s ++ t) d = none ∧ readE (s ++ t) d = some (e.sh s.length) := by
  obtain ⟨l, hl⟩ := okG_all h
  have hd := okG_pos h
  have ha := all_app_err hl ht
  constructor
  · unfold okG okL; rw [if_neg (by omega), ha]
  · unfold readE; rw [if_neg (by omega), ha]
end
/-! Buckets. -/
def tellB (_ : Int) (l : List Fld) : Option (Int × List Nat) := match packO vars 2 l with | none => none | some ns => some (zag32 (lastF l 1).n, ns)
def mkB (b : (Int × List Nat) × List UInt8) : Bk := ⟨b.1.1, b.1.2, b.2⟩
theorem okB_G (s : List UInt8) (d : Int) : okB s d = (okG tbB tellB s d).map mkB := by
  unfold okB okG tellB
  cases okL s d with
  | none => rfl
  | some l => simp only; cases packO vars 2 (knownL tbB l) <;> rfl
theorem okB_get {s : List UInt8} {d : Int} {b : Bk} (h : okB s d = some b) : okG tbB tellB s d = some ((b.off, b.cs), b.u) := by
  rw [okB_G] at h
  cases hg : okG tbB tellB s d with
  | none => rw [hg] at h; simp at h
  | some x => rw [hg] at h; simp at h; subst h; rfl
theorem okB_nget {s : List UInt8} {d : Int} (h : okB s d = none) : okG tbB tellB s d = none := by
  rw [okB_G] at h
  cases hg : okG tbB tellB s d with
  | none => rfl
  | some x => rw [hg] at h; simp at h
theorem okB_right {s w : List UInt8} {d : Int} {b : Bk} (hw : mayU tbB w d = true) (h : okB s d = some b) : okB (s ++ w) d = some ⟨b.off, b.cs, b.u ++ w⟩ := by
  rw [okB_G, okG_right hw (okB_get h)]; rfl
theorem okB_left {s w : List UInt8} {d : Int} {b : Bk} (hw : mayU tbB w d = true) (h : okB s d = some b) : okB (w ++ s) d = some ⟨b.off, b.cs, w ++ b.u⟩ := by
  rw [okB_G, okG_left hw, okB_get h]; rfl
theorem okB_left_none {s w : List UInt8} {d : Int} (hw : 0 ≤ d → mayU tbB w d = true) (h : okB s d = none) : okB (w ++ s) d = none := by
  rw [okB_G, okG_left_none hw (okB_nget h)]; rfl
theorem okB_pos {s : List UInt8} {d : Int} {b : Bk} (h : okB s d = some b) : 0 ≤ d := okG_pos (okB_get h)
theorem okB_bad {s t : List UInt8} {d : Int} {e : Er} {b : Bk} (h : okB s d = some b) (ht : all t d = .error e) : okB (s ++ t) d = none ∧ readE (s ++ t) d = some (e.sh s.length) := by
  obtain ⟨h1, h2⟩ := okG_bad (okB_get h) ht
  exact ⟨by rw [okB_G, h1]; rfl, h2⟩
theorem recE_f32 {n : Nat} (d : Int) (t : List UInt8) (h1 : 1 ≤ n) (h2 : n ≤ 536870911) (ht : t.length = 4) : recE (tagV n 5 ++ t) d 0 = .ok (⟨n, 5, leN t, [], tagV n 5 ++ t⟩, (tagV n 5 ++ t).length) := by
  unfold recE
  have hg := tagE_tagV [] t h1 h2 (show 5 < 8 by omega) (p := 0) rfl
  rw [List.nil_append, Nat.zero_add] at hg
  rw [hg]
  dsimp only
  unfold restG
  rw [if_neg (by omega), if_neg (by omega), if_pos rfl]
  unfold takeE
  rw [if_neg (by simp; omega)]
  dsimp only
  rw [List.drop_left, ← ht, List.take_length, ← List.length_append, List.drop_zero, Nat.sub_zero, List.take_length]
theorem recE_f64 {n : Nat} (d : Int) (t : List UInt8) (h1 : 1 ≤ n) (h2 : n ≤ 536870911) (ht : t.length = 8) : recE (tagV n 1 ++ t) d 0 = .ok (⟨n, 1, leN t, [], tagV n 1 ++ t⟩, (tagV n 1 ++ t).length) := by
  unfold recE
  have hg := tagE_tagV [] t h1 h2 (show 1 < 8 by omega) (p := 0) rfl
  rw [List.nil_append, Nat.zero_add] at hg
  rw [hg]
  dsimp only
  unfold restG
  rw [if_neg (by omega), if_pos rfl]
  unfold takeE
  rw [if_neg (by simp; omega)]
  dsimp only
  rw [List.drop_left, ← ht, List.take_length, ← List.length_append, List.drop_zero, Nat.sub_zero, List.take_length]
theorem may_one {tb : Nat → Nat → Bool} {s : List UInt8} {d : Int} {x : Fld} (hd : 0 ≤ d) (h : all s d = .ok [x]) (hx : tb x.num x.kind = false) : mayU tb s d = true := by
  unfold mayU restB
  rw [h, decide_eq_true (show d ≥ 0 from hd)]
  simp [hx]
theorem tbB_5 (n : Nat) : tbB n 5 = false := by unfold tbB; simp
theorem tbB_1 (n : Nat) : tbB n 1 = false := by unfold tbB; simp
theorem tbB_3 (n : Nat) : tbB n 3 = false := by unfold tbB; simp
/-! Groups. -/
def gN : Nat → List UInt8
  | 0 => []
  | k + 1 => tagV 90 3 ++ (gN k ++ tagV 90 4)
theorem gN_succ (k : Nat) : gN (k + 1) = tagV 90 3 ++ (gN k ++ tagV 90 4) := rfl
theorem gN_len (k : Nat) : (gN k).length ≤ 20 * k := by
  induction k with
  | zero => simp [gN]
  | succ k ih => have := tagV_len 90 3; have := tagV_len 90 4; rw [gN_succ]; simp; omega
theorem grp_gN : ∀ (k : Nat) (e : Int) (n : Nat) (f : Nat) (x y : List UInt8) (p : Nat), 1 ≤ n → n ≤ 536870911 → (k : Int) ≤ e → k + 1 ≤ f → p = x.length → grp (x ++ (gN k ++ (tagV n 4 ++ y))) f e n p = .ok (p + (gN k).length + (tagV n 4).length)
  | 0, e, n, f, x, y, p, n1, n2, hk, hf, hp => by
    obtain ⟨f, rfl⟩ : ∃ g, f = g + 1 := ⟨f - 1, by omega⟩
    rw [grp_succ, show gN 0 = [] from rfl, List.nil_append, tagE_tagV x y n1 n2 (by omega) hp]
    dsimp only
    rw [if_pos rfl, if_pos rfl]; rfl
  | k + 1, e, n, f, x, y, p, n1, n2, hk, hf, hp => by
    obtain ⟨f, rfl⟩ : ∃ g, f = g + 1 := ⟨f - 1, by omega⟩
    have e1 : x ++ (gN (k + 1) ++ (tagV n 4 ++ y)) = x ++ (tagV 90 3 ++ (gN k ++ (tagV 90 4 ++ (tagV n 4 ++ y)))) := by rw [gN_succ]; simp
    have e2 : x ++ (tagV 90 3 ++ (gN k ++ (tagV 90 4 ++ (tagV n 4 ++ y)))) = (x ++ tagV 90 3) ++ (gN k ++ (tagV 90 4 ++ (tagV n 4 ++ y))) := by simp
    have e3 : x ++ (tagV 90 3 ++ (gN k ++ (tagV 90 4 ++ (tagV n 4 ++ y)))) = (x ++ (tagV 90 3 ++ (gN k ++ tagV 90 4))) ++ (tagV n 4 ++ y) := by simp
    rw [e1, grp_succ, tagE_tagV x _ (by omega) (by omega) (by omega) hp]
    dsimp only
    rw [if_neg (by omega)]
    unfold restG
    rw [if_neg (by omega), if_neg (by omega), if_neg (by omega), if_neg (by omega), if_pos rfl, if_neg (by omega), e2, grp_gN k (e - 1) 90 f (x ++ tagV 90 3) (tagV n 4 ++ y) (p + (tagV 90 3).length) (by omega) (by omega) (by omega) (by omega) (by simp; omega)]
    dsimp only
    rw [← e2, e3]
    obtain ⟨f, rfl⟩ : ∃ g, f = g + 1 := ⟨f - 1, by omega⟩
    rw [grp_succ, tagE_tagV _ y n1 n2 (by omega) (by simp; omega)]
    dsimp only
    rw [if_pos rfl, if_pos rfl, gN_succ]
    simp; omega
theorem may_gN {tb : Nat → Nat → Bool} (htb : tb 90 3 = false) {k : Nat} {d : Int} (hk : (k : Int) ≤ d) : mayU tb (gN k) d = true := by
  cases k with
  | zero =>
    unfold mayU restB
    rw [show gN 0 = [] from rfl, all_nil, decide_eq_true (show d ≥ 0 by omega)]; rfl
  | succ k =>
    have hr : recE (gN (k + 1)) d 0 = .ok (⟨90, 3, 0, [], gN (k + 1)⟩, (gN (k + 1)).length) := by
      unfold recE
      have ht := tagE_tagV [] (gN k ++ tagV 90 4) (n := 90) (k := 3) (by omega) (by omega) (by omega) (p := 0) rfl
      rw [List.nil_append, Nat.zero_add] at ht
      rw [gN_succ, ht]
      dsimp only
      unfold restG
      have hg := grp_gN k (d - 1) 90 ((tagV 90 3 ++ (gN k ++ tagV 90 4)).length + 1) (tagV 90 3) [] (tagV 90 3).length (by omega) (by omega) (by omega) (by have : k ≤ (gN k).length := by { clear hk ht; induction k with | zero => simp | succ k ih => rw [gN_succ]; simp; have := putV_pos (8 * 90 + 3); have e : (tagV 90 3).length = (putV (8 * 90 + 3)).length := rfl; omega }; simp; omega) rfl
      rw [List.append_nil] at hg
      rw [if_neg (by omega), if_neg (by omega), if_neg (by omega), if_neg (by omega), if_pos rfl, if_neg (by omega), hg]
      dsimp only
      have hl : (tagV 90 3).length + (gN k).length + (tagV 90 4).length = (tagV 90 3 ++ (gN k ++ tagV 90 4)).length := by simp; omega
      rw [hl, List.drop_zero, Nat.sub_zero, List.take_length]
    exact may_one (by omega) (rec_all hr) htb
theorem codeOf_sh (k : Nat) : ∀ e : Er, codeOf (e.sh k) = codeOf e
  | .code n => rfl
  | .loc n e => rfl
  | .fld n e => rfl
/-- Deeper than told. -/
theorem grp_deepE : ∀ (k : Nat) (e : Int) (n f : Nat) (x y : List UInt8) (p : Nat), 0 ≤ e → e < k → k + 1 ≤ f → p = x.length → ∃ er, grp (x ++ (gN k ++ y)) f e n p = .error er ∧ codeOf er = 6
  | 0, e, n, f, x, y, p, h0, hk, hf, hp => by omega
  | k + 1, e, n, f, x, y, p, h0, hk, hf, hp => by
    obtain ⟨f, rfl⟩ : ∃ g, f = g + 1 := ⟨f - 1, by omega⟩
    have e1 : x ++ (gN (k + 1) ++ y) = x ++ (tagV 90 3 ++ (gN k ++ (tagV 90 4 ++ y))) := by rw [gN_succ]; simp
    have e2 : x ++ (tagV 90 3 ++ (gN k ++ (tagV 90 4 ++ y))) = (x ++ tagV 90 3) ++ (gN k ++ (tagV 90 4 ++ y)) := by simp
    rw [e1, grp_succ, tagE_tagV x _ (by omega) (by omega) (by omega) hp]
    dsimp only
    rw [if_neg (by omega)]
    unfold restG
    rw [if_neg (by omega), if_neg (by omega), if_neg (by omega), if_neg (by omega), if_pos rfl]
    by_cases h1 : e < 1
    · rw [if_pos h1]; exact ⟨_, rfl, rfl⟩
    · rw [if_neg h1, e2]
      obtain ⟨er, h2, h3⟩ := grp_deepE k (e - 1) 90 f (x ++ tagV 90 3) (tagV 90 4 ++ y) (p + (tagV 90 3).length) (by omega) (by omega) (by omega) (by simp; omega)
      rw [h2]
      exact ⟨_, rfl, h3⟩
theorem gN_ge (k : Nat) : k ≤ (gN k).length := by
  induction k with
  | zero => simp
  | succ k ih =>
    have := putV_pos (8 * 90 + 3)
    have e : (tagV 90 3).length = (putV (8 * 90 + 3)).length := rfl
    rw [gN_succ]; simp; omega
theorem all_bad {s : List UInt8} {d : Int} {e : Er} (hs : 0 < s.length) (h : recE s d 0 = .error e) : all s d = .error e := by
  unfold all allE
  rw [if_pos hs, h]
theorem tagV_pos (n k : Nat) : 0 < (tagV n k).length := putV_pos _
/-- One deeper than told. -/
theorem deep_g (k : Nat) : ∃ er, all (tagV 91 3 ++ (gN k ++ tagV 91 4)) (k : Int) = .error er ∧ codeOf er = 6 := by
  have hp := tagV_pos 91 3
  have hg := gN_ge k
  have ht := tagE_tagV [] (gN k ++ tagV 91 4) (n := 91) (k := 3) (by omega) (by omega) (by omega) (p := 0) rfl
  rw [List.nil_append, Nat.zero_add] at ht
  have key : ∃ er, recE (tagV 91 3 ++ (gN k ++ tagV 91 4)) (k : Int) 0 = .error er ∧ codeOf er = 6 := by
    unfold recE
    rw [ht]
    dsimp only
    unfold restG
    rw [if_neg (by omega), if_neg (by omega), if_neg (by omega), if_neg (by omega), if_pos rfl]
    by_cases h1 : (k : Int) < 1
    · rw [if_pos h1]; exact ⟨_, rfl, rfl⟩
    · rw [if_neg h1]
      obtain ⟨er, h2, h3⟩ := grp_deepE k ((k : Int) - 1) 91 ((tagV 91 3 ++ (gN k ++ tagV 91 4)).length + 1) (tagV 91 3) (tagV 91 4) (tagV 91 3).length (by omega) (by omega) (by simp; omega) rfl
      rw [h2]
      exact ⟨er, rfl, h3⟩
  obtain ⟨er, h1, h2⟩ := key
  exact ⟨er, all_bad (by simp; omega) h1, h2⟩
theorem vE_end (s : List UInt8) : vE s s.length = .error (.loc s.length (.code 1)) := by
  unfold vE
  rw [List.drop_length]; rfl
/-- A group that does not end. -/
theorem deep_h (d : Int) : ∃ er, all (tagV 90 3) d = .error er := by
  have hp := tagV_pos 90 3
  have ht := tagE_tagV [] [] (n := 90) (k := 3) (by omega) (by omega) (by omega) (p := 0) rfl
  rw [List.nil_append, Nat.zero_add, List.append_nil] at ht
  have key : ∃ er, recE (tagV 90 3) d 0 = .error er := by
    unfold recE
    rw [ht]
    dsimp only
    unfold restG
    rw [if_neg (by omega), if_neg (by omega), if_neg (by omega), if_neg (by omega), if_pos rfl]
    by_cases h1 : d < 1
    · rw [if_pos h1]; exact ⟨_, rfl⟩
    · rw [if_neg h1, grp_succ]
      unfold tagE
      rw [vE_end]
      exact ⟨_, rfl⟩
  obtain ⟨er, h1⟩ := key
  exact ⟨er, all_bad hp h1⟩
/-- A group that ends as another one. -/
theorem deep_i (d : Int) : ∃ er, all (tagV 90 3 ++ tagV 92 4) d = .error er := by
  have hp := tagV_pos 90 3
  have ht := tagE_tagV [] (tagV 92 4) (n := 90) (k := 3) (by omega) (by omega) (by omega) (p := 0) rfl
  rw [List.nil_append, Nat.zero_add] at ht
  have ht2 := tagE_tagV (tagV 90 3) [] (n := 92) (k := 4) (by omega) (by omega) (by omega) (p := (tagV 90 3).length) rfl
  rw [List.append_nil] at ht2
  have key : ∃ er, recE (tagV 90 3 ++ tagV 92 4) d 0 = .error er := by
    unfold recE
    rw [ht]
    dsimp only
    unfold restG
    rw [if_neg (by omega), if_neg (by omega), if_neg (by omega), if_neg (by omega), if_pos rfl]
    by_cases h1 : d < 1
    · rw [if_pos h1]; exact ⟨_, rfl⟩
    · rw [if_neg h1, grp_succ, ht2]
      dsimp only
      rw [if_pos rfl, if_neg (by omega)]
      exact ⟨_, rfl⟩
  obtain ⟨er, h1⟩ := key
  exact ⟨er, all_bad (by simp; omega) h1⟩
end Go.Proofs.YtaenjdichndafaaGreatDoor
