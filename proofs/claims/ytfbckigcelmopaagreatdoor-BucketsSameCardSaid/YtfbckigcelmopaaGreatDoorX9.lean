/- msg.Reader: the last record of a number. -/
import Derived.Test.YtfbckigcelmopaaGreatDoorX8
set_option linter.unusedSimpArgs false
set_option linter.unusedVariables false
set_option maxRecDepth 100000
namespace Go.Proofs.YtfbckigcelmopaaGreatDoor
open Go Go.Abs
variable (B : Fr)
/-- A message's reader. -/
def rO (e : Option Er) (u : List UInt8) (d n : Int) (l : List Fld) : Ob := .mu [.d (eD e), sT u, .d (.int .i64 d), .d (.int .i64 n), .d (slD (l.map Fld.d))]
def noFld : Fld := ⟨0, 0, 0, [], []⟩
def lastF : List Fld → Nat → Fld
  | [], _ => noFld
  | r :: l, num => if l.any (fun x => x.num == num) then lastF l num else if r.num = num then r else noFld
theorem lastF_snoc (num : Nat) (x : Fld) : ∀ (l : List Fld), lastF (l ++ [x]) num = if x.num = num then x else lastF l num
  | [] => by simp [lastF]
  | r :: l => by
    simp only [List.cons_append, lastF, lastF_snoc num x l, List.any_append, List.any_cons, List.any_nil, Bool.or_false]
    by_cases h : x.num = num <;> simp [h]
theorem last_calls (e : Option Er) (u : List UInt8) (d n : Int) (l : List Fld) (num : Nat) (hl : l.length ≤ most) : CallsA (cx B) 66 [.ptr 0 0, iT num] [rO e u d n l] (.d (lastF l num).d) [rO e u d n l] := by
  unfold most at hl
  refine l_body (X := cx B) (fn := Tryz.f66) Tryz.func66 rfl rfl rfl rfl rfl 1 [] rfl rfl ?_
  refine walk ?_
  have hlen : (l.map Fld.d).length = l.length := by simp
  rw [hlen, show IntKind.i64.wrap ((l.length : Int) - 1) = (l.length : Int) - 1 from wrapI (by omega) (by omega)]
  refine l_loop (fun i : Nat => i) (fun i => [(0, .ptr 0 0), (1, iT num), (4, .ptr 1 0), (5, .d (.int .i64 ((i : Int) - 1)))]) (fun _ => [rO e u d n l, .mu [iT 0, iT 0, uT 0, sT [], sT []]]) (fun i => i ≤ l.length ∧ lastF l num = lastF (l.take i) num) l.length ⟨by omega, by simp⟩ ⟨rfl, rfl, rfl, rfl, trivial⟩ rfl 2 rfl (fun _ => rfl) (fun _ => rfl) (fun _ => rfl) ?_
  rintro i ⟨i1, i2⟩
  cases i with
  | zero =>
    refine walk ?_
    rw [i2]
    exact l_end trivial (by decide) rfl rfl rfl rfl rfl
  | succ i =>
    rw [show (((i + 1 : Nat) : Int) - 1) = (i : Int) by omega]
    have hlt : i < l.length := by omega
    obtain ⟨x, hx⟩ : ∃ x, l[i]? = some x := ⟨_, List.getElem?_eq_getElem hlt⟩
    have hdx : (l.map Fld.d)[i]? = some x.d := by rw [List.getElem?_map, hx]; rfl
    have hst : lastF l num = if x.num = num then x else lastF (l.take i) num := by
      rw [i2, List.take_add_one, hx, Option.toList_some, lastF_snoc]
    refine walk ?_
    rw [show decide ((i : Int) ≥ 0) = true from decide_eq_true (by omega)]
    refine walk ?_
    refine l_step (.indexAddr (k := .i64) (n := i) (es := l.map Fld.d) (u := x.d) rfl rfl rfl rfl (.inl ⟨_, rfl⟩) rfl (by omega) (by simpa using hdx) rfl (by decide)) rfl rfl ?_
    refine walk ?_
    refine r_cond rfl (fun hc => ?_) (fun hc => ?_)
    · have hxn : x.num = num := by have := eq_of_beq hc; omega
      rw [if_pos hxn] at hst
      rw [hst]
      refine walk ?_
      refine l_step (.indexAddr (k := .i64) (n := i) (es := l.map Fld.d) (u := x.d) rfl rfl rfl rfl (.inl ⟨_, rfl⟩) rfl (by omega) (by simpa using hdx) rfl (by decide)) rfl rfl ?_
      refine walk ?_
      exact l_end trivial (by decide) rfl rfl rfl rfl rfl
    · have hxn : x.num ≠ num := by have := ne_of_beq_false hc; omega
      rw [if_neg hxn] at hst
      refine walk ?_
      rw [show IntKind.i64.wrap ((i : Int) - 1) = (i : Int) - 1 from wrapI (by omega) (by omega)]
      exact ⟨i, Nat.lt_succ_self i, ⟨by omega, hst⟩, ⟨rfl, rfl, rfl, rfl, trivial⟩, rfl, wk_eq rfl⟩
theorem fixed_calls (e : Option Er) (u : List UInt8) (d n : Int) (l : List Fld) (num : Nat) (hl : l.length ≤ most) : CallsA (cx B) 30 [.ptr 0 0, iT num] [rO e u d n l] (uT (lastF l num).n) [rO e u d n l] := by
  refine l_body (X := cx B) (fn := Tryz.f30) Tryz.func30 rfl rfl rfl rfl rfl 1 [] rfl rfl ?_
  refine walk ?_
  refine l_call [0] (last_calls B e u d n l num hl) rfl rfl rfl rfl rfl rfl rfl (by decide) rfl rfl rfl rfl rfl ?_
  refine walk ?_
  exact l_end trivial (by decide) rfl rfl rfl rfl rfl
end Go.Proofs.YtfbckigcelmopaaGreatDoor
