/- msg.Rest: may these be a message's other records? -/
import Derived.Test.YtfbckigcelmopaaGreatDoorX9
set_option linter.unusedSimpArgs false
set_option linter.unusedVariables false
set_option maxRecDepth 100000
namespace Go.Proofs.YtfbckigcelmopaaGreatDoor
open Go Go.Abs
variable (B : Fr)
/-- A function is a table. -/
def Tbl (f : Nat) (tb : Nat → Nat → Bool) : Prop := ∀ n k : Nat, CallsA (cx B) f [iT n, iT k] [] (.d (.bool (tb n k))) []
def restB (tb : Nat → Nat → Bool) (s : List UInt8) (d : Int) : Bool :=
  match all s d with
  | .ok l => !(l.any fun r => tb r.num r.kind)
  | .error _ => false
theorem allE_len {s : List UInt8} {d : Int} : ∀ {f p : Nat} {l : List Fld}, allE s d f p = .ok l → l.length ≤ s.length - p
  | 0, p, l, h => by simp [allE] at h; subst h; simp
  | f + 1, p, l, h => by
    unfold allE at h
    split at h
    · split at h <;> (try (simp at h; done))
      rename_i e
      obtain ⟨a, b, -⟩ := recE_ok e
      split at h <;> (try (simp at h; done))
      rename_i e2
      injection h with h; subst h
      have := allE_len e2
      simp; omega
    · injection h with h; subst h; simp
theorem all_len {s : List UInt8} {d : Int} {l : List Fld} (h : all s d = .ok l) : l.length ≤ s.length := by
  have := allE_len h; omega
theorem Rest_calls (f : Nat) (tb : Nat → Nat → Bool) (ht : Tbl B f tb) (s : List UInt8) (d : Int) (hl : s.length < big) (hd1 : -9223372036854775808 ≤ d) (hd2 : d < 9223372036854775808) : CallsA (cx B) 48 [sT s, .d (.int .i64 d), .d (.fn f [])] [] (.d (.bool (restB tb s d))) [] := by
  have h1 := all_calls B s d hl hd1 hd2
  have hl' := hl
  unfold big at hl'
  unfold restB
  cases ha : all s d with
  | error e =>
    rw [ha] at h1
    dsimp only
    refine l_body (X := cx B) (fn := Tryz.f48) Tryz.func48 rfl rfl rfl rfl rfl 0 [] rfl rfl ?_
    refine walk ?_
    refine l_call [] (h1) rfl rfl rfl rfl rfl rfl rfl (by decide) rfl rfl rfl rfl rfl ?_
    refine walk ?_
    refine l_loop (fun _ : Unit => 0) (fun _ => [(8, .d e.d), (18, iT 0), (19, iT 0)]) (fun _ => []) (fun _ => True) () trivial ⟨rfl, rfl, rfl, trivial⟩ rfl 0 rfl (fun _ => rfl) (fun _ => rfl) (fun _ => rfl) ?_
    intro _ _
    cases e <;> (
    refine walk ?_
    exact l_end trivial (by decide) rfl rfl rfl rfl rfl)
  | ok l =>
    have hll := all_len ha
    rw [ha] at h1
    dsimp only
    refine l_body (X := cx B) (fn := Tryz.f48) Tryz.func48 rfl rfl rfl rfl rfl 0 [] rfl rfl ?_
    refine walk ?_
    refine l_call [] (h1) rfl rfl rfl rfl rfl rfl rfl (by decide) rfl rfl rfl rfl rfl ?_
    refine walk ?_
    have hlen : (l.map Fld.d).length = l.length := by simp
    rw [hlen]
    refine l_loop (fun i : Nat => l.length - i) (fun i => [(2, .d (.fn f [])), (8, .d .nili), (17, .d (slD (l.map Fld.d))), (18, iT l.length), (19, iT i)]) (fun _ => []) (fun i => i ≤ l.length ∧ (l.take i).any (fun r => tb r.num r.kind) = false) 0 ⟨by omega, by simp⟩ ⟨rfl, rfl, rfl, rfl, rfl, trivial⟩ rfl 0 rfl (fun _ => rfl) (fun _ => rfl) (fun _ => rfl) ?_
    rintro i ⟨i1, i2⟩
    refine walk ?_
    refine r_cond rfl (fun hc => ?_) (fun hc => ?_)
    · have hlt : i < l.length := by have := of_decide_eq_true hc; omega
      obtain ⟨x, hx⟩ : ∃ x, l[i]? = some x := ⟨_, List.getElem?_eq_getElem hlt⟩
      have hdx : (l.map Fld.d)[i]? = some x.d := by rw [List.getElem?_map, hx]; rfl
      refine walk ?_
      refine l_step (.indexAddr (k := .i64) (n := i) (es := l.map Fld.d) (u := x.d) rfl rfl rfl rfl (.inl ⟨_, rfl⟩) rfl (by omega) (by simpa using hdx) rfl (by decide)) rfl rfl ?_
      refine walk ?_
      refine l_call [] (ht x.num x.kind) rfl rfl rfl rfl rfl rfl rfl (by decide) rfl rfl rfl rfl rfl ?_
      cases hb : tb x.num x.kind with
      | true =>
        have : l.any (fun r => tb r.num r.kind) = true := List.any_eq_true.2 ⟨x, List.mem_of_getElem? hx, hb⟩
        rw [this]
        refine walk ?_
        exact l_end trivial (by decide) rfl rfl rfl rfl rfl
      | false =>
        refine walk ?_
        rw [show IntKind.i64.wrap ((i : Int) + 1) = ((i + 1 : Nat) : Int) by rw [wrapI (by omega) (by omega)]; omega]
        exact ⟨i + 1, by omega, ⟨by omega, by rw [List.take_add_one, hx, Option.toList_some, List.any_append, i2]; simp [hb]⟩, ⟨rfl, rfl, rfl, rfl, rfl, trivial⟩, rfl, wk_eq rfl⟩
    · have hge : i = l.length := by have := of_decide_eq_false hc; omega
      subst hge
      rw [List.take_length] at i2
      rw [i2]
      refine walk ?_
      exact l_end trivial (by decide) rfl rfl rfl rfl rfl
end Go.Proofs.YtfbckigcelmopaaGreatDoor
