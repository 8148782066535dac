/- Buckets read. -/
import Derived.Test.YtfbckigcelmopaaGreatDoorX24
set_option linter.unusedSimpArgs false
set_option linter.unusedVariables false
set_option maxRecDepth 100000
namespace Go.Proofs.YtfbckigcelmopaaGreatDoor
open Go Go.Abs
variable (B : Fr)
theorem lastF_mem (num : Nat) : ∀ (l : List Fld), lastF l num ∈ l ∨ lastF l num = noFld
  | [] => .inr rfl
  | r :: l => by
    unfold lastF
    split
    · rcases lastF_mem num l with h | h
      · exact .inl (List.mem_cons_of_mem _ h)
      · exact .inr h
    · split
      · exact .inl (List.mem_cons_self ..)
      · exact .inr rfl
theorem lastF_n {l : List Fld} (h : LOk l) (num : Nat) : (lastF l num).n < 2 ^ 64 := by
  rcases lastF_mem num l with g | g
  · exact (h.1 _ g).n
  · rw [g]; show 0 < 2 ^ 64; omega
theorem lok_most {l : List Fld} (h : LOk l) : l.length ≤ most := by have := h.lenb; unfold big at this; unfold most; omega
/-- The records of a message, known and unknown. -/
def knB (tb : Nat → Nat → Bool) (s : List UInt8) (d : Int) : List Fld := knownL tb (fldsE s d)
def unB (tb : Nat → Nat → Bool) (s : List UInt8) (d : Int) : List UInt8 := unkL tb (fldsE s d)
def bkOf (s : List UInt8) (d : Int) : List Nat × Option Er := packF vars s.length 2 (knB tbB s d) (readE s d)
def ubB (s : List UInt8) (d : Int) : Bk × Option Er :=
  match (bkOf s d).2 with
  | none => (⟨zag32 (lastF (knB tbB s d) 1).n, (bkOf s d).1, unB tbB s d⟩, none)
  | some e => (noBk, some e)
theorem UnmarshalBuckets_calls (hB : BOk B) (s : List UInt8) (d : Int) (hl : s.length < big) (hd1 : -9223372036854775808 ≤ d) (hd2 : d < 9223372036854775808) :
    CallsA (cx B) 12 [sT s, .d (.int .i64 d)] [] (.tup [.d (ubB s d).1.d, .d (eD (ubB s d).2)]) [] := by
  have h1 := Read_calls B hB 28 tbB (takesBuckets_calls B) s d hl hd1 hd2
  have hk : LOk (knB tbB s d) := known_lok tbB s d hl
  have h2 := fixed_calls B (readE s d) (unB tbB s d) d s.length (knB tbB s d) 1 (lok_most hk)
  have h3 := Zag32_calls B (lastF (knB tbB s d) 1).n (lastF_n hk 1)
  have h4 := rVars_calls B hB (readE s d) (unB tbB s d) d s.length (knB tbB s d) 2 hk
  unfold ubB bkOf
  generalize packF vars s.length 2 (knB tbB s d) (readE s d) = p at *
  obtain ⟨cs, e⟩ := p
  dsimp only at *
  refine l_body (X := cx B) (fn := Tryz.f12) Tryz.func12 rfl rfl rfl rfl rfl 0 [] rfl rfl ?_
  refine walk ?_
  refine l_call [] (h1) rfl rfl rfl rfl rfl rfl rfl (by decide) rfl rfl rfl rfl rfl ?_
  refine adm ?_
  refine walk ?_
  refine x_tail (i0 := 10) (z := 11) (t0 := 7) rfl (by decide) rfl rfl rfl rfl rfl rfl rfl rfl rfl rfl ?_
  refine walk ?_
  refine x_call [1] (h2) rfl rfl rfl rfl rfl rfl (by decide) rfl rfl rfl rfl rfl rfl ?_
  refine walk ?_
  refine x_call [] (h3) rfl rfl rfl rfl rfl rfl (by decide) rfl rfl rfl rfl rfl rfl ?_
  refine walk ?_
  refine x_call [1] (h4) rfl rfl rfl rfl rfl rfl (by decide) rfl rfl rfl rfl rfl rfl ?_
  refine walk ?_
  cases e with
  | none =>
    refine walk ?_
    exact l_end trivial (by decide) rfl rfl rfl rfl rfl
  | some e =>
    cases e <;> (
    refine walk ?_
    exact l_end trivial (by decide) rfl rfl rfl rfl rfl)
end Go.Proofs.YtfbckigcelmopaaGreatDoor
