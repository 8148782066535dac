/- Buckets read. -/
import Derived.Test.YtfbckigcelmopaaGreatDoorX24
set_option linter.unusedSimpArgs false
set_option linter.unusedVariables false
set_option maxRecDepth 100000
namespace Go.Proofs.YtfbckigcelmopaaGreatDoor
open Go Go.Abs
variable (B : Fr)
theorem lastF_mem (num : Nat) : ∀ (l : List Fld), lastF l num ∈ l ∨ lastF l num = noFld
  | [] => .inr rfl
  | r :: l => by
    unfold lastF
    split
    · rcases lastF_mem num l with h | h
      · exact .inl (List.mem_cons_of_mem _ h)
      · exact .inr h
    · split
      · exact .inl (List.mem_cons_self ..)
      · exact .inr rfl
theorem lastF_n {l : List Fld} (h : LOk l) (num : Nat) : (lastF l num).n < 2 ^ 64 := by
  rcases lastF_mem num l with g | g
  · exact (h.1 _ g).n
  · rw [g]; show 0 < 2 ^ 64; omega
theorem lok_most {l : List Fld} (h : LOk l) : l.length ≤ most := by have := h.lenb; unfold big at this; unfold most; omega
/-- The records of a message, known and unknown. -/
def knB (tb : Nat → Nat → Bool) (s : List UInt8) (d : Int) : List Fld := knownL tb (fldsE s d)
def unB (tb : Nat → Nat → Bool) (s : List UInt8) (d : Int) : List UInt8 := unkL tb (fldsE s d)
def bkOf (s : List UInt8) (d : Int) : List Nat × Option Er := packF vars s.length 2 (knB tbB s d) (readE s d)
def ubB (s : List UInt8) (d : Int) : Bk × Option Er :=
  match (bkOf s d).2 with
  | none => (⟨zag32 (lastF (knB tbB s d) 1).n, (bkOf s d).1, unB tbB s d⟩, none)
  | some e => (noBk, some e)
theorem UnmarshalBuckets_calls (hB : BOk B) (s : List UInt8) (d : Int) (hl : s.length < big) (hd1 : -9223372036854775808 ≤ d) (hd2 : d < 9223372036854775808) :
    CallsA (cx B) 12 [sT s, .d (.int .i64 d)] [] (.tup [.d (ubB s d).1.d, .d (eD (ubB s d).2)]) [] := by
  have h1 := Read_calls B hB 28 tbB (takesBuckets_calls B) s d hl hd1 hd2
  have hk : LOk (knB tbB s d) := known_lok tbB s d hl
  have h2 := fixed_calls B (readE s d) (unB tbB s d) d s.length (knB tbB s d) 1 (lok_most hk)
  have h3 := Zag32_calls B (lastF (knB tbB s d) 1).n (lastF_n hk 1)
  have h4 := rVars_calls B hB (readE s d) (unB tbB s d) d s.length (knB tbB s d) 2 hk
  unfold ubB bkOf
  generalize packF vars s.length 2 (knB tbB s d) (readE s d) = p at *
  obtain ⟨cs, e⟩ := p
  dsimp only at *
  refine l_body (X := cx B) (fn := Tryz.f12) Tryz.func12 rfl rfl rfl rfl rfl 0 [] rfl rfl ?_
  repeat (first | (with_reducible first | refine r_seq ?_ | refine r_nil ?_ | refine f_nil ?_ | refine k_nil ?_ | refine r_then ?_ | refine r_skip ?_ | refine r_ret ?_ | refine r_thenR ?_ | refine r_block ?_ | refine r_blockN ?_ | refine r_blockR ?_ | refine r_exit ?_ | refine r_thenE ?_) | ((with_reducible refine r_blockE ?_ ?_); · rfl) | ((with_reducible refine r_blockP ?_ ?_); · rfl) | ((with_reducible refine is_cond ?_); first | refine r_true rfl ?_ | refine r_false rfl ?_) | ((with_reducible refine is_region ?_); first | refine l_region rfl rfl ?_ | refine l_drawRun rfl rfl rfl rfl ?_ | refine x_openK rfl rfl rfl ?_) | ((with_reducible refine is_wpO ?_); refine l_more rfl rfl ?_) | ((with_reducible refine is_runF ?_); first | refine f_more rfl rfl ?_ | refine f_step (exec_ok (fun _ _ => rfl) rfl) rfl (fun h => absurd h (by decide)) rfl ?_ | refine f_step (exec_ok (fun _ _ => rfl) rfl) rfl (fun _ => ⟨rfl, rfl⟩) rfl ?_) | ((with_reducible refine is_runX ?_); first | refine x_skip rfl rfl ?_ | refine x_pure rfl rfl rfl ?_ | refine x_load rfl rfl rfl rfl rfl rfl ?_ | refine x_exec rfl rfl rfl ?_ | refine x_nil rfl ?_ | refine x_nilT rfl rfl rfl rfl rfl rfl rfl ?_))
  refine l_call [] (h1) rfl rfl rfl rfl rfl rfl rfl (by decide) rfl rfl rfl rfl rfl ?_
  repeat (first | (with_reducible first | refine r_seq ?_ | refine r_nil ?_ | refine f_nil ?_ | refine k_nil ?_ | refine r_then ?_ | refine r_skip ?_ | refine r_ret ?_ | refine r_thenR ?_ | refine r_block ?_ | refine r_blockN ?_ | refine r_blockR ?_ | refine r_exit ?_ | refine r_thenE ?_) | ((with_reducible refine r_blockE ?_ ?_); · rfl) | ((with_reducible refine r_blockP ?_ ?_); · rfl) | ((with_reducible refine is_cond ?_); first | refine r_true rfl ?_ | refine r_false rfl ?_))
  repeat (first | (with_reducible first | refine r_seq ?_ | refine r_nil ?_ | refine f_nil ?_ | refine k_nil ?_ | refine r_then ?_ | refine r_skip ?_ | refine r_ret ?_ | refine r_thenR ?_ | refine r_block ?_ | refine r_blockN ?_ | refine r_blockR ?_ | refine r_exit ?_ | refine r_thenE ?_) | ((with_reducible refine r_blockE ?_ ?_); · rfl) | ((with_reducible refine r_blockP ?_ ?_); · rfl) | ((with_reducible refine is_cond ?_); first | refine r_true rfl ?_ | refine r_false rfl ?_) | ((with_reducible refine is_region ?_); first | refine l_region rfl rfl ?_ | refine l_drawRun rfl rfl rfl rfl ?_ | refine x_openK rfl rfl rfl ?_) | ((with_reducible refine is_wpO ?_); refine l_more rfl rfl ?_) | ((with_reducible refine is_runF ?_); first | refine f_more rfl rfl ?_ | refine f_step (exec_ok (fun _ _ => rfl) rfl) rfl (fun h => absurd h (by decide)) rfl ?_ | refine f_step (exec_ok (fun _ _ => rfl) rfl) rfl (fun _ => ⟨rfl, rfl⟩) rfl ?_) | ((with_reducible refine is_runX ?_); first | refine x_skip rfl rfl ?_ | refine x_pure rfl rfl rfl ?_ | refine x_load rfl rfl rfl rfl rfl rfl ?_ | refine x_exec rfl rfl rfl ?_ | refine x_nil rfl ?_ | refine x_nilT rfl rfl rfl rfl rfl rfl rfl ?_))
  refine x_tail (i0 := 10) (z := 11) (t0 := 7) rfl (by decide) rfl rfl rfl rfl rfl rfl rfl rfl rfl rfl ?_
  repeat (first | (with_reducible first | refine r_seq ?_ | refine r_nil ?_ | refine f_nil ?_ | refine k_nil ?_ | refine r_then ?_ | refine r_skip ?_ | refine r_ret ?_ | refine r_thenR ?_ | refine r_block ?_ | refine r_blockN ?_ | refine r_blockR ?_ | refine r_exit ?_ | refine r_thenE ?_) | ((with_reducible refine r_blockE ?_ ?_); · rfl) | ((with_reducible refine r_blockP ?_ ?_); · rfl) | ((with_reducible refine is_cond ?_); first | refine r_true rfl ?_ | refine r_false rfl ?_) | ((with_reducible refine is_region ?_); first | refine l_region rfl rfl ?_ | refine l_drawRun rfl rfl rfl rfl ?_ | refine x_openK rfl rfl rfl ?_) | ((with_reducible refine is_wpO ?_); refine l_more rfl rfl ?_) | ((with_reducible refine is_runF ?_); first | refine f_more rfl rfl ?_ | refine f_step (exec_ok (fun _ _ => rfl) rfl) rfl (fun h => absurd h (by decide)) rfl ?_ | refine f_step (exec_ok (fun _ _ => rfl) rfl) rfl (fun _ => ⟨rfl, rfl⟩) rfl ?_) | ((with_reducible refine is_runX ?_); first | refine x_skip rfl rfl ?_ | refine x_pure rfl rfl rfl ?_ | refine x_load rfl rfl rfl rfl rfl rfl ?_ | refine x_exec rfl rfl rfl ?_ | refine x_nil rfl ?_ | refine x_nilT rfl rfl rfl rfl rfl rfl rfl ?_))
  refine x_call [1] (h2) rfl rfl rfl rfl rfl rfl (by decide) rfl rfl rfl rfl rfl rfl ?_
  repeat (first | (with_reducible first | refine r_seq ?_ | refine r_nil ?_ | refine f_nil ?_ | refine k_nil ?_ | refine r_then ?_ | refine r_skip ?_ | refine r_ret ?_ | refine r_thenR ?_ | refine r_block ?_ | refine r_blockN ?_ | refine r_blockR ?_ | refine r_exit ?_ | refine r_thenE ?_) | ((with_reducible refine r_blockE ?_ ?_); · rfl) | ((with_reducible refine r_blockP ?_ ?_); · rfl) | ((with_reducible refine is_cond ?_); first | refine r_true rfl ?_ | refine r_false rfl ?_) | ((with_reducible refine is_region ?_); first | refine l_region rfl rfl ?_ | refine l_drawRun rfl rfl rfl rfl ?_ | refine x_openK rfl rfl rfl ?_) | ((with_reducible refine is_wpO ?_); refine l_more rfl rfl ?_) | ((with_reducible refine is_runF ?_); first | refine f_more rfl rfl ?_ | refine f_step (exec_ok (fun _ _ => rfl) rfl) rfl (fun h => absurd h (by decide)) rfl ?_ | refine f_step (exec_ok (fun _ _ => rfl) rfl) rfl (fun _ => ⟨rfl, rfl⟩) rfl ?_) | ((with_reducible refine is_runX ?_); first | refine x_skip rfl rfl ?_ | refine x_pure rfl rfl rfl ?_ | refine x_load rfl rfl rfl rfl rfl rfl ?_ | refine x_exec rfl rfl rfl ?_ | refine x_nil rfl ?_ | refine x_nilT rfl rfl rfl rfl rfl rfl rfl ?_))
  refine x_call [] (h3) rfl rfl rfl rfl rfl rfl (by decide) rfl rfl rfl rfl rfl rfl ?_
  repeat (first | (with_reducible first | refine r_seq ?_ | refine r_nil ?_ | refine f_nil ?_ | refine k_nil ?_ | refine r_then ?_ | refine r_skip ?_ | refine r_ret ?_ | refine r_thenR ?_ | refine r_block ?_ | refine r_blockN ?_ | refine r_blockR ?_ | refine r_exit ?_ | refine r_thenE ?_) | ((with_reducible refine r_blockE ?_ ?_); · rfl) | ((with_reducible refine r_blockP ?_ ?_); · rfl) | ((with_reducible refine is_cond ?_); first | refine r_true rfl ?_ | refine r_false rfl ?_) | ((with_reducible refine is_region ?_); first | refine l_region rfl rfl ?_ | refine l_drawRun rfl rfl rfl rfl ?_ | refine x_openK rfl rfl rfl ?_) | ((with_reducible refine is_wpO ?_); refine l_more rfl rfl ?_) | ((with_reducible refine is_runF ?_); first | refine f_more rfl rfl ?_ | refine f_step (exec_ok (fun _ _ => rfl) rfl) rfl (fun h => absurd h (by decide)) rfl ?_ | refine f_step (exec_ok (fun _ _ => rfl) rfl) rfl (fun _ => ⟨rfl, rfl⟩) rfl ?_) | ((with_reducible refine is_runX ?_); first | refine x_skip rfl rfl ?_ | refine x_pure rfl rfl rfl ?_ | refine x_load rfl rfl rfl rfl rfl rfl ?_ | refine x_exec rfl rfl rfl ?_ | refine x_nil rfl ?_ | refine x_nilT rfl rfl rfl rfl rfl rfl rfl ?_))
  refine x_call [1] (h4) rfl rfl rfl rfl rfl rfl (by decide) rfl rfl rfl rfl rfl rfl ?_
  repeat (first | (with_reducible first | refine r_seq ?_ | refine r_nil ?_ | refine f_nil ?_ | refine k_nil ?_ | refine r_then ?_ | refine r_skip ?_ | refine r_ret ?_ | refine r_thenR ?_ | refine r_block ?_ | refine r_blockN ?_ | refine r_blockR ?_ | refine r_exit ?_ | refine r_thenE ?_) | ((with_reducible refine r_blockE ?_ ?_); · rfl) | ((with_reducible refine r_blockP ?_ ?_); · rfl) | ((with_reducible refine is_cond ?_); first | refine r_true rfl ?_ | refine r_false rfl ?_) | ((with_reducible refine is_region ?_); first | refine l_region rfl rfl ?_ | refine l_drawRun rfl rfl rfl rfl ?_ | refine x_openK rfl rfl rfl ?_) | ((with_reducible refine is_wpO ?_); refine l_more rfl rfl ?_) | ((with_reducible refine is_runF ?_); first | refine f_more rfl rfl ?_ | refine f_step (exec_ok (fun _ _ => rfl) rfl) rfl (fun h => absurd h (by decide)) rfl ?_ | refine f_step (exec_ok (fun _ _ => rfl) rfl) rfl (fun _ => ⟨rfl, rfl⟩) rfl ?_) | ((with_reducible refine is_runX ?_); first | refine x_skip rfl rfl ?_ | refine x_pure rfl rfl rfl ?_ | refine x_load rfl rfl rfl rfl rfl rfl ?_ | refine x_exec rfl rfl rfl ?_ | refine x_nil rfl ?_ | refine x_nilT rfl rfl rfl rfl rfl rfl rfl ?_))
  cases e with
  | none =>
    repeat (first | (with_reducible first | refine r_seq ?_ | refine r_nil ?_ | refine f_nil ?_ | refine k_nil ?_ | refine r_then ?_ | refine r_skip ?_ | refine r_ret ?_ | refine r_thenR ?_ | refine r_block ?_ | refine r_blockN ?_ | refine r_blockR ?_ | refine r_exit ?_ | refine r_thenE ?_) | ((with_reducible refine r_blockE ?_ ?_); · rfl) | ((with_reducible refine r_blockP ?_ ?_); · rfl) | ((with_reducible refine is_cond ?_); first | refine r_true rfl ?_ | refine r_false rfl ?_) | ((with_reducible refine is_region ?_); first | refine l_region rfl rfl ?_ | refine l_drawRun rfl rfl rfl rfl ?_ | refine x_openK rfl rfl rfl ?_) | ((with_reducible refine is_wpO ?_); refine l_more rfl rfl ?_) | ((with_reducible refine is_runF ?_); first | refine f_more rfl rfl ?_ | refine f_step (exec_ok (fun _ _ => rfl) rfl) rfl (fun h => absurd h (by decide)) rfl ?_ | refine f_step (exec_ok (fun _ _ => rfl) rfl) rfl (fun _ => ⟨rfl, rfl⟩) rfl ?_) | ((with_reducible refine is_runX ?_); first | refine x_skip rfl rfl ?_ | refine x_pure rfl rfl rfl ?_ | refine x_load rfl rfl rfl rfl rfl rfl ?_ | refine x_exec rfl rfl rfl ?_ | refine x_nil rfl ?_ | refine x_nilT rfl rfl rfl rfl rfl rfl rfl ?_))
    exact l_end trivial (by decide) rfl rfl rfl rfl rfl
  | some e =>
    cases e <;> (
    repeat (first | (with_reducible first | refine r_seq ?_ | refine r_nil ?_ | refine f_nil ?_ | refine k_nil ?_ | refine r_then ?_ | refine r_skip ?_ | refine r_ret ?_ | refine r_thenR ?_ | refine r_block ?_ | refine r_blockN ?_ | refine r_blockR ?_ | refine r_exit ?_ | refine r_thenE ?_) | ((with_reducible refine r_blockE ?_ ?_); · rfl) | ((with_reducible refine r_blockP ?_ ?_); · rfl) | ((with_reducible refine is_cond ?_); first | refine r_true rfl ?_ | refine r_false rfl ?_) | ((with_reducible refine is_region ?_); first | refine l_region rfl rfl ?_ | refine l_drawRun rfl rfl rfl rfl ?_ | refine x_openK rfl rfl rfl ?_) | ((with_reducible refine is_wpO ?_); refine l_more rfl rfl ?_) | ((with_reducible refine is_runF ?_); first | refine f_more rfl rfl ?_ | refine f_step (exec_ok (fun _ _ => rfl) rfl) rfl (fun h => absurd h (by decide)) rfl ?_ | refine f_step (exec_ok (fun _ _ => rfl) rfl) rfl (fun _ => ⟨rfl, rfl⟩) rfl ?_) | ((with_reducible refine is_runX ?_); first | refine x_skip rfl rfl ?_ | refine x_pure rfl rfl rfl ?_ | refine x_load rfl rfl rfl rfl rfl rfl ?_ | refine x_exec rfl rfl rfl ?_ | refine x_nil rfl ?_ | refine x_nilT rfl rfl rfl rfl rfl rfl rfl ?_))
    exact l_end trivial (by decide) rfl rfl rfl rfl rfl)
end Go.Proofs.YtfbckigcelmopaaGreatDoor
