/- msg.Reader: an error noted; numbers unfolded. -/
import Derived.Test.YtfbckigcelmopaaGreatDoorX19
import Derived.Test.YtfbckigcelmopaaGreatDoorXF
set_option linter.unusedSimpArgs false
set_option linter.unusedVariables false
set_option maxRecDepth 100000
namespace Go.Proofs.YtfbckigcelmopaaGreatDoor
open Go Go.Abs
variable (B : Fr)
/-- What blame.Place and blame.Code need of the program's variables. -/
def BOk (B : Fr) : Prop := B 0 0 = some (rty 27)
def clampE (n at' : Int) : Int :=
  let m := if (0 : Int) > at' then 0 else at'
  if n < m then n else m
/-- The first error within a field counts. -/
def failE (n : Int) (num : Nat) : Option Er → Option Er → Option Er
  | none, some x => some (.loc (clampE n (placeOf x).1) (.fld num x))
  | e, _ => e
theorem msgfails_calls (hB : BOk B) (e : Option Er) (u : List UInt8) (d n : Int) (l : List Fld) (num : Nat) (er : Option Er) : CallsA (cx B) 62 [.ptr 0 0, iT num, .d (eD er)] [rO e u d n l] (.tup []) [rO (failE n num e er) u d n l] := by
  cases e with
  | some e =>
    refine l_body (X := cx B) (fn := Tryz.f62) Tryz.func62 rfl rfl rfl rfl rfl 1 [] rfl rfl ?_
    cases e <;> (
    repeat (first | (with_reducible first | refine r_seq ?_ | refine r_nil ?_ | refine f_nil ?_ | refine k_nil ?_ | refine r_then ?_ | refine r_skip ?_ | refine r_ret ?_ | refine r_thenR ?_ | refine r_block ?_ | refine r_blockN ?_ | refine r_blockR ?_ | refine r_exit ?_ | refine r_thenE ?_) | ((with_reducible refine r_blockE ?_ ?_); · rfl) | ((with_reducible refine r_blockP ?_ ?_); · rfl) | ((with_reducible refine is_cond ?_); first | refine r_true rfl ?_ | refine r_false rfl ?_) | ((with_reducible refine is_region ?_); first | refine l_region rfl rfl ?_ | refine l_drawRun rfl rfl rfl rfl ?_ | refine x_openK rfl rfl rfl ?_) | ((with_reducible refine is_wpO ?_); refine l_more rfl rfl ?_) | ((with_reducible refine is_runF ?_); first | refine f_more rfl rfl ?_ | refine f_step (exec_ok (fun _ _ => rfl) rfl) rfl (fun h => absurd h (by decide)) rfl ?_ | refine f_step (exec_ok (fun _ _ => rfl) rfl) rfl (fun _ => ⟨rfl, rfl⟩) rfl ?_) | ((with_reducible refine is_runX ?_); first | refine x_skip rfl rfl ?_ | refine x_pure rfl rfl rfl ?_ | refine x_load rfl rfl rfl rfl rfl rfl ?_ | refine x_exec rfl rfl rfl ?_ | refine x_nil rfl ?_ | refine x_nilT rfl rfl rfl rfl rfl rfl rfl ?_))
    exact l_end trivial (by decide) rfl rfl rfl rfl rfl)
  | none =>
    cases er with
    | none =>
      refine l_body (X := cx B) (fn := Tryz.f62) Tryz.func62 rfl rfl rfl rfl rfl 1 [] rfl rfl ?_
      repeat (first | (with_reducible first | refine r_seq ?_ | refine r_nil ?_ | refine f_nil ?_ | refine k_nil ?_ | refine r_then ?_ | refine r_skip ?_ | refine r_ret ?_ | refine r_thenR ?_ | refine r_block ?_ | refine r_blockN ?_ | refine r_blockR ?_ | refine r_exit ?_ | refine r_thenE ?_) | ((with_reducible refine r_blockE ?_ ?_); · rfl) | ((with_reducible refine r_blockP ?_ ?_); · rfl) | ((with_reducible refine is_cond ?_); first | refine r_true rfl ?_ | refine r_false rfl ?_) | ((with_reducible refine is_region ?_); first | refine l_region rfl rfl ?_ | refine l_drawRun rfl rfl rfl rfl ?_ | refine x_openK rfl rfl rfl ?_) | ((with_reducible refine is_wpO ?_); refine l_more rfl rfl ?_) | ((with_reducible refine is_runF ?_); first | refine f_more rfl rfl ?_ | refine f_step (exec_ok (fun _ _ => rfl) rfl) rfl (fun h => absurd h (by decide)) rfl ?_ | refine f_step (exec_ok (fun _ _ => rfl) rfl) rfl (fun _ => ⟨rfl, rfl⟩) rfl ?_) | ((with_reducible refine is_runX ?_); first | refine x_skip rfl rfl ?_ | refine x_pure rfl rfl rfl ?_ | refine x_load rfl rfl rfl rfl rfl rfl ?_ | refine x_exec rfl rfl rfl ?_ | refine x_nil rfl ?_ | refine x_nilT rfl rfl rfl rfl rfl rfl rfl ?_))
      exact l_end trivial (by decide) rfl rfl rfl rfl rfl
    | some er =>
      have h1 := Place_calls B hB (some er)
      have h2 := In_calls B num (some er)
      have h3 := At_calls B (clampE n (placeOf er).1) (some (.fld num er))
      dsimp only at h1
      refine l_body (X := cx B) (fn := Tryz.f62) Tryz.func62 rfl rfl rfl rfl rfl 1 [] rfl rfl ?_
      cases er <;> (
      repeat (first | (with_reducible first | refine r_seq ?_ | refine r_nil ?_ | refine f_nil ?_ | refine k_nil ?_ | refine r_then ?_ | refine r_skip ?_ | refine r_ret ?_ | refine r_thenR ?_ | refine r_block ?_ | refine r_blockN ?_ | refine r_blockR ?_ | refine r_exit ?_ | refine r_thenE ?_) | ((with_reducible refine r_blockE ?_ ?_); · rfl) | ((with_reducible refine r_blockP ?_ ?_); · rfl) | ((with_reducible refine is_cond ?_); first | refine r_true rfl ?_ | refine r_false rfl ?_) | ((with_reducible refine is_region ?_); first | refine l_region rfl rfl ?_ | refine l_drawRun rfl rfl rfl rfl ?_ | refine x_openK rfl rfl rfl ?_) | ((with_reducible refine is_wpO ?_); refine l_more rfl rfl ?_) | ((with_reducible refine is_runF ?_); first | refine f_more rfl rfl ?_ | refine f_step (exec_ok (fun _ _ => rfl) rfl) rfl (fun h => absurd h (by decide)) rfl ?_ | refine f_step (exec_ok (fun _ _ => rfl) rfl) rfl (fun _ => ⟨rfl, rfl⟩) rfl ?_) | ((with_reducible refine is_runX ?_); first | refine x_skip rfl rfl ?_ | refine x_pure rfl rfl rfl ?_ | refine x_load rfl rfl rfl rfl rfl rfl ?_ | refine x_exec rfl rfl rfl ?_ | refine x_nil rfl ?_ | refine x_nilT rfl rfl rfl rfl rfl rfl rfl ?_))
      refine l_call [] (h1) rfl rfl rfl rfl rfl rfl rfl (by decide) rfl rfl rfl rfl rfl ?_
      repeat (first | (with_reducible first | refine r_seq ?_ | refine r_nil ?_ | refine f_nil ?_ | refine k_nil ?_ | refine r_then ?_ | refine r_skip ?_ | refine r_ret ?_ | refine r_thenR ?_ | refine r_block ?_ | refine r_blockN ?_ | refine r_blockR ?_ | refine r_exit ?_ | refine r_thenE ?_) | ((with_reducible refine r_blockE ?_ ?_); · rfl) | ((with_reducible refine r_blockP ?_ ?_); · rfl) | ((with_reducible refine is_cond ?_); first | refine r_true rfl ?_ | refine r_false rfl ?_) | ((with_reducible refine is_region ?_); first | refine l_region rfl rfl ?_ | refine l_drawRun rfl rfl rfl rfl ?_ | refine x_openK rfl rfl rfl ?_) | ((with_reducible refine is_wpO ?_); refine l_more rfl rfl ?_) | ((with_reducible refine is_runF ?_); first | refine f_more rfl rfl ?_ | refine f_step (exec_ok (fun _ _ => rfl) rfl) rfl (fun h => absurd h (by decide)) rfl ?_ | refine f_step (exec_ok (fun _ _ => rfl) rfl) rfl (fun _ => ⟨rfl, rfl⟩) rfl ?_) | ((with_reducible refine is_runX ?_); first | refine x_skip rfl rfl ?_ | refine x_pure rfl rfl rfl ?_ | refine x_load rfl rfl rfl rfl rfl rfl ?_ | refine x_exec rfl rfl rfl ?_ | refine x_nil rfl ?_ | refine x_nilT rfl rfl rfl rfl rfl rfl rfl ?_))
      refine x_call [] (h2) rfl rfl rfl rfl rfl rfl (by decide) rfl rfl rfl rfl rfl rfl ?_
      repeat (first | (with_reducible first | refine r_seq ?_ | refine r_nil ?_ | refine f_nil ?_ | refine k_nil ?_ | refine r_then ?_ | refine r_skip ?_ | refine r_ret ?_ | refine r_thenR ?_ | refine r_block ?_ | refine r_blockN ?_ | refine r_blockR ?_ | refine r_exit ?_ | refine r_thenE ?_) | ((with_reducible refine r_blockE ?_ ?_); · rfl) | ((with_reducible refine r_blockP ?_ ?_); · rfl) | ((with_reducible refine is_cond ?_); first | refine r_true rfl ?_ | refine r_false rfl ?_) | ((with_reducible refine is_region ?_); first | refine l_region rfl rfl ?_ | refine l_drawRun rfl rfl rfl rfl ?_ | refine x_openK rfl rfl rfl ?_) | ((with_reducible refine is_wpO ?_); refine l_more rfl rfl ?_) | ((with_reducible refine is_runF ?_); first | refine f_more rfl rfl ?_ | refine f_step (exec_ok (fun _ _ => rfl) rfl) rfl (fun h => absurd h (by decide)) rfl ?_ | refine f_step (exec_ok (fun _ _ => rfl) rfl) rfl (fun _ => ⟨rfl, rfl⟩) rfl ?_) | ((with_reducible refine is_runX ?_); first | refine x_skip rfl rfl ?_ | refine x_pure rfl rfl rfl ?_ | refine x_load rfl rfl rfl rfl rfl rfl ?_ | refine x_exec rfl rfl rfl ?_ | refine x_nil rfl ?_ | refine x_nilT rfl rfl rfl rfl rfl rfl rfl ?_))
      refine x_call [] (h3) rfl rfl rfl rfl rfl rfl (by decide) rfl rfl rfl rfl rfl rfl ?_
      repeat (first | (with_reducible first | refine r_seq ?_ | refine r_nil ?_ | refine f_nil ?_ | refine k_nil ?_ | refine r_then ?_ | refine r_skip ?_ | refine r_ret ?_ | refine r_thenR ?_ | refine r_block ?_ | refine r_blockN ?_ | refine r_blockR ?_ | refine r_exit ?_ | refine r_thenE ?_) | ((with_reducible refine r_blockE ?_ ?_); · rfl) | ((with_reducible refine r_blockP ?_ ?_); · rfl) | ((with_reducible refine is_cond ?_); first | refine r_true rfl ?_ | refine r_false rfl ?_) | ((with_reducible refine is_region ?_); first | refine l_region rfl rfl ?_ | refine l_drawRun rfl rfl rfl rfl ?_ | refine x_openK rfl rfl rfl ?_) | ((with_reducible refine is_wpO ?_); refine l_more rfl rfl ?_) | ((with_reducible refine is_runF ?_); first | refine f_more rfl rfl ?_ | refine f_step (exec_ok (fun _ _ => rfl) rfl) rfl (fun h => absurd h (by decide)) rfl ?_ | refine f_step (exec_ok (fun _ _ => rfl) rfl) rfl (fun _ => ⟨rfl, rfl⟩) rfl ?_) | ((with_reducible refine is_runX ?_); first | refine x_skip rfl rfl ?_ | refine x_pure rfl rfl rfl ?_ | refine x_load rfl rfl rfl rfl rfl rfl ?_ | refine x_exec rfl rfl rfl ?_ | refine x_nil rfl ?_ | refine x_nilT rfl rfl rfl rfl rfl rfl rfl ?_))
      exact l_end trivial (by decide) rfl rfl rfl rfl rfl)
end Go.Proofs.YtfbckigcelmopaaGreatDoor
