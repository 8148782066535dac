/- The errors of the program, and what lays a place or a field about one. -/
import Derived.Test.YtfbckigcelmopaaGreatDoorT
set_option linter.unusedSimpArgs false
set_option linter.unusedVariables false
set_option maxRecDepth 100000
namespace Go.Proofs.YtfbckigcelmopaaGreatDoor
open Go Go.Abs
inductive Er where
  | code (n : Int) | loc (n : Int) (e : Er) | fld (n : Int) (e : Er)
def Er.d : Er → D
  | .code n => .iface 37 (.int .i64 n)
  | .loc n e => .iface 126 (.box [.int .i64 n, e.d])
  | .fld n e => .iface 197 (.box [.int .i64 n, e.d])
def eD : Option Er → D
  | none => .nili
  | some e => e.d
def iT (n : Int) : T := .d (.int .i64 n)
def uT (n : Nat) : T := .d (.int .u64 n)
def sT (s : List UInt8) : T := .d (.str s)
variable (B : Fr)

theorem At_calls (n : Int) (e : Option Er) : CallsA (cx B) 92 [.d (.int .i64 n), .d (eD e)] [] (.d (eD (e.map (.loc n)))) [] := by
  refine l_body (X := cx B) (fn := Tryz.f92) Tryz.func92 rfl rfl rfl rfl rfl 0 [] rfl rfl ?_
  cases e with
  | none =>
    repeat (first | (with_reducible first | refine r_seq ?_ | refine r_nil ?_ | refine f_nil ?_ | refine k_nil ?_ | refine r_then ?_ | refine r_skip ?_ | refine r_ret ?_ | refine r_thenR ?_ | refine r_block ?_ | refine r_blockN ?_ | refine r_blockR ?_ | refine r_exit ?_ | refine r_thenE ?_) | ((with_reducible refine r_blockE ?_ ?_); · rfl) | ((with_reducible refine r_blockP ?_ ?_); · rfl) | ((with_reducible refine is_cond ?_); first | refine r_true rfl ?_ | refine r_false rfl ?_) | ((with_reducible refine is_region ?_); first | refine l_region rfl rfl ?_ | refine l_drawRun rfl rfl rfl rfl ?_ | refine x_openK rfl rfl rfl ?_) | ((with_reducible refine is_wpO ?_); refine l_more rfl rfl ?_) | ((with_reducible refine is_runF ?_); first | refine f_more rfl rfl ?_ | refine f_step (exec_ok (fun _ _ => rfl) rfl) rfl (fun h => absurd h (by decide)) rfl ?_ | refine f_step (exec_ok (fun _ _ => rfl) rfl) rfl (fun _ => ⟨rfl, rfl⟩) rfl ?_) | ((with_reducible refine is_runX ?_); first | refine x_skip rfl rfl ?_ | refine x_pure rfl rfl rfl ?_ | refine x_load rfl rfl rfl rfl rfl rfl ?_ | refine x_exec rfl rfl rfl ?_ | refine x_nil rfl ?_ | refine x_nilT rfl rfl rfl rfl rfl rfl rfl ?_))
    exact l_end trivial (by decide) rfl rfl rfl rfl rfl
  | some e =>
    cases e <;>
    (repeat (first | (with_reducible first | refine r_seq ?_ | refine r_nil ?_ | refine f_nil ?_ | refine k_nil ?_ | refine r_then ?_ | refine r_skip ?_ | refine r_ret ?_ | refine r_thenR ?_ | refine r_block ?_ | refine r_blockN ?_ | refine r_blockR ?_ | refine r_exit ?_ | refine r_thenE ?_) | ((with_reducible refine r_blockE ?_ ?_); · rfl) | ((with_reducible refine r_blockP ?_ ?_); · rfl) | ((with_reducible refine is_cond ?_); first | refine r_true rfl ?_ | refine r_false rfl ?_) | ((with_reducible refine is_region ?_); first | refine l_region rfl rfl ?_ | refine l_drawRun rfl rfl rfl rfl ?_ | refine x_openK rfl rfl rfl ?_) | ((with_reducible refine is_wpO ?_); refine l_more rfl rfl ?_) | ((with_reducible refine is_runF ?_); first | refine f_more rfl rfl ?_ | refine f_step (exec_ok (fun _ _ => rfl) rfl) rfl (fun h => absurd h (by decide)) rfl ?_ | refine f_step (exec_ok (fun _ _ => rfl) rfl) rfl (fun _ => ⟨rfl, rfl⟩) rfl ?_) | ((with_reducible refine is_runX ?_); first | refine x_skip rfl rfl ?_ | refine x_pure rfl rfl rfl ?_ | refine x_load rfl rfl rfl rfl rfl rfl ?_ | refine x_exec rfl rfl rfl ?_ | refine x_nil rfl ?_ | refine x_nilT rfl rfl rfl rfl rfl rfl rfl ?_))) <;>
    exact l_end trivial (by decide) rfl rfl rfl rfl rfl
theorem In_calls (n : Int) (e : Option Er) : CallsA (cx B) 93 [.d (.int .i64 n), .d (eD e)] [] (.d (eD (e.map (.fld n)))) [] := by
  refine l_body (X := cx B) (fn := Tryz.f93) Tryz.func93 rfl rfl rfl rfl rfl 0 [] rfl rfl ?_
  cases e with
  | none =>
    repeat (first | (with_reducible first | refine r_seq ?_ | refine r_nil ?_ | refine f_nil ?_ | refine k_nil ?_ | refine r_then ?_ | refine r_skip ?_ | refine r_ret ?_ | refine r_thenR ?_ | refine r_block ?_ | refine r_blockN ?_ | refine r_blockR ?_ | refine r_exit ?_ | refine r_thenE ?_) | ((with_reducible refine r_blockE ?_ ?_); · rfl) | ((with_reducible refine r_blockP ?_ ?_); · rfl) | ((with_reducible refine is_cond ?_); first | refine r_true rfl ?_ | refine r_false rfl ?_) | ((with_reducible refine is_region ?_); first | refine l_region rfl rfl ?_ | refine l_drawRun rfl rfl rfl rfl ?_ | refine x_openK rfl rfl rfl ?_) | ((with_reducible refine is_wpO ?_); refine l_more rfl rfl ?_) | ((with_reducible refine is_runF ?_); first | refine f_more rfl rfl ?_ | refine f_step (exec_ok (fun _ _ => rfl) rfl) rfl (fun h => absurd h (by decide)) rfl ?_ | refine f_step (exec_ok (fun _ _ => rfl) rfl) rfl (fun _ => ⟨rfl, rfl⟩) rfl ?_) | ((with_reducible refine is_runX ?_); first | refine x_skip rfl rfl ?_ | refine x_pure rfl rfl rfl ?_ | refine x_load rfl rfl rfl rfl rfl rfl ?_ | refine x_exec rfl rfl rfl ?_ | refine x_nil rfl ?_ | refine x_nilT rfl rfl rfl rfl rfl rfl rfl ?_))
    exact l_end trivial (by decide) rfl rfl rfl rfl rfl
  | some e =>
    cases e <;>
    (repeat (first | (with_reducible first | refine r_seq ?_ | refine r_nil ?_ | refine f_nil ?_ | refine k_nil ?_ | refine r_then ?_ | refine r_skip ?_ | refine r_ret ?_ | refine r_thenR ?_ | refine r_block ?_ | refine r_blockN ?_ | refine r_blockR ?_ | refine r_exit ?_ | refine r_thenE ?_) | ((with_reducible refine r_blockE ?_ ?_); · rfl) | ((with_reducible refine r_blockP ?_ ?_); · rfl) | ((with_reducible refine is_cond ?_); first | refine r_true rfl ?_ | refine r_false rfl ?_) | ((with_reducible refine is_region ?_); first | refine l_region rfl rfl ?_ | refine l_drawRun rfl rfl rfl rfl ?_ | refine x_openK rfl rfl rfl ?_) | ((with_reducible refine is_wpO ?_); refine l_more rfl rfl ?_) | ((with_reducible refine is_runF ?_); first | refine f_more rfl rfl ?_ | refine f_step (exec_ok (fun _ _ => rfl) rfl) rfl (fun h => absurd h (by decide)) rfl ?_ | refine f_step (exec_ok (fun _ _ => rfl) rfl) rfl (fun _ => ⟨rfl, rfl⟩) rfl ?_) | ((with_reducible refine is_runX ?_); first | refine x_skip rfl rfl ?_ | refine x_pure rfl rfl rfl ?_ | refine x_load rfl rfl rfl rfl rfl rfl ?_ | refine x_exec rfl rfl rfl ?_ | refine x_nil rfl ?_ | refine x_nilT rfl rfl rfl rfl rfl rfl rfl ?_))) <;>
    exact l_end trivial (by decide) rfl rfl rfl rfl rfl
end Go.Proofs.YtfbckigcelmopaaGreatDoor
