/- Numbers of eight bytes, one behind the other; what may lack. -/
import Derived.Test.YtcinfkbdmjnjlaaGreatDoorPAB
import Derived.Laws.StructEq
import Derived.ChangeKeysEq
set_option linter.unusedSimpArgs false
set_option linter.unusedVariables false
set_option maxRecDepth 100000
namespace Go.Proofs.YtcinfkbdmjnjlaaGreatDoor
open Go Go.Abs
section
variable (n m : Nat) (cs : List Nat)
end
/-! What may lack. -/
def mayOpt (h : Bool) (n : Nat) : Bool := h || n == 0
theorem opt_of {n v : Nat} {b : Bool} {l : List Fld} (hn : n ≠ 0) (h : sel n l = opF n b v) (hm : mayOpt b v = true) : hasL l n = b ∧ (lastF l n).n = v := by
  have h1 : lastF l n = lastF (opF n b v) n := by rw [← sel_last, h]
  obtain ⟨h2, h3⟩ := tell_op n v b (by unfold mayOpt at hm; cases b with | true => exact .inl rfl | false => right; simpa using hm)
  unfold hasL
  rw [h1, h3]
  refine ⟨?_, rfl⟩
  cases b with
  | false =>
    have : lastF (opF n false v) n = noFld := rfl
    rw [this]
    show (0 == n) = false
    simp; omega
  | true =>
    have : lastF (opF n true v) n = e8R n v := last_one n _ rfl
    rw [this]
    show (n == n) = true
    simp
variable (B : Fr)
/-! Written. -/
theorem wr_opt (h : Bool) (n m : Nat) (h1 : 1 ≤ n) (h2 : n ≤ 536870911) : Wr B 65 [iT n, .d (.agg [.bool h, .int .u64 m])] (opV n h m) := fun a l ha hl => by
  cases h with
  | false =>
    refine ⟨a, ha, ?_⟩
    rw [show opV n false m = [] from rfl, List.append_nil]
    rcases ha with rfl | rfl | rfl <;> (rcases l with _ | ⟨c, l⟩ <;> (
    refine l_body (X := cx B) (fn := Tryz.f65) Tryz.func65 rfl rfl rfl rfl rfl 1 [] rfl rfl ?_
    refine walk ?_
    exact l_end trivial (by decide) rfl rfl rfl rfl rfl))
  | true =>
    rw [show opV n true m = e8V n m from rfl] at hl ⊢
    obtain ⟨a', ha', h3⟩ := wr_eight B n m h1 h2 a l ha hl
    refine ⟨a', ha', ?_⟩
    generalize l ++ e8V n m = y at *
    rcases ha with rfl | rfl | rfl <;> (rcases ha' with rfl | rfl | rfl <;> (rcases l with _ | ⟨c, l⟩ <;> (rcases y with _ | ⟨c', y⟩ <;> (
    refine l_body (X := cx B) (fn := Tryz.f65) Tryz.func65 rfl rfl rfl rfl rfl 1 [] rfl rfl ?_
    refine walk ?_
    refine l_call [0] (h3) rfl rfl rfl rfl rfl rfl rfl (by decide) rfl rfl rfl rfl rfl ?_
    refine walk ?_
    exact l_end trivial (by decide) rfl rfl rfl rfl rfl))))
/-! What may lack: may they be, are two alike. -/
def OpSh (x : D) : Prop := ∃ (a : Bool) (b : Nat), x = .agg [.bool a, .int .u64 b]
theorem IndexF_Op_calls (f : Nat) (cap : List D) (z : Bool) (xs : List D) (q : Nat → Bool) (hl : xs.length < 9223372036854775807) (hx : ∀ x ∈ xs, OpSh x)
    (hf : ∀ (i : Nat) x, xs[i]? = some x → CallsA (cx B) f ([.d x] ++ cap.map T.d) [] (.d (.bool (q i))) []) :
    CallsA (cx B) 182 [.d (.sl z xs), .d (.fn f cap)] [] (.d (.int .i64 (idxF q xs.length))) [] := by
  refine l_body (X := cx B) (fn := Tryz.f182) Tryz.func182 rfl rfl rfl rfl rfl 0 [] rfl rfl ?_
  refine walk ?_
  refine l_loop (fun i : Nat => xs.length - i) (fun i => [(0, .d (.sl z xs)), (1, .d (.fn f cap)), (7, iT xs.length), (8, iT i)]) (fun _ => []) (fun i => i ≤ xs.length ∧ ∀ j < i, q j = false) 0 ⟨by omega, fun j hj => by omega⟩ ⟨rfl, rfl, rfl, rfl, trivial⟩ rfl 0 rfl (fun _ => rfl) (fun _ => rfl) (fun _ => rfl) ?_
  rintro i ⟨i1, i2⟩
  refine walk ?_
  refine r_cond rfl (fun hd => ?_) (fun hd => ?_)
  · have hlt : i < xs.length := by have := of_decide_eq_true hd; omega
    obtain ⟨x, hxi⟩ : ∃ x, xs[i]? = some x := ⟨_, List.getElem?_eq_getElem hlt⟩
    have hc := hf i x hxi
    obtain ⟨a0, a1, rfl⟩ := hx x (List.mem_of_getElem? hxi)
    refine walk ?_
    refine l_step (.indexAddr (k := .i64) (n := i) (es := xs) rfl rfl rfl rfl (.inl ⟨_, rfl⟩) rfl (by omega) (by simpa using hxi) rfl (by decide)) rfl rfl ?_
    refine walk ?_
    refine l_call [] (hc) rfl rfl rfl rfl rfl rfl rfl (by decide) rfl rfl rfl rfl rfl ?_
    refine walk ?_
    cases hr : q i with
    | true =>
      rw [idx_hit hlt hr i2]
      refine walk ?_
      exact l_end trivial (by decide) rfl rfl rfl rfl rfl
    | false =>
      refine walk ?_
      rw [show IntKind.i64.wrap ((i : Int) + 1) = ((i + 1 : Nat) : Int) by rw [wrapI (by omega) (by omega)]; omega]
      exact ⟨i + 1, by omega, ⟨by omega, fun j hj => by
        rcases Nat.lt_or_ge j i with h | h
        · exact i2 j h
        · rw [show j = i by omega]; exact hr⟩, ⟨rfl, rfl, rfl, rfl, trivial⟩, rfl, wk_eq rfl⟩
  · have hge : i = xs.length := by have := of_decide_eq_false hd; omega
    subst hge
    rw [idx_miss i2]
    refine walk ?_
    exact l_end trivial (by decide) rfl rfl rfl rfl rfl

theorem MayOpt1_calls (a : Bool) (b : Nat) : CallsA (cx B) 138 [.d (.agg [.bool a, .int .u64 b])] [] (.d (.bool (!mayOpt a b))) [] := by
  unfold mayOpt
  cases a with
  | true =>
    refine l_body (X := cx B) (fn := Tryz.f138) Tryz.func138 rfl rfl rfl rfl rfl 0 [] rfl rfl ?_
    refine walk ?_
    exact l_end trivial (by decide) rfl rfl rfl rfl rfl
  | false =>
    rw [show (!(false || b == 0)) = decide ((b : Int) > 0) by
      rcases Nat.eq_zero_or_pos b with rfl | h
      · rfl
      · rw [decide_eq_true (by omega)]; simp; omega]
    refine l_body (X := cx B) (fn := Tryz.f138) Tryz.func138 rfl rfl rfl rfl rfl 0 [] rfl rfl ?_
    refine walk ?_
    exact l_end trivial (by decide) rfl rfl rfl rfl rfl
theorem MayOpt3_calls (a1 : Bool) (n1 : Nat) (a2 : Bool) (n2 : Nat) (a3 : Bool) (n3 : Nat) : CallsA (cx B) 73 [.d (.sl false [.agg [.bool a1, .int .u64 n1], .agg [.bool a2, .int .u64 n2], .agg [.bool a3, .int .u64 n3]])] [] (.d (.bool (mayOpt a1 n1 && mayOpt a2 n2 && mayOpt a3 n3))) [] := by
  have e1 : (mayOpt a1 n1 && mayOpt a2 n2 && mayOpt a3 n3) = (List.range 3).all (fun i => ([mayOpt a1 n1, mayOpt a2 n2, mayOpt a3 n3] : List Bool).getD i true) := by
    generalize mayOpt a1 n1 = x
    generalize mayOpt a2 n2 = y
    generalize mayOpt a3 n3 = z
    cases x <;> cases y <;> cases z <;> rfl
  have h1 := IndexF_Op_calls B 138 [] false [.agg [.bool a1, .int .u64 n1], .agg [.bool a2, .int .u64 n2], .agg [.bool a3, .int .u64 n3]] (fun i => !([mayOpt a1 n1, mayOpt a2 n2, mayOpt a3 n3] : List Bool).getD i true) (by simp) (fun x hx => by simp at hx; rcases hx with rfl | rfl | rfl <;> exact ⟨_, _, rfl⟩) (fun i x hx => by
    match i, hx with
    | 0, hx => simp at hx; subst hx; exact MayOpt1_calls B a1 n1
    | 1, hx => simp at hx; subst hx; exact MayOpt1_calls B a2 n2
    | 2, hx => simp at hx; subst hx; exact MayOpt1_calls B a3 n3
    | i + 3, hx => simp at hx)
  have h2 : CallsA (cx B) 137 [.d (.sl false [.agg [.bool a1, .int .u64 n1], .agg [.bool a2, .int .u64 n2], .agg [.bool a3, .int .u64 n3]]), .d (.fn 138 [])] [] (.d (.bool (!(mayOpt a1 n1 && mayOpt a2 n2 && mayOpt a3 n3)))) [] := by
    rw [e1]
    refine l_body (X := cx B) (fn := Tryz.f137) Tryz.func137 rfl rfl rfl rfl rfl 0 [] rfl rfl ?_
    refine walk ?_
    refine l_call [] (h1) rfl rfl rfl rfl rfl rfl rfl (by decide) rfl rfl rfl rfl rfl ?_
    refine walk ?_
    rw [idx_all]
    exact l_end trivial (by decide) rfl rfl rfl rfl rfl
  refine l_body (X := cx B) (fn := Tryz.f73) Tryz.func73 rfl rfl rfl rfl rfl 0 [] rfl rfl ?_
  refine walk ?_
  refine l_call [] (h2) rfl rfl rfl rfl rfl rfl rfl (by decide) rfl rfl rfl rfl rfl ?_
  refine walk ?_
  rw [Bool.not_not]
  exact l_end trivial (by decide) rfl rfl rfl rfl rfl
end Go.Proofs.YtcinfkbdmjnjlaaGreatDoor
