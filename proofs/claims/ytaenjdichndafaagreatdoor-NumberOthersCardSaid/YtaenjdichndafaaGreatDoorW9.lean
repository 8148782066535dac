/- What is written. -/
import Derived.Test.YtaenjdichndafaaGreatDoorW8
set_option linter.unusedSimpArgs false
set_option linter.unusedVariables false
set_option maxRecDepth 100000
namespace Go.Proofs.YtaenjdichndafaaGreatDoor
open Go Go.Abs
variable (B : Fr)
/-- A writer's method adds these bytes. -/
def Wr (f : Nat) (args : List T) (o : List UInt8) : Prop := ∀ (a : T) (l : List UInt8), adOk a → l.length + o.length < big →
  ∃ a', adOk a' ∧ CallsA (cx B) f (.ptr 0 0 :: args) [.mu [a, bT l]] (.tup []) [.mu [a', bT (l ++ o)]]
theorem wr_raw (s : List UInt8) : Wr B 56 [sT s] s := fun a l ha hl => ⟨.me, .inl rfl, Raw_calls B a l s ha (by unfold big at hl; unfold most; omega)⟩
theorem wr_few (n m : Nat) (h1 : 1 ≤ n) (h2 : n ≤ 536870911) (hm : m < 2 ^ 64) : Wr B 103 [iT n, uT m] (fewV n m) := fun a l ha hl => ⟨.me, .inl rfl, Few_calls B a l n m ha h1 h2 hm (by omega)⟩
theorem wr_part (n : Nat) (s : List UInt8) (h1 : 1 ≤ n) (h2 : n ≤ 536870911) : Wr B 96 [iT n, sT s] (paV n s) := fun a l ha hl => ⟨.me, .inl rfl, Part_calls B a l n s ha h1 h2 (by simp [paV] at hl; omega)⟩
theorem wr_text (n : Nat) (s : List UInt8) (h1 : 1 ≤ n) (h2 : n ≤ 536870911) : Wr B 53 [iT n, sT s] (txV n s) := fun a l ha hl => by
  by_cases h0 : s = []
  · subst h0
    exact ⟨a, ha, by rw [show txV n [] = [] from rfl, List.append_nil]; exact Text_nil B a l n ha⟩
  · rw [show txV n s = paV n s from if_neg h0] at hl ⊢
    exact ⟨.me, .inl rfl, Text_calls B a l n s ha h1 h2 h0 (by simp [paV] at hl; omega)⟩
theorem wr_var (n m : Nat) (h1 : 1 ≤ n) (h2 : n ≤ 536870911) (hm : m < 2 ^ 64) : Wr B 72 [iT n, uT m] (vrV n m) := fun a l ha hl => Var_any B a l n m ha h1 h2 hm (by omega)
theorem wr_eight (n m : Nat) (h1 : 1 ≤ n) (h2 : n ≤ 536870911) : Wr B 95 [iT n, uT m] (e8V n m) := fun a l ha hl => by
  refine ⟨.me, .inl rfl, ?_⟩
  have h0 := Fixed_calls B n m h1 h2
  have h3 := Raw_calls B a l (tagV n 1 ++ le8 m) ha (by unfold big e8V at hl; unfold most; omega)
  unfold e8V
  generalize l ++ (tagV n 1 ++ le8 m) = y at *
  rcases ha with rfl | rfl | rfl <;> (rcases l with _ | ⟨c, l⟩ <;> (rcases y with _ | ⟨c', y⟩ <;> (
  refine l_body (X := cx B) (fn := Tryz.f95) Tryz.func95 rfl rfl rfl rfl rfl 1 [] rfl rfl ?_
  refine walk ?_
  refine l_call [] (h0) rfl rfl rfl rfl rfl rfl rfl (by decide) rfl rfl rfl rfl rfl ?_
  refine l_call [0] (h3) rfl rfl rfl rfl rfl rfl rfl (by decide) rfl rfl rfl rfl rfl ?_
  refine walk ?_
  exact l_end trivial (by decide) rfl rfl rfl rfl rfl)))
theorem wr_fixed (n m : Nat) (h1 : 1 ≤ n) (h2 : n ≤ 536870911) : Wr B 51 [iT n, uT m] (fxV n m) := fun a l ha hl => by
  by_cases h0 : m = 0
  · subst h0
    refine ⟨a, ha, ?_⟩
    rw [show fxV n 0 = [] from rfl, List.append_nil]
    rcases ha with rfl | rfl | rfl <;> (rcases l with _ | ⟨c, l⟩ <;> (
    refine l_body (X := cx B) (fn := Tryz.f51) Tryz.func51 rfl rfl rfl rfl rfl 1 [] rfl rfl ?_
    refine walk ?_
    exact l_end trivial (by decide) rfl rfl rfl rfl rfl))
  · rw [show fxV n m = e8V n m from if_neg h0] at hl ⊢
    obtain ⟨a', ha', h3⟩ := wr_eight B n m h1 h2 a l ha hl
    refine ⟨a', ha', ?_⟩
    generalize l ++ e8V n m = y at *
    rcases ha with rfl | rfl | rfl <;> (rcases ha' with rfl | rfl | rfl <;> (rcases l with _ | ⟨c, l⟩ <;> (rcases y with _ | ⟨c', y⟩ <;> (
    refine l_body (X := cx B) (fn := Tryz.f51) Tryz.func51 rfl rfl rfl rfl rfl 1 [] rfl rfl ?_
    refine walk ?_
    rw [show decide ((m : Int) > 0) = true from decide_eq_true (by omega)]
    refine walk ?_
    refine l_call [0] (h3) rfl rfl rfl rfl rfl rfl rfl (by decide) rfl rfl rfl rfl rfl ?_
    refine walk ?_
    exact l_end trivial (by decide) rfl rfl rfl rfl rfl))))
theorem wr_either (h : Bool) (n m : Nat) (h1 : 1 ≤ n) (h2 : n ≤ 536870911) : Wr B 52 [.d (.bool h), iT n, uT m] (opV n h m) := fun a l ha hl => by
  cases h with
  | false =>
    refine ⟨a, ha, ?_⟩
    rw [show opV n false m = [] from rfl, List.append_nil]
    rcases ha with rfl | rfl | rfl <;> (rcases l with _ | ⟨c, l⟩ <;> (
    refine l_body (X := cx B) (fn := Tryz.f52) Tryz.func52 rfl rfl rfl rfl rfl 1 [] rfl rfl ?_
    refine walk ?_
    exact l_end trivial (by decide) rfl rfl rfl rfl rfl))
  | true =>
    rw [show opV n true m = e8V n m from rfl] at hl ⊢
    obtain ⟨a', ha', h3⟩ := wr_eight B n m h1 h2 a l ha hl
    refine ⟨a', ha', ?_⟩
    generalize l ++ e8V n m = y at *
    rcases ha with rfl | rfl | rfl <;> (rcases ha' with rfl | rfl | rfl <;> (rcases l with _ | ⟨c, l⟩ <;> (rcases y with _ | ⟨c', y⟩ <;> (
    refine l_body (X := cx B) (fn := Tryz.f52) Tryz.func52 rfl rfl rfl rfl rfl 1 [] rfl rfl ?_
    refine walk ?_
    refine l_call [0] (h3) rfl rfl rfl rfl rfl rfl rfl (by decide) rfl rfl rfl rfl rfl ?_
    refine walk ?_
    exact l_end trivial (by decide) rfl rfl rfl rfl rfl))))
theorem paV_ge (n : Nat) (s : List UInt8) : 1 + s.length ≤ (paV n s).length := by
  have : 0 < (putV s.length).length := by
    have := putV_ne s.length
    cases h : putV s.length with
    | nil => exact absurd h this
    | cons _ _ => simp
  unfold paV; simp; omega
theorem psV_count (n : Nat) : ∀ ms : List (List UInt8), ms.length ≤ (psV n ms).length
  | [] => by simp
  | s :: ms => by
    have := psV_count n ms; have := paV_ge n s
    rw [show psV n (s :: ms) = paV n s ++ psV n ms by simp [psV]]
    simp; omega
theorem psV_app (n : Nat) (a b : List (List UInt8)) : psV n (a ++ b) = psV n a ++ psV n b := by simp [psV]
theorem psV_take (n : Nat) {ms : List (List UInt8)} {i : Nat} {s : List UInt8} (h : ms[i]? = some s) : (psV n (ms.take i)).length + s.length < (psV n ms).length := by
  have h2 : psV n ms = psV n (ms.take (i + 1)) ++ psV n (ms.drop (i + 1)) := by rw [← psV_app, List.take_append_drop]
  have h3 : psV n (ms.take (i + 1)) = psV n (ms.take i) ++ paV n s := by rw [List.take_add_one, h, psV_app]; simp [psV]
  have := paV_ge n s
  rw [h2, h3]; simp; omega
theorem ad_if {a : T} (ha : adOk a) {p : Prop} [Decidable p] : adOk (if p then a else .me) := by
  split
  · exact ha
  · exact .inl rfl
theorem Parts_Ke_wr (n : Nat) (h1 : 1 ≤ n) (h2 : n ≤ 536870911) (d : Int) (hd1 : -9223372036854775000 ≤ d) (hd2 : d < 9223372036854775808) (f : Nat) (z : Bool) (xs : List D) (ms : List (List UInt8)) (hlen : ms.length = xs.length) (hx : ∀ x ∈ xs, KeSh x)
    (hf : ∀ (i : Nat) x s, xs[i]? = some x → ms[i]? = some s → CallsA (cx B) f [.d x, .d (.int .i64 (d - 1))] [] (.tup [sT s, .d .nili]) []) :
    Wr B 54 [iT n, .d (.sl z xs), .d (.int .i64 d), .d (.fn f [])] (psV n ms) := by
  intro a l ha hl
  have hpl := psV_count n ms
  have hb : ms.length < 34359738368 := by unfold big at hl; omega
  refine ⟨if ms.length = 0 then a else .me, ad_if ha, ?_⟩
  refine l_body (X := cx B) (fn := Tryz.f54) Tryz.func54 rfl rfl rfl rfl rfl 1 [] rfl rfl ?_
  refine walk ?_
  refine l_loop (fun i : Nat => xs.length - i) (fun i => [(0, .ptr 0 0), (1, iT n), (3, .d (.int .i64 d)), (4, .d (.fn f [])), (14, .d (.sl z xs)), (15, iT xs.length), (16, iT i)]) (fun i => [.mu [if i = 0 then a else .me, bT (l ++ psV n (ms.take i))]]) (fun i => i ≤ xs.length) 0 (by omega) ⟨rfl, rfl, rfl, rfl, rfl, rfl, rfl, trivial⟩ (by simp [psV]) 1 rfl (fun _ => rfl) (fun i => by
    have : adOk (if i = 0 then a else .me) := ad_if ha
    simp [bo_plain this]) (fun _ => rfl) ?_
  intro i i1
  have ha2 : adOk (if i = 0 then a else .me) := ad_if ha
  refine walk ?_
  refine r_cond rfl (fun hd => ?_) (fun hd => ?_)
  · have hlt : i < xs.length := by have := of_decide_eq_true hd; omega
    obtain ⟨x, hxi⟩ : ∃ x, xs[i]? = some x := ⟨_, List.getElem?_eq_getElem hlt⟩
    obtain ⟨s, hsi⟩ : ∃ s, ms[i]? = some s := ⟨_, List.getElem?_eq_getElem (by omega)⟩
    have hc := hf i x s hxi hsi
    obtain ⟨a0, a1, a2, a3, a4, a5, a6, a7, a8, a9, a10, a11, a12, rfl⟩ := hx x (List.mem_of_getElem? hxi)
    have hsp := psV_take n hsi
    have h3 := Part_calls B _ (l ++ psV n (ms.take i)) n s ha2 h1 h2 (by simp; omega)
    rw [List.append_assoc, show psV n (ms.take i) ++ (tagV n 2 ++ (putV s.length ++ s)) = psV n (ms.take (i + 1)) by rw [List.take_add_one, hsi]; simp [psV, paV]] at h3
    refine walk ?_
    refine l_step (.indexAddr (k := .i64) (n := i) (es := xs) rfl rfl rfl rfl (.inl ⟨_, rfl⟩) rfl (by omega) (by simpa using hxi) rfl (by decide)) rfl rfl ?_
    refine walk ?_
    rw [wrap_sub 1 (by omega) (by omega) hd1 hd2]
    refine l_call [] (hc) rfl rfl rfl rfl rfl rfl rfl (by decide) rfl rfl rfl rfl rfl ?_
    refine walk ?_
    refine l_call [0] (h3) rfl rfl rfl rfl rfl rfl rfl (by decide) (by simp [bo_plain ha2]) (by simp [bo_plain (.inl rfl)]) rfl rfl rfl ?_
    refine walk ?_
    rw [show IntKind.i64.wrap ((i : Int) + 1) = ((i + 1 : Nat) : Int) by rw [wrapI (by omega) (by omega)]; omega]
    exact ⟨i + 1, by omega, by omega, ⟨rfl, rfl, rfl, rfl, rfl, rfl, rfl, trivial⟩, by simp [bo_plain (.inl rfl)], wk_eq (by simp)⟩
  · have hge : i = xs.length := by have := of_decide_eq_false hd; omega
    subst hge
    rw [show ms.take xs.length = ms by rw [← hlen, List.take_length], hlen]
    generalize (if xs.length = 0 then a else .me) = aa at ha2 ⊢
    refine walk ?_
    exact l_end trivial (by decide) rfl rfl rfl rfl (by simp [bo_plain ha2])

theorem parts_Va_calls (f : Nat) (z : Bool) (xs : List D) (ms : List (List UInt8)) (u : List UInt8) (hlen : ms.length = xs.length) (hx : ∀ x ∈ xs, VaSh x) (hl : (psV 1 ms).length + u.length < big)
    (hf : ∀ (i : Nat) x s, xs[i]? = some x → ms[i]? = some s → CallsA (cx B) f [.d x] [] (sT s) []) :
    CallsA (cx B) 153 [.d (.sl z xs), .d (.fn f []), sT u] [] (sT (psV 1 ms ++ u)) [] := by
  have hpl := psV_count 1 ms
  have hb : ms.length < 34359738368 := by unfold big at hl; omega
  refine l_body (X := cx B) (fn := Tryz.f153) Tryz.func153 rfl rfl rfl rfl rfl 0 [] rfl rfl ?_
  refine walk ?_
  refine l_loop (fun i : Nat => xs.length - i) (fun i => [(1, .d (.fn f [])), (2, sT u), (7, .ptr 0 0), (10, .d (.sl z xs)), (11, iT xs.length), (12, iT i)]) (fun i => [.mu [if i = 0 then .nw 100 2 else .me, bT (psV 1 (ms.take i))]]) (fun i => i ≤ xs.length) 0 (by omega) ⟨rfl, rfl, rfl, rfl, rfl, rfl, trivial⟩ rfl 1 rfl (fun _ => rfl) (fun i => by
    have : adOk (if i = 0 then .nw 100 2 else .me) := ad_if (.inr (.inr rfl))
    simp [bo_plain this]) (fun _ => rfl) ?_
  intro i i1
  have ha2 : adOk (if i = 0 then .nw 100 2 else .me) := ad_if (.inr (.inr rfl))
  refine walk ?_
  refine r_cond rfl (fun hd => ?_) (fun hd => ?_)
  · have hlt : i < xs.length := by have := of_decide_eq_true hd; omega
    obtain ⟨x, hxi⟩ : ∃ x, xs[i]? = some x := ⟨_, List.getElem?_eq_getElem hlt⟩
    obtain ⟨s, hsi⟩ : ∃ s, ms[i]? = some s := ⟨_, List.getElem?_eq_getElem (by omega)⟩
    have hc := hf i x s hxi hsi
    obtain ⟨a0, a1, a2, a3, a4, a5, a6, a7, a8, a9, rfl⟩ := hx x (List.mem_of_getElem? hxi)
    have hsp := psV_take 1 hsi
    have h3 := Part_calls B _ (psV 1 (ms.take i)) 1 s ha2 (by omega) (by omega) (by omega)
    rw [show psV 1 (ms.take i) ++ (tagV 1 2 ++ (putV s.length ++ s)) = psV 1 (ms.take (i + 1)) by rw [List.take_add_one, hsi]; simp [psV, paV]] at h3
    refine walk ?_
    refine l_step (.indexAddr (k := .i64) (n := i) (es := xs) rfl rfl rfl rfl (.inl ⟨_, rfl⟩) rfl (by omega) (by simpa using hxi) rfl (by decide)) rfl rfl ?_
    refine walk ?_
    refine l_call [] (hc) rfl rfl rfl rfl rfl rfl rfl (by decide) rfl rfl rfl rfl rfl ?_
    refine walk ?_
    refine l_call [0] (h3) rfl rfl rfl rfl rfl rfl rfl (by decide) (by simp [bo_plain ha2]) (by simp [bo_plain (.inl rfl)]) rfl rfl rfl ?_
    refine walk ?_
    rw [show IntKind.i64.wrap ((i : Int) + 1) = ((i + 1 : Nat) : Int) by rw [wrapI (by omega) (by omega)]; omega]
    exact ⟨i + 1, by omega, by omega, ⟨rfl, rfl, rfl, rfl, rfl, rfl, trivial⟩, by simp [bo_plain (.inl rfl)], wk_eq (by simp)⟩
  · have hge : i = xs.length := by have := of_decide_eq_false hd; omega
    subst hge
    rw [show ms.take xs.length = ms by rw [← hlen, List.take_length]]
    generalize (if xs.length = 0 then T.nw 100 2 else .me) = aa at ha2 ⊢
    have h3 := Raw_calls B _ (psV 1 ms) u ha2 (by unfold big at hl; simp [most]; omega)
    have h4 := WString_calls B .me (psV 1 ms ++ u) (.inl rfl) (by unfold big at hl; simp [most]; omega)
    refine walk ?_
    refine l_call [0] (h3) rfl rfl rfl rfl rfl rfl rfl (by decide) (by simp [bo_plain ha2]) (by simp [bo_plain (.inl rfl)]) rfl rfl rfl ?_
    refine walk ?_
    refine l_call [0] (h4) rfl rfl rfl rfl rfl rfl rfl (by decide) (by simp [bo_plain (.inl rfl)]) rfl rfl rfl rfl ?_
    refine walk ?_
    exact l_end trivial (by decide) rfl rfl rfl rfl rfl

theorem parts_Ke_calls (f : Nat) (z : Bool) (xs : List D) (ms : List (List UInt8)) (u : List UInt8) (hlen : ms.length = xs.length) (hx : ∀ x ∈ xs, KeSh x) (hl : (psV 1 ms).length + u.length < big)
    (hf : ∀ (i : Nat) x s, xs[i]? = some x → ms[i]? = some s → CallsA (cx B) f [.d x] [] (sT s) []) :
    CallsA (cx B) 154 [.d (.sl z xs), .d (.fn f []), sT u] [] (sT (psV 1 ms ++ u)) [] := by
  have hpl := psV_count 1 ms
  have hb : ms.length < 34359738368 := by unfold big at hl; omega
  refine l_body (X := cx B) (fn := Tryz.f154) Tryz.func154 rfl rfl rfl rfl rfl 0 [] rfl rfl ?_
  refine walk ?_
  refine l_loop (fun i : Nat => xs.length - i) (fun i => [(1, .d (.fn f [])), (2, sT u), (7, .ptr 0 0), (10, .d (.sl z xs)), (11, iT xs.length), (12, iT i)]) (fun i => [.mu [if i = 0 then .nw 100 2 else .me, bT (psV 1 (ms.take i))]]) (fun i => i ≤ xs.length) 0 (by omega) ⟨rfl, rfl, rfl, rfl, rfl, rfl, trivial⟩ rfl 1 rfl (fun _ => rfl) (fun i => by
    have : adOk (if i = 0 then .nw 100 2 else .me) := ad_if (.inr (.inr rfl))
    simp [bo_plain this]) (fun _ => rfl) ?_
  intro i i1
  have ha2 : adOk (if i = 0 then .nw 100 2 else .me) := ad_if (.inr (.inr rfl))
  refine walk ?_
  refine r_cond rfl (fun hd => ?_) (fun hd => ?_)
  · have hlt : i < xs.length := by have := of_decide_eq_true hd; omega
    obtain ⟨x, hxi⟩ : ∃ x, xs[i]? = some x := ⟨_, List.getElem?_eq_getElem hlt⟩
    obtain ⟨s, hsi⟩ : ∃ s, ms[i]? = some s := ⟨_, List.getElem?_eq_getElem (by omega)⟩
    have hc := hf i x s hxi hsi
    obtain ⟨a0, a1, a2, a3, a4, a5, a6, a7, a8, a9, a10, a11, a12, rfl⟩ := hx x (List.mem_of_getElem? hxi)
    have hsp := psV_take 1 hsi
    have h3 := Part_calls B _ (psV 1 (ms.take i)) 1 s ha2 (by omega) (by omega) (by omega)
    rw [show psV 1 (ms.take i) ++ (tagV 1 2 ++ (putV s.length ++ s)) = psV 1 (ms.take (i + 1)) by rw [List.take_add_one, hsi]; simp [psV, paV]] at h3
    refine walk ?_
    refine l_step (.indexAddr (k := .i64) (n := i) (es := xs) rfl rfl rfl rfl (.inl ⟨_, rfl⟩) rfl (by omega) (by simpa using hxi) rfl (by decide)) rfl rfl ?_
    refine walk ?_
    refine l_call [] (hc) rfl rfl rfl rfl rfl rfl rfl (by decide) rfl rfl rfl rfl rfl ?_
    refine walk ?_
    refine l_call [0] (h3) rfl rfl rfl rfl rfl rfl rfl (by decide) (by simp [bo_plain ha2]) (by simp [bo_plain (.inl rfl)]) rfl rfl rfl ?_
    refine walk ?_
    rw [show IntKind.i64.wrap ((i : Int) + 1) = ((i + 1 : Nat) : Int) by rw [wrapI (by omega) (by omega)]; omega]
    exact ⟨i + 1, by omega, by omega, ⟨rfl, rfl, rfl, rfl, rfl, rfl, trivial⟩, by simp [bo_plain (.inl rfl)], wk_eq (by simp)⟩
  · have hge : i = xs.length := by have := of_decide_eq_false hd; omega
    subst hge
    rw [show ms.take xs.length = ms by rw [← hlen, List.take_length]]
    generalize (if xs.length = 0 then T.nw 100 2 else .me) = aa at ha2 ⊢
    have h3 := Raw_calls B _ (psV 1 ms) u ha2 (by unfold big at hl; simp [most]; omega)
    have h4 := WString_calls B .me (psV 1 ms ++ u) (.inl rfl) (by unfold big at hl; simp [most]; omega)
    refine walk ?_
    refine l_call [0] (h3) rfl rfl rfl rfl rfl rfl rfl (by decide) (by simp [bo_plain ha2]) (by simp [bo_plain (.inl rfl)]) rfl rfl rfl ?_
    refine walk ?_
    refine l_call [0] (h4) rfl rfl rfl rfl rfl rfl rfl (by decide) (by simp [bo_plain (.inl rfl)]) rfl rfl rfl rfl ?_
    refine walk ?_
    exact l_end trivial (by decide) rfl rfl rfl rfl rfl

end Go.Proofs.YtaenjdichndafaaGreatDoor
