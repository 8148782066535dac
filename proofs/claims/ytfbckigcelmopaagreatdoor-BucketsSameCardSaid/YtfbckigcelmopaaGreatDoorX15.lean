/- The writer: packed numbers. -/
import Derived.Test.YtfbckigcelmopaaGreatDoorX14
set_option linter.unusedSimpArgs false
set_option linter.unusedVariables false
set_option maxRecDepth 100000
namespace Go.Proofs.YtfbckigcelmopaaGreatDoor
open Go Go.Abs
variable (B : Fr)
theorem bT_plain (l : List UInt8) : (bT l).plain = true := by cases l <;> rfl
theorem adOk.plain {a : T} (h : adOk a) : a.plain = true := by rcases h with rfl | rfl | rfl <;> rfl
theorem bo_plain {a : T} (h : adOk a) (l : List UInt8) : Ob.plain (.mu [a, bT l]) = true := by simp [Ob.plain, h.plain, bT_plain]
def packV (l : List Nat) : List UInt8 := l.flatMap putV
theorem packV_len (l : List Nat) : (packV l).length ≤ 10 * l.length := by
  induction l with
  | nil => simp [packV]
  | cons n l ih => have := putV_len n; simp [packV] at *; omega
theorem Vars_callsZ (z : Bool) (a : T) (l : List UInt8) (n : Nat) (ns : List Nat) (ha : adOk a) (h1 : 1 ≤ n) (h2 : n ≤ 536870911) (hns : ∀ m ∈ ns, m < 2 ^ 64) (h0 : ns ≠ []) (hl : l.length + 10 * ns.length < big) : CallsA (cx B) 45 [.ptr 0 0, iT n, .d (.sl z (ns.map uD))] [.mu [a, bT l]] (.tup []) [.mu [.me, bT (l ++ (tagV n 2 ++ (putV (packV ns).length ++ packV ns)))]] := by
  have hl' := hl
  unfold big at hl'
  have hpl := packV_len ns
  refine l_body (X := cx B) (fn := Tryz.f45) Tryz.func45 rfl rfl rfl rfl rfl 1 [] rfl rfl ?_
  refine walk ?_
  have hlen : (ns.map uD).length = ns.length := by simp
  rw [hlen]
  refine l_loop (fun i : Nat => ns.length - i) (fun i => [(0, .ptr 0 0), (1, iT n), (6, .ptr 1 0), (9, .d (.sl z (ns.map uD))), (10, iT ns.length), (11, iT i)]) (fun i => [.mu [a, bT l], .mu [if i = 0 then .nw 89 2 else .me, bT (packV (ns.take i))]]) (fun i => i ≤ ns.length) 0 (by omega) ⟨rfl, rfl, rfl, rfl, rfl, rfl, trivial⟩ rfl 2 rfl (fun _ => rfl) (fun i => by
    have : adOk (if i = 0 then .nw 89 2 else .me) := by unfold adOk; split <;> simp
    simp [bo_plain ha, bo_plain this]) (fun _ => rfl) ?_
  intro i i1
  have ha2 : adOk (if i = 0 then .nw 89 2 else .me) := by unfold adOk; split <;> simp
  refine walk ?_
  refine r_cond rfl (fun hc => ?_) (fun hc => ?_)
  · have hlt : i < ns.length := by have := of_decide_eq_true hc; omega
    obtain ⟨x, hx⟩ : ∃ x, ns[i]? = some x := ⟨_, List.getElem?_eq_getElem hlt⟩
    have hdx : (ns.map uD)[i]? = some (uD x) := by rw [List.getElem?_map, hx]; rfl
    have hx64 := hns x (List.mem_of_getElem? hx)
    have hp10 := putV_len x
    have htk := packV_len (ns.take i)
    have hpk : packV (ns.take i) ++ putV x = packV (ns.take (i + 1)) := by rw [List.take_add_one, hx]; simp [packV]
    have h3 := WriteString_calls B _ (packV (ns.take i)) (putV x) ha2 (by simp [most] at *; omega)
    rw [hpk] at h3
    refine walk ?_
    refine l_step (.indexAddr (k := .i64) (n := i) (es := ns.map uD) (u := uD x) rfl rfl rfl rfl (.inl ⟨_, rfl⟩) rfl (by omega) (by simpa using hdx) rfl (by decide)) rfl rfl ?_
    refine walk ?_
    refine l_call [] (Put_calls B x hx64) rfl rfl rfl rfl rfl rfl rfl (by decide) rfl rfl rfl rfl rfl ?_
    refine l_call [1] (h3) rfl rfl rfl rfl rfl rfl rfl (by decide) (by simp [bo_plain ha2]) (by simp [bo_plain (.inl rfl)]) rfl rfl rfl ?_
    refine walk ?_
    rw [show IntKind.i64.wrap ((i : Int) + 1) = ((i + 1 : Nat) : Int) by rw [wrapI (by omega) (by omega)]; omega]
    exact ⟨i + 1, by omega, by omega, ⟨rfl, rfl, rfl, rfl, rfl, rfl, trivial⟩, by simp [bo_plain ha, bo_plain (.inl rfl)], wk_eq (by simp)⟩
  · have hge : i = ns.length := by have := of_decide_eq_false hc; omega
    have hnl : ns.length ≠ 0 := by simpa using h0
    subst hge
    rw [if_neg hnl, List.take_length]
    have hpn : packV ns ≠ [] := by
      cases ns with
      | nil => exact absurd rfl h0
      | cons m ns => simp [packV, putV_ne]
    have h3 := String_calls B .me (packV ns) (.inl rfl) (by simp [most] at *; omega)
    have h4 := Text_calls B a l n (packV ns) ha h1 h2 hpn (by unfold big; omega)
    refine walk ?_
    refine l_call [1] (h3) rfl rfl rfl rfl rfl rfl rfl (by decide) (by simp [bo_plain (.inl rfl)]) rfl rfl rfl rfl ?_
    refine l_call [0] (h4) rfl rfl rfl rfl rfl rfl rfl (by decide) (by simp [bo_plain ha]) (by simp [bo_plain (.inl rfl)]) rfl rfl rfl ?_
    refine walk ?_
    exact l_end trivial (by decide) rfl rfl rfl rfl (by simp [bo_plain (.inl rfl)])
theorem Vars_nilZ (z : Bool) (a : T) (l : List UInt8) (n : Nat) (ha : adOk a) : CallsA (cx B) 45 [.ptr 0 0, iT n, .d (.sl z [])] [.mu [a, bT l]] (.tup []) [.mu [a, bT l]] := by
  refine l_body (X := cx B) (fn := Tryz.f45) Tryz.func45 rfl rfl rfl rfl rfl 1 [] rfl rfl ?_
  refine walk ?_
  refine l_loop (fun _ : Unit => 0) (fun _ => [(0, .ptr 0 0), (1, iT n), (6, .ptr 1 0), (10, iT 0), (11, iT 0)]) (fun _ => [.mu [a, bT l], .mu [.nw 89 2, bT []]]) (fun _ => True) () trivial ⟨rfl, rfl, rfl, rfl, rfl, trivial⟩ rfl 2 rfl (fun _ => rfl) (fun _ => by simp [bo_plain ha, bo_plain (.inr (.inl rfl))]) (fun _ => rfl) ?_
  intro _ _
  refine walk ?_
  refine l_call [1] (String_calls B (.nw 89 2) [] (.inr (.inl rfl)) (by simp)) rfl rfl rfl rfl rfl rfl rfl (by decide) rfl rfl rfl rfl rfl ?_
  refine l_call [0] (Text_nil B a l n ha) rfl rfl rfl rfl rfl rfl rfl (by decide) (by simp [bo_plain ha]) (by simp [bo_plain ha]) rfl rfl rfl ?_
  refine walk ?_
  exact l_end trivial (by decide) rfl rfl rfl rfl (by simp [bo_plain ha])
end Go.Proofs.YtfbckigcelmopaaGreatDoor
