/- The reference: what may lack, and packed numbers. -/
import Derived.Test.YthogjpjcidfoaaaGreatDoorRW
import Derived.Test.YthogjpjcidfoaaaGreatDoorWF
set_option linter.unusedSimpArgs false
set_option linter.unusedVariables false
set_option maxRecDepth 100000
namespace Go.Proofs.YthogjpjcidfoaaaGreatDoor
open Go Go.Abs
variable (B : Fr)
theorem rMayOpt_calls (h : Bool) (n : Nat) : CallsA (cx B) 140 [.d (.agg [.bool h, .int .u64 n])] [] (.d (.bool (mayOpt h n))) [] := by
  unfold mayOpt
  cases h with
  | true =>
    refine l_body (X := cx B) (fn := Tryz.f140) Tryz.func140 rfl rfl rfl rfl rfl 0 [] rfl rfl ?_
    refine walk ?_
    exact l_end trivial (by decide) rfl rfl rfl rfl rfl
  | false =>
    rw [show (false || n == 0) = ((n : Int) == 0) from (ibeq n 0).symm]
    refine l_body (X := cx B) (fn := Tryz.f140) Tryz.func140 rfl rfl rfl rfl rfl 0 [] rfl rfl ?_
    refine walk ?_
    exact l_end trivial (by decide) rfl rfl rfl rfl rfl
theorem opts_calls (a b c : Bool) (k l m : Nat) : CallsA (cx B) 84 [.d (.agg [.bool a, .int .u64 k]), .d (.agg [.bool b, .int .u64 l]), .d (.agg [.bool c, .int .u64 m])] [] (.d (.bool (mayOpt a k && mayOpt b l && mayOpt c m))) [] := by
  have c1 := rMayOpt_calls B a k
  have c2 := rMayOpt_calls B b l
  have c3 := rMayOpt_calls B c m
  refine l_body (X := cx B) (fn := Tryz.f84) Tryz.func84 rfl rfl rfl rfl rfl 0 [] rfl rfl ?_
  refine walk ?_
  refine l_call [] (c1) rfl rfl rfl rfl rfl rfl rfl (by decide) rfl rfl rfl rfl rfl ?_
  refine walk ?_
  cases e1 : mayOpt a k with
  | false =>
    refine walk ?_
    exact l_end trivial (by decide) rfl rfl rfl rfl rfl
  | true =>
    refine walk ?_
    refine l_callG [] (c2) rfl rfl rfl rfl rfl rfl rfl rfl rfl (by decide) rfl rfl rfl rfl rfl ?_
    refine walk ?_
    cases e2 : mayOpt b l with
    | false =>
      refine walk ?_
      exact l_end trivial (by decide) rfl rfl rfl rfl rfl
    | true =>
      refine walk ?_
      refine l_callG [] (c3) rfl rfl rfl rfl rfl rfl rfl rfl rfl (by decide) rfl rfl rfl rfl rfl ?_
      refine walk ?_
      exact l_end trivial (by decide) rfl rfl rfl rfl rfl
theorem PutOpt_calls (n : Nat) (h : Bool) (v : Nat) (h1 : 1 ≤ n) (h2 : n ≤ 536870911) (hv : v < 2 ^ 64) : CallsA (cx B) 86 [iT n, .d (.agg [.bool h, .int .u64 v])] [] (sT (opV n h v)) [] := by
  cases h with
  | false =>
    refine l_body (X := cx B) (fn := Tryz.f86) Tryz.func86 rfl rfl rfl rfl rfl 0 [] rfl rfl ?_
    refine walk ?_
    exact l_end trivial (by decide) rfl rfl rfl rfl rfl
  | true =>
    have c : CallsA (cx B) 58 [iT n, uT v] [] (sT (opV n true v)) [] := rFixed_calls B n v h1 h2 hv
    refine l_body (X := cx B) (fn := Tryz.f86) Tryz.func86 rfl rfl rfl rfl rfl 0 [] rfl rfl ?_
    refine walk ?_
    refine l_call [] (c) rfl rfl rfl rfl rfl rfl rfl (by decide) rfl rfl rfl rfl rfl ?_
    refine walk ?_
    exact l_end trivial (by decide) rfl rfl rfl rfl rfl
theorem PutFixeds_calls (z : Bool) (n : Nat) (cs : List Nat) (h1 : 1 ≤ n) (h2 : n ≤ 536870911) (hc : ∀ m ∈ cs, m < 2 ^ 64) (hl : 8 * cs.length < big) : CallsA (cx B) 87 [iT n, .d (.sl z (cs.map uD))] [] (sT (pwV n cs)) [] := by
  have hlen : (cs.map uD).length = cs.length := by simp
  have hpl := packW_len cs
  unfold big at hl
  refine l_body (X := cx B) (fn := Tryz.f87) Tryz.func87 rfl rfl rfl rfl rfl 0 [] rfl rfl ?_
  refine walk ?_
  refine l_loop (fun i : Nat => cs.length - i) (fun i => [(0, iT n), (1, .d (.sl z (cs.map uD))), (5, sT (packW (cs.take i))), (6, iT i)]) (fun _ => []) (fun i => i ≤ cs.length) 0 (by omega) ⟨rfl, rfl, rfl, rfl, trivial⟩ rfl 0 rfl (fun _ => rfl) (fun _ => rfl) (fun _ => rfl) ?_
  intro i i1
  refine walk ?_
  rw [hlen]
  by_cases hlt : i < cs.length
  · rw [show decide ((i : Int) < cs.length) = true from decide_eq_true (by omega)]
    obtain ⟨x, hx⟩ : ∃ x, cs[i]? = some x := ⟨_, List.getElem?_eq_getElem hlt⟩
    have hdx : (cs.map uD)[i]? = some (uD x) := by rw [List.getElem?_map, hx]; rfl
    have htk := packW_len (cs.take i)
    have hpx := le8_len x
    have hpk : packW (cs.take i) ++ le8 x = packW (cs.take (i + 1)) := by rw [List.take_add_one, hx]; simp [packW]
    refine walk ?_
    refine l_step (.indexAddr (k := .i64) (n := i) (es := cs.map uD) (u := uD x) rfl rfl rfl rfl (.inl ⟨_, rfl⟩) rfl (by omega) (by simpa using hdx) rfl (by decide)) rfl rfl ?_
    refine walk ?_
    refine l_call [] (rEight_calls B x (hc x (List.mem_of_getElem? hx))) rfl rfl rfl rfl rfl rfl rfl (by decide) rfl rfl rfl rfl rfl ?_
    refine walk ?_
    refine l_step (.addStr (a := packW (cs.take i)) (b := le8 x) rfl rfl rfl (by simp at htk; omega)) rfl rfl ?_
    rw [hpk]
    refine walk ?_
    rw [show IntKind.i64.wrap ((i : Int) + 1) = ((i + 1 : Nat) : Int) by rw [wrapI (by omega) (by omega)]; omega]
    exact ⟨i + 1, by omega, by omega, ⟨rfl, rfl, rfl, rfl, trivial⟩, rfl, wk_eq rfl⟩
  · have hge : i = cs.length := by omega
    subst hge
    rw [List.take_length, show decide ((cs.length : Int) < cs.length) = false from decide_eq_false (by omega)]
    have h3 : CallsA (cx B) 143 [iT n, sT (packW cs)] [] (sT (pwV n cs)) [] := PutText_calls B n (packW cs) h1 h2 (by unfold big; omega)
    refine walk ?_
    refine l_call [] (h3) rfl rfl rfl rfl rfl rfl rfl (by decide) rfl rfl rfl rfl rfl ?_
    refine walk ?_
    exact l_end trivial (by decide) rfl rfl rfl rfl rfl
end Go.Proofs.YthogjpjcidfoaaaGreatDoor
