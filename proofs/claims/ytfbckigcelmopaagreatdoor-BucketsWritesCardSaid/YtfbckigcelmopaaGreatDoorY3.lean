/- Buckets: there and back. No condition. -/
import Derived.Test.YtfbckigcelmopaaGreatDoorY2
set_option linter.unusedSimpArgs false
set_option linter.unusedVariables false
set_option maxRecDepth 100000
namespace Go.Proofs.YtfbckigcelmopaaGreatDoor
open Go Go.Abs
variable (B : Fr)
theorem room_le {cs : List Nat} {u : List UInt8} (h : ¬ roomB cs u 12000 < 0) : u.length ≤ 12000 ∧ cs.length ≤ 1500 := by
  unfold roomB takeR at h
  split at h <;> split at h <;> omega
theorem room_ge (cs : List Nat) (u : List UInt8) : -9223372036854775808 ≤ roomB cs u 12000 ∧ roomB cs u 12000 < 9223372036854775808 := by
  unfold roomB takeR
  split <;> split <;> omega
theorem BucketsBack_law (hB : BOk B) (z : Bool) (o : Int) (cs : List Nat) (u : List UInt8) (ho1 : -2147483648 ≤ o) (ho2 : o < 2147483648) (hcs : ∀ n ∈ cs, n < 2 ^ 64) (hcl : cs.length ≤ 9223372036854775807) (hul : u.length ≤ 9223372036854775807)
    (d : Int) (hd1 : -9223372036854775808 ≤ d) (hd2 : d < 9223372036854775808) (less : Int) (hl1 : -9223372036854775808 ≤ less) (hl2 : less < 9223372036854775808) :
    CallsA (cx B) 8 [.d (bkZ z o cs u), .d (.int .i64 d), .d (.int .i64 less)] [] (.d (.bool true)) [] := by
  have hf := first14_calls B hB
  have hr := RoomZ B z o cs u 12000 (by omega) (by omega) hul
  refine l_body (X := cx B) (fn := Tryz.f8) Tryz.func8 rfl rfl rfl rfl rfl 0 [] rfl rfl ?_
  refine walk ?_
  refine l_call [] (hf) rfl rfl rfl rfl rfl rfl rfl (by decide) rfl rfl rfl rfl rfl ?_
  refine walk ?_
  refine l_call [] (hr) rfl rfl rfl rfl rfl rfl rfl (by decide) rfl rfl rfl rfl rfl ?_
  refine walk ?_
  by_cases h1 : roomB cs u 12000 < 0
  · rw [show decide (roomB cs u 12000 < 0) = true from decide_eq_true h1]
    refine walk ?_
    refine l_call [] (hf) rfl rfl rfl rfl rfl rfl rfl (by decide) rfl rfl rfl rfl rfl ?_
    refine walk ?_
    exact l_end trivial (by decide) rfl rfl rfl rfl rfl
  rw [show decide (roomB cs u 12000 < 0) = false from decide_eq_false h1]
  refine walk ?_
  by_cases h2 : less < 0
  · rw [show decide (less < 0) = true from decide_eq_true h2]
    refine walk ?_
    refine l_call [] (hf) rfl rfl rfl rfl rfl rfl rfl (by decide) rfl rfl rfl rfl rfl ?_
    refine walk ?_
    exact l_end trivial (by decide) rfl rfl rfl rfl rfl
  rw [show decide (less < 0) = false from decide_eq_false h2]
  refine walk ?_
  by_cases h3 : less > d
  · rw [show decide (less > d) = true from decide_eq_true h3]
    refine walk ?_
    refine l_call [] (hf) rfl rfl rfl rfl rfl rfl rfl (by decide) rfl rfl rfl rfl rfl ?_
    refine walk ?_
    exact l_end trivial (by decide) rfl rfl rfl rfl rfl
  rw [show decide (less > d) = false from decide_eq_false h3]
  refine walk ?_
  obtain ⟨l1, l2⟩ := room_le h1
  have c2 := MarshalZ B z o cs u d ho1 ho2 hcs (by unfold big; omega) hd1 hd2
  have hw : IntKind.i64.wrap (d - less) = d - less := wrapI (by omega) (by omega)
  cases hmay : mayB u d with
  | false =>
    rw [hmay, if_neg (by simp)] at c2
    refine l_call [] (c2) rfl rfl rfl rfl rfl rfl rfl (by decide) rfl rfl rfl rfl rfl ?_
    refine walk ?_
    refine l_call [] (hf) rfl rfl rfl rfl rfl rfl rfl (by decide) rfl rfl rfl rfl rfl ?_
    refine walk ?_
    exact l_end trivial (by decide) rfl rfl rfl rfl rfl
  | true =>
    rw [hmay, if_pos rfl] at c2
    have hml := marB_len o cs u
    have hpl := packV_len cs
    have hback := okB_mar hmay ho1 ho2 hcs (by omega)
    have hmb : (marB o cs u).length < big := by unfold big; omega
    have c3 := UB_some B hB hmb hd1 hd2 hback
    have c5 := SameZ B z (cs.map uD).isEmpty o cs u o cs u (by omega)
    rw [show (o == o && u == u && cs == cs) = true by simp] at c5
    have c4 := MayBucketsZ B z o cs u (d - less) (by unfold big; omega) (by omega) (by omega)
    cases hm2 : mayB u (d - less) with
    | true =>
      rw [hm2] at c4
      have c6 := UB_some B hB hmb (show -9223372036854775808 ≤ d - less by omega) (show d - less < 9223372036854775808 by omega) (okB_mar hm2 ho1 ho2 hcs (by omega))
      refine l_call [] (c2) rfl rfl rfl rfl rfl rfl rfl (by decide) rfl rfl rfl rfl rfl ?_
      refine walk ?_
      refine l_call [] (c3) rfl rfl rfl rfl rfl rfl rfl (by decide) rfl rfl rfl rfl rfl ?_
      refine walk ?_
      rw [hw]
      refine l_call [] (c6) rfl rfl rfl rfl rfl rfl rfl (by decide) rfl rfl rfl rfl rfl ?_
      refine walk ?_
      refine x_call [] (hf) rfl rfl rfl rfl rfl rfl (by decide) rfl rfl rfl rfl rfl rfl ?_
      refine walk ?_
      refine x_call [] (c5) rfl rfl rfl rfl rfl rfl (by decide) rfl rfl rfl rfl rfl rfl ?_
      refine walk ?_
      rw [hw]
      refine x_call [] (c4) rfl rfl rfl rfl rfl rfl (by decide) rfl rfl rfl rfl rfl rfl ?_
      refine walk ?_
      refine x_call [] (c5) rfl rfl rfl rfl rfl rfl (by decide) rfl rfl rfl rfl rfl rfl ?_
      refine walk ?_
      exact l_end trivial (by decide) rfl rfl rfl rfl rfl
    | false =>
      rw [hm2] at c4
      obtain ⟨T, y, c6⟩ := UB_none B hB hmb (show -9223372036854775808 ≤ d - less by omega) (show d - less < 9223372036854775808 by omega) (okB_less hmay (by omega) ho1 ho2 (by omega) hm2)
      refine l_call [] (c2) rfl rfl rfl rfl rfl rfl rfl (by decide) rfl rfl rfl rfl rfl ?_
      refine walk ?_
      refine l_call [] (c3) rfl rfl rfl rfl rfl rfl rfl (by decide) rfl rfl rfl rfl rfl ?_
      refine walk ?_
      rw [hw]
      refine l_call [] (c6) rfl rfl rfl rfl rfl rfl rfl (by decide) rfl rfl rfl rfl rfl ?_
      refine walk ?_
      refine x_call [] (hf) rfl rfl rfl rfl rfl rfl (by decide) rfl rfl rfl rfl rfl rfl ?_
      refine walk ?_
      refine x_call [] (c5) rfl rfl rfl rfl rfl rfl (by decide) rfl rfl rfl rfl rfl rfl ?_
      refine walk ?_
      rw [hw]
      refine x_call [] (c4) rfl rfl rfl rfl rfl rfl (by decide) rfl rfl rfl rfl rfl rfl ?_
      refine walk ?_
      exact l_end trivial (by decide) rfl rfl rfl rfl rfl
end Go.Proofs.YtfbckigcelmopaaGreatDoor
