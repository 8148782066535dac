/- Numbers of eight bytes, written and read back. -/
import Derived.Test.YtaenjdichndafaaGreatDoorPG
import Derived.WalkKit
import Derived.LoopN
import Derived.Laws.MakeOwn
import Derived.Laws.OwnMore
import Derived.Laws.IdiomStrings
set_option linter.unusedSimpArgs false
set_option linter.unusedVariables false
set_option maxRecDepth 100000
namespace Go.Proofs.YtaenjdichndafaaGreatDoor
open Go Go.Abs Go.RowKit
/-- So many bytes of a number, the least first. -/
def leB : Nat → Nat → List UInt8
  | 0, _ => []
  | k + 1, n => UInt8.ofNat (n % 256) :: leB k (n / 256)
theorem leB_len : ∀ (k n : Nat), (leB k n).length = k
  | 0, _ => rfl
  | k + 1, n => by simp [leB, leB_len k]
theorem leN_leB : ∀ (k n : Nat), n < 256 ^ k → leN (leB k n) = n
  | 0, n, h => by simp at h; subst h; rfl
  | k + 1, n, h => by
    have := leN_leB k (n / 256) (by rw [Nat.pow_succ] at h; omega)
    simp only [leB, leN, this]
    rw [byte_of (by omega)]; omega
theorem leB_leN : ∀ (l : List UInt8), leB l.length (leN l) = l
  | [] => rfl
  | c :: l => by
    have hc := byte_lt c
    simp only [leN, List.length_cons, leB]
    rw [show (c.toNat + 256 * leN l) % 256 = c.toNat by omega, show (c.toNat + 256 * leN l) / 256 = leN l by omega, leB_leN l]
    simp
def le8 (n : Nat) : List UInt8 := leB 8 n
theorem le8_len (n : Nat) : (le8 n).length = 8 := leB_len 8 n
theorem le8_N {n : Nat} (h : n < 2 ^ 64) : leN (le8 n) = n := leN_leB 8 n h
set_option maxHeartbeats 4000000 in
theorem eight_run (n : Nat) (w : World) :
    Calls Tryz.prog 63 #[.int .u64 n] w fun e w' => e = .returned (.string ⟨(le8 n).toArray⟩) ∧ More w w' := by
  obtain ⟨i, hi, hib, his, hiz⟩ : ∃ i, Tryz.prog.info? 5 = some i ∧ i.bytes = 1 ∧ i.size = 1 ∧ i.zero = some (.int .u8 0) := by
    have h0 : (Tryz.prog.info? 5).map (fun i => (i.bytes, i.size, i.zero)) = some (1, 1, some (.int .u8 0)) := by kernel_rfl
    obtain ⟨i, h1, h2⟩ := Option.map_eq_some_iff.1 h0
    simp at h2
    exact ⟨i, h1, h2.1, h2.2.1, h2.2.2⟩
  have hmk := run_makeSlice (P := Tryz.prog) w 96 5 i (.int .u8 0) (by kernel_rfl) hi hiz .i64 .i64 8 8 (by omega) (by omega) (by rw [his]; decide) (by rw [hib]; decide) (by omega)
  have hmc : madeCells (Value.int .u8 0).cells (Int.toNat 8 * i.size) = #[.int .u8 0, .int .u8 0, .int .u8 0, .int .u8 0, .int .u8 0, .int .u8 0, .int .u8 0, .int .u8 0] := by rw [his]; kernel_rfl
  rw [hmc] at hmk
  have hbk := fun (w' : World) (l : List UInt8) (hl : l.length = 8) (hc : ∀ j (hj : j < l.length), w'.cell? ((⟨w.heap.size, 0, none⟩ : Addr).add j) = some (.int .u8 (l[j].toNat : Int))) => hl ▸ run_convert_bytes_back (P := Tryz.prog) w' 96 9 5 ⟨w.heap.size, 0, none⟩ 8 l (by kernel_rfl) (by kernel_rfl) (by kernel_rfl) hc
  clear hmc hi hib his hiz
  have hcv : ∀ k : Nat, Value.int .u8 ((n : Int) / (k : Int) % 256) = Value.int .u8 ((UInt8.ofNat (n / k % 256)).toNat : Int) := fun k => by
    rw [byte_of (by omega)]; congr 1
  go_enter Tryz.func63, Tryz.ntmps63
  go_wp2
  refine wp_loop_rounds 9 ?_
  iterate 9 (rw [rounds_succ]; go_wp2)
  rw [hbk _ (le8 n) (le8_len n) ?_]
  · simp only [Result.andThen]
    rw [Oper.upon_value]
    go_wp2
    go_ret
    exact ⟨rfl, More.alloc _ _⟩
  · intro j hj
    rw [le8_len] at hj
    have ha : (⟨w.heap.size, 0, none⟩ : Addr).add j = ⟨w.heap.size, j, none⟩ := by unfold Addr.add; split <;> simp_all
    have hc := World.cell?_alloc_new w #[Value.int IntKind.u8 ((n : Int) % 256), Value.int IntKind.u8 ((n : Int) / 256 % 256), Value.int IntKind.u8 ((n : Int) / 65536 % 256), Value.int IntKind.u8 ((n : Int) / 16777216 % 256), Value.int IntKind.u8 ((n : Int) / 4294967296 % 256), Value.int IntKind.u8 ((n : Int) / 1099511627776 % 256), Value.int IntKind.u8 ((n : Int) / 281474976710656 % 256), Value.int IntKind.u8 ((n : Int) / 72057594037927936 % 256)] 5 j
    rw [ha]
    refine hc.trans ?_
    have hb : ∀ k : Nat, (UInt8.ofNat (k % 256)).toNat = k % 256 := fun k => byte_of (by omega)
    rcases j with _ | _ | _ | _ | _ | _ | _ | _ | j
    · simp [le8, leB]
    · simp [le8, leB]
    · simp [le8, leB]; omega
    · simp [le8, leB]; omega
    · simp [le8, leB]; omega
    · simp [le8, leB]; omega
    · simp [le8, leB]; omega
    · simp [le8, leB]; omega
    · omega
end Go.Proofs.YtaenjdichndafaaGreatDoor

namespace Go.Proofs.YtaenjdichndafaaGreatDoor
open Go Go.Abs
variable (B : Fr)
/-- A function that makes data of data, and new blocks. -/
theorem leaf_calls {X : Ctx} {f : FuncId} {args : List T} {x : D} (hf : ∃ fn, X.P.funcs[f]? = some fn ∧ fn.body.isSome = true ∧ (fn.name == "runtime.NumGoroutine") = false)
    (h : ∀ F ρ w vs, TRs F ρ w (.tmp 0) args vs → ∃ v, DR F x v ∧ Calls X.P f vs.toArray w fun e w' => e = .returned v ∧ More w w') : CallsA X f args [] (.d x) [] := by
  refine ⟨hf, fun F ρ w vs hwr hvs hnt hb => ?_⟩
  obtain ⟨v, hx, hc⟩ := h F ρ w vs hvs
  refine hc.mono fun e w' ⟨he, hm⟩ => ?_
  have h1 : WR F ρ w' ([] ++ []) := hwr.more hm (Sub.refl F) (fun _ _ _ => rfl) (fun _ _ => rfl) (fun b off v hb e => absurd (lt_of_cell (hwr.fix b off v e)) (by omega)) (fun b hb => Nat.lt_of_lt_of_le (hwr.lt b hb) hm.size)
    (fun b i hb e => absurd (hwr.lt b (by rw [e]; simp)) (by omega))
  exact ⟨v, F, ρ, he, h1, .d hx, Ext.more hwr hm (Sub.refl F) (fun _ _ _ => rfl) (fun _ _ => rfl), hnt⟩
theorem eight_calls (n : Nat) : CallsA (cx B) 63 [uT n] [] (sT (le8 n)) [] := by
  refine leaf_calls ⟨Tryz.f63, Tryz.func63, rfl, rfl⟩ fun F ρ w vs hvs => ?_
  cases hvs with
  | cons hp hr =>
  cases hr
  obtain rfl := hp.inv_int
  exact ⟨_, .str _, eight_run n w⟩
theorem Fixed_calls (n m : Nat) (h1 : 1 ≤ n) (h2 : n ≤ 536870911) : CallsA (cx B) 26 [iT n, uT m] [] (sT (tagV n 1 ++ le8 m)) [] := by
  have hlen := le8_len m
  refine l_body (X := cx B) (fn := Tryz.f26) Tryz.func26 rfl rfl rfl rfl rfl 0 [] rfl rfl ?_
  refine walk ?_
  refine l_call [] (eight_calls B m) rfl rfl rfl rfl rfl rfl rfl (by decide) rfl rfl rfl rfl rfl ?_
  refine l_call [] (put_calls B n 1 (le8 m) h1 h2 (by omega) (by unfold most; omega)) rfl rfl rfl rfl rfl rfl rfl (by decide) rfl rfl rfl rfl rfl ?_
  refine walk ?_
  exact l_end trivial (by decide) rfl rfl rfl rfl rfl
end Go.Proofs.YtaenjdichndafaaGreatDoor
