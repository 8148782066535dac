/- errors.As at a code: the walk. -/
import Derived.Test.YtaenjdichndafaaGreatDoorXB
set_option linter.unusedSimpArgs false
set_option linter.unusedVariables false
set_option maxRecDepth 100000
namespace Go.Proofs.YtaenjdichndafaaGreatDoor
open Go Go.Abs Go.RowKit Go.Extern.Stop Go.Stop Go.Extern
def AsCode (w : World) (a0 ta : Addr) (n : Int) (e : Ending) (w' : World) : Prop :=
  e = .returned (.bool true) ∧ w' = ((w.alloc (.cells #[hnd 93, .pointer (some a0), .int .u64 150] 147)).alloc (.cells #[.int .i64 n] 38)).setCell ta (.int .i64 n)
set_option maxHeartbeats 4000000 in
theorem as_code (er : Er) (v0 : Value) (F : Fr) (w : World) (hF : Fix F w) (hd : DR F er.d v0) (tg : Value) (a0 ta : Addr) (old : Value) (h0 : w.cell? a0 = some (.pointer (some ta))) (h0l : a0.block < w.heap.size) (ht : w.cell? ta = some old) (htl : ta.block < w.heap.size) (hf : w.frozen? ta = false) :
    Calls Tryz.prog 94 #[v0, tg, rval 93 a0 150, rty 38] w (AsCode w a0 ta (codeOf er)) := by
  have lt : ∀ {b off v}, F b off = some v → b < w.heap.size := fun {b off v} h => lt_of_cell (hF b off v h)
  generalize hw1 : w.alloc (.cells #[hnd 93, .pointer (some a0), .int .u64 150] 147) = w1
  have hF1 : Fix F w1 := fun b off v h => by rw [← hw1, World.cell?_alloc_lt _ _ ⟨b, off, none⟩ (lt h)]; exact hF b off v h
  have g0 : w1.cell? a0 = some (.pointer (some ta)) := by rw [← hw1, World.cell?_alloc_lt _ _ a0 h0l]; exact h0
  have gt : w1.cell? ta = some old := by rw [← hw1, World.cell?_alloc_lt _ _ ta htl]; exact ht
  have gf : w1.frozen? ta = false := by rw [← hw1, World.frozen?_alloc_old _ _ ta (Nat.ne_of_lt htl)]; exact hf
  have gs : w1.heap.size = w.heap.size + 1 := by rw [← hw1]; simp
  have n6 : w1.cell? ⟨w.heap.size, 0, none⟩ = some (hnd 93) := by rw [← hw1]; simp
  have n7 : w1.cell? ⟨w.heap.size, 1, none⟩ = some (.pointer (some a0)) := by rw [← hw1]; simp
  have n8 : w1.cell? ⟨w.heap.size, 2, none⟩ = some (.int .u64 150) := by rw [← hw1]; simp
  have xVO := @run_callFunc_extern Tryz.prog 91 _ (fun args => ReflectliteValue.unpack (args.getD 0 (.tuple #[]))) Tryz.func91 (by kernel_rfl) (by kernel_rfl) (by kernel_rfl) (by kernel_rfl)
  have xTO := @run_callFunc_extern Tryz.prog 123 _ ReflectliteType.typeOf Tryz.func123 (by kernel_rfl) (by kernel_rfl) (by kernel_rfl) (by kernel_rfl)
  have xAT := @run_callFunc_extern Tryz.prog 197 _ (ReflectliteType.relation "AssignableTo" ReflectliteType.assignableTo) Tryz.func197 (by kernel_rfl) (by kernel_rfl) (by kernel_rfl) (by kernel_rfl)
  have xEl := @run_callFunc_extern Tryz.prog 124 _ (ReflectliteValue.method (ReflectliteValue.valueError "reflectlite.Value.Elem" 0) ReflectliteValue.elem) Tryz.func124 (by kernel_rfl) (by kernel_rfl) (by kernel_rfl) (by kernel_rfl)
  have xSet := @run_callFunc_extern Tryz.prog 125 _ ReflectliteValue.set Tryz.func125 (by kernel_rfl) (by kernel_rfl) (by kernel_rfl) (by kernel_rfl)
  have mA := as_mAssign
  have el := as_elemVC a0 ta w1 g0
  go_enter Tryz.func94, Tryz.ntmps94
  go_wp2
  refine loop_meas Er.size (fun er' a w' => w' = w1 ∧ codeOf er' = codeOf er ∧ ∃ v x2 x4 x5 x7 x8 x9 x10 x11 x12 x13 x14 x15 x16 x17 x18 x19 x20 x21 x22 x23 x24 x25 x26 x27 x28 x29 x30 x31 x32 x33 x34 x35 x36 x37 x38 x39 x40 x41 x42 x43 x44 x45 x46 x47 x48 x49 x50 x51 x52 x53 x54 x55 x56 x57 x58 x59 x60 x61 : Value, DR F er'.d v ∧ a = { tmps := #[v, tg, x2, rty 38, x4, x5, .pointer (some ⟨w.heap.size, 0, none⟩), x7, x8, x9, x10, x11, x12, x13, x14, x15, x16, x17, x18, x19, x20, x21, x22, x23, x24, x25, x26, x27, x28, x29, x30, x31, x32, x33, x34, x35, x36, x37, x38, x39, x40, x41, x42, x43, x44, x45, x46, x47, x48, x49, x50, x51, x52, x53, x54, x55, x56, x57, x58, x59, x60, x61], defers := [] }) er ⟨rfl, rfl, v0, _, _, _, _, _, _, _, _, _, _, _, _, _, _, _, _, _, _, _, _, _, _, _, _, _, _, _, _, _, _, _, _, _, _, _, _, _, _, _, _, _, _, _, _, _, _, _, _, _, _, _, _, _, _, _, _, _, _, hd, rfl⟩ ?_
  rintro er' a w' ⟨rfl, hwh, v, x2, x4, x5, x7, x8, x9, x10, x11, x12, x13, x14, x15, x16, x17, x18, x19, x20, x21, x22, x23, x24, x25, x26, x27, x28, x29, x30, x31, x32, x33, x34, x35, x36, x37, x38, x39, x40, x41, x42, x43, x44, x45, x46, x47, x48, x49, x50, x51, x52, x53, x54, x55, x56, x57, x58, x59, x60, x61, hd', rfl⟩
  rw [← hwh]
  clear hd hwh
  cases er' with
  | code n =>
    cases hd' with
    | iface hd2 =>
    cases hd2
    have f1 := as_typeOfc
    have f2 := as_asscc
    have f3 := as_unpackc
    have st := as_setc ta ⟨w.heap.size + 1, 0, none⟩ n old (w'.alloc (.cells #[.int .i64 n] 38)) (by rw [← gs]; simp) (by rw [World.cell?_alloc_lt _ _ ta (by omega)]; exact gt) (by rw [World.frozen?_alloc_old _ _ ta (by omega)]; exact gf)
    go_wp2
    go_ret
    exact (⟨rfl, by rw [hw1]⟩ : AsCode w a0 ta n _ _)
  | loc n e =>
    cases hd' with
    | iface hd2 =>
    rename_i u
    cases hd2 with
    | box hds hat =>
    rename_i vs b off
    obtain ⟨v1, v2, rfl, hv1, hv2⟩ : ∃ v1 v2, vs = [v1, v2] ∧ DR F (.int .i64 n) v1 ∧ DR F e.d v2 := by
      cases hds with
      | cons h1 h2 => cases h2 with | cons h3 h4 => cases h4; exact ⟨_, _, rfl, h1, h3⟩
    have hc := hF1 _ _ _ (hat 1 v2 rfl)
    have f1 := as_typeOfw
    have f2 := as_asswc
    have f3 := as_noASw
    have f4 := as_hasUWw
    have f5 := as_mUw
    obtain ⟨T2, u2, rfl⟩ : ∃ T2 u2, v2 = .iface T2 u2 := by cases e <;> cases hv2 <;> exact ⟨_, _, rfl⟩
    go_wp2_with (go_at_call 192; refine (unw_loc b off _ _ hc).mono ?_; rintro e1 w2 ⟨rfl, rfl⟩)
    exact ⟨e, Nat.lt_succ_self _, trivial, rfl, _, _, _, _, _, _, _, _, _, _, _, _, _, _, _, _, _, _, _, _, _, _, _, _, _, _, _, _, _, _, _, _, _, _, _, _, _, _, _, _, _, _, _, _, _, _, _, _, _, _, _, _, _, _, _, _, _, _, _, hv2, rfl⟩
  | fld n e =>
    cases hd' with
    | iface hd2 =>
    rename_i u
    cases hd2 with
    | box hds hat =>
    rename_i vs b off
    obtain ⟨v1, v2, rfl, hv1, hv2⟩ : ∃ v1 v2, vs = [v1, v2] ∧ DR F (.int .i64 n) v1 ∧ DR F e.d v2 := by
      cases hds with
      | cons h1 h2 => cases h2 with | cons h3 h4 => cases h4; exact ⟨_, _, rfl, h1, h3⟩
    have hc := hF1 _ _ _ (hat 1 v2 rfl)
    have f1 := as_typeOff
    have f2 := as_assfc
    have f3 := as_noASf
    have f4 := as_hasUWf
    have f5 := as_mUf
    obtain ⟨T2, u2, rfl⟩ : ∃ T2 u2, v2 = .iface T2 u2 := by cases e <;> cases hv2 <;> exact ⟨_, _, rfl⟩
    go_wp2_with (go_at_call 208; refine (unw_fld b off _ _ hc).mono ?_; rintro e1 w2 ⟨rfl, rfl⟩)
    exact ⟨e, Nat.lt_succ_self _, trivial, rfl, _, _, _, _, _, _, _, _, _, _, _, _, _, _, _, _, _, _, _, _, _, _, _, _, _, _, _, _, _, _, _, _, _, _, _, _, _, _, _, _, _, _, _, _, _, _, _, _, _, _, _, _, _, _, _, _, _, _, _, hv2, rfl⟩
end Go.Proofs.YtaenjdichndafaaGreatDoor
