/- errors.As: the walk. -/
import Derived.Test.YtaenjdichndafaaGreatDoorXA
set_option linter.unusedSimpArgs false
set_option linter.unusedVariables false
set_option maxRecDepth 100000
namespace Go.Proofs.YtaenjdichndafaaGreatDoor
open Go Go.Abs Go.RowKit Go.Extern.Stop Go.Stop Go.Extern
/-- The outermost place, and what is wrong there. -/
def whereOf : Er → Option (Int × Er)
  | .code _ => none
  | .loc n e => some (n, e)
  | .fld _ e => whereOf e
def codeOf : Er → Int
  | .code n => n
  | .loc _ e => codeOf e
  | .fld _ e => codeOf e
def Er.size : Er → Nat
  | .code _ => 0
  | .loc _ e => e.size + 1
  | .fld _ e => e.size + 1
/-- What stands in memory is as it is told. -/
def Fix (F : Fr) (w : World) : Prop := ∀ b off v, F b off = some v → w.cell? ⟨b, off, none⟩ = some v
theorem unw_loc (b off : Nat) (v : Value) (w : World) (h : w.cell? ⟨b, off + 1, none⟩ = some v) : Calls Tryz.prog 192 #[.pointer (some ⟨b, off, none⟩)] w fun e w' => e = .returned v ∧ w' = w := by
  go_enter Tryz.func192, Tryz.ntmps192
  go_wp2
  go_ret
  exact ⟨rfl, rfl⟩
theorem unw_fld (b off : Nat) (v : Value) (w : World) (h : w.cell? ⟨b, off + 1, none⟩ = some v) : Calls Tryz.prog 208 #[.pointer (some ⟨b, off, none⟩)] w fun e w' => e = .returned v ∧ w' = w := by
  go_enter Tryz.func208, Tryz.ntmps208
  go_wp2
  go_ret
  exact ⟨rfl, rfl⟩
theorem as_mUw (v : Value) (w : World) : (Go.method 367 139 v "Unwrap").run Tryz.prog w = .ok (192, v) w := by kernel_rfl
theorem as_mUf (v : Value) (w : World) : (Go.method 367 206 v "Unwrap").run Tryz.prog w = .ok (208, v) w := by kernel_rfl
def AsWhere (F : Fr) (w : World) (a0 ta : Addr) (o : Option (Int × Er)) (e : Ending) (w' : World) : Prop :=
  match o with
  | none => e = .returned (.bool false) ∧ w' = w.alloc (.cells #[hnd 140, .pointer (some a0), .int .u64 150] 147)
  | some (n, e0) => e = .returned (.bool true) ∧ ∃ p, DR F (.box [.int .i64 n, e0.d]) (.pointer (some p)) ∧ w' = ((w.alloc (.cells #[hnd 140, .pointer (some a0), .int .u64 150] 147)).alloc (.cells #[.pointer (some p)] 139)).setCell ta (.pointer (some p))
set_option maxHeartbeats 4000000 in
theorem as_where (er : Er) (v0 : Value) (F : Fr) (w : World) (hF : Fix F w) (hd : DR F er.d v0) (tg : Value) (a0 ta : Addr) (old : Value) (h0 : w.cell? a0 = some (.pointer (some ta))) (h0l : a0.block < w.heap.size) (ht : w.cell? ta = some old) (htl : ta.block < w.heap.size) (hf : w.frozen? ta = false) :
    Calls Tryz.prog 94 #[v0, tg, rval 140 a0 150, rty 139] w (AsWhere F w a0 ta (whereOf er)) := by
  have lt : ∀ {b off v}, F b off = some v → b < w.heap.size := fun {b off v} h => lt_of_cell (hF b off v h)
  generalize hw1 : w.alloc (.cells #[hnd 140, .pointer (some a0), .int .u64 150] 147) = w1
  have hF1 : Fix F w1 := fun b off v h => by rw [← hw1, World.cell?_alloc_lt _ _ ⟨b, off, none⟩ (lt h)]; exact hF b off v h
  have g0 : w1.cell? a0 = some (.pointer (some ta)) := by rw [← hw1, World.cell?_alloc_lt _ _ a0 h0l]; exact h0
  have gt : w1.cell? ta = some old := by rw [← hw1, World.cell?_alloc_lt _ _ ta htl]; exact ht
  have gf : w1.frozen? ta = false := by rw [← hw1, World.frozen?_alloc_old _ _ ta (Nat.ne_of_lt htl)]; exact hf
  have gs : w1.heap.size = w.heap.size + 1 := by rw [← hw1]; simp
  have n6 : w1.cell? ⟨w.heap.size, 0, none⟩ = some (hnd 140) := by rw [← hw1]; simp
  have n7 : w1.cell? ⟨w.heap.size, 1, none⟩ = some (.pointer (some a0)) := by rw [← hw1]; simp
  have n8 : w1.cell? ⟨w.heap.size, 2, none⟩ = some (.int .u64 150) := by rw [← hw1]; simp
  have xVO := @run_callFunc_extern Tryz.prog 91 _ (fun args => ReflectliteValue.unpack (args.getD 0 (.tuple #[]))) Tryz.func91 (by kernel_rfl) (by kernel_rfl) (by kernel_rfl) (by kernel_rfl)
  have xTO := @run_callFunc_extern Tryz.prog 123 _ ReflectliteType.typeOf Tryz.func123 (by kernel_rfl) (by kernel_rfl) (by kernel_rfl) (by kernel_rfl)
  have xAT := @run_callFunc_extern Tryz.prog 197 _ (ReflectliteType.relation "AssignableTo" ReflectliteType.assignableTo) Tryz.func197 (by kernel_rfl) (by kernel_rfl) (by kernel_rfl) (by kernel_rfl)
  have xEl := @run_callFunc_extern Tryz.prog 124 _ (ReflectliteValue.method (ReflectliteValue.valueError "reflectlite.Value.Elem" 0) ReflectliteValue.elem) Tryz.func124 (by kernel_rfl) (by kernel_rfl) (by kernel_rfl) (by kernel_rfl)
  have xSet := @run_callFunc_extern Tryz.prog 125 _ ReflectliteValue.set Tryz.func125 (by kernel_rfl) (by kernel_rfl) (by kernel_rfl) (by kernel_rfl)
  have mA := as_mAssign
  have el := as_elemVW a0 ta w1 g0
  go_enter Tryz.func94, Tryz.ntmps94
  go_wp2
  refine loop_meas Er.size (fun er' a w' => w' = w1 ∧ whereOf er' = whereOf er ∧ ∃ v x2 x4 x5 x7 x8 x9 x10 x11 x12 x13 x14 x15 x16 x17 x18 x19 x20 x21 x22 x23 x24 x25 x26 x27 x28 x29 x30 x31 x32 x33 x34 x35 x36 x37 x38 x39 x40 x41 x42 x43 x44 x45 x46 x47 x48 x49 x50 x51 x52 x53 x54 x55 x56 x57 x58 x59 x60 x61 : Value, DR F er'.d v ∧ a = { tmps := #[v, tg, x2, rty 139, x4, x5, .pointer (some ⟨w.heap.size, 0, none⟩), x7, x8, x9, x10, x11, x12, x13, x14, x15, x16, x17, x18, x19, x20, x21, x22, x23, x24, x25, x26, x27, x28, x29, x30, x31, x32, x33, x34, x35, x36, x37, x38, x39, x40, x41, x42, x43, x44, x45, x46, x47, x48, x49, x50, x51, x52, x53, x54, x55, x56, x57, x58, x59, x60, x61], defers := [] }) er ⟨rfl, rfl, v0, _, _, _, _, _, _, _, _, _, _, _, _, _, _, _, _, _, _, _, _, _, _, _, _, _, _, _, _, _, _, _, _, _, _, _, _, _, _, _, _, _, _, _, _, _, _, _, _, _, _, _, _, _, _, _, _, _, _, hd, rfl⟩ ?_
  rintro er' a w' ⟨rfl, hwh, v, x2, x4, x5, x7, x8, x9, x10, x11, x12, x13, x14, x15, x16, x17, x18, x19, x20, x21, x22, x23, x24, x25, x26, x27, x28, x29, x30, x31, x32, x33, x34, x35, x36, x37, x38, x39, x40, x41, x42, x43, x44, x45, x46, x47, x48, x49, x50, x51, x52, x53, x54, x55, x56, x57, x58, x59, x60, x61, hd', rfl⟩
  rw [← hwh]
  clear hd hwh
  cases er' with
  | code n =>
    cases hd' with
    | iface hd2 =>
    cases hd2
    have f1 := as_typeOfc
    have f2 := as_asscw
    have f3 := as_noASc
    have f4 := as_noUWc
    have f5 := as_noULc
    go_wp2
    go_ret
    exact (⟨rfl, hw1.symm⟩ : AsWhere F w a0 ta none _ _)
  | loc n e =>
    cases hd' with
    | iface hd2 =>
    rename_i u
    obtain ⟨p, rfl⟩ : ∃ p, u = .pointer (some p) := by cases hd2; exact ⟨_, rfl⟩
    have f1 := as_typeOfw
    have f2 := as_assww
    have f3 := as_unpackw
    have st := as_setw ta ⟨w.heap.size + 1, 0, none⟩ p old (w'.alloc (.cells #[.pointer (some p)] 139)) (by rw [← gs]; simp) (by rw [World.cell?_alloc_lt _ _ ta (by omega)]; exact gt) (by rw [World.frozen?_alloc_old _ _ ta (by omega)]; exact gf)
    go_wp2
    go_ret
    exact (⟨rfl, p, hd2, by rw [hw1]⟩ : AsWhere F w a0 ta (some (n, e)) _ _)
  | fld n e =>
    cases hd' with
    | iface hd2 =>
    rename_i u
    cases hd2 with
    | box hds hat =>
    rename_i vs b off
    obtain ⟨v1, v2, rfl, hv1, hv2⟩ : ∃ v1 v2, vs = [v1, v2] ∧ DR F (.int .i64 n) v1 ∧ DR F e.d v2 := by
      cases hds with
      | cons h1 h2 => cases h2 with | cons h3 h4 => cases h4; exact ⟨_, _, rfl, h1, h3⟩
    have hc := hF1 _ _ _ (hat 1 v2 rfl)
    have f1 := as_typeOff
    have f2 := as_assfw
    have f3 := as_noASf
    have f4 := as_hasUWf
    have f5 := as_mUf
    obtain ⟨T2, u2, rfl⟩ : ∃ T2 u2, v2 = .iface T2 u2 := by cases e <;> cases hv2 <;> exact ⟨_, _, rfl⟩
    go_wp2_with (go_at_call 208; refine (unw_fld b off _ _ hc).mono ?_; rintro e1 w2 ⟨rfl, rfl⟩)
    exact ⟨e, Nat.lt_succ_self _, trivial, rfl, _, _, _, _, _, _, _, _, _, _, _, _, _, _, _, _, _, _, _, _, _, _, _, _, _, _, _, _, _, _, _, _, _, _, _, _, _, _, _, _, _, _, _, _, _, _, _, _, _, _, _, _, _, _, _, _, _, _, _, hv2, rfl⟩
end Go.Proofs.YtaenjdichndafaaGreatDoor
