/- errors.As at the program's errors: what it answers, and what it leaves in memory. -/
import Derived.Test.YtaenjdichndafaaGreatDoorXG0
import Derived.Test.YtaenjdichndafaaGreatDoorProg
import Derived.WalkKit
import Derived.LaidEql
import Derived.Stop.Asserts
import Derived.RowKitTokens
set_option linter.unusedSimpArgs false
set_option linter.unusedVariables false
set_option maxRecDepth 100000
namespace Go.Proofs.YtaenjdichndafaaGreatDoor
open Go Go.Abs Go.RowKit Go.Extern.Stop Go.Stop Go.Extern
abbrev hnd (t : Nat) : Value := .pointer (some ⟨2, t, none⟩)
abbrev rty (t : Nat) : Value := .iface 189 (.agg #[hnd t])
abbrev rval (t : Nat) (a : Addr) (fl : Int) : Value := .agg #[hnd t, .pointer (some a), .int .u64 fl]
/-! The steps of reflectlite, at this program's types. -/
theorem as_unpackW (t : Addr) (w : World) : (ReflectliteValue.unpack (.iface 140 (.pointer (some t)))).run Tryz.prog w = .ok (rval 140 ⟨w.heap.size, 0, none⟩ 150) (w.alloc (.cells #[.pointer (some t)] 140)) := by kernel_rfl
theorem as_unpackC (t : Addr) (w : World) : (ReflectliteValue.unpack (.iface 93 (.pointer (some t)))).run Tryz.prog w = .ok (rval 93 ⟨w.heap.size, 0, none⟩ 150) (w.alloc (.cells #[.pointer (some t)] 93)) := by kernel_rfl
theorem as_unpackw (t : Addr) (w : World) : (ReflectliteValue.unpack (.iface 139 (.pointer (some t)))).run Tryz.prog w = .ok (rval 139 ⟨w.heap.size, 0, none⟩ 150) (w.alloc (.cells #[.pointer (some t)] 139)) := by kernel_rfl
theorem as_unpackc (n : Int) (w : World) : (ReflectliteValue.unpack (.iface 38 (.int .i64 n))).run Tryz.prog w = .ok (rval 38 ⟨w.heap.size, 0, none⟩ 130) (w.alloc (.cells #[.int .i64 n] 38)) := by kernel_rfl
theorem as_typeW (a : Addr) (w : World) : (ReflectliteValue.methodAny (ReflectliteValue.valueError "reflectlite.Value.Type" 0) (fun t _ _ _ => ReflectliteType.toType t) #[rval 140 a 150]).run Tryz.prog w = .ok (rty 140) w := by kernel_rfl
theorem as_typeC (a : Addr) (w : World) : (ReflectliteValue.methodAny (ReflectliteValue.valueError "reflectlite.Value.Type" 0) (fun t _ _ _ => ReflectliteType.toType t) #[rval 93 a 150]).run Tryz.prog w = .ok (rty 93) w := by kernel_rfl
theorem as_mKind (h : Value) (w : World) : (Go.method 367 189 (.agg #[h]) "Kind").run Tryz.prog w = .ok (186, h) w := by kernel_rfl
theorem as_mElem (h : Value) (w : World) : (Go.method 367 189 (.agg #[h]) "Elem").run Tryz.prog w = .ok (199, .agg #[h]) w := by kernel_rfl
theorem as_mImpl (h : Value) (w : World) : (Go.method 367 189 (.agg #[h]) "Implements").run Tryz.prog w = .ok (200, .agg #[h]) w := by kernel_rfl
theorem as_mAssign (h : Value) (w : World) : (Go.method 367 189 (.agg #[h]) "AssignableTo").run Tryz.prog w = .ok (197, .agg #[h]) w := by kernel_rfl
theorem as_kindW (w : World) : ((ReflectliteType.abiMethod fun t => (fun a : Nat => Value.int IntKind.u8 (a : Int)) <$> Rtype.kind t) #[hnd 140]).run Tryz.prog w = .ok (.int .u8 22) w := by kernel_rfl
theorem as_kindC (w : World) : ((ReflectliteType.abiMethod fun t => (fun a : Nat => Value.int IntKind.u8 (a : Int)) <$> Rtype.kind t) #[hnd 93]).run Tryz.prog w = .ok (.int .u8 22) w := by kernel_rfl
theorem as_kindw (w : World) : ((ReflectliteType.abiMethod fun t => (fun a : Nat => Value.int IntKind.u8 (a : Int)) <$> Rtype.kind t) #[hnd 139]).run Tryz.prog w = .ok (.int .u8 22) w := by kernel_rfl
theorem as_kindc (w : World) : ((ReflectliteType.abiMethod fun t => (fun a : Nat => Value.int IntKind.u8 (a : Int)) <$> Rtype.kind t) #[hnd 38]).run Tryz.prog w = .ok (.int .u8 2) w := by kernel_rfl
theorem as_elemW (w : World) : (ReflectliteType.method ReflectliteType.elem #[.agg #[hnd 140]]).run Tryz.prog w = .ok (rty 139) w := by kernel_rfl
theorem as_elemC (w : World) : (ReflectliteType.method ReflectliteType.elem #[.agg #[hnd 93]]).run Tryz.prog w = .ok (rty 38) w := by kernel_rfl
theorem as_implw (w : World) : (ReflectliteType.relation "Implements" ReflectliteType.implements_ #[.agg #[hnd 139], rty 28]).run Tryz.prog w = .ok (.bool true) w := by kernel_rfl
theorem as_implc (w : World) : (ReflectliteType.relation "Implements" ReflectliteType.implements_ #[.agg #[hnd 38], rty 28]).run Tryz.prog w = .ok (.bool true) w := by kernel_rfl
theorem as_typeOfw (v : Value) (w : World) : (ReflectliteType.typeOf #[.iface 139 v]).run Tryz.prog w = .ok (rty 139) w := by kernel_rfl
theorem as_typeOff (v : Value) (w : World) : (ReflectliteType.typeOf #[.iface 206 v]).run Tryz.prog w = .ok (rty 206) w := by kernel_rfl
theorem as_typeOfc (v : Value) (w : World) : (ReflectliteType.typeOf #[.iface 38 v]).run Tryz.prog w = .ok (rty 38) w := by kernel_rfl
theorem as_assww (w : World) : (ReflectliteType.relation "AssignableTo" ReflectliteType.assignableTo #[.agg #[hnd 139], rty 139]).run Tryz.prog w = .ok (.bool true) w := by kernel_rfl
theorem as_assfw (w : World) : (ReflectliteType.relation "AssignableTo" ReflectliteType.assignableTo #[.agg #[hnd 206], rty 139]).run Tryz.prog w = .ok (.bool false) w := by kernel_rfl
theorem as_asscw (w : World) : (ReflectliteType.relation "AssignableTo" ReflectliteType.assignableTo #[.agg #[hnd 38], rty 139]).run Tryz.prog w = .ok (.bool false) w := by kernel_rfl
theorem as_asswc (w : World) : (ReflectliteType.relation "AssignableTo" ReflectliteType.assignableTo #[.agg #[hnd 139], rty 38]).run Tryz.prog w = .ok (.bool false) w := by kernel_rfl
theorem as_assfc (w : World) : (ReflectliteType.relation "AssignableTo" ReflectliteType.assignableTo #[.agg #[hnd 206], rty 38]).run Tryz.prog w = .ok (.bool false) w := by kernel_rfl
theorem as_asscc (w : World) : (ReflectliteType.relation "AssignableTo" ReflectliteType.assignableTo #[.agg #[hnd 38], rty 38]).run Tryz.prog w = .ok (.bool true) w := by kernel_rfl
theorem as_elemOfW (w : World) : (Rtype.elem? 140).run Tryz.prog w = .ok (some 139) w := by kernel_rfl
theorem as_elemOfC (w : World) : (Rtype.elem? 93).run Tryz.prog w = .ok (some 38) w := by kernel_rfl
theorem as_mkw (p : Addr) (w : World) : (ReflectliteValue.mk 139 p ReflectliteValue.flagAddr).run Tryz.prog w = .ok (rval 139 p 406) w := by kernel_rfl
theorem as_mkc (p : Addr) (w : World) : (ReflectliteValue.mk 38 p ReflectliteValue.flagAddr).run Tryz.prog w = .ok (rval 38 p 386) w := by kernel_rfl
theorem as_dirw (w : World) : (Rtype.directlyAssignable 139 139).run Tryz.prog w = .ok true w := by kernel_rfl
theorem as_dirc (w : World) : (Rtype.directlyAssignable 38 38).run Tryz.prog w = .ok true w := by kernel_rfl
theorem as_sizew (w : World) : (sizeOf 139).run Tryz.prog w = .ok 1 w := by kernel_rfl
theorem as_sizec (w : World) : (sizeOf 38).run Tryz.prog w = .ok 1 w := by kernel_rfl
theorem as_partsW (a : Addr) (w : World) : (ReflectliteValue.parts (rval 140 a 150)).run Tryz.prog w = .ok (some (140, a, 150)) w := by kernel_rfl
theorem as_partsC (a : Addr) (w : World) : (ReflectliteValue.parts (rval 93 a 150)).run Tryz.prog w = .ok (some (93, a, 150)) w := by kernel_rfl
theorem as_partsw (a : Addr) (w : World) : (ReflectliteValue.parts (rval 139 a 150)).run Tryz.prog w = .ok (some (139, a, 150)) w := by kernel_rfl
theorem as_partswa (a : Addr) (w : World) : (ReflectliteValue.parts (rval 139 a 406)).run Tryz.prog w = .ok (some (139, a, 406)) w := by kernel_rfl
theorem as_partsc (a : Addr) (w : World) : (ReflectliteValue.parts (rval 38 a 130)).run Tryz.prog w = .ok (some (38, a, 130)) w := by kernel_rfl
theorem as_partsca (a : Addr) (w : World) : (ReflectliteValue.parts (rval 38 a 386)).run Tryz.prog w = .ok (some (38, a, 386)) w := by kernel_rfl
theorem as_undW : Tryz.prog.underlying 140 = some (.pointer 139) := by kernel_rfl
theorem as_undC : Tryz.prog.underlying 93 = some (.pointer 38) := by kernel_rfl
theorem as_undw : Tryz.prog.underlying 139 = some (.pointer 142) := by kernel_rfl
theorem as_undc : Tryz.prog.underlying 38 = some (.int .i64) := by kernel_rfl
theorem rlm (z : Sem Value) (f : TypeId → Addr → Nat → Nat → Sem Value) (v : Value) :
    ReflectliteValue.method z f #[v] = (do match ← ReflectliteValue.parts v with | none => z | some (t, a, fl) => f t a fl (fl % 32)) := rfl
theorem as_nilW (a p : Addr) (W : World) (ha : W.cell? a = some (.pointer (some p))) :
    (ReflectliteValue.method (ReflectliteValue.valueError "reflectlite.Value.IsNil" 0) ReflectliteValue.isNil #[rval 140 a 150]).run Tryz.prog W = .ok (.bool false) W := by
  rw [rlm]
  simp only [Sem.run_bind, as_partsW, Result.andThen]
  simp [ReflectliteValue.isNil, loadVar, isAgg, underlying, as_undW, ha, Result.andThen]
theorem as_nilC (a p : Addr) (W : World) (ha : W.cell? a = some (.pointer (some p))) :
    (ReflectliteValue.method (ReflectliteValue.valueError "reflectlite.Value.IsNil" 0) ReflectliteValue.isNil #[rval 93 a 150]).run Tryz.prog W = .ok (.bool false) W := by
  rw [rlm]
  simp only [Sem.run_bind, as_partsC, Result.andThen]
  simp [ReflectliteValue.isNil, loadVar, isAgg, underlying, as_undC, ha, Result.andThen]
theorem as_elemVW (a p : Addr) (W : World) (ha : W.cell? a = some (.pointer (some p))) :
    (ReflectliteValue.method (ReflectliteValue.valueError "reflectlite.Value.Elem" 0) ReflectliteValue.elem #[rval 140 a 150]).run Tryz.prog W = .ok (rval 139 p 406) W := by
  rw [rlm]
  simp only [Sem.run_bind, as_partsW, Result.andThen]
  simp [ReflectliteValue.elem, loadVar, isAgg, underlying, as_undW, ha, Result.andThen, as_elemOfW, as_mkw]
theorem as_elemVC (a p : Addr) (W : World) (ha : W.cell? a = some (.pointer (some p))) :
    (ReflectliteValue.method (ReflectliteValue.valueError "reflectlite.Value.Elem" 0) ReflectliteValue.elem #[rval 93 a 150]).run Tryz.prog W = .ok (rval 38 p 386) W := by
  rw [rlm]
  simp only [Sem.run_bind, as_partsC, Result.andThen]
  simp [ReflectliteValue.elem, loadVar, isAgg, underlying, as_undC, ha, Result.andThen, as_elemOfC, as_mkc]
theorem rls (v x : Value) : ReflectliteValue.set #[v, x] = (do
    let (some (dst, a, fl), some (src, b, _)) := (← ReflectliteValue.parts v, ← ReflectliteValue.parts x)
      | unsupported (.noEntry "extern/(internal/reflectlite.Value).Set.zeroValue")
    if fl / ReflectliteValue.flagAddr % 2 == 0 then unsupported (.noEntry "extern/(internal/reflectlite.Value).Set.unaddressable")
    let val ← loadVar src b
    if ← Rtype.directlyAssignable dst src then storeVar dst a val
    else if ← Rtype.implements dst src then
      if (← Rtype.kind src) == 20 then
        match val with
        | .nilIface => unsupported (.noEntry "extern/reflectlite: a nil value of one interface type handed on as a value of another")
        | _ => storeVar dst a val
      else storeVar dst a (.iface src val)
    else panicString ("reflectlite.Set: value of type " ++ (← Rtype.spelt src) ++ " is not assignable to type " ++ (← Rtype.spelt dst))
    pure (.tuple #[])) := rfl
theorem as_setw (ta b e : Addr) (old : Value) (W : World) (hb : W.cell? b = some (.pointer (some e))) (ht : W.cell? ta = some old) (hf : W.frozen? ta = false) :
    (ReflectliteValue.set #[rval 139 ta 406, rval 139 b 150]).run Tryz.prog W = .ok (.tuple #[]) (W.setCell ta (.pointer (some e))) := by
  rw [rls]
  simp only [Sem.run_bind, as_partswa, as_partsw, Result.andThen]
  simp [ReflectliteValue.flagAddr, loadVar, isAgg, underlying, as_undw, hb, Result.andThen, as_dirw, storeVar, Value.cells, storeCells, Addr.add]
  rw [run_store Tryz.prog W ta _ _ (by rfl)]
  simp [ht, hf]
theorem as_setc (ta b : Addr) (n : Int) (old : Value) (W : World) (hb : W.cell? b = some (.int .i64 n)) (ht : W.cell? ta = some old) (hf : W.frozen? ta = false) :
    (ReflectliteValue.set #[rval 38 ta 386, rval 38 b 130]).run Tryz.prog W = .ok (.tuple #[]) (W.setCell ta (.int .i64 n)) := by
  rw [rls]
  simp only [Sem.run_bind, as_partsca, as_partsc, Result.andThen]
  simp [ReflectliteValue.flagAddr, loadVar, isAgg, underlying, as_undc, hb, Result.andThen, as_dirc, storeVar, Value.cells, storeCells, Addr.add]
  rw [run_store Tryz.prog W ta _ _ (by rfl)]
  simp [ht, hf]
theorem as_noASw (v : Value) (w : World) : (Instr.typeAssert (.iface 139 v) 28 194 true).run Tryz.prog w = .ok (.tuple #[.nilIface, .bool false]) w := run_typeAssert_lacksB Tryz.underlying194 (by kernel_rfl) (by kernel_rfl) v 28 w
theorem as_noASf (v : Value) (w : World) : (Instr.typeAssert (.iface 206 v) 28 194 true).run Tryz.prog w = .ok (.tuple #[.nilIface, .bool false]) w := run_typeAssert_lacksB Tryz.underlying194 (by kernel_rfl) (by kernel_rfl) v 28 w
theorem as_noASc (v : Value) (w : World) : (Instr.typeAssert (.iface 38 v) 28 194 true).run Tryz.prog w = .ok (.tuple #[.nilIface, .bool false]) w := run_typeAssert_lacksB Tryz.underlying194 (by kernel_rfl) (by kernel_rfl) v 28 w
theorem as_hasUWw (v : Value) (w : World) : (Instr.typeAssert (.iface 139 v) 28 197 true).run Tryz.prog w = .ok (.tuple #[.iface 139 v, .bool true]) w := run_typeAssert_hasB Tryz.underlying197 (by kernel_rfl) v 28 w
theorem as_hasUWf (v : Value) (w : World) : (Instr.typeAssert (.iface 206 v) 28 197 true).run Tryz.prog w = .ok (.tuple #[.iface 206 v, .bool true]) w := run_typeAssert_hasB Tryz.underlying197 (by kernel_rfl) v 28 w
theorem as_noUWc (v : Value) (w : World) : (Instr.typeAssert (.iface 38 v) 28 197 true).run Tryz.prog w = .ok (.tuple #[.nilIface, .bool false]) w := run_typeAssert_lacksB Tryz.underlying197 (by kernel_rfl) (by kernel_rfl) v 28 w
theorem as_noULc (v : Value) (w : World) : (Instr.typeAssert (.iface 38 v) 28 199 true).run Tryz.prog w = .ok (.tuple #[.nilIface, .bool false]) w := run_typeAssert_lacksB Tryz.underlying199 (by kernel_rfl) (by kernel_rfl) v 28 w
theorem loop_meas {P : Program} {c : Code} {Q : Exit → Act → World → Prop} {β : Type} (μ : β → Nat) (I : β → Act → World → Prop) (x : β) {a : Act} {w : World} (h : I x a w)
    (round : ∀ x a w, I x a w → c.wp P (Exit.then (fun a' w' => ∃ y, μ y < μ x ∧ I y a' w') Q) a w) : (Code.loop c).wp P Q a w := by
  have key : ∀ n x a w, μ x < n → I x a w → Code.rounds P c Q n a w := by
    intro n
    induction n with
    | zero => intro x a w hm; omega
    | succ n ih =>
      intro x a w hm hI
      rw [rounds_succ]
      refine Code.wp_mono (fun e a' w' hq => ?_) (round x a w hI)
      cases e with
      | normal => obtain ⟨y, g1, g2⟩ := hq; exact ih y a' w' (by omega) g2
      | _ => exact hq
  exact wp_loop_rounds (μ x + 1) (key (μ x + 1) x a w (by omega) h)
end Go.Proofs.YtaenjdichndafaaGreatDoor
