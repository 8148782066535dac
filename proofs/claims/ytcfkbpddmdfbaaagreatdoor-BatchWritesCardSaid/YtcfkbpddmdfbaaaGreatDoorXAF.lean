/- errors.As at the program's errors: what it answers, and what it leaves in memory. And more. -/
import Derived.Test.YtcfkbpddmdfbaaaGreatDoorXG0
import Derived.WalkKit
import Derived.LaidEql
import Derived.Stop.Asserts
import Derived.RowKitTokens
set_option linter.unusedSimpArgs false
set_option linter.unusedVariables false
set_option maxRecDepth 100000
/-! errors.As at the program's errors: what it answers, and what it leaves in memory. -/
namespace Go.Proofs.YtcfkbpddmdfbaaaGreatDoor
open Go Go.Abs Go.RowKit Go.Extern.Stop Go.Stop Go.Extern
abbrev hnd (t : Nat) : Value := .pointer (some ⟨2, t, none⟩)
abbrev rty (t : Nat) : Value := .iface 206 (.agg #[hnd t])
abbrev rval (t : Nat) (a : Addr) (fl : Int) : Value := .agg #[hnd t, .pointer (some a), .int .u64 fl]
/-! The steps of reflectlite, at this program's types. -/
theorem as_unpackC (t : Addr) (w : World) : (ReflectliteValue.unpack (.iface 80 (.pointer (some t)))).run Tryz.prog w = .ok (rval 80 ⟨w.heap.size, 0, none⟩ 150) (w.alloc (.cells #[.pointer (some t)] 80)) := by kernel_rfl
theorem as_unpackc (n : Int) (w : World) : (ReflectliteValue.unpack (.iface 33 (.int .i64 n))).run Tryz.prog w = .ok (rval 33 ⟨w.heap.size, 0, none⟩ 130) (w.alloc (.cells #[.int .i64 n] 33)) := by kernel_rfl
theorem as_typeC (a : Addr) (w : World) : (ReflectliteValue.methodAny (ReflectliteValue.valueError "reflectlite.Value.Type" 0) (fun t _ _ _ => ReflectliteType.toType t) #[rval 80 a 150]).run Tryz.prog w = .ok (rty 80) w := by kernel_rfl
theorem as_mKind (h : Value) (w : World) : (Go.method 628 206 (.agg #[h]) "Kind").run Tryz.prog w = .ok (463, h) w := by kernel_rfl
theorem as_mElem (h : Value) (w : World) : (Go.method 628 206 (.agg #[h]) "Elem").run Tryz.prog w = .ok (476, .agg #[h]) w := by kernel_rfl
theorem as_mImpl (h : Value) (w : World) : (Go.method 628 206 (.agg #[h]) "Implements").run Tryz.prog w = .ok (477, .agg #[h]) w := by kernel_rfl
theorem as_mAssign (h : Value) (w : World) : (Go.method 628 206 (.agg #[h]) "AssignableTo").run Tryz.prog w = .ok (474, .agg #[h]) w := by kernel_rfl
theorem as_kindC (w : World) : ((ReflectliteType.abiMethod fun t => (fun a : Nat => Value.int IntKind.u8 (a : Int)) <$> Rtype.kind t) #[hnd 80]).run Tryz.prog w = .ok (.int .u8 22) w := by kernel_rfl
theorem as_kindc (w : World) : ((ReflectliteType.abiMethod fun t => (fun a : Nat => Value.int IntKind.u8 (a : Int)) <$> Rtype.kind t) #[hnd 33]).run Tryz.prog w = .ok (.int .u8 2) w := by kernel_rfl
theorem as_elemC (w : World) : (ReflectliteType.method ReflectliteType.elem #[.agg #[hnd 80]]).run Tryz.prog w = .ok (rty 33) w := by kernel_rfl
theorem as_implc (w : World) : (ReflectliteType.relation "Implements" ReflectliteType.implements_ #[.agg #[hnd 33], rty 30]).run Tryz.prog w = .ok (.bool true) w := by kernel_rfl
theorem as_typeOfw (v : Value) (w : World) : (ReflectliteType.typeOf #[.iface 159 v]).run Tryz.prog w = .ok (rty 159) w := by kernel_rfl
theorem as_typeOff (v : Value) (w : World) : (ReflectliteType.typeOf #[.iface 289 v]).run Tryz.prog w = .ok (rty 289) w := by kernel_rfl
theorem as_typeOfc (v : Value) (w : World) : (ReflectliteType.typeOf #[.iface 33 v]).run Tryz.prog w = .ok (rty 33) w := by kernel_rfl
theorem as_asswc (w : World) : (ReflectliteType.relation "AssignableTo" ReflectliteType.assignableTo #[.agg #[hnd 159], rty 33]).run Tryz.prog w = .ok (.bool false) w := by kernel_rfl
theorem as_assfc (w : World) : (ReflectliteType.relation "AssignableTo" ReflectliteType.assignableTo #[.agg #[hnd 289], rty 33]).run Tryz.prog w = .ok (.bool false) w := by kernel_rfl
theorem as_asscc (w : World) : (ReflectliteType.relation "AssignableTo" ReflectliteType.assignableTo #[.agg #[hnd 33], rty 33]).run Tryz.prog w = .ok (.bool true) w := by kernel_rfl
theorem as_elemOfC (w : World) : (Rtype.elem? 80).run Tryz.prog w = .ok (some 33) w := by kernel_rfl
theorem as_mkc (p : Addr) (w : World) : (ReflectliteValue.mk 33 p ReflectliteValue.flagAddr).run Tryz.prog w = .ok (rval 33 p 386) w := by kernel_rfl
theorem as_dirc (w : World) : (Rtype.directlyAssignable 33 33).run Tryz.prog w = .ok true w := by kernel_rfl
theorem as_partsC (a : Addr) (w : World) : (ReflectliteValue.parts (rval 80 a 150)).run Tryz.prog w = .ok (some (80, a, 150)) w := by kernel_rfl
theorem as_partsc (a : Addr) (w : World) : (ReflectliteValue.parts (rval 33 a 130)).run Tryz.prog w = .ok (some (33, a, 130)) w := by kernel_rfl
theorem as_partsca (a : Addr) (w : World) : (ReflectliteValue.parts (rval 33 a 386)).run Tryz.prog w = .ok (some (33, a, 386)) w := by kernel_rfl
theorem as_undC : Tryz.prog.underlying 80 = some (.pointer 33) := by kernel_rfl
theorem as_undc : Tryz.prog.underlying 33 = some (.int .i64) := by kernel_rfl
theorem rlm (z : Sem Value) (f : TypeId → Addr → Nat → Nat → Sem Value) (v : Value) :
  ReflectliteValue.method z f #[v] = (do match ← ReflectliteValue.parts v with | none => z | some (t, a, fl) => f t a fl (fl % 32)) := rfl
theorem as_nilC (a p : Addr) (W : World) (ha : W.cell? a = some (.pointer (some p))) :
  (ReflectliteValue.method (ReflectliteValue.valueError "reflectlite.Value.IsNil" 0) ReflectliteValue.isNil #[rval 80 a 150]).run Tryz.prog W = .ok (.bool false) W := by
 rw [rlm]
 simp only [Sem.run_bind, as_partsC, Result.andThen]
 simp [ReflectliteValue.isNil, loadVar, isAgg, underlying, as_undC, ha, Result.andThen]
theorem as_elemVC (a p : Addr) (W : World) (ha : W.cell? a = some (.pointer (some p))) :
  (ReflectliteValue.method (ReflectliteValue.valueError "reflectlite.Value.Elem" 0) ReflectliteValue.elem #[rval 80 a 150]).run Tryz.prog W = .ok (rval 33 p 386) W := by
 rw [rlm]
 simp only [Sem.run_bind, as_partsC, Result.andThen]
 simp [ReflectliteValue.elem, loadVar, isAgg, underlying, as_undC, ha, Result.andThen, as_elemOfC, as_mkc]
theorem rls (v x : Value) : ReflectliteValue.set #[v, x] = (do
  let (some (dst, a, fl), some (src, b, _)) := (← ReflectliteValue.parts v, ← ReflectliteValue.parts x)
   | unsupported (.noEntry "extern/(internal/reflectlite.Value).Set.zeroValue")
  if fl / ReflectliteValue.flagAddr % 2 == 0 then unsupported (.noEntry "extern/(internal/reflectlite.Value).Set.unaddressable")
  let val ← loadVar src b
  if ← Rtype.directlyAssignable dst src then storeVar dst a val
  else if ← Rtype.implements dst src then
   if (← Rtype.kind src) == 20 then
    match val with
    | .nilIface => unsupported (.noEntry "extern/reflectlite: a nil value of one interface type handed on as a value of another")
    | _ => storeVar dst a val
   else storeVar dst a (.iface src val)
  else panicString ("reflectlite.Set: value of type " ++ (← Rtype.spelt src) ++ " is not assignable to type " ++ (← Rtype.spelt dst))
  pure (.tuple #[])) := rfl
theorem as_setc (ta b : Addr) (n : Int) (old : Value) (W : World) (hb : W.cell? b = some (.int .i64 n)) (ht : W.cell? ta = some old) (hf : W.frozen? ta = false) :
  (ReflectliteValue.set #[rval 33 ta 386, rval 33 b 130]).run Tryz.prog W = .ok (.tuple #[]) (W.setCell ta (.int .i64 n)) := by
 rw [rls]
 simp only [Sem.run_bind, as_partsca, as_partsc, Result.andThen]
 simp [ReflectliteValue.flagAddr, loadVar, isAgg, underlying, as_undc, hb, Result.andThen, as_dirc, storeVar, Value.cells, storeCells, Addr.add]
 rw [run_store Tryz.prog W ta _ _ (by rfl)]
 simp [ht, hf]
theorem as_noASw (v : Value) (w : World) : (Instr.typeAssert (.iface 159 v) 30 211 true).run Tryz.prog w = .ok (.tuple #[.nilIface, .bool false]) w := run_typeAssert_lacksB Tryz.underlying211 (by kernel_rfl) (by kernel_rfl) v 30 w
theorem as_noASf (v : Value) (w : World) : (Instr.typeAssert (.iface 289 v) 30 211 true).run Tryz.prog w = .ok (.tuple #[.nilIface, .bool false]) w := run_typeAssert_lacksB Tryz.underlying211 (by kernel_rfl) (by kernel_rfl) v 30 w
theorem as_hasUWw (v : Value) (w : World) : (Instr.typeAssert (.iface 159 v) 30 214 true).run Tryz.prog w = .ok (.tuple #[.iface 159 v, .bool true]) w := run_typeAssert_hasB Tryz.underlying214 (by kernel_rfl) v 30 w
theorem as_hasUWf (v : Value) (w : World) : (Instr.typeAssert (.iface 289 v) 30 214 true).run Tryz.prog w = .ok (.tuple #[.iface 289 v, .bool true]) w := run_typeAssert_hasB Tryz.underlying214 (by kernel_rfl) v 30 w
theorem loop_meas {P : Program} {c : Code} {Q : Exit → Act → World → Prop} {β : Type} (μ : β → Nat) (I : β → Act → World → Prop) (x : β) {a : Act} {w : World} (h : I x a w)
  (round : ∀ x a w, I x a w → c.wp P (Exit.then (fun a' w' => ∃ y, μ y < μ x ∧ I y a' w') Q) a w) : (Code.loop c).wp P Q a w := by
 have key : ∀ n x a w, μ x < n → I x a w → Code.rounds P c Q n a w := by
  intro n
  induction n with
  | zero => intro x a w hm; omega
  | succ n ih =>
   intro x a w hm hI
   rw [rounds_succ]
   refine Code.wp_mono (fun e a' w' hq => ?_) (round x a w hI)
   cases e with
   | normal => obtain ⟨y, g1, g2⟩ := hq; exact ih y a' w' (by omega) g2
   | _ => exact hq
 exact wp_loop_rounds (μ x + 1) (key (μ x + 1) x a w (by omega) h)
end Go.Proofs.YtcfkbpddmdfbaaaGreatDoor
/-! errors.As: the Y. -/
namespace Go.Proofs.YtcfkbpddmdfbaaaGreatDoor
open Go Go.Abs Go.RowKit Go.Extern.Stop Go.Stop Go.Extern
def whereOf : Er → Option (Int × Er)
 | .code _ => none
 | .loc n e => some (n, e)
 | .fld _ e => whereOf e
def codeOf : Er → Int
 | .code n => n
 | .loc _ e => codeOf e
 | .fld _ e => codeOf e
def Er.size : Er → Nat
 | .code _ => 0
 | .loc _ e => e.size + 1
 | .fld _ e => e.size + 1
def Fix (F : Fr) (w : World) : Prop := ∀ b off v, F b off = some v → w.cell? ⟨b, off, none⟩ = some v
theorem unw_loc (b off : Nat) (v : Value) (w : World) (h : w.cell? ⟨b, off + 1, none⟩ = some v) : Calls Tryz.prog 472 #[.pointer (some ⟨b, off, none⟩)] w fun e w' => e = .returned v ∧ w' = w := by
 go_enter Tryz.func472, Tryz.ntmps472
 go_wp2
 go_ret
 exact ⟨rfl, rfl⟩
theorem unw_fld (b off : Nat) (v : Value) (w : World) (h : w.cell? ⟨b, off + 1, none⟩ = some v) : Calls Tryz.prog 485 #[.pointer (some ⟨b, off, none⟩)] w fun e w' => e = .returned v ∧ w' = w := by
 go_enter Tryz.func485, Tryz.ntmps485
 go_wp2
 go_ret
 exact ⟨rfl, rfl⟩
theorem as_mUw (v : Value) (w : World) : (Go.method 628 159 v "Unwrap").run Tryz.prog w = .ok (472, v) w := by kernel_rfl
theorem as_mUf (v : Value) (w : World) : (Go.method 628 289 v "Unwrap").run Tryz.prog w = .ok (485, v) w := by kernel_rfl
end Go.Proofs.YtcfkbpddmdfbaaaGreatDoor
/-! errors.As at a code: the Y. -/
namespace Go.Proofs.YtcfkbpddmdfbaaaGreatDoor
open Go Go.Abs Go.RowKit Go.Extern.Stop Go.Stop Go.Extern
def AsCode (w : World) (a0 ta : Addr) (n : Int) (e : Ending) (w' : World) : Prop :=
 e = .returned (.bool true) ∧ w' = ((w.alloc (.cells #[hnd 80, .pointer (some a0), .int .u64 150] 138)).alloc (.cells #[.int .i64 n] 33)).setCell ta (.int .i64 n)
set_option maxHeartbeats 4000000 in
theorem as_code (er : Er) (v0 : Value) (F : Fr) (w : World) (hF : Fix F w) (hd : DR F er.d v0) (tg : Value) (a0 ta : Addr) (old : Value) (h0 : w.cell? a0 = some (.pointer (some ta))) (h0l : a0.block < w.heap.size) (ht : w.cell? ta = some old) (htl : ta.block < w.heap.size) (hf : w.frozen? ta = false) :
  Calls Tryz.prog 90 #[v0, tg, rval 80 a0 150, rty 33] w (AsCode w a0 ta (codeOf er)) := by
 have lt : ∀ {b off v}, F b off = some v → b < w.heap.size := fun {b off v} h => k'1c (hF b off v h)
 generalize hw1 : w.alloc (.cells #[hnd 80, .pointer (some a0), .int .u64 150] 138) = w1
 have hF1 : Fix F w1 := fun b off v h => by rw [← hw1, World.cell?_alloc_lt _ _ ⟨b, off, none⟩ (lt h)]; exact hF b off v h
 have g0 : w1.cell? a0 = some (.pointer (some ta)) := by rw [← hw1, World.cell?_alloc_lt _ _ a0 h0l]; exact h0
 have gt : w1.cell? ta = some old := by rw [← hw1, World.cell?_alloc_lt _ _ ta htl]; exact ht
 have gf : w1.frozen? ta = false := by rw [← hw1, World.frozen?_alloc_old _ _ ta (Nat.ne_of_lt htl)]; exact hf
 have gs : w1.heap.size = w.heap.size + 1 := by rw [← hw1]; simp
 have n6 : w1.cell? ⟨w.heap.size, 0, none⟩ = some (hnd 80) := by rw [← hw1]; simp
 have n7 : w1.cell? ⟨w.heap.size, 1, none⟩ = some (.pointer (some a0)) := by rw [← hw1]; simp
 have n8 : w1.cell? ⟨w.heap.size, 2, none⟩ = some (.int .u64 150) := by rw [← hw1]; simp
 have xVO := @run_callFunc_extern Tryz.prog 87 _ (fun args => ReflectliteValue.unpack (args.getD 0 (.tuple #[]))) Tryz.func87 (by kernel_rfl) (by kernel_rfl) (by kernel_rfl) (by kernel_rfl)
 have xTO := @run_callFunc_extern Tryz.prog 134 _ ReflectliteType.typeOf Tryz.func134 (by kernel_rfl) (by kernel_rfl) (by kernel_rfl) (by kernel_rfl)
 have xAT := @run_callFunc_extern Tryz.prog 474 _ (ReflectliteType.relation "AssignableTo" ReflectliteType.assignableTo) Tryz.func474 (by kernel_rfl) (by kernel_rfl) (by kernel_rfl) (by kernel_rfl)
 have xEl := @run_callFunc_extern Tryz.prog 135 _ (ReflectliteValue.method (ReflectliteValue.valueError "reflectlite.Value.Elem" 0) ReflectliteValue.elem) Tryz.func135 (by kernel_rfl) (by kernel_rfl) (by kernel_rfl) (by kernel_rfl)
 have xSet := @run_callFunc_extern Tryz.prog 136 _ ReflectliteValue.set Tryz.func136 (by kernel_rfl) (by kernel_rfl) (by kernel_rfl) (by kernel_rfl)
 have mA := as_mAssign
 have el := as_elemVC a0 ta w1 g0
 go_enter Tryz.func90, Tryz.ntmps90
 go_wp2
 refine loop_meas Er.size (fun er' a w' => w' = w1 ∧ codeOf er' = codeOf er ∧ ∃ v x2 x4 x5 x7 x8 x9 x10 x11 x12 x13 x14 x15 x16 x17 x18 x19 x20 x21 x22 x23 x24 x25 x26 x27 x28 x29 x30 x31 x32 x33 x34 x35 x36 x37 x38 x39 x40 x41 x42 x43 x44 x45 x46 x47 x48 x49 x50 x51 x52 x53 x54 x55 x56 x57 x58 x59 x60 x61 : Value, DR F er'.d v ∧ a = { tmps := #[v, tg, x2, rty 33, x4, x5, .pointer (some ⟨w.heap.size, 0, none⟩), x7, x8, x9, x10, x11, x12, x13, x14, x15, x16, x17, x18, x19, x20, x21, x22, x23, x24, x25, x26, x27, x28, x29, x30, x31, x32, x33, x34, x35, x36, x37, x38, x39, x40, x41, x42, x43, x44, x45, x46, x47, x48, x49, x50, x51, x52, x53, x54, x55, x56, x57, x58, x59, x60, x61], defers := [] }) er ⟨rfl, rfl, v0, _, _, _, _, _, _, _, _, _, _, _, _, _, _, _, _, _, _, _, _, _, _, _, _, _, _, _, _, _, _, _, _, _, _, _, _, _, _, _, _, _, _, _, _, _, _, _, _, _, _, _, _, _, _, _, _, _, _, hd, rfl⟩ ?_
 rintro er' a w' ⟨rfl, hwh, v, x2, x4, x5, x7, x8, x9, x10, x11, x12, x13, x14, x15, x16, x17, x18, x19, x20, x21, x22, x23, x24, x25, x26, x27, x28, x29, x30, x31, x32, x33, x34, x35, x36, x37, x38, x39, x40, x41, x42, x43, x44, x45, x46, x47, x48, x49, x50, x51, x52, x53, x54, x55, x56, x57, x58, x59, x60, x61, hd', rfl⟩
 rw [← hwh]
 clear hd hwh
 cases er' with
 | code n =>
  cases hd' with
  | iface hd2 =>
  cases hd2
  have f1 := as_typeOfc
  have f2 := as_asscc
  have f3 := as_unpackc
  have st := as_setc ta ⟨w.heap.size + 1, 0, none⟩ n old (w'.alloc (.cells #[.int .i64 n] 33)) (by rw [← gs]; simp) (by rw [World.cell?_alloc_lt _ _ ta (by omega)]; exact gt) (by rw [World.frozen?_alloc_old _ _ ta (by omega)]; exact gf)
  go_wp2
  go_ret
  exact (⟨rfl, by rw [hw1]⟩ : AsCode w a0 ta n _ _)
 | loc n e =>
  cases hd' with
  | iface hd2 =>
  rename_i u
  cases hd2 with
  | box hds hat =>
  rename_i vs b off
  obtain ⟨v1, v2, rfl, hv1, hv2⟩ : ∃ v1 v2, vs = [v1, v2] ∧ DR F (.int .i64 n) v1 ∧ DR F e.d v2 := by
   cases hds with
   | cons h1 h2 => cases h2 with | cons h3 h4 => cases h4; exact ⟨_, _, rfl, h1, h3⟩
  have hc := hF1 _ _ _ (hat 1 v2 rfl)
  have f1 := as_typeOfw
  have f2 := as_asswc
  have f3 := as_noASw
  have f4 := as_hasUWw
  have f5 := as_mUw
  obtain ⟨T2, u2, rfl⟩ : ∃ T2 u2, v2 = .iface T2 u2 := by cases e <;> cases hv2 <;> exact ⟨_, _, rfl⟩
  go_wp2_with (go_at_call 472; refine (unw_loc b off _ _ hc).mono ?_; rintro e1 w2 ⟨rfl, rfl⟩)
  exact ⟨e, Nat.lt_succ_self _, trivial, rfl, _, _, _, _, _, _, _, _, _, _, _, _, _, _, _, _, _, _, _, _, _, _, _, _, _, _, _, _, _, _, _, _, _, _, _, _, _, _, _, _, _, _, _, _, _, _, _, _, _, _, _, _, _, _, _, _, _, _, _, hv2, rfl⟩
 | fld n e =>
  cases hd' with
  | iface hd2 =>
  rename_i u
  cases hd2 with
  | box hds hat =>
  rename_i vs b off
  obtain ⟨v1, v2, rfl, hv1, hv2⟩ : ∃ v1 v2, vs = [v1, v2] ∧ DR F (.int .i64 n) v1 ∧ DR F e.d v2 := by
   cases hds with
   | cons h1 h2 => cases h2 with | cons h3 h4 => cases h4; exact ⟨_, _, rfl, h1, h3⟩
  have hc := hF1 _ _ _ (hat 1 v2 rfl)
  have f1 := as_typeOff
  have f2 := as_assfc
  have f3 := as_noASf
  have f4 := as_hasUWf
  have f5 := as_mUf
  obtain ⟨T2, u2, rfl⟩ : ∃ T2 u2, v2 = .iface T2 u2 := by cases e <;> cases hv2 <;> exact ⟨_, _, rfl⟩
  go_wp2_with (go_at_call 485; refine (unw_fld b off _ _ hc).mono ?_; rintro e1 w2 ⟨rfl, rfl⟩)
  exact ⟨e, Nat.lt_succ_self _, trivial, rfl, _, _, _, _, _, _, _, _, _, _, _, _, _, _, _, _, _, _, _, _, _, _, _, _, _, _, _, _, _, _, _, _, _, _, _, _, _, _, _, _, _, _, _, _, _, _, _, _, _, _, _, _, _, _, _, _, _, _, _, hv2, rfl⟩
end Go.Proofs.YtcfkbpddmdfbaaaGreatDoor
/-! errors.As, blame.Place, blame.Code: what they answer. -/
namespace Go.Proofs.YtcfkbpddmdfbaaaGreatDoor
open Go Go.Abs Go.RowKit Go.Extern.Stop Go.Stop Go.Extern
theorem as_err (e : Option Er) (v : Value) (F : Fr) (h : DR F (eD e) v) : (e = none ∧ v = .nilIface) ∨ ∃ er T u, e = some er ∧ v = .iface T u ∧ DR F er.d v := by
 cases e with
 | none => cases h; exact .inl ⟨rfl, rfl⟩
 | some er => cases er <;> cases h with | iface h => exact .inr ⟨_, _, _, rfl, rfl, .iface h⟩
end Go.Proofs.YtcfkbpddmdfbaaaGreatDoor
/-! errors.As at a code: what it answers. -/
namespace Go.Proofs.YtcfkbpddmdfbaaaGreatDoor
open Go Go.Abs Go.RowKit Go.Extern.Stop Go.Stop Go.Extern
set_option maxHeartbeats 4000000 in
theorem As_code (er : Er) (T : TypeId) (u : Value) (F : Fr) (w : World) (hF : Fix F w) (hd : DR F er.d (.iface T u)) (hg : w.cell? ⟨0, 0, none⟩ = some (rty 30)) (ta : Addr) (old : Value) (ht : w.cell? ta = some old) (hf : w.frozen? ta = false) :
  Calls Tryz.prog 44 #[.iface T u, .iface 80 (.pointer (some ta))] w fun e w' => ∃ u1, AsCode (w.alloc (.cells #[.pointer (some ta)] 80) |>.alloc u1) ⟨w.heap.size, 0, none⟩ ta (codeOf er) e w' := by
 have hlt : 0 < w.heap.size := k'1c hg
 have htl : ta.block < w.heap.size := by
  rcases Nat.lt_or_ge ta.block w.heap.size with h | h
  ·exact h
  ·simp [World.cell?, Array.getElem?_eq_none h] at ht
 have xVO := @run_callFunc_extern Tryz.prog 87 _ (fun args => ReflectliteValue.unpack (args.getD 0 (.tuple #[]))) Tryz.func87 (by kernel_rfl) (by kernel_rfl) (by kernel_rfl) (by kernel_rfl)
 have xTy := @run_callFunc_extern Tryz.prog 88 _ (ReflectliteValue.methodAny (ReflectliteValue.valueError "reflectlite.Value.Type" 0) (fun t _ _ _ => ReflectliteType.toType t)) Tryz.func88 (by kernel_rfl) (by kernel_rfl) (by kernel_rfl) (by kernel_rfl)
 have xNil := @run_callFunc_extern Tryz.prog 89 _ (ReflectliteValue.method (ReflectliteValue.valueError "reflectlite.Value.IsNil" 0) ReflectliteValue.isNil) Tryz.func89 (by kernel_rfl) (by kernel_rfl) (by kernel_rfl) (by kernel_rfl)
 have xKind := @run_callFunc_extern Tryz.prog 463 _ (ReflectliteType.abiMethod fun t => do pure (.int .u8 (← Rtype.kind t))) Tryz.func463 (by kernel_rfl) (by kernel_rfl) (by kernel_rfl) (by kernel_rfl)
 have xTEl := @run_callFunc_extern Tryz.prog 476 _ (ReflectliteType.method ReflectliteType.elem) Tryz.func476 (by kernel_rfl) (by kernel_rfl) (by kernel_rfl) (by kernel_rfl)
 have xImp := @run_callFunc_extern Tryz.prog 477 _ (ReflectliteType.relation "Implements" ReflectliteType.implements_) Tryz.func477 (by kernel_rfl) (by kernel_rfl) (by kernel_rfl) (by kernel_rfl)
 have f6 := as_unpackC
 have f7 := as_typeC
 have mK := as_mKind
 have mE := as_mElem
 have mI := as_mImpl
 have k1 := as_kindC
 have k2 := as_kindc
 have e27 := as_elemC
 have i25 := as_implc
 have n8 := as_nilC ⟨w.heap.size, 0, none⟩ ta ((w.alloc (.cells #[.pointer (some ta)] 80)).alloc (.cells #[hnd 80, .pointer (some ⟨w.heap.size, 0, none⟩), .int .u64 150] 138)) (by simp)
 have hg2 : ((w.alloc (.cells #[.pointer (some ta)] 80)).alloc (.cells #[hnd 80, .pointer (some ⟨w.heap.size, 0, none⟩), .int .u64 150] 138)).cell? ⟨0, 0, none⟩ = some (rty 30) := by
  rw [World.cell?_alloc_lt _ _ ⟨0, 0, none⟩ (by simp <;> omega), World.cell?_alloc_lt _ _ ⟨0, 0, none⟩ hlt]; exact hg
 have hF2 : Fix F ((w.alloc (.cells #[.pointer (some ta)] 80)).alloc (.cells #[hnd 80, .pointer (some ⟨w.heap.size, 0, none⟩), .int .u64 150] 138)) := fun b off v h => by
  have := k'1c (hF b off v h)
  rw [World.cell?_alloc_lt _ _ ⟨b, off, none⟩ (by simp <;> omega), World.cell?_alloc_lt _ _ ⟨b, off, none⟩ this]; exact hF b off v h
 have hA := as_code er (.iface T u) F _ hF2 hd (.iface 80 (.pointer (some ta))) ⟨w.heap.size, 0, none⟩ ta old (by rw [World.cell?_alloc_lt _ _ ⟨w.heap.size, 0, none⟩ (by simp)]; simp) (by simp <;> omega) (by rw [World.cell?_alloc_lt _ _ ta (by simp <;> omega), World.cell?_alloc_lt _ _ ta htl]; exact ht) (by simp <;> omega) (by rw [World.frozen?_alloc_old _ _ ta (by simp <;> omega), World.frozen?_alloc_old _ _ ta (Nat.ne_of_lt htl)]; exact hf)
 go_enter Tryz.func44, Tryz.ntmps44
 go_wp2_with (go_at_call 90; refine hA.mono ?_; intro e1 w2 hp; obtain ⟨rb, hb⟩ : ∃ b, e1 = .returned b := by (first | exact ⟨_, hp.1⟩ | (unfold AsCode at hp; split at hp <;> exact ⟨_, hp.1⟩)))
 go_ret
 exact ⟨_, hp⟩
end Go.Proofs.YtcfkbpddmdfbaaaGreatDoor
/-! blame.Place, blame.Code: what they answer. -/
namespace Go.Proofs.YtcfkbpddmdfbaaaGreatDoor
open Go Go.Abs Go.RowKit Go.Extern.Stop Go.Stop Go.Extern
variable (B : Fr)
def placeOf (e : Er) : Int × Bool :=
 match whereOf e with
 | none => (0, false)
 | some (n, _) => (n, true)
theorem post_more {F : Fr} {ρ : Nat → Role} {w w' : World} {r : T} {v : Value} (h : WR F ρ w []) (hnt : ∀ b t, ρ b ≠ .own (.tmp t)) (m : More w w') (hr : TR F ρ w' (.tmp 0) r v) : Post F ρ w r [] (.returned v) w' := by
 have hF : ∀ b off, b < w.heap.size → F b off = F b off := fun _ _ _ => rfl
 refine ⟨v, F, ρ, rfl, ?_, hr, Ext.more h m (Sub.refl F) hF (fun _ _ => rfl), hnt⟩
 refine ⟨fun b off v e => ?_, fun b hb => Nat.lt_of_lt_of_le (h.lt b hb) m.size, fun b i e => ?_, h.uniq⟩
 ·have hb := k'1c (h.fix b off v e)
  have := h.fix b off v e
  unfold World.cell? at this ⊢
  rw [m.heap b hb]; exact this
 ·obtain ⟨o, ho, -⟩ := h.obj b i e
  simp at ho
theorem heap_setCell_ne (w : World) (a : Addr) (v : Value) (b : Nat) (h : b ≠ a.block) : (w.setCell a v).heap[b]? = w.heap[b]? := by
 simp [World.setCell, Array.getElem?_modify, Ne.symm h]
theorem more_set {w w' : World} (m : More w w') (ta : Addr) (v : Value) (h : w.heap.size ≤ ta.block) : More w (w'.setCell ta v) := by
 refine ⟨?_, ?_, ?_, ?_, ?_⟩
 ·simpa using m.size
 ·exact m.os
 ·exact m.tape
 ·exact m.output
 ·intro b hb
  rw [← m.heap b hb]
  exact heap_setCell_ne _ _ _ _ (by omega)
theorem inv1 {F : Fr} {ρ : Nat → Role} {w : World} {l : Lc} {x : D} {vs : List Value} (h : TRs F ρ w l [.d x] vs) : ∃ v, vs = [v] ∧ DR F x v := by
 cases h with | cons h1 h2 => cases h2; exact ⟨_, rfl, h1.inv_d⟩
def codeE (e : Option Er) : Int :=
 match e with
 | none => 0
 | some er => codeOf er
set_option maxHeartbeats 4000000 in
theorem Code_calls (hB : B 0 0 = some (rty 30)) (e : Option Er) : k'0 (cx B) 14 [.d (eD e)] [] (.d (.int .i64 (codeE e))) [] := by
 refine ⟨⟨_, Tryz.func14, rfl, rfl⟩, fun F ρ w vs hwr hvs hnt hbase => ?_⟩
 obtain ⟨v, rfl, hv⟩ := inv1 hvs
 have hm0 := More.alloc w (.cells #[.int .i64 0] 33)
 show Calls Tryz.prog 14 #[v] w _
 rcases as_err e v F hv with ⟨rfl, rfl⟩ | ⟨er, T, u, rfl, rfl, hd⟩
 ·go_enter Tryz.func14, Tryz.ntmps14
  go_wp2
  go_ret
  exact post_more hwr hnt ⟨Nat.le_refl _, rfl, rfl, rfl, fun _ _ => rfl⟩ (.d (.int ..))
 ·have hF : Fix F (w.alloc (.cells #[.int .i64 0] 33)) := fun b off v h => by
   have := k'1c (hwr.fix b off v h)
   rw [World.cell?_alloc_lt _ _ ⟨b, off, none⟩ this]; exact hwr.fix b off v h
  have hg := hF _ _ _ (hbase _ _ _ hB)
  have hA := As_code er T u F _ hF hd hg ⟨w.heap.size, 0, none⟩ (.int .i64 0) (by simp) (by simp)
  generalize hw0 : w.alloc (.cells #[.int .i64 0] 33) = w0 at *
  have hs0 : w0.heap.size = w.heap.size + 1 := by rw [← hw0]; simp
  have hc0 : w0.cell? ⟨w.heap.size, 0, none⟩ = some (.int .i64 0) := by rw [← hw0]; simp
  unfold AsCode at hA
  have hce : codeE (some er) = codeOf er := rfl
  rw [hce]
  generalize codeOf er = n at *
  have key : ∀ u1 w', w' = ((((w0.alloc (.cells #[.pointer (some ⟨w.heap.size, 0, none⟩)] 80)).alloc u1).alloc (.cells #[hnd 80, .pointer (some ⟨w0.heap.size, 0, none⟩), .int .u64 150] 138)).alloc (.cells #[.int .i64 n] 33)).setCell ⟨w.heap.size, 0, none⟩ (.int .i64 n) →
    w'.cell? ⟨w.heap.size, 0, none⟩ = some (.int .i64 n) ∧ More w w' := by
   intro u1 w' hw'
   refine ⟨?_, ?_⟩
   ·rw [hw']
    refine World.cell?_setCell_same' _ _ _ ?_
    rw [World.cell?_alloc_lt _ _ ⟨w.heap.size, 0, none⟩ (by simp; omega), World.cell?_alloc_lt _ _ ⟨w.heap.size, 0, none⟩ (by simp; omega), World.cell?_alloc_lt _ _ ⟨w.heap.size, 0, none⟩ (by simp; omega), World.cell?_alloc_lt _ _ ⟨w.heap.size, 0, none⟩ (by simp; omega)]
    rw [hc0]; rfl
   ·rw [hw']; exact more_set (((hm0.trans (More.alloc _ _)).trans (More.alloc _ _) |>.trans (More.alloc _ _)).trans (More.alloc _ _)) _ _ (Nat.le_refl _)
  go_enter Tryz.func14, Tryz.ntmps14
  go_wp2_with (go_at_call 44; refine hA.mono ?_; rintro e w' ⟨u1, rfl, hw'⟩; obtain ⟨k1, k2⟩ := key u1 w' hw'; clear hw')
  go_ret
  exact post_more hwr hnt k2 (.d (.int ..))
