/- errors.As at a code: what it answers. -/
import Derived.Test.YtaenjdichndafaaGreatDoorXC
set_option linter.unusedSimpArgs false
set_option linter.unusedVariables false
set_option maxRecDepth 100000
namespace Go.Proofs.YtaenjdichndafaaGreatDoor
open Go Go.Abs Go.RowKit Go.Extern.Stop Go.Stop Go.Extern
set_option maxHeartbeats 4000000 in
theorem As_code (er : Er) (T : TypeId) (u : Value) (F : Fr) (w : World) (hF : Fix F w) (hd : DR F er.d (.iface T u)) (hg : w.cell? ⟨0, 0, none⟩ = some (rty 28)) (ta : Addr) (old : Value) (ht : w.cell? ta = some old) (hf : w.frozen? ta = false) :
    Calls Tryz.prog 49 #[.iface T u, .iface 93 (.pointer (some ta))] w fun e w' => ∃ u1, AsCode (w.alloc (.cells #[.pointer (some ta)] 93) |>.alloc u1) ⟨w.heap.size, 0, none⟩ ta (codeOf er) e w' := by
  have hlt : 0 < w.heap.size := lt_of_cell hg
  have htl : ta.block < w.heap.size := by
    rcases Nat.lt_or_ge ta.block w.heap.size with h | h
    · exact h
    · simp [World.cell?, Array.getElem?_eq_none h] at ht
  have xVO := @run_callFunc_extern Tryz.prog 91 _ (fun args => ReflectliteValue.unpack (args.getD 0 (.tuple #[]))) Tryz.func91 (by kernel_rfl) (by kernel_rfl) (by kernel_rfl) (by kernel_rfl)
  have xTy := @run_callFunc_extern Tryz.prog 92 _ (ReflectliteValue.methodAny (ReflectliteValue.valueError "reflectlite.Value.Type" 0) (fun t _ _ _ => ReflectliteType.toType t)) Tryz.func92 (by kernel_rfl) (by kernel_rfl) (by kernel_rfl) (by kernel_rfl)
  have xNil := @run_callFunc_extern Tryz.prog 93 _ (ReflectliteValue.method (ReflectliteValue.valueError "reflectlite.Value.IsNil" 0) ReflectliteValue.isNil) Tryz.func93 (by kernel_rfl) (by kernel_rfl) (by kernel_rfl) (by kernel_rfl)
  have xKind := @run_callFunc_extern Tryz.prog 186 _ (ReflectliteType.abiMethod fun t => do pure (.int .u8 (← Rtype.kind t))) Tryz.func186 (by kernel_rfl) (by kernel_rfl) (by kernel_rfl) (by kernel_rfl)
  have xTEl := @run_callFunc_extern Tryz.prog 199 _ (ReflectliteType.method ReflectliteType.elem) Tryz.func199 (by kernel_rfl) (by kernel_rfl) (by kernel_rfl) (by kernel_rfl)
  have xImp := @run_callFunc_extern Tryz.prog 200 _ (ReflectliteType.relation "Implements" ReflectliteType.implements_) Tryz.func200 (by kernel_rfl) (by kernel_rfl) (by kernel_rfl) (by kernel_rfl)
  have f6 := as_unpackC
  have f7 := as_typeC
  have mK := as_mKind
  have mE := as_mElem
  have mI := as_mImpl
  have k1 := as_kindC
  have k2 := as_kindc
  have e27 := as_elemC
  have i25 := as_implc
  have n8 := as_nilC ⟨w.heap.size, 0, none⟩ ta ((w.alloc (.cells #[.pointer (some ta)] 93)).alloc (.cells #[hnd 93, .pointer (some ⟨w.heap.size, 0, none⟩), .int .u64 150] 147)) (by simp)
  have hg2 : ((w.alloc (.cells #[.pointer (some ta)] 93)).alloc (.cells #[hnd 93, .pointer (some ⟨w.heap.size, 0, none⟩), .int .u64 150] 147)).cell? ⟨0, 0, none⟩ = some (rty 28) := by
    rw [World.cell?_alloc_lt _ _ ⟨0, 0, none⟩ (by simp <;> omega), World.cell?_alloc_lt _ _ ⟨0, 0, none⟩ hlt]; exact hg
  have hF2 : Fix F ((w.alloc (.cells #[.pointer (some ta)] 93)).alloc (.cells #[hnd 93, .pointer (some ⟨w.heap.size, 0, none⟩), .int .u64 150] 147)) := fun b off v h => by
    have := lt_of_cell (hF b off v h)
    rw [World.cell?_alloc_lt _ _ ⟨b, off, none⟩ (by simp <;> omega), World.cell?_alloc_lt _ _ ⟨b, off, none⟩ this]; exact hF b off v h
  have hA := as_code er (.iface T u) F _ hF2 hd (.iface 93 (.pointer (some ta))) ⟨w.heap.size, 0, none⟩ ta old (by rw [World.cell?_alloc_lt _ _ ⟨w.heap.size, 0, none⟩ (by simp)]; simp) (by simp <;> omega) (by rw [World.cell?_alloc_lt _ _ ta (by simp <;> omega), World.cell?_alloc_lt _ _ ta htl]; exact ht) (by simp <;> omega) (by rw [World.frozen?_alloc_old _ _ ta (by simp <;> omega), World.frozen?_alloc_old _ _ ta (Nat.ne_of_lt htl)]; exact hf)
  go_enter Tryz.func49, Tryz.ntmps49
  go_wp2_with (go_at_call 94; refine hA.mono ?_; intro e1 w2 hp; obtain ⟨rb, hb⟩ : ∃ b, e1 = .returned b := by (first | exact ⟨_, hp.1⟩ | (unfold AsCode at hp; split at hp <;> exact ⟨_, hp.1⟩)))
  go_ret
  exact ⟨_, hp⟩
end Go.Proofs.YtaenjdichndafaaGreatDoor
