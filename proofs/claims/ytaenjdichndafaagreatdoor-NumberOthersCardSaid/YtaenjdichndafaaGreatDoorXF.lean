/- blame.Place, blame.Code: what they answer. -/
import Derived.Test.YtaenjdichndafaaGreatDoorXD
import Derived.Test.YtaenjdichndafaaGreatDoorXE
set_option linter.unusedSimpArgs false
set_option linter.unusedVariables false
set_option maxRecDepth 100000
namespace Go.Proofs.YtaenjdichndafaaGreatDoor
open Go Go.Abs Go.RowKit Go.Extern.Stop Go.Stop Go.Extern
variable (B : Fr)
def placeOf (e : Er) : Int × Bool :=
  match whereOf e with
  | none => (0, false)
  | some (n, _) => (n, true)
/-- A function that leaves memory as it was, but for new blocks. -/
theorem post_more {F : Fr} {ρ : Nat → Role} {w w' : World} {r : T} {v : Value} (h : WR F ρ w []) (hnt : ∀ b t, ρ b ≠ .own (.tmp t)) (m : More w w') (hr : TR F ρ w' (.tmp 0) r v) : Post F ρ w r [] (.returned v) w' := by
  have hF : ∀ b off, b < w.heap.size → F b off = F b off := fun _ _ _ => rfl
  refine ⟨v, F, ρ, rfl, ?_, hr, Ext.more h m (Sub.refl F) hF (fun _ _ => rfl), hnt⟩
  refine ⟨fun b off v e => ?_, fun b hb => Nat.lt_of_lt_of_le (h.lt b hb) m.size, fun b i e => ?_, h.uniq⟩
  · have hb := lt_of_cell (h.fix b off v e)
    have := h.fix b off v e
    unfold World.cell? at this ⊢
    rw [m.heap b hb]; exact this
  · obtain ⟨o, ho, -⟩ := h.obj b i e
    simp at ho
theorem heap_setCell_ne (w : World) (a : Addr) (v : Value) (b : Nat) (h : b ≠ a.block) : (w.setCell a v).heap[b]? = w.heap[b]? := by
  simp [World.setCell, Array.getElem?_modify, Ne.symm h]
theorem more_set {w w' : World} (m : More w w') (ta : Addr) (v : Value) (h : w.heap.size ≤ ta.block) : More w (w'.setCell ta v) := by
  refine ⟨?_, ?_, ?_, ?_, ?_⟩
  · simpa using m.size
  · exact m.os
  · exact m.tape
  · exact m.output
  · intro b hb
    rw [← m.heap b hb]
    exact heap_setCell_ne _ _ _ _ (by omega)
theorem As_nil (t : Value) (w : World) : Calls Tryz.prog 49 #[.nilIface, t] w fun e w' => e = .returned (.bool false) ∧ w' = w := by
  go_enter Tryz.func49, Tryz.ntmps49
  go_wp2
  go_ret
  exact ⟨rfl, rfl⟩
theorem inv1 {F : Fr} {ρ : Nat → Role} {w : World} {l : Lc} {x : D} {vs : List Value} (h : TRs F ρ w l [.d x] vs) : ∃ v, vs = [v] ∧ DR F x v := by
  cases h with | cons h1 h2 => cases h2; exact ⟨_, rfl, h1.inv_d⟩
set_option maxHeartbeats 4000000 in
theorem Place_calls (hB : B 0 0 = some (rty 28)) (e : Option Er) : CallsA (cx B) 46 [.d (eD e)] [] (match e with | none => .tup [iT 0, .d (.bool false)] | some er => .tup [iT (placeOf er).1, .d (.bool (placeOf er).2)]) [] := by
  refine ⟨⟨_, Tryz.func46, rfl, rfl⟩, fun F ρ w vs hwr hvs hnt hbase => ?_⟩
  obtain ⟨v, rfl, hv⟩ := inv1 hvs
  have hm0 := More.alloc w (.cells #[.pointer none] 139)
  show Calls Tryz.prog 46 #[v] w _
  rcases as_err e v F hv with ⟨rfl, rfl⟩ | ⟨er, T, u, rfl, rfl, hd⟩
  · go_enter Tryz.func46, Tryz.ntmps46
    go_wp2_with (go_at_call 49; refine (As_nil _ _).mono ?_; rintro e w' ⟨rfl, rfl⟩)
    refine bodyPost_ret (results_tmp2 rfl _ _ _) rfl ?_
    exact post_more hwr hnt hm0 (.tup (.cons (.d (.int ..)) (.cons (.d (.bool ..)) .nil)))
  · have hF : Fix F (w.alloc (.cells #[.pointer none] 139)) := fun b off v h => by
      have := lt_of_cell (hwr.fix b off v h)
      rw [World.cell?_alloc_lt _ _ ⟨b, off, none⟩ this]; exact hwr.fix b off v h
    have hg := hF _ _ _ (hbase _ _ _ hB)
    have hA := As_where er T u F _ hF hd hg ⟨w.heap.size, 0, none⟩ (.pointer none) (by simp) (by simp)
    generalize hw0 : w.alloc (.cells #[.pointer none] 139) = w0 at *
    have hs0 : w0.heap.size = w.heap.size + 1 := by rw [← hw0]; simp
    have hc0 : w0.cell? ⟨w.heap.size, 0, none⟩ = some (.pointer none) := by rw [← hw0]; simp
    unfold AsWhere at hA
    dsimp only
    cases hw : whereOf er with
    | none =>
      have hpo : placeOf er = (0, false) := by unfold placeOf; rw [hw]
      rw [hpo]
      rw [hw] at hA
      go_enter Tryz.func46, Tryz.ntmps46
      go_wp2_with (go_at_call 49; refine hA.mono ?_; rintro e w' ⟨u1, rfl, rfl⟩)
      refine bodyPost_ret (results_tmp2 rfl _ _ _) rfl ?_
      exact post_more hwr hnt ((hm0.trans (More.alloc _ _)).trans (More.alloc _ _) |>.trans (More.alloc _ _)) (.tup (.cons (.d (.int ..)) (.cons (.d (.bool ..)) .nil)))
    | some ne =>
      obtain ⟨n, e0⟩ := ne
      have hpo : placeOf er = (n, true) := by unfold placeOf; rw [hw]
      rw [hpo]
      rw [hw] at hA
      go_enter Tryz.func46, Tryz.ntmps46
      have key : ∀ u1 p w', DR F (.box [.int .i64 n, e0.d]) (.pointer (some p)) → w' = ((((w0.alloc (.cells #[.pointer (some ⟨w.heap.size, 0, none⟩)] 140)).alloc u1).alloc (.cells #[hnd 140, .pointer (some ⟨w0.heap.size, 0, none⟩), .int .u64 150] 147)).alloc (.cells #[.pointer (some p)] 139)).setCell ⟨w.heap.size, 0, none⟩ (.pointer (some p)) →
          w'.cell? ⟨w.heap.size, 0, none⟩ = some (.pointer (some p)) ∧ w'.cell? p = some (.int .i64 n) ∧ More w w' := by
        intro u1 p w' hp hw'
        have hp0 : F p.block p.off = some (.int .i64 n) ∧ p.spot = none := by
          cases hp with
          | box hds hat =>
            cases hds with | cons h1 h2 => cases h1; exact ⟨hat 0 _ rfl, rfl⟩
        have hpc := hwr.fix _ _ _ hp0.1
        have hpl := lt_of_cell hpc
        have hpe : p = ⟨p.block, p.off, none⟩ := by cases p; cases hp0.2; rfl
        have hm : More w w' := by rw [hw']; exact more_set (((hm0.trans (More.alloc _ _)).trans (More.alloc _ _) |>.trans (More.alloc _ _)).trans (More.alloc _ _)) _ _ (Nat.le_refl _)
        refine ⟨?_, ?_, hm⟩
        · rw [hw']
          refine World.cell?_setCell_same' _ _ _ ?_
          rw [World.cell?_alloc_lt _ _ ⟨w.heap.size, 0, none⟩ (by simp; omega), World.cell?_alloc_lt _ _ ⟨w.heap.size, 0, none⟩ (by simp; omega), World.cell?_alloc_lt _ _ ⟨w.heap.size, 0, none⟩ (by simp; omega), World.cell?_alloc_lt _ _ ⟨w.heap.size, 0, none⟩ (by simp; omega)]
          rw [hc0]; rfl
        · rw [hpe]
          unfold World.cell? at hpc ⊢
          rw [hm.heap _ hpl]; exact hpc
      go_wp2_with (go_at_call 49; refine hA.mono ?_; rintro e w' ⟨u1, rfl, p, hp, hw'⟩; obtain ⟨k1, k2, k3⟩ := key u1 p w' hp hw'; clear hw')
      refine bodyPost_ret (results_tmp2 rfl _ _ _) rfl ?_
      exact post_more hwr hnt k3 (.tup (.cons (.d (.int ..)) (.cons (.d (.bool ..)) .nil)))
def codeE (e : Option Er) : Int :=
  match e with
  | none => 0
  | some er => codeOf er
set_option maxHeartbeats 4000000 in
theorem Code_calls (hB : B 0 0 = some (rty 28)) (e : Option Er) : CallsA (cx B) 21 [.d (eD e)] [] (.d (.int .i64 (codeE e))) [] := by
  refine ⟨⟨_, Tryz.func21, rfl, rfl⟩, fun F ρ w vs hwr hvs hnt hbase => ?_⟩
  obtain ⟨v, rfl, hv⟩ := inv1 hvs
  have hm0 := More.alloc w (.cells #[.int .i64 0] 38)
  show Calls Tryz.prog 21 #[v] w _
  rcases as_err e v F hv with ⟨rfl, rfl⟩ | ⟨er, T, u, rfl, rfl, hd⟩
  · go_enter Tryz.func21, Tryz.ntmps21
    go_wp2
    go_ret
    exact post_more hwr hnt ⟨Nat.le_refl _, rfl, rfl, rfl, fun _ _ => rfl⟩ (.d (.int ..))
  · have hF : Fix F (w.alloc (.cells #[.int .i64 0] 38)) := fun b off v h => by
      have := lt_of_cell (hwr.fix b off v h)
      rw [World.cell?_alloc_lt _ _ ⟨b, off, none⟩ this]; exact hwr.fix b off v h
    have hg := hF _ _ _ (hbase _ _ _ hB)
    have hA := As_code er T u F _ hF hd hg ⟨w.heap.size, 0, none⟩ (.int .i64 0) (by simp) (by simp)
    generalize hw0 : w.alloc (.cells #[.int .i64 0] 38) = w0 at *
    have hs0 : w0.heap.size = w.heap.size + 1 := by rw [← hw0]; simp
    have hc0 : w0.cell? ⟨w.heap.size, 0, none⟩ = some (.int .i64 0) := by rw [← hw0]; simp
    unfold AsCode at hA
    have hce : codeE (some er) = codeOf er := rfl
    rw [hce]
    generalize codeOf er = n at *
    have key : ∀ u1 w', w' = ((((w0.alloc (.cells #[.pointer (some ⟨w.heap.size, 0, none⟩)] 93)).alloc u1).alloc (.cells #[hnd 93, .pointer (some ⟨w0.heap.size, 0, none⟩), .int .u64 150] 147)).alloc (.cells #[.int .i64 n] 38)).setCell ⟨w.heap.size, 0, none⟩ (.int .i64 n) →
        w'.cell? ⟨w.heap.size, 0, none⟩ = some (.int .i64 n) ∧ More w w' := by
      intro u1 w' hw'
      refine ⟨?_, ?_⟩
      · rw [hw']
        refine World.cell?_setCell_same' _ _ _ ?_
        rw [World.cell?_alloc_lt _ _ ⟨w.heap.size, 0, none⟩ (by simp; omega), World.cell?_alloc_lt _ _ ⟨w.heap.size, 0, none⟩ (by simp; omega), World.cell?_alloc_lt _ _ ⟨w.heap.size, 0, none⟩ (by simp; omega), World.cell?_alloc_lt _ _ ⟨w.heap.size, 0, none⟩ (by simp; omega)]
        rw [hc0]; rfl
      · rw [hw']; exact more_set (((hm0.trans (More.alloc _ _)).trans (More.alloc _ _) |>.trans (More.alloc _ _)).trans (More.alloc _ _)) _ _ (Nat.le_refl _)
    go_enter Tryz.func21, Tryz.ntmps21
    go_wp2_with (go_at_call 49; refine hA.mono ?_; rintro e w' ⟨u1, rfl, hw'⟩; obtain ⟨k1, k2⟩ := key u1 w' hw'; clear hw')
    go_ret
    exact post_more hwr hnt k2 (.d (.int ..))
end Go.Proofs.YtaenjdichndafaaGreatDoor
