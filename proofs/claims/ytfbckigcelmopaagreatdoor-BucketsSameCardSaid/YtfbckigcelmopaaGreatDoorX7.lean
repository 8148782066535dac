/- strings.Builder: its copy check, what it holds. -/
import Derived.Test.YtfbckigcelmopaaGreatDoorX6
import Derived.Lib.Builder
import Derived.Lib.UnsafeStr
import Derived.WalkKit
import Derived.Shelf.RegionOpenPlain
import Derived.Laws.Externs
import Derived.Laws.LoneSync
set_option linter.unusedSimpArgs false
set_option linter.unusedVariables false
set_option maxRecDepth 100000
namespace Go.Proofs.YtfbckigcelmopaaGreatDoor
open Go Go.Abs Go.RowKit

set_option maxHeartbeats 1000000 in
theorem copy_used (b : Nat) (w : World) (h0 : w.cell? ⟨b, 0, none⟩ = some (.pointer (some ⟨b, 0, none⟩))) :
    Calls Tryz.prog 95 #[.pointer (some ⟨b, 0, none⟩)] w fun e w' => e = .returned (.tuple #[]) ∧ w' = w := by
  obtain ⟨j, hj, -⟩ : ∃ j, Tryz.prog.info? 89 = some j ∧ True := by
    cases h : Tryz.prog.info? 89 with
    | none => exact absurd (congrArg Option.isSome h) (by rw [show (Tryz.prog.info? 89).isSome = true by kernel_rfl]; simp)
    | some j => exact ⟨j, rfl, trivial⟩
  go_enter Tryz.func95, Tryz.ntmps95
  go_wp2
  rw [Lib.run_neq_ptr_same (te := 89) w ⟨b, 0, none⟩ (by kernel_rfl) hj]
  go_wp2
  go_end0
  exact ⟨rfl, rfl⟩
set_option maxHeartbeats 1000000 in
theorem copy_fresh (b t n : Nat) (w : World) (h0 : w.cell? ⟨b, 0, none⟩ = some (.pointer none)) (hsh : w.shape? b = some (t, n)) (hn : 0 < n) (hfz : w.frozen? ⟨b, 0, none⟩ = false)
    (hlies : liesAt Tryz.prog Tryz.prog.depth t (n / Tryz.prog.cellsOf t) 0 89 1 = true) :
    Calls Tryz.prog 95 #[.pointer (some ⟨b, 0, none⟩)] w fun e w' => e = .returned (.tuple #[]) ∧ w' = w.setCell ⟨b, 0, none⟩ (.pointer (some ⟨b, 0, none⟩)) := by
  obtain ⟨j, hj, hjs⟩ : ∃ j, Tryz.prog.info? 89 = some j ∧ j.size = 2 := by
    have h0 : (Tryz.prog.info? 89).map (·.size) = some 2 := by kernel_rfl
    exact Option.map_eq_some_iff.1 h0
  go_enter Tryz.func95, Tryz.ntmps95
  go_wp2
  rw [Lib.run_to_unsafe (t := 89) w ⟨b, 0, none⟩ (by kernel_rfl) (by kernel_rfl) hj (by rw [hjs]; decide) hsh hn]
  simp only [Result.andThen]
  rw [Oper.upon_value]
  go_wp2
  rw [run_callFunc_extern Tryz.func115 (by kernel_rfl) (by kernel_rfl) (by kernel_rfl) (e := Extern.AbiNoEscape.same) (by kernel_rfl)]
  rw [Lib.run_noEscape]
  simp only [Result.andThen]
  rw [Oper.upon_value]
  go_wp2
  rw [Lib.run_from_unsafe (u := 89) w ⟨b, 0, none⟩ (by kernel_rfl) (by kernel_rfl) hj hsh hlies]
  simp only [Result.andThen]
  rw [Oper.upon_value]
  go_wp2
  go_end0
  exact ⟨rfl, rfl⟩
set_option maxHeartbeats 1000000 in
theorem string_buf (b g cap n : Nat) (l : List UInt8) (h0 : l ≠ []) (w : World) (c0 : w.cell? ⟨b, 1, none⟩ = some (.slice (some ⟨g, 0, none⟩) l.length cap)) (hsh : w.shape? g = some (5, n)) (hcell : ∀ (j : Nat) (x : UInt8), l[j]? = some x → w.cell? ⟨g, j, none⟩ = some (.int .u8 x.toNat)) (hcap : l.length ≤ cap) (hn : l.length ≤ n) (hlen : l.length ≤ 9223372036854775807) :
    Calls Tryz.prog 65 #[.pointer (some ⟨b, 0, none⟩)] w fun e w' => e = .returned (.string ⟨l.toArray⟩) ∧ w' = w.drew.freeze ⟨g, 0, none⟩ l.length := by
  have hl0 : l.length ≠ 0 := by simpa using h0
  have c1 : w.drew.cell? ⟨b, 1, none⟩ = some (.slice (some ⟨g, 0, none⟩) l.length cap) := c0
  have hSD : (Builtin.unsafeSliceData_ #[87] 160 #[.slice (some ⟨g, 0, none⟩) l.length cap]).run Tryz.prog w.drew = .ok (.pointer (some ⟨g, 0, none⟩)) w.drew :=
    Lib.run_unsafeSliceData_row _ _ _ _ _ _ (by omega)
  have hUS : (Builtin.unsafeString_ #[160, 3] 9 #[.pointer (some ⟨g, 0, none⟩), .int .i64 l.length]).run Tryz.prog w.drew = .ok (.string ⟨l.toArray⟩) (w.drew.freeze ⟨g, 0, none⟩ l.length) :=
    Lib.run_unsafeString_row w.drew 160 3 9 5 (by kernel_rfl) (by kernel_rfl) g n hsh l h0 hn (by omega) (fun j x e => by rw [addr_add, Nat.zero_add]; exact hcell j x e)
  have mixed : Tryz.prog.follows .mixedOrders = true := by kernel_rfl
  go_enter Tryz.func65, Tryz.ntmps65
  go_wp2
  go_region_o
  all_goals (go_wp2; go_ret; exact ⟨rfl, rfl⟩)
set_option maxHeartbeats 1000000 in
theorem string_nil (b : Nat) (w : World) (c0 : w.cell? ⟨b, 1, none⟩ = some (.slice none 0 0)) :
    Calls Tryz.prog 65 #[.pointer (some ⟨b, 0, none⟩)] w fun e w' => e = .returned (.string ⟨#[]⟩) ∧ w' = w.drew := by
  have c1 : w.drew.cell? ⟨b, 1, none⟩ = some (.slice none 0 0) := c0
  have hSD : (Builtin.unsafeSliceData_ #[87] 160 #[.slice none 0 0]).run Tryz.prog w.drew = .ok (.pointer none) w.drew := rfl
  have hUS : ∀ W q, (Builtin.unsafeString_ #[160, 3] 9 #[.pointer q, .int .i64 0]).run Tryz.prog W = .ok (.string .empty) W := fun W q => Lib.run_unsafeString_none W _ _ _ q
  have mixed : Tryz.prog.follows .mixedOrders = true := by kernel_rfl
  go_enter Tryz.func65, Tryz.ntmps65
  go_wp2
  go_region_o
  all_goals (go_wp2; go_ret; exact ⟨rfl, rfl⟩)
variable (B : Fr)
/-- The first cell of a builder that may be written. -/
def adOk (a : T) : Prop := a = .me ∨ a = .nw 89 2 ∨ a = .nw 91 2
theorem lies_ok {t : Nat} (h : t = 89 ∨ t = 91) : liesAt Tryz.prog Tryz.prog.depth t (2 / Tryz.prog.cellsOf t) 0 89 1 = true := by
  rcases h with rfl | rfl <;> kernel_rfl
theorem dummySR {F : Fr} {ρ : Nat → Role} {w : World} {H : List Ob} (h : WR F ρ w H) : SR 0 F ρ ⟨fun _ => .undef, H⟩ { tmps := #[], defers := [] } w :=
  ⟨h, rfl, rfl, fun _ => .undef⟩
theorem copyCheck_calls (a x : T) (ha : adOk a) : CallsA (cx B) 95 [.ptr 0 0] [.mu [a, x]] (.tup []) [.mu [.me, x]] := by
  refine ⟨⟨Tryz.f95, Tryz.func95, rfl, rfl⟩, fun F ρ w vs hwr hvs hnt hb => ?_⟩
  cases hvs with
  | cons hp hr =>
  cases hr
  obtain ⟨b, hob, rfl⟩ := hp.inv_ptr
  obtain ⟨o, ho, hr⟩ := hwr.obj b 0 hob
  simp at ho; subst ho
  obtain ⟨h1, h2, v, h3, h4⟩ := hr 0 a rfl
  have fresh : ∀ t, (t = 89 ∨ t = 91) → a = .nw t 2 → Calls (cx B).P 95 #[.pointer (some ⟨b, 0, none⟩)] w (Post F ρ w (.tup []) [.mu [.me, x]]) := by
    rintro t ht rfl
    cases h4 with
    | nw g1 g2 =>
    have := hwr.uniq _ _ _ g1 hob; subst this
    refine (copy_fresh _ t 2 w h3 g2 (by omega) h2 (lies_ok ht)).mono ?_
    rintro e w' ⟨rfl, rfl⟩
    obtain ⟨k1, k2, -, -⟩ := (dummySR hwr).store (cs := [.nw t 2, x]) (off := 0) (j := 0) (ts := [.me]) (vs := [.pointer (some ⟨_, 0, none⟩)]) hob rfl (by simp) rfl (fun k t v e1 e2 => by
      cases k with
      | zero => simp at e1 e2; subst e1; subst e2; exact .me hob
      | succ k => simp at e1)
    exact ⟨_, F, ρ, rfl, k1.wr, .tup .nil, k2, hnt⟩
  rcases ha with rfl | ha | ha
  · have hv : v = .pointer (some ⟨b, 0, none⟩) := by
      cases h4 with
      | me g => rw [hwr.uniq _ _ _ g hob]
    subst hv
    refine (copy_used b w h3).mono ?_
    rintro e w' ⟨rfl, rfl⟩
    exact ⟨_, F, ρ, rfl, hwr, .tup .nil, Ext.refl F ρ _, hnt⟩
  · exact fresh _ (.inl rfl) ha
  · exact fresh _ (.inr rfl) ha
/-- A builder that holds these bytes. -/
def bT (l : List UInt8) : T := bu 5 l
theorem WriteString_calls (a : T) (l s : List UInt8) (ha : adOk a) (hm : l.length + s.length ≤ most) : CallsA (cx B) 64 [.ptr 0 0, sT s] [.mu [a, bT l]] (.tup [iT s.length, .d .nili]) [.mu [.me, bT (l ++ s)]] := by
  have hp : a.plain = true := by rcases ha with rfl | rfl | rfl <;> rfl
  have h1 := copyCheck_calls B a (bT l) ha
  rcases l with _ | ⟨c, l⟩
  · rcases s with _ | ⟨c, s⟩ <;>
    (rcases ha with rfl | rfl | rfl <;> (
    refine l_body (X := cx B) (fn := Tryz.f64) Tryz.func64 rfl rfl rfl rfl rfl 1 [] rfl rfl ?_
    refine walk ?_
    refine l_call [0] (h1) rfl rfl rfl rfl rfl rfl rfl (by decide) rfl rfl rfl rfl rfl ?_
    refine r_nil ?_
    refine r_then ?_
    refine r_seq ?_
    (try refine l_open rfl ?_)
    refine l_part (fst := false) 4 rfl rfl rfl ?_
    refine l_step (.loadMov (q := .own true []) rfl rfl rfl rfl rfl rfl rfl) rfl rfl ?_
    refine walk ?_
    refine l_step (.appendBuf (ls := []) rfl rfl rfl rfl ⟨_, _, rfl, rfl, by intro q; simp⟩ rfl rfl rfl rfl rfl (by simp) rfl (by decide) hm rfl) rfl rfl ?_
    refine l_part (fst := false) 2 rfl rfl rfl ?_
    refine l_step (.storeMov rfl rfl rfl rfl rfl rfl rfl (by decide) rfl) rfl rfl ?_
    refine walk ?_
    exact l_end trivial (by decide) rfl rfl rfl rfl rfl))
  · rcases ha with rfl | rfl | rfl <;> (
    refine l_body (X := cx B) (fn := Tryz.f64) Tryz.func64 rfl rfl rfl rfl rfl 1 [] rfl rfl ?_
    refine walk ?_
    refine l_call [0] (h1) rfl rfl rfl rfl rfl rfl rfl (by decide) rfl rfl rfl rfl rfl ?_
    refine r_nil ?_
    refine r_then ?_
    refine r_seq ?_
    (try refine l_open rfl ?_)
    refine l_part (fst := false) 4 rfl rfl rfl ?_
    refine l_step (.loadMov (q := .buf 5 (c :: l)) rfl rfl rfl rfl rfl rfl rfl) rfl rfl ?_
    refine walk ?_
    refine l_step (.appendBuf (ls := c :: l) rfl rfl rfl rfl ⟨_, _, rfl, rfl, by intro q; simp⟩ rfl rfl rfl rfl rfl (by simp) rfl (by decide) hm rfl) rfl rfl ?_
    refine l_part (fst := false) 2 rfl rfl rfl ?_
    refine l_step (.storeMov rfl rfl rfl rfl rfl rfl rfl (by decide) rfl) rfl rfl ?_
    refine walk ?_
    exact l_end trivial (by decide) rfl rfl rfl rfl rfl)
theorem freeze_other (w : World) (g n c : Nat) (h : c ≠ g) : (w.freeze ⟨g, 0, none⟩ n).heap[c]? = w.heap[c]? := by
  unfold World.freeze
  split
  · rfl
  · simp [Array.getElem?_modify, Ne.symm h]
theorem freeze_cell (w : World) (g n : Nat) (a : Addr) : (w.freeze ⟨g, 0, none⟩ n).cell? a = w.cell? a := by
  unfold World.freeze
  split
  · rfl
  · by_cases h : g = a.block
    · subst h
      simp only [World.cell?, Array.getElem?_modify, if_pos]
      cases w.heap[a.block]? with
      | none => rfl
      | some o => cases o <;> rfl
    · simp [World.cell?, Array.getElem?_modify, h]
theorem freeze_shape (w : World) (g n c : Nat) : (w.freeze ⟨g, 0, none⟩ n).shape? c = w.shape? c := by
  unfold World.freeze
  split
  · rfl
  · by_cases h : g = c
    · subst h
      simp only [World.shape?, Array.getElem?_modify, if_pos]
      cases w.heap[g]? with
      | none => rfl
      | some o => cases o <;> rfl
    · simp [World.shape?, Array.getElem?_modify, h]
theorem freeze_fields (w : World) (g n : Nat) : (w.freeze ⟨g, 0, none⟩ n).heap.size = w.heap.size ∧ (w.freeze ⟨g, 0, none⟩ n).os = w.os ∧ (w.freeze ⟨g, 0, none⟩ n).tape = w.tape ∧ (w.freeze ⟨g, 0, none⟩ n).output = w.output := by
  unfold World.freeze
  split <;> simp
/-- The bytes are handed out; of the buffer nothing more is told. -/
theorem String_calls (a : T) (l : List UInt8) (ha : adOk a) (hl : l.length ≤ most) : CallsA (cx B) 65 [.ptr 0 0] [.mu [a, bT l]] (sT l) [.mu [a, .undef]] := by
  refine ⟨⟨Tryz.f65, Tryz.func65, rfl, rfl⟩, fun F ρ w vs hwr hvs hnt hb => ?_⟩
  cases hvs with
  | cons hp hr =>
  cases hr
  obtain ⟨b, hob, rfl⟩ := hp.inv_ptr
  obtain ⟨o, ho, hr⟩ := hwr.obj b 0 hob
  simp at ho; subst ho
  obtain ⟨h1, h2, v, h3, h4⟩ := hr 0 a rfl
  obtain ⟨q1, q2, u, q3, q4⟩ := hr 1 (bT l) rfl
  -- any world that is the same but for what is frozen of another block
  have post : ∀ w' : World, (∀ a, w'.cell? a = w.cell? a) → (∀ c, w'.shape? c = w.shape? c) → w'.heap.size = w.heap.size → w'.os = w.os → w'.tape = w.tape → w'.output = w.output → (∀ c, (ρ c = .free ∨ c = b) → w'.heap[c]? = w.heap[c]?) → Post F ρ w (sT l) [.mu [a, .undef]] (.returned (.string ⟨l.toArray⟩)) w' := by
    intro w' e1 e2 e3 e4 e5 e6 e7
    refine ⟨_, F, ρ, rfl, ⟨fun c off v e => by rw [e1]; exact hwr.fix c off v e, fun c e => by rw [e3]; exact hwr.lt c e, fun c i e => ?_, hwr.uniq⟩, .d (.str l), ⟨Sub.refl F, Nat.le_of_eq e3.symm, e4, e5, e6, fun c hc e => ⟨e, e7 c (.inl e), fun _ => rfl⟩, fun _ _ e => e, fun c x e => by rw [e2]; exact e⟩, hnt⟩
    obtain ⟨o, g1, g2⟩ := hwr.obj c i e
    have hi : i = 0 := by
      rcases i with _ | i
      · rfl
      · simp at g1
    subst hi
    have := hwr.uniq c b 0 e hob; subst this
    refine ⟨.mu [a, .undef], rfl, fun off t ht => ?_⟩
    have hfr : w'.frozen? ⟨c, off, none⟩ = w.frozen? ⟨c, off, none⟩ := frozen_heap (e7 c (.inr rfl))
    rcases off with _ | _ | off
    · simp at ht; subst ht
      refine ⟨h1, by rw [hfr]; exact h2, v, by rw [e1]; exact h3, ?_⟩
      rcases ha with rfl | rfl | rfl
      · cases h4 with | me g => exact .me g
      · cases h4 with | nw g1 g2 => exact .nw g1 (by rw [e2]; exact g2)
      · cases h4 with | nw g1 g2 => exact .nw g1 (by rw [e2]; exact g2)
    · simp at ht; subst ht
      exact ⟨q1, by rw [hfr]; exact q2, u, by rw [e1]; exact q3, .undef⟩
    · simp at ht
  rcases l with _ | ⟨c, l⟩
  · have hu : u = .slice none 0 0 := by cases q4 with | nilo => rfl
    subst hu
    refine (string_nil b w q3).mono ?_
    rintro e w' ⟨rfl, rfl⟩
    exact post w.drew (fun _ => rfl) (fun _ => rfl) rfl rfl rfl rfl (fun _ _ => rfl)
  · cases q4 with
    | buf h e =>
    cases h with
    | own hrg hne he hA hcap hsp =>
    rename_i vs g cap sz
    obtain ⟨b', off, n, cc, k, e1, e2⟩ := e
    injection e1 with e1 _ _
    injection e1 with e1
    injection e1 with e1 e3
    subst e1
    have hcell : ∀ (j : Nat) (x : UInt8), (c :: l)[j]? = some x → w.cell? ⟨g, j, none⟩ = some (.int .u8 x.toNat) := by
      intro j x hx
      obtain ⟨ws, k1, k2, k3⟩ := he.get (i := j) (u := byteD x) (by rw [List.getElem?_map, hx]; rfl)
      cases k1 with
      | cons k4 k5 =>
      cases k5
      have := k4.inv_int; subst this
      simp at k2; subst k2
      have := k3 0 _ rfl
      have := hA _ _ this
      simp at this
      exact hwr.fix _ _ _ this
    have hk : (c :: l).length ≤ k := by
      obtain ⟨x, hx⟩ : ∃ x, (c :: l)[l.length]? = some x := ⟨_, List.getElem?_eq_getElem (by simp)⟩
      obtain ⟨e', n', k1, k2, -⟩ := World.shape?_of_cell? (hcell l.length x hx)
      simp only at k1 k2
      rw [e2] at k1; injection k1 with k1; injection k1 with k1 k3
      subst k3; simp; omega
    have hgb : g ≠ b := by rintro rfl; rw [hob] at hrg; simp at hrg
    have hmost : (c :: l).length ≤ 9223372036854775807 := Nat.le_trans hl (by decide)
    refine (string_buf b g cap k (c :: l) (by simp) w (by simpa using q3) e2 hcell (by simpa using hcap) hk hmost).mono ?_
    rintro e w' ⟨rfl, rfl⟩
    obtain ⟨f1, f2, f3, f4⟩ := freeze_fields w.drew g (c :: l).length
    refine post _ (fun a => (freeze_cell _ _ _ a).trans rfl) (fun a => (freeze_shape _ _ _ a).trans rfl) (f1.trans rfl) (f2.trans rfl) (f3.trans rfl) (f4.trans rfl) (fun x hx => (freeze_other _ _ _ x (by
      rintro rfl
      rcases hx with hx | hx
      · rw [hrg] at hx; simp at hx
      · exact hgb hx)).trans rfl)
end Go.Proofs.YtfbckigcelmopaaGreatDoor
