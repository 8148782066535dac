/- Numbers, one behind the other. And more. -/
import Derived.Test.YtnaojdjhjkendaaGreatDoorXG0
import Derived.Lib.Builder
import Derived.Lib.UnsafeStr
import Derived.WalkKit
import Derived.Shelf.RegionOpenPlain
import Derived.Laws.Externs
import Derived.Laws.LoneSync
set_option linter.unusedSimpArgs false
set_option linter.unusedVariables false
set_option maxRecDepth 100000
/-! Numbers, one behind the other. -/
namespace Go.Proofs.YtnaojdjhjkendaaGreatDoor
open Go Go.Abs
variable (B : Fr)
def uD (n : Nat) : D := .int .u64 n
theorem u_fits (l : List Nat) : ∀ a ∈ l.map uD, a.fits 1 = true := by
 intro a ha
 obtain ⟨c, -, rfl⟩ := List.mem_map.1 ha
 rfl
def varsE (s : List UInt8) : Nat → Nat → Except Er (List Nat)
 | 0, _ => .ok []
 | f + 1, p => if p < s.length then (match vE s p with
   | .error e => .error e
   | .ok (n, q) => match varsE s f q with
    | .error e => .error e
    | .ok l => .ok (n :: l)) else .ok []
def vars (s : List UInt8) : Except Er (List Nat) := varsE s (s.length + 1) 0
def numsT : Except Er (List Nat) → T
 | .ok l => .tup [.d (slD (l.map uD)), .d .nili]
 | .error e => .tup [.d (.sl true []), .d e.d]
theorem varints_calls (s : List UInt8) (hl : s.length < big) : k'5 (cx B) 314 [sT s] [] (numsT (vars s)) [] := by
 have hl' := hl
 unfold big at hl'
 refine l_bw Tryz.func314 0 [] ?_
 refine k'y (fun x : Nat × Nat × List Nat => x.2.1) (fun x => [(0, sT s), (4, owT (x.2.2.map uD)), (5, .ptr 0 0)]) (fun x => [rdOb s x.1 none 0])
  (fun x => x.1 ≤ s.length ∧ s.length - x.1 < x.2.1 ∧ x.2.2.length ≤ x.1 ∧ vars s = (match varsE s x.2.1 x.1 with | .ok l => .ok (x.2.2 ++ l) | .error e => .error e)) (0, s.length + 1, []) ⟨by omega, by show s.length - 0 < s.length + 1; omega, by simp, ?_⟩ ⟨rfl, rfl, rfl, trivial⟩ rfl 1 rfl (fun _ => rfl) (fun _ => rfl) (fun _ => rfl) ?_
 ·show vars s = _
  unfold vars
  dsimp only
  split <;> (rename_i h; rw [h]) <;> rfl
 rintro ⟨p, g, acc⟩ ⟨i1, i2, i3, i4⟩
 dsimp only at i1 i2 i3 i4 ⊢
 cases g with
 | zero => omega
 | succ g =>
 unfold varsE at i4
 refine Z ?_
 by_cases hp : p < s.length
 ·rw [show decide ((p : Int) < s.length) = true from decide_eq_true (by omega)]
  rw [if_pos hp] at i4
  have h1 := k'3p B s p 0 i1 hl
  unfold vR at h1
  cases hr : vE s p with
  | error e =>
   rw [hr] at i4 h1
   dsimp only at i4 h1
   rw [i4]
   refine Z ?_
   refine k'8 [0] (h1) rfl rfl rfl ?_
   cases e <;> (
   exact O)
  | ok rq =>
   obtain ⟨n, q⟩ := rq
   obtain ⟨b1, b2, b3⟩ := vE_ok hr
   rw [hr] at i4 h1
   dsimp only at i4 h1
   refine Z ?_
   refine l_cw [0] (h1) rfl rfl rfl ?_
   (try refine k'h rfl ?_)
   refine k'3 (.assignOwn (.inr rfl) rfl) rfl rfl ?_
   refine Z ?_
   refine k'3 (.buildSlice (es := [uD n]) rfl rfl rfl rfl rfl rfl (by intro x hx; simp at hx; subst hx; rfl) (by simp) (by decide) (by decide)) rfl rfl ?_
   have hm : (acc.map uD).length + [uD n].length ≤ most := by simp [most]; omega
   refine k'3 (.append' rfl rfl rfl rfl ⟨_, _, rfl, rfl, by intro q; simp⟩ rfl rfl rfl rfl rfl (by rw [show [uD n] = [n].map uD from rfl, ← List.map_append]; exact u_fits _) (by decide) rfl hm rfl) rfl rfl ?_
   refine k'3 (.assignOwn (.inl rfl) rfl) rfl rfl ?_
   refine Z ?_
   exact ⟨(q, g, acc ++ [n]), Nat.lt_succ_self g, ⟨b2, by show s.length - q < g; omega, by show (acc ++ [n]).length ≤ q; simp; omega, by rw [i4]; cases varsE s g q <;> simp⟩, ⟨rfl, by show T.own _ _ = owT _; rw [List.map_append]; rfl, rfl, trivial⟩, rfl, k'g rfl⟩
 ·rw [show decide ((p : Int) < s.length) = false from decide_eq_false (by omega)]
  rw [if_neg hp] at i4
  dsimp only at i4
  rw [List.append_nil] at i4
  rw [i4]
  refine Z ?_
  (try refine k'h rfl ?_)
  refine k'3 (.moveShare rfl rfl) rfl rfl ?_
  exact O
end Go.Proofs.YtnaojdjhjkendaaGreatDoor
/-! strings.Builder: its copy check, what it holds. -/
namespace Go.Proofs.YtnaojdjhjkendaaGreatDoor
open Go Go.Abs Go.RowKit
set_option maxHeartbeats 1000000 in
theorem copy_used (b : Nat) (w : World) (h0 : w.cell? ⟨b, 0, none⟩ = some (.pointer (some ⟨b, 0, none⟩))) :
  Calls Tryz.prog 162 #[.pointer (some ⟨b, 0, none⟩)] w fun e w' => e = .returned (.tuple #[]) ∧ w' = w := by
 obtain ⟨j, hj, -⟩ : ∃ j, Tryz.prog.info? 120 = some j ∧ True := by
  cases h : Tryz.prog.info? 120 with
  | none => exact absurd (congrArg Option.isSome h) (by rw [show (Tryz.prog.info? 120).isSome = true by kernel_rfl]; simp)
  | some j => exact ⟨j, rfl, trivial⟩
 go_enter Tryz.func162, Tryz.ntmps162
 go_wp2
 rw [Lib.run_neq_ptr_same (te := 120) w ⟨b, 0, none⟩ (by kernel_rfl) hj]
 go_wp2
 go_end0
 exact ⟨rfl, rfl⟩
set_option maxHeartbeats 1000000 in
theorem copy_fresh (b t n : Nat) (w : World) (h0 : w.cell? ⟨b, 0, none⟩ = some (.pointer none)) (hsh : w.shape? b = some (t, n)) (hn : 0 < n) (hfz : w.frozen? ⟨b, 0, none⟩ = false)
  (hlies : liesAt Tryz.prog Tryz.prog.depth t (n / Tryz.prog.cellsOf t) 0 120 1 = true) :
  Calls Tryz.prog 162 #[.pointer (some ⟨b, 0, none⟩)] w fun e w' => e = .returned (.tuple #[]) ∧ w' = w.setCell ⟨b, 0, none⟩ (.pointer (some ⟨b, 0, none⟩)) := by
 obtain ⟨j, hj, hjs⟩ : ∃ j, Tryz.prog.info? 120 = some j ∧ j.size = 2 := by
  have h0 : (Tryz.prog.info? 120).map (·.size) = some 2 := by kernel_rfl
  exact Option.map_eq_some_iff.1 h0
 go_enter Tryz.func162, Tryz.ntmps162
 go_wp2
 rw [Lib.run_to_unsafe (t := 120) w ⟨b, 0, none⟩ (by kernel_rfl) (by kernel_rfl) hj (by rw [hjs]; decide) hsh hn]
 simp only [Result.andThen]
 rw [Oper.upon_value]
 go_wp2
 rw [run_callFunc_extern Tryz.func254 (by kernel_rfl) (by kernel_rfl) (by kernel_rfl) (e := Extern.AbiNoEscape.same) (by kernel_rfl)]
 rw [Lib.run_noEscape]
 simp only [Result.andThen]
 rw [Oper.upon_value]
 go_wp2
 rw [Lib.run_from_unsafe (u := 120) w ⟨b, 0, none⟩ (by kernel_rfl) (by kernel_rfl) hj hsh hlies]
 simp only [Result.andThen]
 rw [Oper.upon_value]
 go_wp2
 go_end0
 exact ⟨rfl, rfl⟩
set_option maxHeartbeats 1000000 in
theorem string_buf (b g cap n : Nat) (l : List UInt8) (h0 : l ≠ []) (w : World) (c0 : w.cell? ⟨b, 1, none⟩ = some (.slice (some ⟨g, 0, none⟩) l.length cap)) (hsh : w.shape? g = some (5, n)) (hcell : ∀ (j : Nat) (x : UInt8), l[j]? = some x → w.cell? ⟨g, j, none⟩ = some (.int .u8 x.toNat)) (hcap : l.length ≤ cap) (hn : l.length ≤ n) (hlen : l.length ≤ 9223372036854775807) :
  Calls Tryz.prog 75 #[.pointer (some ⟨b, 0, none⟩)] w fun e w' => e = .returned (.string ⟨l.toArray⟩) ∧ w' = w.drew.freeze ⟨g, 0, none⟩ l.length := by
 have hl0 : l.length ≠ 0 := by simpa using h0
 have c1 : w.drew.cell? ⟨b, 1, none⟩ = some (.slice (some ⟨g, 0, none⟩) l.length cap) := c0
 have hSD : (Builtin.unsafeSliceData_ #[118] 234 #[.slice (some ⟨g, 0, none⟩) l.length cap]).run Tryz.prog w.drew = .ok (.pointer (some ⟨g, 0, none⟩)) w.drew :=
  Lib.run_unsafeSliceData_row _ _ _ _ _ _ (by omega)
 have hUS : (Builtin.unsafeString_ #[234, 3] 9 #[.pointer (some ⟨g, 0, none⟩), .int .i64 l.length]).run Tryz.prog w.drew = .ok (.string ⟨l.toArray⟩) (w.drew.freeze ⟨g, 0, none⟩ l.length) :=
  Lib.run_unsafeString_row w.drew 234 3 9 5 (by kernel_rfl) (by kernel_rfl) g n hsh l h0 hn (by omega) (fun j x e => by rw [k'30, Nat.zero_add]; exact hcell j x e)
 have mixed : Tryz.prog.follows .mixedOrders = true := by kernel_rfl
 go_enter Tryz.func75, Tryz.ntmps75
 go_wp2
 go_region_o
 all_goals (go_wp2; go_ret; exact ⟨rfl, rfl⟩)
set_option maxHeartbeats 1000000 in
theorem string_nil (b : Nat) (w : World) (c0 : w.cell? ⟨b, 1, none⟩ = some (.slice none 0 0)) :
  Calls Tryz.prog 75 #[.pointer (some ⟨b, 0, none⟩)] w fun e w' => e = .returned (.string ⟨#[]⟩) ∧ w' = w.drew := by
 have c1 : w.drew.cell? ⟨b, 1, none⟩ = some (.slice none 0 0) := c0
 have hSD : (Builtin.unsafeSliceData_ #[118] 234 #[.slice none 0 0]).run Tryz.prog w.drew = .ok (.pointer none) w.drew := rfl
 have hUS : ∀ W q, (Builtin.unsafeString_ #[234, 3] 9 #[.pointer q, .int .i64 0]).run Tryz.prog W = .ok (.string .empty) W := fun W q => Lib.run_unsafeString_none W _ _ _ q
 have mixed : Tryz.prog.follows .mixedOrders = true := by kernel_rfl
 go_enter Tryz.func75, Tryz.ntmps75
 go_wp2
 go_region_o
 all_goals (go_wp2; go_ret; exact ⟨rfl, rfl⟩)
variable (B : Fr)
def adOk (a : T) : Prop := a = .me ∨ a = .nw 120 2 ∨ a = .nw 122 2
theorem lies_ok {t : Nat} (h : t = 120 ∨ t = 122) : liesAt Tryz.prog Tryz.prog.depth t (2 / Tryz.prog.cellsOf t) 0 120 1 = true := by
 rcases h with rfl | rfl <;> kernel_rfl
theorem dummySR {F : Fr} {ρ : Nat → Role} {w : World} {H : List Ob} (h : WR F ρ w H) : SR 0 F ρ ⟨fun _ => .undef, H⟩ { tmps := #[], defers := [] } w :=
 ⟨h, rfl, rfl, fun _ => .undef⟩
theorem copyCheck_calls (a x : T) (ha : adOk a) : k'5 (cx B) 162 [.ptr 0 0] [.mu [a, x]] (.tup []) [.mu [.me, x]] := by
 refine ⟨⟨Tryz.f162, Tryz.func162, rfl, rfl⟩, fun F ρ w vs hwr hvs hnt hb => ?_⟩
 cases hvs with
 | cons hp hr =>
 cases hr
 obtain ⟨b, hob, rfl⟩ := hp.inv_ptr
 obtain ⟨o, ho, hr⟩ := hwr.obj b 0 hob
 simp at ho; subst ho
 obtain ⟨h1, h2, v, h3, h4⟩ := hr 0 a rfl
 have fresh : ∀ t, (t = 120 ∨ t = 122) → a = .nw t 2 → Calls (cx B).P 162 #[.pointer (some ⟨b, 0, none⟩)] w (Post F ρ w (.tup []) [.mu [.me, x]]) := by
  rintro t ht rfl
  cases h4 with
  | nw g1 g2 =>
  have := hwr.uniq _ _ _ g1 hob; subst this
  refine (copy_fresh _ t 2 w h3 g2 (by omega) h2 (lies_ok ht)).mono ?_
  rintro e w' ⟨rfl, rfl⟩
  obtain ⟨k1, k2, -, -⟩ := (dummySR hwr).store (cs := [.nw t 2, x]) (off := 0) (j := 0) (ts := [.me]) (vs := [.pointer (some ⟨_, 0, none⟩)]) hob rfl (by simp) rfl (fun k t v e1 e2 => by
   cases k with
   | zero => simp at e1 e2; subst e1; subst e2; exact .me hob
   | succ k => simp at e1)
  exact ⟨_, F, ρ, rfl, k1.wr, .tup .nil, k2, hnt⟩
 rcases ha with rfl | ha | ha
 ·have hv : v = .pointer (some ⟨b, 0, none⟩) := by
   cases h4 with
   | me g => rw [hwr.uniq _ _ _ g hob]
  subst hv
  refine (copy_used b w h3).mono ?_
  rintro e w' ⟨rfl, rfl⟩
  exact ⟨_, F, ρ, rfl, hwr, .tup .nil, Ext.refl F ρ _, hnt⟩
 ·exact fresh _ (.inl rfl) ha
 ·exact fresh _ (.inr rfl) ha
def bT (l : List UInt8) : T := bu 5 l
theorem k'2a (a : T) (l s : List UInt8) (ha : adOk a) (hm : l.length + s.length ≤ most) : k'5 (cx B) 74 [.ptr 0 0, sT s] [.mu [a, bT l]] (.tup [iT s.length, .d .nili]) [.mu [.me, bT (l ++ s)]] := by
 have hp : a.plain = true := by rcases ha with rfl | rfl | rfl <;> rfl
 have h1 := copyCheck_calls B a (bT l) ha
 rcases l with _ | ⟨c, l⟩
 ·rcases s with _ | ⟨c, s⟩ <;>
  (rcases ha with rfl | rfl | rfl <;> (
  refine l_bw Tryz.func74 1 [] ?_
  refine k'8 [0] (h1) rfl rfl rfl ?_
  refine r_nil ?_
  refine r_then ?_
  refine r_seq ?_
  (try refine k'h rfl ?_)
  refine k'd (fst := false) 4 rfl rfl rfl ?_
  refine k'3 (.loadMov (q := .own true []) rfl rfl rfl rfl rfl rfl rfl) rfl rfl ?_
  refine Z ?_
  refine k'3 (.appendBuf (ls := []) rfl rfl rfl rfl ⟨_, _, rfl, rfl, by intro q; simp⟩ rfl rfl rfl rfl rfl (by simp) rfl (by decide) hm rfl) rfl rfl ?_
  refine k'd (fst := false) 2 rfl rfl rfl ?_
  refine k'3 (.storeMov rfl rfl rfl rfl rfl rfl rfl (by decide) rfl) rfl rfl ?_
  exact O))
 ·rcases ha with rfl | rfl | rfl <;> (
  refine l_bw Tryz.func74 1 [] ?_
  refine k'8 [0] (h1) rfl rfl rfl ?_
  refine r_nil ?_
  refine r_then ?_
  refine r_seq ?_
  (try refine k'h rfl ?_)
  refine k'd (fst := false) 4 rfl rfl rfl ?_
  refine k'3 (.loadMov (q := .buf 5 (c :: l)) rfl rfl rfl rfl rfl rfl rfl) rfl rfl ?_
  refine Z ?_
  refine k'3 (.appendBuf (ls := c :: l) rfl rfl rfl rfl ⟨_, _, rfl, rfl, by intro q; simp⟩ rfl rfl rfl rfl rfl (by simp) rfl (by decide) hm rfl) rfl rfl ?_
  refine k'd (fst := false) 2 rfl rfl rfl ?_
  refine k'3 (.storeMov rfl rfl rfl rfl rfl rfl rfl (by decide) rfl) rfl rfl ?_
  exact O)
theorem freeze_other (w : World) (g n c : Nat) (h : c ≠ g) : (w.freeze ⟨g, 0, none⟩ n).heap[c]? = w.heap[c]? := by
 unfold World.freeze
 split
 ·rfl
 ·simp [Array.getElem?_modify, Ne.symm h]
theorem freeze_cell (w : World) (g n : Nat) (a : Addr) : (w.freeze ⟨g, 0, none⟩ n).cell? a = w.cell? a := by
 unfold World.freeze
 split
 ·rfl
 ·by_cases h : g = a.block
  ·subst h
   simp only [World.cell?, Array.getElem?_modify, if_pos]
   cases w.heap[a.block]? with
   | none => rfl
   | some o => cases o <;> rfl
  ·simp [World.cell?, Array.getElem?_modify, h]
theorem freeze_shape (w : World) (g n c : Nat) : (w.freeze ⟨g, 0, none⟩ n).shape? c = w.shape? c := by
 unfold World.freeze
 split
 ·rfl
 ·by_cases h : g = c
  ·subst h
   simp only [World.shape?, Array.getElem?_modify, if_pos]
   cases w.heap[g]? with
   | none => rfl
   | some o => cases o <;> rfl
  ·simp [World.shape?, Array.getElem?_modify, h]
theorem freeze_fields (w : World) (g n : Nat) : (w.freeze ⟨g, 0, none⟩ n).heap.size = w.heap.size ∧ (w.freeze ⟨g, 0, none⟩ n).os = w.os ∧ (w.freeze ⟨g, 0, none⟩ n).tape = w.tape ∧ (w.freeze ⟨g, 0, none⟩ n).output = w.output := by
 unfold World.freeze
 split <;> simp
theorem k'4l (a : T) (l : List UInt8) (ha : adOk a) (hl : l.length ≤ most) : k'5 (cx B) 75 [.ptr 0 0] [.mu [a, bT l]] (sT l) [.mu [a, .undef]] := by
 refine ⟨⟨Tryz.f75, Tryz.func75, rfl, rfl⟩, fun F ρ w vs hwr hvs hnt hb => ?_⟩
 cases hvs with
 | cons hp hr =>
 cases hr
 obtain ⟨b, hob, rfl⟩ := hp.inv_ptr
 obtain ⟨o, ho, hr⟩ := hwr.obj b 0 hob
 simp at ho; subst ho
 obtain ⟨h1, h2, v, h3, h4⟩ := hr 0 a rfl
 obtain ⟨q1, q2, u, q3, q4⟩ := hr 1 (bT l) rfl
 have post : ∀ w' : World, (∀ a, w'.cell? a = w.cell? a) → (∀ c, w'.shape? c = w.shape? c) → w'.heap.size = w.heap.size → w'.os = w.os → w'.tape = w.tape → w'.output = w.output → (∀ c, (ρ c = .free ∨ c = b) → w'.heap[c]? = w.heap[c]?) → Post F ρ w (sT l) [.mu [a, .undef]] (.returned (.string ⟨l.toArray⟩)) w' := by
  intro w' e1 e2 e3 e4 e5 e6 e7
  refine ⟨_, F, ρ, rfl, ⟨fun c off v e => by rw [e1]; exact hwr.fix c off v e, fun c e => by rw [e3]; exact hwr.lt c e, fun c i e => ?_, hwr.uniq⟩, .d (.str l), ⟨Sub.refl F, Nat.le_of_eq e3.symm, e4, e5, e6, fun c hc e => ⟨e, e7 c (.inl e), fun _ => rfl⟩, fun _ _ e => e, fun c x e => by rw [e2]; exact e⟩, hnt⟩
  obtain ⟨o, g1, g2⟩ := hwr.obj c i e
  have hi : i = 0 := by
   rcases i with _ | i
   ·rfl
   ·simp at g1
  subst hi
  have := hwr.uniq c b 0 e hob; subst this
  refine ⟨.mu [a, .undef], rfl, fun off t ht => ?_⟩
  have hfr : w'.frozen? ⟨c, off, none⟩ = w.frozen? ⟨c, off, none⟩ := k'23 (e7 c (.inr rfl))
  rcases off with _ | _ | off
  ·simp at ht; subst ht
   refine ⟨h1, by rw [hfr]; exact h2, v, by rw [e1]; exact h3, ?_⟩
   rcases ha with rfl | rfl | rfl
   ·cases h4 with | me g => exact .me g
   ·cases h4 with | nw g1 g2 => exact .nw g1 (by rw [e2]; exact g2)
   ·cases h4 with | nw g1 g2 => exact .nw g1 (by rw [e2]; exact g2)
  ·simp at ht; subst ht
   exact ⟨q1, by rw [hfr]; exact q2, u, by rw [e1]; exact q3, .undef⟩
  ·simp at ht
 rcases l with _ | ⟨c, l⟩
 ·have hu : u = .slice none 0 0 := by cases q4 with | nilo => rfl
  subst hu
  refine (string_nil b w q3).mono ?_
  rintro e w' ⟨rfl, rfl⟩
  exact post w.drew (fun _ => rfl) (fun _ => rfl) rfl rfl rfl rfl (fun _ _ => rfl)
 ·cases q4 with
  | buf h e =>
  cases h with
  | own hrg hne he hA hcap hsp =>
  rename_i vs g cap sz
  obtain ⟨b', off, n, cc, k, e1, e2⟩ := e
  injection e1 with e1 _ _
  injection e1 with e1
  injection e1 with e1 e3
  subst e1
  have hcell : ∀ (j : Nat) (x : UInt8), (c :: l)[j]? = some x → w.cell? ⟨g, j, none⟩ = some (.int .u8 x.toNat) := by
   intro j x hx
   obtain ⟨ws, k1, k2, k3⟩ := he.get (i := j) (u := byteD x) (by rw [List.getElem?_map, hx]; rfl)
   cases k1 with
   | cons k4 k5 =>
   cases k5
   have := k4.inv_int; subst this
   simp at k2; subst k2
   have := k3 0 _ rfl
   have := hA _ _ this
   simp at this
   exact hwr.fix _ _ _ this
  have hk : (c :: l).length ≤ k := by
   obtain ⟨x, hx⟩ : ∃ x, (c :: l)[l.length]? = some x := ⟨_, List.getElem?_eq_getElem (by simp)⟩
   obtain ⟨e', n', k1, k2, -⟩ := World.shape?_of_cell? (hcell l.length x hx)
   simp only at k1 k2
   rw [e2] at k1; injection k1 with k1; injection k1 with k1 k3
   subst k3; simp; omega
  have hgb : g ≠ b := by rintro rfl; rw [hob] at hrg; simp at hrg
  have hmost : (c :: l).length ≤ 9223372036854775807 := Nat.le_trans hl (by decide)
  refine (string_buf b g cap k (c :: l) (by simp) w (by simpa using q3) e2 hcell (by simpa using hcap) hk hmost).mono ?_
  rintro e w' ⟨rfl, rfl⟩
  obtain ⟨f1, f2, f3, f4⟩ := freeze_fields w.drew g (c :: l).length
  refine post _ (fun a => (freeze_cell _ _ _ a).trans rfl) (fun a => (freeze_shape _ _ _ a).trans rfl) (f1.trans rfl) (f2.trans rfl) (f3.trans rfl) (f4.trans rfl) (fun x hx => (freeze_other _ _ _ x (by
   rintro rfl
   rcases hx with hx | hx
   ·rw [hrg] at hx; simp at hx
   ·exact hgb hx)).trans rfl)
end Go.Proofs.YtnaojdjhjkendaaGreatDoor
/-! Tables; numbers unfolded. -/
namespace Go.Proofs.YtnaojdjhjkendaaGreatDoor
open Go Go.Abs
variable (B : Fr)
def tbB (n k : Nat) : Bool := decide (n = 2 ∧ k = 2 ∨ (n = 1 ∨ n = 2) ∧ k = 0)
theorem takesBuckets_calls (n k : Nat) : k'5 (cx B) 262 [iT n, iT k] [] (.d (.bool (tbB n k))) [] := by
 refine l_bw Tryz.func262 0 [] ?_
 cases h2 : ((n : Int) == 2)
 rotate_left
 ·have e2 : n = 2 := by have := eq_of_beq h2; omega
  subst e2
  refine Z ?_
  refine k'1q rfl (fun h => ?_) (fun h => ?_)
  ·have ek : k = 2 := by have := eq_of_beq h; omega
   subst ek
   exact O
  ·have ek : k ≠ 2 := by have := ne_of_beq_false h; omega
   refine Z ?_
   rw [show tbB 2 k = ((k : Int) == 0) by unfold tbB; by_cases hk : k = 0 <;> simp [hk, ek]]
   exact k'j rfl
 have e2 : n ≠ 2 := by have := ne_of_beq_false h2; omega
 refine Z ?_
 cases h1 : ((n : Int) == 1)
 rotate_left
 ·have e1 : n = 1 := by have := eq_of_beq h1; omega
  subst e1
  refine Z ?_
  rw [show tbB 1 k = ((k : Int) == 0) by unfold tbB; by_cases hk : k = 0 <;> simp [hk]]
  exact k'j rfl
 have e1 : n ≠ 1 := by have := ne_of_beq_false h1; omega
 refine Z ?_
 rw [show tbB n k = false by unfold tbB; simp [e1, e2]]
 exact k'j rfl
end Go.Proofs.YtnaojdjhjkendaaGreatDoor
/-! msg.Reader: the last record of a number. -/
namespace Go.Proofs.YtnaojdjhjkendaaGreatDoor
open Go Go.Abs
variable (B : Fr)
def rO (e : Option Er) (u : List UInt8) (d n : Int) (l : List Fld) : Ob := .mu [.d (eD e), sT u, .d (.int .i64 d), .d (.int .i64 n), .d (slD (l.map Fld.d))]
def noFld : Fld := ⟨0, 0, 0, [], []⟩
def k'a : List Fld → Nat → Fld
 | [], _ => noFld
 | r :: l, num => if l.any (fun x => x.num == num) then k'a l num else if r.num = num then r else noFld
theorem k'0 (num : Nat) (x : Fld) : ∀ (l : List Fld), k'a (l ++ [x]) num = if x.num = num then x else k'a l num
 | [] => by simp [k'a]
 | r :: l => by
  simp only [List.cons_append, k'a, k'0 num x l, List.any_append, List.any_cons, List.any_nil, Bool.or_false]
  by_cases h : x.num = num <;> simp [h]
theorem k'3v (e : Option Er) (u : List UInt8) (d n : Int) (l : List Fld) (num : Nat) (hl : l.length ≤ most) : k'5 (cx B) 92 [.ptr 0 0, iT num] [rO e u d n l] (.d (k'a l num).d) [rO e u d n l] := by
 unfold most at hl
 refine l_bw Tryz.func92 1 [] ?_
 have hlen : (l.map Fld.d).length = l.length := by simp
 rw [hlen, show IntKind.i64.wrap ((l.length : Int) - 1) = (l.length : Int) - 1 from k'1b (by omega) (by omega)]
 refine k'y (fun i : Nat => i) (fun i => [(0, .ptr 0 0), (1, iT num), (4, .ptr 1 0), (5, .d (.int .i64 ((i : Int) - 1)))]) (fun _ => [rO e u d n l, .mu [iT 0, iT 0, uT 0, sT [], sT []]]) (fun i => i ≤ l.length ∧ k'a l num = k'a (l.take i) num) l.length ⟨by omega, by simp⟩ ⟨rfl, rfl, rfl, rfl, trivial⟩ rfl 2 rfl (fun _ => rfl) (fun _ => rfl) (fun _ => rfl) ?_
 rintro i ⟨i1, i2⟩
 cases i with
 | zero =>
  refine Z ?_
  rw [i2]
  exact k'j rfl
 | succ i =>
  rw [show (((i + 1 : Nat) : Int) - 1) = (i : Int) by omega]
  have hlt : i < l.length := by omega
  obtain ⟨x, hx⟩ : ∃ x, l[i]? = some x := ⟨_, List.getElem?_eq_getElem hlt⟩
  have hdx : (l.map Fld.d)[i]? = some x.d := by rw [List.getElem?_map, hx]; rfl
  have hst : k'a l num = if x.num = num then x else k'a (l.take i) num := by
   rw [i2, List.take_add_one, hx, Option.toList_some, k'0]
  refine Z ?_
  rw [show decide ((i : Int) ≥ 0) = true from decide_eq_true (by omega)]
  refine Z ?_
  refine k'3 (.indexAddr (k := .i64) (n := i) (es := l.map Fld.d) (u := x.d) rfl rfl rfl rfl (.inl ⟨_, rfl⟩) rfl (by omega) (by simpa using hdx) rfl (by decide)) rfl rfl ?_
  refine Z ?_
  refine k'1q rfl (fun hc => ?_) (fun hc => ?_)
  ·have hxn : x.num = num := by have := eq_of_beq hc; omega
   rw [if_pos hxn] at hst
   rw [hst]
   refine Z ?_
   refine k'3 (.indexAddr (k := .i64) (n := i) (es := l.map Fld.d) (u := x.d) rfl rfl rfl rfl (.inl ⟨_, rfl⟩) rfl (by omega) (by simpa using hdx) rfl (by decide)) rfl rfl ?_
   exact O
  ·have hxn : x.num ≠ num := by have := ne_of_beq_false hc; omega
   rw [if_neg hxn] at hst
   refine Z ?_
   rw [show IntKind.i64.wrap ((i : Int) - 1) = (i : Int) - 1 from k'1b (by omega) (by omega)]
   exact ⟨i, Nat.lt_succ_self i, ⟨by omega, hst⟩, ⟨rfl, rfl, rfl, rfl, trivial⟩, rfl, k'g rfl⟩
theorem k'e (e : Option Er) (u : List UInt8) (d n : Int) (l : List Fld) (num : Nat) (hl : l.length ≤ most) : k'5 (cx B) 81 [.ptr 0 0, iT num] [rO e u d n l] (uT (k'a l num).n) [rO e u d n l] := by
 refine l_bw Tryz.func81 1 [] ?_
 refine k'8 [0] (k'3v B e u d n l num hl) rfl rfl rfl ?_
 exact O
end Go.Proofs.YtnaojdjhjkendaaGreatDoor
/-! msg.Rest: may these be a message's other records? -/
namespace Go.Proofs.YtnaojdjhjkendaaGreatDoor
open Go Go.Abs
variable (B : Fr)
def TblC (f : Nat) (cap : List D) (tb : Nat → Nat → Bool) : Prop := ∀ n k : Nat, k'5 (cx B) f ([iT n, iT k] ++ cap.map .d) [] (.d (.bool (tb n k))) []
def Tbl (f : Nat) (tb : Nat → Nat → Bool) : Prop := ∀ n k : Nat, k'5 (cx B) f [iT n, iT k] [] (.d (.bool (tb n k))) []
def restB (tb : Nat → Nat → Bool) (s : List UInt8) (d : Int) : Bool :=
 match all s d with
 | .ok l => !(l.any fun r => tb r.num r.kind)
 | .error _ => false
theorem allE_len {s : List UInt8} {d : Int} : ∀ {f p : Nat} {l : List Fld}, allE s d f p = .ok l → l.length ≤ s.length - p
 | 0, p, l, h => by simp [allE] at h; subst h; simp
 | f + 1, p, l, h => by
  unfold allE at h
  split at h
  ·split at h <;> (try (simp at h; done))
   rename_i e
   obtain ⟨a, b, -⟩ := k'3s e
   split at h <;> (try (simp at h; done))
   rename_i e2
   injection h with h; subst h
   have := allE_len e2
   simp; omega
  ·injection h with h; subst h; simp
theorem all_len {s : List UInt8} {d : Int} {l : List Fld} (h : all s d = .ok l) : l.length ≤ s.length := by
 have := allE_len h; omega
end Go.Proofs.YtnaojdjhjkendaaGreatDoor
/-! msg.Writer: raw bytes, what was written. -/
namespace Go.Proofs.YtnaojdjhjkendaaGreatDoor
open Go Go.Abs
variable (B : Fr)
end Go.Proofs.YtnaojdjhjkendaaGreatDoor
/-! varint.Put. -/
namespace Go.Proofs.YtnaojdjhjkendaaGreatDoor
open Go Go.Abs
variable (B : Fr)
def vput : Nat → Nat → List UInt8
 | 0, n => [UInt8.ofNat n]
 | f + 1, n => if n < 128 then [UInt8.ofNat n] else UInt8.ofNat (n % 128 + 128) :: vput f (n / 128)
def putV (n : Nat) : List UInt8 := vput 9 n
theorem byte_of {n : Nat} (h : n < 256) : (UInt8.ofNat n).toNat = n := by simp; omega
theorem vput_len : ∀ (f n : Nat), (vput f n).length ≤ f + 1
 | 0, n => by simp [vput]
 | f + 1, n => by
  unfold vput
  split
  ·simp
  ·have := vput_len f (n / 128); simp; omega
end Go.Proofs.YtnaojdjhjkendaaGreatDoor
/-! Tags and records, written. -/
namespace Go.Proofs.YtnaojdjhjkendaaGreatDoor
open Go Go.Abs
variable (B : Fr)
def tagV (n k : Nat) : List UInt8 := putV (8 * n + k)
theorem putV_len (n : Nat) : (putV n).length ≤ 10 := vput_len 9 n
theorem tagV_len (n k : Nat) : (tagV n k).length ≤ 10 := putV_len _
