/- Numbers, one behind the other. And more. -/
import Derived.Test.YtcfkbpddmdfbaaaGreatDoorXG0
import Derived.Lib.Builder
import Derived.Lib.UnsafeStr
import Derived.WalkKit
import Derived.Shelf.RegionOpenPlain
import Derived.Laws.Externs
import Derived.Laws.LoneSync
set_option linter.unusedSimpArgs false
set_option linter.unusedVariables false
set_option maxRecDepth 100000
/-! Numbers, one behind the other. -/
namespace Go.Proofs.YtcfkbpddmdfbaaaGreatDoor
open Go Go.Abs
variable (B : Fr)
def uD (n : Nat) : D := .int .u64 n
def varsE (s : List UInt8) : Nat → Nat → Except Er (List Nat)
 | 0, _ => .ok []
 | f + 1, p => if p < s.length then (match vE s p with
   | .error e => .error e
   | .ok (n, q) => match varsE s f q with
    | .error e => .error e
    | .ok l => .ok (n :: l)) else .ok []
def vars (s : List UInt8) : Except Er (List Nat) := varsE s (s.length + 1) 0
end Go.Proofs.YtcfkbpddmdfbaaaGreatDoor
/-! strings.Builder: its copy check, what it holds. -/
namespace Go.Proofs.YtcfkbpddmdfbaaaGreatDoor
open Go Go.Abs Go.RowKit
set_option maxHeartbeats 1000000 in
theorem copy_used (b : Nat) (w : World) (h0 : w.cell? ⟨b, 0, none⟩ = some (.pointer (some ⟨b, 0, none⟩))) :
  Calls Tryz.prog 131 #[.pointer (some ⟨b, 0, none⟩)] w fun e w' => e = .returned (.tuple #[]) ∧ w' = w := by
 obtain ⟨j, hj, -⟩ : ∃ j, Tryz.prog.info? 69 = some j ∧ True := by
  cases h : Tryz.prog.info? 69 with
  | none => exact absurd (congrArg Option.isSome h) (by rw [show (Tryz.prog.info? 69).isSome = true by kernel_rfl]; simp)
  | some j => exact ⟨j, rfl, trivial⟩
 go_enter Tryz.func131, Tryz.ntmps131
 go_wp2
 rw [Lib.run_neq_ptr_same (te := 69) w ⟨b, 0, none⟩ (by kernel_rfl) hj]
 go_wp2
 go_end0
 exact ⟨rfl, rfl⟩
set_option maxHeartbeats 1000000 in
theorem copy_fresh (b t n : Nat) (w : World) (h0 : w.cell? ⟨b, 0, none⟩ = some (.pointer none)) (hsh : w.shape? b = some (t, n)) (hn : 0 < n) (hfz : w.frozen? ⟨b, 0, none⟩ = false)
  (hlies : liesAt Tryz.prog Tryz.prog.depth t (n / Tryz.prog.cellsOf t) 0 69 1 = true) :
  Calls Tryz.prog 131 #[.pointer (some ⟨b, 0, none⟩)] w fun e w' => e = .returned (.tuple #[]) ∧ w' = w.setCell ⟨b, 0, none⟩ (.pointer (some ⟨b, 0, none⟩)) := by
 obtain ⟨j, hj, hjs⟩ : ∃ j, Tryz.prog.info? 69 = some j ∧ j.size = 2 := by
  have h0 : (Tryz.prog.info? 69).map (·.size) = some 2 := by kernel_rfl
  exact Option.map_eq_some_iff.1 h0
 go_enter Tryz.func131, Tryz.ntmps131
 go_wp2
 rw [Lib.run_to_unsafe (t := 69) w ⟨b, 0, none⟩ (by kernel_rfl) (by kernel_rfl) hj (by rw [hjs]; decide) hsh hn]
 simp only [Result.andThen]
 rw [Oper.upon_value]
 go_wp2
 rw [run_callFunc_extern Tryz.func185 (by kernel_rfl) (by kernel_rfl) (by kernel_rfl) (e := Extern.AbiNoEscape.same) (by kernel_rfl)]
 rw [Lib.run_noEscape]
 simp only [Result.andThen]
 rw [Oper.upon_value]
 go_wp2
 rw [Lib.run_from_unsafe (u := 69) w ⟨b, 0, none⟩ (by kernel_rfl) (by kernel_rfl) hj hsh hlies]
 simp only [Result.andThen]
 rw [Oper.upon_value]
 go_wp2
 go_end0
 exact ⟨rfl, rfl⟩
set_option maxHeartbeats 1000000 in
theorem string_buf (b g cap n : Nat) (l : List UInt8) (h0 : l ≠ []) (w : World) (c0 : w.cell? ⟨b, 1, none⟩ = some (.slice (some ⟨g, 0, none⟩) l.length cap)) (hsh : w.shape? g = some (5, n)) (hcell : ∀ (j : Nat) (x : UInt8), l[j]? = some x → w.cell? ⟨g, j, none⟩ = some (.int .u8 x.toNat)) (hcap : l.length ≤ cap) (hn : l.length ≤ n) (hlen : l.length ≤ 9223372036854775807) :
  Calls Tryz.prog 83 #[.pointer (some ⟨b, 0, none⟩)] w fun e w' => e = .returned (.string ⟨l.toArray⟩) ∧ w' = w.drew.freeze ⟨g, 0, none⟩ l.length := by
 have hl0 : l.length ≠ 0 := by simpa using h0
 have c1 : w.drew.cell? ⟨b, 1, none⟩ = some (.slice (some ⟨g, 0, none⟩) l.length cap) := c0
 have hSD : (Builtin.unsafeSliceData_ #[54] 203 #[.slice (some ⟨g, 0, none⟩) l.length cap]).run Tryz.prog w.drew = .ok (.pointer (some ⟨g, 0, none⟩)) w.drew :=
  Lib.run_unsafeSliceData_row _ _ _ _ _ _ (by omega)
 have hUS : (Builtin.unsafeString_ #[203, 3] 9 #[.pointer (some ⟨g, 0, none⟩), .int .i64 l.length]).run Tryz.prog w.drew = .ok (.string ⟨l.toArray⟩) (w.drew.freeze ⟨g, 0, none⟩ l.length) :=
  Lib.run_unsafeString_row w.drew 203 3 9 5 (by kernel_rfl) (by kernel_rfl) g n hsh l h0 hn (by omega) (fun j x e => by rw [k'28, Nat.zero_add]; exact hcell j x e)
 have mixed : Tryz.prog.follows .mixedOrders = true := by kernel_rfl
 go_enter Tryz.func83, Tryz.ntmps83
 go_wp2
 go_region_o
 all_goals (go_wp2; go_ret; exact ⟨rfl, rfl⟩)
set_option maxHeartbeats 1000000 in
theorem string_nil (b : Nat) (w : World) (c0 : w.cell? ⟨b, 1, none⟩ = some (.slice none 0 0)) :
  Calls Tryz.prog 83 #[.pointer (some ⟨b, 0, none⟩)] w fun e w' => e = .returned (.string ⟨#[]⟩) ∧ w' = w.drew := by
 have c1 : w.drew.cell? ⟨b, 1, none⟩ = some (.slice none 0 0) := c0
 have hSD : (Builtin.unsafeSliceData_ #[54] 203 #[.slice none 0 0]).run Tryz.prog w.drew = .ok (.pointer none) w.drew := rfl
 have hUS : ∀ W q, (Builtin.unsafeString_ #[203, 3] 9 #[.pointer q, .int .i64 0]).run Tryz.prog W = .ok (.string .empty) W := fun W q => Lib.run_unsafeString_none W _ _ _ q
 have mixed : Tryz.prog.follows .mixedOrders = true := by kernel_rfl
 go_enter Tryz.func83, Tryz.ntmps83
 go_wp2
 go_region_o
 all_goals (go_wp2; go_ret; exact ⟨rfl, rfl⟩)
variable (B : Fr)
def adOk (a : T) : Prop := a = .me ∨ a = .nw 69 2 ∨ a = .nw 71 2
theorem lies_ok {t : Nat} (h : t = 69 ∨ t = 71) : liesAt Tryz.prog Tryz.prog.depth t (2 / Tryz.prog.cellsOf t) 0 69 1 = true := by
 rcases h with rfl | rfl <;> kernel_rfl
theorem dummySR {F : Fr} {ρ : Nat → Role} {w : World} {H : List Ob} (h : WR F ρ w H) : SR 0 F ρ ⟨fun _ => .undef, H⟩ { tmps := #[], defers := [] } w :=
 ⟨h, rfl, rfl, fun _ => .undef⟩
theorem copyCheck_calls (a x : T) (ha : adOk a) : k'0 (cx B) 131 [.ptr 0 0] [.mu [a, x]] (.tup []) [.mu [.me, x]] := by
 refine ⟨⟨Tryz.f131, Tryz.func131, rfl, rfl⟩, fun F ρ w vs hwr hvs hnt hb => ?_⟩
 cases hvs with
 | cons hp hr =>
 cases hr
 obtain ⟨b, hob, rfl⟩ := hp.inv_ptr
 obtain ⟨o, ho, hr⟩ := hwr.obj b 0 hob
 simp at ho; subst ho
 obtain ⟨h1, h2, v, h3, h4⟩ := hr 0 a rfl
 have fresh : ∀ t, (t = 69 ∨ t = 71) → a = .nw t 2 → Calls (cx B).P 131 #[.pointer (some ⟨b, 0, none⟩)] w (Post F ρ w (.tup []) [.mu [.me, x]]) := by
  rintro t ht rfl
  cases h4 with
  | nw g1 g2 =>
  have := hwr.uniq _ _ _ g1 hob; subst this
  refine (copy_fresh _ t 2 w h3 g2 (by omega) h2 (lies_ok ht)).mono ?_
  rintro e w' ⟨rfl, rfl⟩
  obtain ⟨k1, k2, -, -⟩ := (dummySR hwr).store (cs := [.nw t 2, x]) (off := 0) (j := 0) (ts := [.me]) (vs := [.pointer (some ⟨_, 0, none⟩)]) hob rfl (by simp) rfl (fun k t v e1 e2 => by
   cases k with
   | zero => simp at e1 e2; subst e1; subst e2; exact .me hob
   | succ k => simp at e1)
  exact ⟨_, F, ρ, rfl, k1.wr, .tup .nil, k2, hnt⟩
 rcases ha with rfl | ha | ha
 ·have hv : v = .pointer (some ⟨b, 0, none⟩) := by
   cases h4 with
   | me g => rw [hwr.uniq _ _ _ g hob]
  subst hv
  refine (copy_used b w h3).mono ?_
  rintro e w' ⟨rfl, rfl⟩
  exact ⟨_, F, ρ, rfl, hwr, .tup .nil, Ext.refl F ρ _, hnt⟩
 ·exact fresh _ (.inl rfl) ha
 ·exact fresh _ (.inr rfl) ha
def bT (l : List UInt8) : T := bu 5 l
theorem k'1x (a : T) (l s : List UInt8) (ha : adOk a) (hm : l.length + s.length ≤ most) : k'0 (cx B) 81 [.ptr 0 0, sT s] [.mu [a, bT l]] (.tup [iT s.length, .d .nili]) [.mu [.me, bT (l ++ s)]] := by
 have hp : a.plain = true := by rcases ha with rfl | rfl | rfl <;> rfl
 have h1 := copyCheck_calls B a (bT l) ha
 rcases l with _ | ⟨c, l⟩
 ·rcases s with _ | ⟨c, s⟩ <;>
  (rcases ha with rfl | rfl | rfl <;> (
  refine l_bw Tryz.func81 1 [] ?_
  refine k'2 [0] (h1) rfl rfl rfl ?_
  refine r_nil ?_
  refine r_then ?_
  refine r_seq ?_
  (try refine k'1t rfl ?_)
  refine l_part (fst := false) 4 rfl rfl rfl ?_
  refine k'1 (.loadMov (q := .own true []) rfl rfl rfl rfl rfl rfl rfl) rfl rfl ?_
  refine Y ?_
  refine k'1 (.appendBuf (ls := []) rfl rfl rfl rfl ⟨_, _, rfl, rfl, by intro q; simp⟩ rfl rfl rfl rfl rfl (by simp) rfl (by decide) hm rfl) rfl rfl ?_
  refine l_part (fst := false) 2 rfl rfl rfl ?_
  refine k'1 (.storeMov rfl rfl rfl rfl rfl rfl rfl (by decide) rfl) rfl rfl ?_
  exact Z))
 ·rcases ha with rfl | rfl | rfl <;> (
  refine l_bw Tryz.func81 1 [] ?_
  refine k'2 [0] (h1) rfl rfl rfl ?_
  refine r_nil ?_
  refine r_then ?_
  refine r_seq ?_
  (try refine k'1t rfl ?_)
  refine l_part (fst := false) 4 rfl rfl rfl ?_
  refine k'1 (.loadMov (q := .buf 5 (c :: l)) rfl rfl rfl rfl rfl rfl rfl) rfl rfl ?_
  refine Y ?_
  refine k'1 (.appendBuf (ls := c :: l) rfl rfl rfl rfl ⟨_, _, rfl, rfl, by intro q; simp⟩ rfl rfl rfl rfl rfl (by simp) rfl (by decide) hm rfl) rfl rfl ?_
  refine l_part (fst := false) 2 rfl rfl rfl ?_
  refine k'1 (.storeMov rfl rfl rfl rfl rfl rfl rfl (by decide) rfl) rfl rfl ?_
  exact Z)
theorem freeze_other (w : World) (g n c : Nat) (h : c ≠ g) : (w.freeze ⟨g, 0, none⟩ n).heap[c]? = w.heap[c]? := by
 unfold World.freeze
 split
 ·rfl
 ·simp [Array.getElem?_modify, Ne.symm h]
theorem freeze_cell (w : World) (g n : Nat) (a : Addr) : (w.freeze ⟨g, 0, none⟩ n).cell? a = w.cell? a := by
 unfold World.freeze
 split
 ·rfl
 ·by_cases h : g = a.block
  ·subst h
   simp only [World.cell?, Array.getElem?_modify, if_pos]
   cases w.heap[a.block]? with
   | none => rfl
   | some o => cases o <;> rfl
  ·simp [World.cell?, Array.getElem?_modify, h]
theorem freeze_shape (w : World) (g n c : Nat) : (w.freeze ⟨g, 0, none⟩ n).shape? c = w.shape? c := by
 unfold World.freeze
 split
 ·rfl
 ·by_cases h : g = c
  ·subst h
   simp only [World.shape?, Array.getElem?_modify, if_pos]
   cases w.heap[g]? with
   | none => rfl
   | some o => cases o <;> rfl
  ·simp [World.shape?, Array.getElem?_modify, h]
theorem freeze_fields (w : World) (g n : Nat) : (w.freeze ⟨g, 0, none⟩ n).heap.size = w.heap.size ∧ (w.freeze ⟨g, 0, none⟩ n).os = w.os ∧ (w.freeze ⟨g, 0, none⟩ n).tape = w.tape ∧ (w.freeze ⟨g, 0, none⟩ n).output = w.output := by
 unfold World.freeze
 split <;> simp
theorem k'2v (a : T) (l : List UInt8) (ha : adOk a) (hl : l.length ≤ most) : k'0 (cx B) 83 [.ptr 0 0] [.mu [a, bT l]] (sT l) [.mu [a, .undef]] := by
 refine ⟨⟨Tryz.f83, Tryz.func83, rfl, rfl⟩, fun F ρ w vs hwr hvs hnt hb => ?_⟩
 cases hvs with
 | cons hp hr =>
 cases hr
 obtain ⟨b, hob, rfl⟩ := hp.inv_ptr
 obtain ⟨o, ho, hr⟩ := hwr.obj b 0 hob
 simp at ho; subst ho
 obtain ⟨h1, h2, v, h3, h4⟩ := hr 0 a rfl
 obtain ⟨q1, q2, u, q3, q4⟩ := hr 1 (bT l) rfl
 have post : ∀ w' : World, (∀ a, w'.cell? a = w.cell? a) → (∀ c, w'.shape? c = w.shape? c) → w'.heap.size = w.heap.size → w'.os = w.os → w'.tape = w.tape → w'.output = w.output → (∀ c, (ρ c = .free ∨ c = b) → w'.heap[c]? = w.heap[c]?) → Post F ρ w (sT l) [.mu [a, .undef]] (.returned (.string ⟨l.toArray⟩)) w' := by
  intro w' e1 e2 e3 e4 e5 e6 e7
  refine ⟨_, F, ρ, rfl, ⟨fun c off v e => by rw [e1]; exact hwr.fix c off v e, fun c e => by rw [e3]; exact hwr.lt c e, fun c i e => ?_, hwr.uniq⟩, .d (.str l), ⟨Sub.refl F, Nat.le_of_eq e3.symm, e4, e5, e6, fun c hc e => ⟨e, e7 c (.inl e), fun _ => rfl⟩, fun _ _ e => e, fun c x e => by rw [e2]; exact e⟩, hnt⟩
  obtain ⟨o, g1, g2⟩ := hwr.obj c i e
  have hi : i = 0 := by
   rcases i with _ | i
   ·rfl
   ·simp at g1
  subst hi
  have := hwr.uniq c b 0 e hob; subst this
  refine ⟨.mu [a, .undef], rfl, fun off t ht => ?_⟩
  have hfr : w'.frozen? ⟨c, off, none⟩ = w.frozen? ⟨c, off, none⟩ := k'34 (e7 c (.inr rfl))
  rcases off with _ | _ | off
  ·simp at ht; subst ht
   refine ⟨h1, by rw [hfr]; exact h2, v, by rw [e1]; exact h3, ?_⟩
   rcases ha with rfl | rfl | rfl
   ·cases h4 with | me g => exact .me g
   ·cases h4 with | nw g1 g2 => exact .nw g1 (by rw [e2]; exact g2)
   ·cases h4 with | nw g1 g2 => exact .nw g1 (by rw [e2]; exact g2)
  ·simp at ht; subst ht
   exact ⟨q1, by rw [hfr]; exact q2, u, by rw [e1]; exact q3, .undef⟩
  ·simp at ht
 rcases l with _ | ⟨c, l⟩
 ·have hu : u = .slice none 0 0 := by cases q4 with | nilo => rfl
  subst hu
  refine (string_nil b w q3).mono ?_
  rintro e w' ⟨rfl, rfl⟩
  exact post w.drew (fun _ => rfl) (fun _ => rfl) rfl rfl rfl rfl (fun _ _ => rfl)
 ·cases q4 with
  | buf h e =>
  cases h with
  | own hrg hne he hA hcap hsp =>
  rename_i vs g cap sz
  obtain ⟨b', off, n, cc, k, e1, e2⟩ := e
  injection e1 with e1 _ _
  injection e1 with e1
  injection e1 with e1 e3
  subst e1
  have hcell : ∀ (j : Nat) (x : UInt8), (c :: l)[j]? = some x → w.cell? ⟨g, j, none⟩ = some (.int .u8 x.toNat) := by
   intro j x hx
   obtain ⟨ws, k1, k2, k3⟩ := he.get (i := j) (u := k'27 x) (by rw [List.getElem?_map, hx]; rfl)
   cases k1 with
   | cons k4 k5 =>
   cases k5
   have := k4.inv_int; subst this
   simp at k2; subst k2
   have := k3 0 _ rfl
   have := hA _ _ this
   simp at this
   exact hwr.fix _ _ _ this
  have hk : (c :: l).length ≤ k := by
   obtain ⟨x, hx⟩ : ∃ x, (c :: l)[l.length]? = some x := ⟨_, List.getElem?_eq_getElem (by simp)⟩
   obtain ⟨e', n', k1, k2, -⟩ := World.shape?_of_cell? (hcell l.length x hx)
   simp only at k1 k2
   rw [e2] at k1; injection k1 with k1; injection k1 with k1 k3
   subst k3; simp; omega
  have hgb : g ≠ b := by rintro rfl; rw [hob] at hrg; simp at hrg
  have hmost : (c :: l).length ≤ 9223372036854775807 := Nat.le_trans hl (by decide)
  refine (string_buf b g cap k (c :: l) (by simp) w (by simpa using q3) e2 hcell (by simpa using hcap) hk hmost).mono ?_
  rintro e w' ⟨rfl, rfl⟩
  obtain ⟨f1, f2, f3, f4⟩ := freeze_fields w.drew g (c :: l).length
  refine post _ (fun a => (freeze_cell _ _ _ a).trans rfl) (fun a => (freeze_shape _ _ _ a).trans rfl) (f1.trans rfl) (f2.trans rfl) (f3.trans rfl) (f4.trans rfl) (fun x hx => (freeze_other _ _ _ x (by
   rintro rfl
   rcases hx with hx | hx
   ·rw [hrg] at hx; simp at hx
   ·exact hgb hx)).trans rfl)
end Go.Proofs.YtcfkbpddmdfbaaaGreatDoor
/-! Tables; numbers unfolded. -/
namespace Go.Proofs.YtcfkbpddmdfbaaaGreatDoor
open Go Go.Abs
variable (B : Fr)
def tbB (n k : Nat) : Bool := decide (n = 2 ∧ k = 2 ∨ (n = 1 ∨ n = 2) ∧ k = 0)
theorem takesBuckets_calls (n k : Nat) : k'0 (cx B) 430 [iT n, iT k] [] (.d (.bool (tbB n k))) [] := by
 refine l_bw Tryz.func430 0 [] ?_
 cases h2 : ((n : Int) == 2)
 rotate_left
 ·have e2 : n = 2 := by have := eq_of_beq h2; omega
  subst e2
  refine Y ?_
  refine k'13 rfl (fun h => ?_) (fun h => ?_)
  ·have ek : k = 2 := by have := eq_of_beq h; omega
   subst ek
   exact Z
  ·have ek : k ≠ 2 := by have := ne_of_beq_false h; omega
   refine Y ?_
   rw [show tbB 2 k = ((k : Int) == 0) by unfold tbB; by_cases hk : k = 0 <;> simp [hk, ek]]
   exact k'i rfl
 have e2 : n ≠ 2 := by have := ne_of_beq_false h2; omega
 refine Y ?_
 cases h1 : ((n : Int) == 1)
 rotate_left
 ·have e1 : n = 1 := by have := eq_of_beq h1; omega
  subst e1
  refine Y ?_
  rw [show tbB 1 k = ((k : Int) == 0) by unfold tbB; by_cases hk : k = 0 <;> simp [hk]]
  exact k'i rfl
 have e1 : n ≠ 1 := by have := ne_of_beq_false h1; omega
 refine Y ?_
 rw [show tbB n k = false by unfold tbB; simp [e1, e2]]
 exact k'i rfl
end Go.Proofs.YtcfkbpddmdfbaaaGreatDoor
/-! msg.Reader: the last record of a number. -/
namespace Go.Proofs.YtcfkbpddmdfbaaaGreatDoor
open Go Go.Abs
variable (B : Fr)
def noFld : Fld := ⟨0, 0, 0, [], []⟩
def k'19 : List Fld → Nat → Fld
 | [], _ => noFld
 | r :: l, num => if l.any (fun x => x.num == num) then k'19 l num else if r.num = num then r else noFld
end Go.Proofs.YtcfkbpddmdfbaaaGreatDoor
/-! msg.Rest: may these be a message's other records? -/
namespace Go.Proofs.YtcfkbpddmdfbaaaGreatDoor
open Go Go.Abs
variable (B : Fr)
def TblC (f : Nat) (cap : List D) (tb : Nat → Nat → Bool) : Prop := ∀ n k : Nat, k'0 (cx B) f ([iT n, iT k] ++ cap.map .d) [] (.d (.bool (tb n k))) []
def Tbl (f : Nat) (tb : Nat → Nat → Bool) : Prop := ∀ n k : Nat, k'0 (cx B) f [iT n, iT k] [] (.d (.bool (tb n k))) []
def k'1a (tb : Nat → Nat → Bool) (s : List UInt8) (d : Int) : Bool :=
 match all s d with
 | .ok l => !(l.any fun r => tb r.num r.kind)
 | .error _ => false
theorem allE_len {s : List UInt8} {d : Int} : ∀ {f p : Nat} {l : List Fld}, allE s d f p = .ok l → l.length ≤ s.length - p
 | 0, p, l, h => by simp [allE] at h; subst h; simp
 | f + 1, p, l, h => by
  unfold allE at h
  split at h
  ·split at h <;> (try (simp at h; done))
   rename_i e
   obtain ⟨a, b, -⟩ := k'4d e
   split at h <;> (try (simp at h; done))
   rename_i e2
   injection h with h; subst h
   have := allE_len e2
   simp; omega
  ·injection h with h; subst h; simp
theorem all_len {s : List UInt8} {d : Int} {l : List Fld} (h : all s d = .ok l) : l.length ≤ s.length := by
 have := allE_len h; omega
theorem Rest_cap (f : Nat) (cap : List D) (tb : Nat → Nat → Bool) (ht : TblC B f cap tb) (s : List UInt8) (d : Int) (hl : s.length < big) (hd1 : -9223372036854775808 ≤ d) (hd2 : d < 9223372036854775808) : k'0 (cx B) 47 [sT s, .d (.int .i64 d), .d (.fn f cap)] [] (.d (.bool (k'1a tb s d))) [] := by
 have h1 := all_calls B s d hl hd1 hd2
 have hl' := hl
 unfold big at hl'
 unfold k'1a
 cases ha : all s d with
 | error e =>
  rw [ha] at h1
  dsimp only
  refine l_bw Tryz.func47 0 [] ?_
  refine l_cw [] (h1) rfl rfl rfl ?_
  refine k'8 (fun _ : Unit => 0) (fun _ => [(8, .d e.d), (18, iT 0), (19, iT 0)]) (fun _ => []) (fun _ => True) () trivial ⟨rfl, rfl, rfl, trivial⟩ rfl 0 rfl (fun _ => rfl) (fun _ => rfl) (fun _ => rfl) ?_
  intro _ _
  cases e <;> (
  exact Z)
 | ok l =>
  have hll := all_len ha
  rw [ha] at h1
  dsimp only
  refine l_bw Tryz.func47 0 [] ?_
  refine l_cw [] (h1) rfl rfl rfl ?_
  have hlen : (l.map Fld.d).length = l.length := by simp
  rw [hlen]
  refine k'8 (fun i : Nat => l.length - i) (fun i => [(2, .d (.fn f cap)), (8, .d .nili), (17, .d (slD (l.map Fld.d))), (18, iT l.length), (19, iT i)]) (fun _ => []) (fun i => i ≤ l.length ∧ (l.take i).any (fun r => tb r.num r.kind) = false) 0 ⟨by omega, by simp⟩ ⟨rfl, rfl, rfl, rfl, rfl, trivial⟩ rfl 0 rfl (fun _ => rfl) (fun _ => rfl) (fun _ => rfl) ?_
  rintro i ⟨i1, i2⟩
  refine Y ?_
  refine k'13 rfl (fun hc => ?_) (fun hc => ?_)
  ·have hlt : i < l.length := by have := of_decide_eq_true hc; omega
   obtain ⟨x, hx⟩ : ∃ x, l[i]? = some x := ⟨_, List.getElem?_eq_getElem hlt⟩
   have hdx : (l.map Fld.d)[i]? = some x.d := by rw [List.getElem?_map, hx]; rfl
   refine Y ?_
   refine k'1 (.indexAddr (k := .i64) (n := i) (es := l.map Fld.d) (u := x.d) rfl rfl rfl rfl (.inl ⟨_, rfl⟩) rfl (by omega) (by simpa using hdx) rfl (by decide)) rfl rfl ?_
   refine Y ?_
   refine k'2 [] (ht x.num x.kind) rfl rfl rfl ?_
   cases hb : tb x.num x.kind
   rotate_left
   ·have : l.any (fun r => tb r.num r.kind) = true := List.any_eq_true.2 ⟨x, List.mem_of_getElem? hx, hb⟩
    rw [this]
    exact Z
   refine Y ?_
   rw [wS i (by omega)]
   exact ⟨i + 1, by omega, ⟨by omega, by rw [List.take_add_one, hx, Option.toList_some, List.any_append, i2]; simp [hb]⟩, ⟨rfl, rfl, rfl, rfl, rfl, trivial⟩, rfl, k'z rfl⟩
  ·have hge : i = l.length := by have := of_decide_eq_false hc; omega
   subst hge
   rw [List.take_length] at i2
   rw [i2]
   exact Z
theorem k'o (f : Nat) (tb : Nat → Nat → Bool) (ht : Tbl B f tb) (s : List UInt8) (d : Int) (hl : s.length < big) (hd1 : -9223372036854775808 ≤ d) (hd2 : d < 9223372036854775808) : k'0 (cx B) 47 [sT s, .d (.int .i64 d), .d (.fn f [])] [] (.d (.bool (k'1a tb s d))) [] := Rest_cap B f [] tb ht s d hl hd1 hd2
end Go.Proofs.YtcfkbpddmdfbaaaGreatDoor
/-! msg.Writer: raw bytes, what was written. -/
namespace Go.Proofs.YtcfkbpddmdfbaaaGreatDoor
open Go Go.Abs
variable (B : Fr)
theorem k'3c (a : T) (l s : List UInt8) (ha : adOk a) (hm : l.length + s.length ≤ most) : k'0 (cx B) 38 [.ptr 0 0, sT s] [.mu [a, bT l]] (.tup []) [.mu [.me, bT (l ++ s)]] := by
 have h1 := k'1x B a l s ha hm
 rcases l with _ | ⟨c, l⟩
 ·rcases s with _ | ⟨c, s⟩ <;>
  (rcases ha with rfl | rfl | rfl <;> (
  refine l_bw Tryz.func38 1 [] ?_
  refine k'2 [0] (h1) rfl rfl rfl ?_
  exact Z))
 ·rcases ha with rfl | rfl | rfl <;> (
  refine l_bw Tryz.func38 1 [] ?_
  refine k'2 [0] (h1) rfl rfl rfl ?_
  exact Z)
theorem k'2z (a : T) (l : List UInt8) (ha : adOk a) (hm : l.length ≤ most) : k'0 (cx B) 40 [.ptr 0 0] [.mu [a, bT l]] (sT l) [.mu [a, .undef]] := by
 have h1 := k'2v B a l ha hm
 rcases l with _ | ⟨c, l⟩ <;>
  (rcases ha with rfl | rfl | rfl <;> (
  refine l_bw Tryz.func40 1 [] ?_
  refine k'2 [0] (h1) rfl rfl rfl ?_
  exact Z))
end Go.Proofs.YtcfkbpddmdfbaaaGreatDoor
/-! varint.Put. -/
namespace Go.Proofs.YtcfkbpddmdfbaaaGreatDoor
open Go Go.Abs
variable (B : Fr)
def vput : Nat → Nat → List UInt8
 | 0, n => [UInt8.ofNat n]
 | f + 1, n => if n < 128 then [UInt8.ofNat n] else UInt8.ofNat (n % 128 + 128) :: vput f (n / 128)
def putV (n : Nat) : List UInt8 := vput 9 n
theorem k'3z {n : Nat} (h : n < 256) : (UInt8.ofNat n).toNat = n := by simp; omega
theorem or128 (m : Nat) : IntKind.u8.wrap ((BitVec.ofInt IntKind.u8.bits (IntKind.u8.wrap (m : Int)) ||| BitVec.ofInt IntKind.u8.bits 128).toNat : Int) = ((UInt8.ofNat (m % 128 + 128)).toNat : Int) := by
 have h : ∀ b : BitVec 8, (b ||| BitVec.ofInt 8 128).toNat = b.toNat % 128 + 128 := by decide
 rw [k'3z (by omega)]
 have h1 : IntKind.u8.wrap (m : Int) = ((m % 256 : Nat) : Int) := by rw [IntKind.wrap_u8]; omega
 have h2 := h (BitVec.ofInt 8 ((m % 256 : Nat) : Int))
 rw [ofN, BitVec.toNat_ofNat] at h2
 rw [h1, show (BitVec.ofInt IntKind.u8.bits ((m % 256 : Nat) : Int) ||| BitVec.ofInt IntKind.u8.bits 128).toNat = m % 256 % 2 ^ 8 % 128 + 128 from h2, wrapB (by omega) (by omega)]
 congr 1; omega
theorem byte_fits (l : List UInt8) : ∀ a ∈ l.map k'27, a.fits 1 = true := by
 intro a ha
 obtain ⟨c, -, rfl⟩ := List.mem_map.1 ha
 rfl
theorem vput_len : ∀ (f n : Nat), (vput f n).length ≤ f + 1
 | 0, n => by simp [vput]
 | f + 1, n => by
  unfold vput
  split
  ·simp
  ·have := vput_len f (n / 128); simp; omega
theorem Put_calls (n : Nat) (hn : n < 2 ^ 64) : k'0 (cx B) 133 [uT n] [] (sT (putV n)) [] := by
 refine l_bw Tryz.func133 0 [] ?_
 refine k'8 (fun x : Nat × Nat × List UInt8 => x.2.1) (fun x => [(0, uT x.2.1), (3, owT (x.2.2.map k'27))]) (fun _ => []) (fun x => putV n = x.2.2 ++ vput x.1 x.2.1 ∧ x.2.1 < 128 ^ (x.1 + 1) ∧ x.2.2.length + x.1 = 9 ∧ x.2.1 < 2 ^ 64) (9, n, []) ⟨rfl, by show n < 128 ^ 10; omega, rfl, hn⟩ ⟨rfl, rfl, trivial⟩ rfl 0 rfl (fun _ => rfl) (fun _ => rfl) (fun _ => rfl) ?_
 rintro ⟨f, m, acc⟩ ⟨i1, i2, i3, i4⟩
 dsimp only at i1 i2 i3 i4 ⊢
 refine Y ?_
 refine k'13 rfl (fun hc => ?_) (fun hc => ?_)
 ·have hm : 128 ≤ m := by have := of_decide_eq_true hc; omega
  cases f with
  | zero => omega
  | succ f =>
  have hst : vput (f + 1) m = UInt8.ofNat (m % 128 + 128) :: vput f (m / 128) := by show (if m < 128 then _ else _) = _; rw [if_neg (by omega)]
  refine Y ?_
  (try refine k'1t rfl ?_)
  refine k'1 (.assignOwn (.inr rfl) rfl) rfl rfl ?_
  refine Y ?_
  rw [or128]
  refine k'1 (.buildSlice (es := [k'27 (UInt8.ofNat (m % 128 + 128))]) rfl rfl rfl rfl rfl rfl (by intro x hx; simp at hx; subst hx; rfl) (by simp) (by decide) (by decide)) rfl rfl ?_
  have hml : (acc.map k'27).length + [k'27 (UInt8.ofNat (m % 128 + 128))].length ≤ most := by simp [most]; omega
  refine k'1 (.append' rfl rfl rfl rfl ⟨_, _, rfl, rfl, by intro q; simp⟩ rfl rfl rfl rfl rfl (by rw [show [k'27 (UInt8.ofNat (m % 128 + 128))] = [UInt8.ofNat (m % 128 + 128)].map k'27 from rfl, ← List.map_append]; exact byte_fits _) (by decide) rfl hml rfl) rfl rfl ?_
  refine k'1 (.assignOwn (.inl rfl) rfl) rfl rfl ?_
  refine Y ?_
  rw [show Int.fdiv (m : Int) (2 ^ min 7 IntKind.u64.bits) = ((m / 128 : Nat) : Int) from shrN m 7 (by omega)]
  exact ⟨(f, m / 128, acc ++ [UInt8.ofNat (m % 128 + 128)]), by show m / 128 < m; omega, ⟨by rw [i1, hst]; simp, by show m / 128 < 128 ^ (f + 1); rw [Nat.pow_succ] at i2; omega, by show (acc ++ [_]).length + f = 9; simp; omega, by show m / 128 < 2 ^ 64; omega⟩, ⟨rfl, by show T.own _ _ = owT _; rw [List.map_append]; rfl, trivial⟩, rfl, k'z rfl⟩
 ·have hm : m < 128 := by have := of_decide_eq_false hc; omega
  have hst : vput f m = [UInt8.ofNat m] := by
   cases f with
   | zero => rfl
   | succ f => show (if m < 128 then _ else _) = _; rw [if_pos hm]
  have hb : IntKind.u8.wrap (m : Int) = ((UInt8.ofNat m).toNat : Int) := by rw [k'3z (by omega)]; exact wrapB (by omega) (by omega)
  refine Y ?_
  (try refine k'1t rfl ?_)
  refine k'1 (.assignOwn (.inr rfl) rfl) rfl rfl ?_
  refine Y ?_
  rw [hb]
  refine k'1 (.buildSlice (es := [k'27 (UInt8.ofNat m)]) rfl rfl rfl rfl rfl rfl (by intro x hx; simp at hx; subst hx; rfl) (by simp) (by decide) (by decide)) rfl rfl ?_
  have hml : (acc.map k'27).length + [k'27 (UInt8.ofNat m)].length ≤ most := by simp [most]; omega
  refine k'1 (.append' rfl rfl rfl rfl ⟨_, _, rfl, rfl, by intro q; simp⟩ rfl rfl rfl rfl rfl (by rw [show [k'27 (UInt8.ofNat m)] = [UInt8.ofNat m].map k'27 from rfl, ← List.map_append]; exact byte_fits _) (by decide) rfl hml rfl) rfl rfl ?_
  refine k'1 (.toStr (l := acc ++ [UInt8.ofNat m]) rfl rfl rfl rfl rfl rfl rfl (by show some _ = some _; rw [List.map_append]; rfl) (by intro s h; cases h)) rfl rfl ?_
  rw [i1, hst]
  exact Z
end Go.Proofs.YtcfkbpddmdfbaaaGreatDoor
/-! Tags and records, written. -/
namespace Go.Proofs.YtcfkbpddmdfbaaaGreatDoor
open Go Go.Abs
variable (B : Fr)
def tagV (n k : Nat) : List UInt8 := putV (8 * n + k)
theorem putV_ne (n : Nat) : putV n ≠ [] := by unfold putV vput; split <;> simp
theorem k'1e (n : Nat) : (putV n).length ≤ 10 := vput_len 9 n
theorem Tag_calls (n k : Nat) (h1 : 1 ≤ n) (h2 : n ≤ 536870911) (h3 : k ≤ 5) : k'0 (cx B) 186 [iT n, iT k] [] (sT (tagV n k)) [] := by
 have hor : IntKind.u64.wrap ((BitVec.ofInt IntKind.u64.bits (IntKind.u64.wrap (IntKind.u64.wrap (n : Int) * 2 ^ min 3 IntKind.u64.bits)) ||| BitVec.ofInt IntKind.u64.bits (IntKind.u64.wrap (k : Int))).toNat : Int) = ((8 * n + k : Nat) : Int) := by
  have e1 : IntKind.u64.wrap (IntKind.u64.wrap (n : Int) * 2 ^ min 3 IntKind.u64.bits) = ((n * 2 ^ 3 : Nat) : Int) := by
   rw [wrapN (n := n) (by omega), show (n : Int) * 2 ^ min 3 IntKind.u64.bits = ((n * 2 ^ 3 : Nat) : Int) by simp [IntKind.bits]]
   exact wrapN (by omega)
  rw [e1, wrapN (n := k) (by omega), BitVec.or_comm, or64 (i := 3) (by omega) (by omega)]
  congr 1; omega
 refine l_bw Tryz.func186 0 [] ?_
 rw [show decide ((n : Int) < 1) = false from decide_eq_false (by omega)]
 refine Y ?_
 rw [show decide ((n : Int) > 536870911) = false from decide_eq_false (by omega)]
 refine Y ?_
 rw [show decide ((k : Int) < 0) = false from decide_eq_false (by omega)]
 refine Y ?_
 rw [show decide ((k : Int) > 5) = false from decide_eq_false (by omega)]
 refine Y ?_
 rw [hor]
 refine k'2 [] (Put_calls B (8 * n + k) (by omega)) rfl rfl rfl ?_
 exact Z
theorem put_calls (n k : Nat) (s : List UInt8) (h1 : 1 ≤ n) (h2 : n ≤ 536870911) (h3 : k ≤ 5) (hs : s.length ≤ most) : k'0 (cx B) 132 [iT n, iT k, sT s] [] (sT (tagV n k ++ s)) [] := by
 have hlen := k'1e (8 * n + k)
 unfold most at hs
 refine l_bw Tryz.func132 0 [] ?_
 refine l_cw [] (Tag_calls B n k h1 h2 h3) rfl rfl rfl ?_
 rw [show (tagV n k == []) = false by cases h : tagV n k with | nil => exact absurd h (putV_ne _) | cons _ _ => rfl]
 refine Y ?_
 refine k'1 (.addStr rfl rfl rfl (by unfold tagV; omega)) rfl rfl ?_
 exact Z
theorem Varint_calls (n m : Nat) (h1 : 1 ≤ n) (h2 : n ≤ 536870911) (hm : m < 2 ^ 64) : k'0 (cx B) 130 [iT n, uT m] [] (sT (tagV n 0 ++ putV m)) [] := by
 have hlen := k'1e m
 refine l_bw Tryz.func130 0 [] ?_
 refine k'2 [] (Put_calls B m hm) rfl rfl rfl ?_
 refine k'2 [] (put_calls B n 0 (putV m) h1 h2 (by omega) (by unfold most; omega)) rfl rfl rfl ?_
 exact Z
theorem Bytes_calls (n : Nat) (s : List UInt8) (h1 : 1 ≤ n) (h2 : n ≤ 536870911) (hs : s.length < big) : k'0 (cx B) 82 [iT n, sT s] [] (sT (tagV n 2 ++ (putV s.length ++ s))) [] := by
 have hlen := k'1e s.length
 unfold big at hs
 refine l_bw Tryz.func82 0 [] ?_
 rw [wrapN (n := s.length) (by omega)]
 refine l_cw [] (Put_calls B s.length (by omega)) rfl rfl rfl ?_
 refine k'1 (.addStr rfl rfl rfl (by omega)) rfl rfl ?_
 refine k'2 [] (put_calls B n 2 (putV s.length ++ s) h1 h2 (by omega) (by simp [most]; omega)) rfl rfl rfl ?_
 exact Z
theorem k'4j (n k : Nat) : (tagV n k).length ≤ 10 := k'1e _
theorem Few_calls (a : T) (l : List UInt8) (n m : Nat) (ha : adOk a) (h1 : 1 ≤ n) (h2 : n ≤ 536870911) (hm : m < 2 ^ 64) (hl : l.length < big) : k'0 (cx B) 80 [.ptr 0 0, iT n, uT m] [.mu [a, bT l]] (.tup []) [.mu [.me, bT (l ++ (tagV n 0 ++ putV m))]] := by
 have hlen := k'1e m
 have hlen2 := k'4j n 0
 unfold big at hl
 have h3 := k'3c B a l (tagV n 0 ++ putV m) ha (by simp [most]; omega)
 generalize l ++ (tagV n 0 ++ putV m) = y at *
 rcases ha with rfl | rfl | rfl <;> (rcases l with _ | ⟨c, l⟩ <;> (rcases y with _ | ⟨c', y⟩ <;> (
 refine l_bw Tryz.func80 1 [] ?_
 refine k'2 [] (Varint_calls B n m h1 h2 hm) rfl rfl rfl ?_
 refine k'2 [0] (h3) rfl rfl rfl ?_
 exact Z)))
theorem k'43 (a : T) (l : List UInt8) (n : Nat) (s : List UInt8) (ha : adOk a) (h1 : 1 ≤ n) (h2 : n ≤ 536870911) (hl : l.length + s.length < big) : k'0 (cx B) 39 [.ptr 0 0, iT n, sT s] [.mu [a, bT l]] (.tup []) [.mu [.me, bT (l ++ (tagV n 2 ++ (putV s.length ++ s)))]] := by
 have hlen := k'1e s.length
 have hlen2 := k'4j n 2
 have h4 := Bytes_calls B n s h1 h2 (by omega)
 unfold big at hl
 have h3 := k'3c B a l (tagV n 2 ++ (putV s.length ++ s)) ha (by simp [most]; omega)
 generalize l ++ (tagV n 2 ++ (putV s.length ++ s)) = y at *
 rcases ha with rfl | rfl | rfl <;> (rcases l with _ | ⟨c, l⟩ <;> (rcases y with _ | ⟨c', y⟩ <;> (
 refine l_bw Tryz.func39 1 [] ?_
 refine k'2 [] (h4) rfl rfl rfl ?_
 refine k'2 [0] (h3) rfl rfl rfl ?_
 exact Z)))
