/- Unknown records behind and ahead; groups as deep as told. And more. -/
import Derived.Test.YtnaojdjhjkendaaGreatDoorPG
import Derived.WalkKit
import Derived.LoopN
import Derived.Laws.MakeOwn
import Derived.Laws.OwnMore
import Derived.Laws.IdiomStrings
import Derived.Test.YtnaojdjhjkendaaGreatDoorWT
set_option linter.unusedSimpArgs false
set_option linter.unusedVariables false
set_option maxRecDepth 100000
/-! Unknown records behind and ahead; groups as deep as told. -/
namespace Go.Proofs.YtnaojdjhjkendaaGreatDoor
open Go Go.Abs
def okG {β : Type} (tb : Nat → Nat → Bool) (tell : Int → List Fld → Option β) (s : List UInt8) (d : Int) : Option (β × List UInt8) :=
 match okL s d with
 | none => none
 | some l => match tell d (k'1 tb l) with
  | none => none
  | some b => some (b, unkL tb l)
theorem okL_neg {s : List UInt8} {d : Int} (h : d < 0) : okL s d = none := by unfold okL; rw [if_pos h]
section
variable {β : Type} {tb : Nat → Nat → Bool} {tell : Int → List Fld → Option β} {s w : List UInt8} {d : Int}
theorem okG_neg (h : d < 0) : okG tb tell s d = none := by unfold okG; rw [okL_neg h]
end
/-! Buckets. -/
theorem recE_f64 {n : Nat} (d : Int) (t : List UInt8) (h1 : 1 ≤ n) (h2 : n ≤ 536870911) (ht : t.length = 8) : recE (tagV n 1 ++ t) d 0 = .ok (⟨n, 1, leN t, [], tagV n 1 ++ t⟩, (tagV n 1 ++ t).length) := by
 unfold recE
 have hg := tagE_tagV [] t h1 h2 (show 1 < 8 by omega) (p := 0) rfl
 rw [List.nil_append, Nat.zero_add] at hg
 rw [hg]
 dsimp only
 unfold k'28
 rw [if_neg (by omega), if_pos rfl]
 unfold k'36
 rw [if_neg (by simp; omega)]
 dsimp only
 rw [List.drop_left, ← ht, List.take_length, ← List.length_append, List.drop_zero, Nat.sub_zero, List.take_length]
/-! Groups. -/
end Go.Proofs.YtnaojdjhjkendaaGreatDoor
/-! Numbers of eight bytes, written and read back. -/
namespace Go.Proofs.YtnaojdjhjkendaaGreatDoor
open Go Go.Abs Go.RowKit
def leB : Nat → Nat → List UInt8
 | 0, _ => []
 | k + 1, n => UInt8.ofNat (n % 256) :: leB k (n / 256)
theorem leB_len : ∀ (k n : Nat), (leB k n).length = k
 | 0, _ => rfl
 | k + 1, n => by simp [leB, leB_len k]
theorem leN_leB : ∀ (k n : Nat), n < 256 ^ k → leN (leB k n) = n
 | 0, n, h => by simp at h; subst h; rfl
 | k + 1, n, h => by
  have := leN_leB k (n / 256) (by rw [Nat.pow_succ] at h; omega)
  simp only [leB, leN, this]
  rw [byte_of (by omega)]; omega
def le8 (n : Nat) : List UInt8 := leB 8 n
theorem le8_len (n : Nat) : (le8 n).length = 8 := leB_len 8 n
theorem le8_N {n : Nat} (h : n < 2 ^ 64) : leN (le8 n) = n := leN_leB 8 n h
set_option maxHeartbeats 4000000 in
theorem eight_run (n : Nat) (w : World) :
  Calls Tryz.prog 315 #[.int .u64 n] w fun e w' => e = .returned (.string ⟨(le8 n).toArray⟩) ∧ More w w' := by
 obtain ⟨i, hi, hib, his, hiz⟩ : ∃ i, Tryz.prog.info? 5 = some i ∧ i.bytes = 1 ∧ i.size = 1 ∧ i.zero = some (.int .u8 0) := by
  have h0 : (Tryz.prog.info? 5).map (fun i => (i.bytes, i.size, i.zero)) = some (1, 1, some (.int .u8 0)) := by kernel_rfl
  obtain ⟨i, h1, h2⟩ := Option.map_eq_some_iff.1 h0
  simp at h2
  exact ⟨i, h1, h2.1, h2.2.1, h2.2.2⟩
 have hmk := run_makeSlice (P := Tryz.prog) w 118 5 i (.int .u8 0) (by kernel_rfl) hi hiz .i64 .i64 8 8 (by omega) (by omega) (by rw [his]; decide) (by rw [hib]; decide) (by omega)
 have hmc : madeCells (Value.int .u8 0).cells (Int.toNat 8 * i.size) = #[.int .u8 0, .int .u8 0, .int .u8 0, .int .u8 0, .int .u8 0, .int .u8 0, .int .u8 0, .int .u8 0] := by rw [his]; kernel_rfl
 rw [hmc] at hmk
 have hbk := fun (w' : World) (l : List UInt8) (hl : l.length = 8) (hc : ∀ j (hj : j < l.length), w'.cell? ((⟨w.heap.size, 0, none⟩ : Addr).add j) = some (.int .u8 (l[j].toNat : Int))) => hl ▸ run_convert_bytes_back (P := Tryz.prog) w' 118 9 5 ⟨w.heap.size, 0, none⟩ 8 l (by kernel_rfl) (by kernel_rfl) (by kernel_rfl) hc
 clear hmc hi hib his hiz
 have hcv : ∀ k : Nat, Value.int .u8 ((n : Int) / (k : Int) % 256) = Value.int .u8 ((UInt8.ofNat (n / k % 256)).toNat : Int) := fun k => by
  rw [byte_of (by omega)]; congr 1
 go_enter Tryz.func315, Tryz.ntmps315
 go_wp2
 refine wp_loop_rounds 9 ?_
 iterate 9 (rw [rounds_succ]; go_wp2)
 rw [hbk _ (le8 n) (le8_len n) ?_]
 ·simp only [Result.andThen]
  rw [Oper.upon_value]
  go_wp2
  go_ret
  exact ⟨rfl, More.alloc _ _⟩
 ·intro j hj
  rw [le8_len] at hj
  have ha : (⟨w.heap.size, 0, none⟩ : Addr).add j = ⟨w.heap.size, j, none⟩ := by unfold Addr.add; split <;> simp_all
  have hc := World.cell?_alloc_new w #[Value.int IntKind.u8 ((n : Int) % 256), Value.int IntKind.u8 ((n : Int) / 256 % 256), Value.int IntKind.u8 ((n : Int) / 65536 % 256), Value.int IntKind.u8 ((n : Int) / 16777216 % 256), Value.int IntKind.u8 ((n : Int) / 4294967296 % 256), Value.int IntKind.u8 ((n : Int) / 1099511627776 % 256), Value.int IntKind.u8 ((n : Int) / 281474976710656 % 256), Value.int IntKind.u8 ((n : Int) / 72057594037927936 % 256)] 5 j
  rw [ha]
  refine hc.trans ?_
  have hb : ∀ k : Nat, (UInt8.ofNat (k % 256)).toNat = k % 256 := fun k => byte_of (by omega)
  rcases j with _ | _ | _ | _ | _ | _ | _ | _ | j
  ·simp [le8, leB]
  ·simp [le8, leB]
  ·simp [le8, leB]; omega
  ·simp [le8, leB]; omega
  ·simp [le8, leB]; omega
  ·simp [le8, leB]; omega
  ·simp [le8, leB]; omega
  ·simp [le8, leB]; omega
  ·omega
open Go Go.Abs
variable (B : Fr)
theorem leaf_calls {X : Ctx} {f : FuncId} {args : List T} {x : D} (hf : ∃ fn, X.P.funcs[f]? = some fn ∧ fn.body.isSome = true ∧ (fn.name == "runtime.NumGoroutine") = false)
  (h : ∀ F ρ w vs, TRs F ρ w (.tmp 0) args vs → ∃ v, DR F x v ∧ Calls X.P f vs.toArray w fun e w' => e = .returned v ∧ More w w') : k'5 X f args [] (.d x) [] := by
 refine ⟨hf, fun F ρ w vs hwr hvs hnt hb => ?_⟩
 obtain ⟨v, hx, hc⟩ := h F ρ w vs hvs
 refine hc.mono fun e w' ⟨he, hm⟩ => ?_
 have h1 : WR F ρ w' ([] ++ []) := hwr.more hm (Sub.refl F) (fun _ _ _ => rfl) (fun _ _ => rfl) (fun b off v hb e => absurd (k'o (hwr.fix b off v e)) (by omega)) (fun b hb => Nat.lt_of_lt_of_le (hwr.lt b hb) hm.size)
  (fun b i hb e => absurd (hwr.lt b (by rw [e]; simp)) (by omega))
 exact ⟨v, F, ρ, he, h1, .d hx, Ext.more hwr hm (Sub.refl F) (fun _ _ _ => rfl) (fun _ _ => rfl), hnt⟩
theorem eight_calls (n : Nat) : k'5 (cx B) 315 [uT n] [] (sT (le8 n)) [] := by
 refine leaf_calls ⟨Tryz.f315, Tryz.func315, rfl, rfl⟩ fun F ρ w vs hvs => ?_
 cases hvs with
 | cons hp hr =>
 cases hr
 obtain rfl := hp.inv_int
 exact ⟨_, .str _, eight_run n w⟩
end Go.Proofs.YtnaojdjhjkendaaGreatDoor
/-! What a message's records of a number tell; what is written, as records. -/
namespace Go.Proofs.YtnaojdjhjkendaaGreatDoor
open Go Go.Abs
def sel (num : Nat) (l : List Fld) : List Fld := l.filter fun x => x.num == num
theorem sel_nil (m : Nat) : sel m [] = [] := rfl
theorem k'i (m : Nat) (a b : List Fld) : sel m (a ++ b) = sel m a ++ sel m b := by unfold sel; rw [List.filter_append]
theorem k'2h (m : Nat) (x : Fld) (l : List Fld) : sel m (x :: l) = if x.num = m then x :: sel m l else sel m l := by
 unfold sel
 rw [List.filter_cons]
 by_cases h : x.num = m <;> simp [h]
theorem sel_mem {m : Nat} {l : List Fld} {x : Fld} : x ∈ sel m l ↔ x ∈ l ∧ x.num = m := by unfold sel; simp
theorem sel_of {n : Nat} {l : List Fld} (h : ∀ x ∈ l, x.num = n) (m : Nat) : sel m l = if n = m then l else [] := by
 unfold sel
 split
 ·rename_i e; subst e
  exact List.filter_eq_self.2 fun x hx => by simpa using h x hx
 ·rename_i e
  exact List.filter_eq_nil_iff.2 fun x hx => by have := h x hx; simp; omega
theorem sel_any (m : Nat) (l : List Fld) : anyL (sel m l) m = anyL l m := by
 induction l with
 | nil => rfl
 | cons x l ih => rw [k'2h, anyL_cons]; split <;> (rename_i h; simp [anyL_cons, h, ih])
theorem sel_last (m : Nat) (l : List Fld) : k'a (sel m l) m = k'a l m := by
 induction l with
 | nil => rfl
 | cons x l ih =>
  rw [k'2h, k'33]
  split
  ·rename_i h; rw [k'33, sel_any, ih, if_pos h]
  ·rename_i h
   rw [ih]
   cases ha : anyL l m with
   | true => simp
   | false => rw [lastF_no ha]; simp [h]
theorem anyL_sel (m : Nat) (l : List Fld) : anyL l m = !(sel m l).isEmpty := by
 induction l with
 | nil => rfl
 | cons x l ih => rw [k'2h, anyL_cons, ih]; split <;> (rename_i h; simp [h])
theorem k'2m (m : Nat) (l : List Fld) : k'c l m = (sel m l).flatMap Fld.s := rfl
theorem fok_sel {l : List Fld} (h : ∀ x ∈ l, FOk x) (m : Nat) : ∀ x ∈ sel m l, FOk x := fun x hx => h x (sel_mem.1 hx).1
def mapO {α β : Type} (f : α → Option β) : List α → Option (List β)
 | [] => some []
 | x :: l => match f x with
  | none => none
  | some y => match mapO f l with
   | none => none
   | some r => some (y :: r)
section
variable {α β γ : Type} {f g : α → Option β}
theorem mapO_mem : ∀ {l : List α} {r : List β}, mapO f l = some r → ∀ y ∈ r, ∃ x ∈ l, f x = some y
 | [], r, h => by simp [mapO] at h; subst h; simp
 | x :: l, r, h => by
  unfold mapO at h
  split at h
  ·simp at h
  ·rename_i y hy
   split at h
   ·simp at h
   ·rename_i r' hr
    injection h with h; subst h
    intro b hb
    rcases List.mem_cons.1 hb with rfl | hb
    ·exact ⟨x, List.mem_cons_self .., hy⟩
    ·obtain ⟨a, h1, h2⟩ := mapO_mem hr b hb
     exact ⟨a, List.mem_cons_of_mem _ h1, h2⟩
theorem mapO_none : ∀ {l : List α} {x : α}, x ∈ l → f x = none → mapO f l = none
 | y :: l, x, hx, h => by
  unfold mapO
  rcases List.mem_cons.1 hx with rfl | hx
  ·rw [h]
  ·cases f y with
   | none => rfl
   | some z => simp only; rw [mapO_none hx h]
theorem mapO_app : ∀ {a b : List α}, mapO f (a ++ b) = (match mapO f a with
  | none => none
  | some x => match mapO f b with
   | none => none
   | some y => some (x ++ y))
 | [], b => by simp only [List.nil_append, mapO]; cases mapO f b <;> rfl
 | x :: a, b => by
  simp only [List.cons_append, mapO]
  cases f x with
  | none => rfl
  | some y =>
   simp only
   rw [mapO_app]
   cases mapO f a with
   | none => rfl
   | some r => simp only; cases mapO f b <;> rfl
theorem mapO_map (h : γ → α) : ∀ (l : List γ), mapO f (l.map h) = mapO (fun x => f (h x)) l
 | [] => rfl
 | x :: l => by simp only [List.map_cons, mapO, mapO_map h l]
theorem mapO_id {h : β → α} : ∀ {l : List β}, (∀ y ∈ l, f (h y) = some y) → mapO f (l.map h) = some l
 | [], _ => rfl
 | y :: l, k => by
  simp only [List.map_cons, mapO, k y (List.mem_cons_self ..)]
  rw [mapO_id fun z hz => k z (List.mem_cons_of_mem _ hz)]
theorem mapO_congr : ∀ {l : List α}, (∀ x ∈ l, f x = g x) → mapO f l = mapO g l
 | [], _ => rfl
 | x :: l, h => by
  simp only [mapO]
  rw [h x (List.mem_cons_self ..), mapO_congr fun z hz => h z (List.mem_cons_of_mem _ hz)]
end
def k'7 {α : Type} (ok : List UInt8 → Option α) (num : Nat) (l : List Fld) : Option (List α) := mapO (fun x => ok x.s) (sel num l)
theorem partsO_app {α : Type} (ok : List UInt8 → Option α) (num : Nat) (a b : List Fld) : k'7 ok num (a ++ b) = (match k'7 ok num a with
  | none => none
  | some x => match k'7 ok num b with
   | none => none
   | some y => some (x ++ y)) := by unfold k'7; rw [k'i, mapO_app]
def partO {α : Type} (ok : List UInt8 → Option α) (z : α) (num : Nat) (l : List Fld) : Option (Bool × α) :=
 if anyL l num then (match ok (k'c l num) with | none => none | some x => some (true, x)) else some (false, z)
/-! What is written, as records. -/
def fxV (n v : Nat) : List UInt8 := if v = 0 then [] else tagV n 1 ++ le8 v
def e8V (n v : Nat) : List UInt8 := tagV n 1 ++ le8 v
def paV (n : Nat) (s : List UInt8) : List UInt8 := tagV n 2 ++ (putV s.length ++ s)
def txV (n : Nat) (s : List UInt8) : List UInt8 := if s = [] then [] else paV n s
def psV (n : Nat) (l : List (List UInt8)) : List UInt8 := l.flatMap (paV n)
def opV (n : Nat) (h : Bool) (v : Nat) : List UInt8 := if h then e8V n v else []
def fewV (n v : Nat) : List UInt8 := tagV n 0 ++ putV v
def flV (n : Nat) (b : Bool) : List UInt8 := if b then fewV n 1 else []
def packW (l : List Nat) : List UInt8 := l.flatMap le8
def pwV (n : Nat) (cs : List Nat) : List UInt8 := txV n (packW cs)
def e8R (n v : Nat) : Fld := ⟨n, 1, v, [], e8V n v⟩
def paR (n : Nat) (s : List UInt8) : Fld := ⟨n, 2, 0, s, paV n s⟩
def fewR (n v : Nat) : Fld := ⟨n, 0, v, [], fewV n v⟩
def fxF (n v : Nat) : List Fld := if v = 0 then [] else [e8R n v]
def txF (n : Nat) (s : List UInt8) : List Fld := if s = [] then [] else [paR n s]
def psF (n : Nat) (l : List (List UInt8)) : List Fld := l.map (paR n)
def opF (n : Nat) (h : Bool) (v : Nat) : List Fld := if h then [e8R n v] else []
def vrF (n v : Nat) : List Fld := if v = 0 then [] else [fewR n v]
def flF (n : Nat) (b : Bool) : List Fld := if b then [fewR n 1] else []
def pwF (n : Nat) (cs : List Nat) : List Fld := txF n (packW cs)
section
variable {n v : Nat} (h1 : 1 ≤ n) (h2 : n ≤ 536870911) (d : Int)
include h1 h2
theorem all_e8 (hv : v < 2 ^ 64) : all (e8V n v) d = .ok [e8R n v] := by
 have h := recE_f64 d (le8 v) h1 h2 (le8_len v)
 rw [le8_N hv] at h
 exact rec_all h
theorem k'3x (hv : v < 2 ^ 64) : all (fxV n v) d = .ok (fxF n v) := by
 unfold fxV fxF
 split
 ·exact all_nil d
 ·exact all_e8 h1 h2 d hv
theorem all_op (b : Bool) (hv : v < 2 ^ 64) : all (opV n b v) d = .ok (opF n b v) := by
 cases b with
 | false => exact all_nil d
 | true => exact all_e8 h1 h2 d hv
theorem all_pa {s : List UInt8} (hs : s.length < 2 ^ 64) : all (paV n s) d = .ok [paR n s] := rec_all (recE_str d s h1 h2 hs)
theorem all_tx {s : List UInt8} (hs : s.length < 2 ^ 64) : all (txV n s) d = .ok (txF n s) := by
 unfold txV txF
 split
 ·exact all_nil d
 ·exact all_pa h1 h2 d hs
theorem k'4k : ∀ {l : List (List UInt8)}, (∀ s ∈ l, s.length < 2 ^ 64) → all (psV n l) d = .ok (psF n l)
 | [], _ => all_nil d
 | s :: l, h => k'9 (all_pa h1 h2 d (h s (List.mem_cons_self ..))) (k'4k fun t ht => h t (List.mem_cons_of_mem _ ht))
theorem all_few (hv : v < 2 ^ 64) : all (fewV n v) d = .ok [fewR n v] := rec_all (recE_var d h1 h2 hv)
theorem all_vr (hv : v < 2 ^ 64) : all (vrV n v) d = .ok (vrF n v) := by
 unfold vrV vrF
 split
 ·exact all_nil d
 ·exact all_few h1 h2 d hv
theorem all_fl (b : Bool) : all (flV n b) d = .ok (flF n b) := by
 cases b with
 | false => exact all_nil d
 | true => exact all_few h1 h2 d (by omega)
end
theorem packW_len (l : List Nat) : (packW l).length = 8 * l.length := by
 induction l with
 | nil => rfl
 | cons n l ih => simp [packW, le8_len] at *; omega
section
variable (n m v : Nat) (s : List UInt8) (b : Bool)
theorem k'17 : sel m (fxF n v) = if n = m then fxF n v else [] := sel_of (by unfold fxF; split <;> simp [e8R]) m
theorem k'16 : sel m (opF n b v) = if n = m then opF n b v else [] := sel_of (by unfold opF; split <;> simp [e8R]) m
theorem k'13 : sel m (txF n s) = if n = m then txF n s else [] := sel_of (by unfold txF; split <;> simp [paR]) m
theorem k'11 (l : List (List UInt8)) : sel m (psF n l) = if n = m then psF n l else [] := sel_of (by unfold psF; simp [paR]) m
theorem k'15 : sel m (vrF n v) = if n = m then vrF n v else [] := sel_of (by unfold vrF; split <;> simp [fewR]) m
end
def inT (tb : Nat → Nat → Bool) (l : List Fld) : Bool := l.all (isT tb)
theorem inT_app (tb : Nat → Nat → Bool) (a b : List Fld) : inT tb (a ++ b) = (inT tb a && inT tb b) := by unfold inT; rw [List.all_append]
section
variable {tb : Nat → Nat → Bool} (n v : Nat) (s : List UInt8) (b : Bool)
theorem in_fx (h : tb n 1 = true) : inT tb (fxF n v) = true := by unfold fxF inT; split <;> simp [isT, e8R, h]
theorem in_op (h : tb n 1 = true) : inT tb (opF n b v) = true := by unfold opF inT; split <;> simp [isT, e8R, h]
theorem in_tx (h : tb n 2 = true) : inT tb (txF n s) = true := by unfold txF inT; split <;> simp [isT, paR, h]
theorem in_ps (l : List (List UInt8)) (h : tb n 2 = true) : inT tb (psF n l) = true := by unfold psF inT; simp [isT, paR, h]
theorem in_vr (h : tb n 0 = true) : inT tb (vrF n v) = true := by unfold vrF inT; split <;> simp [isT, fewR, h]
theorem in_fl (h : tb n 0 = true) : inT tb (flF n b) = true := by unfold flF inT; split <;> simp [isT, fewR, h]
end
section
variable (n v : Nat) (s : List UInt8) (b : Bool)
theorem last_one (x : Fld) (h : x.num = n) : k'a [x] n = x := by rw [k'33, if_neg (by simp [anyL]), if_pos h]
theorem tell_fx : (k'a (fxF n v) n).n = v := by
 unfold fxF; split
 ·rename_i h; rw [h]; rfl
 ·rw [last_one n _ rfl]; rfl
theorem tell_tx : (k'a (txF n s) n).s = s := by
 unfold txF; split
 ·rename_i h; rw [h]; rfl
 ·rw [last_one n _ rfl]; rfl
theorem tell_vr : (k'a (vrF n v) n).n = v := by
 unfold vrF; split
 ·rename_i h; rw [h]; rfl
 ·rw [last_one n _ rfl]; rfl
theorem tell_op (h : b = true ∨ v = 0) : anyL (opF n b v) n = b ∧ (k'a (opF n b v) n).n = v := by
 cases b
 ·have : v = 0 := by simpa using h
  subst this; exact ⟨rfl, rfl⟩
 show anyL [e8R n v] n = true ∧ (k'a [e8R n v] n).n = v
 rw [last_one n _ rfl]; simp [anyL, e8R]
theorem tell_ps {α : Type} (ok : List UInt8 → Option α) (l : List (List UInt8)) : k'7 ok n (psF n l) = mapO ok l := by
 unfold k'7
 rw [k'11, if_pos rfl]
 unfold psF
 rw [mapO_map]
 exact mapO_congr fun x _ => rfl
theorem tell_pk {rd : List UInt8 → Except Er (List Nat)} {cs : List Nat} (h0 : s = [] → cs = []) (h : rd s = .ok cs) : k'p rd n (txF n s) = some cs := by
 unfold txF; split
 ·rename_i e; rw [h0 e]; rfl
 ·unfold k'p paR
  simp only [if_true, h]
  simp [k'p]
end
end Go.Proofs.YtnaojdjhjkendaaGreatDoor
/-! Values and attributes: what they are, their bytes, what may be, what is read. -/
namespace Go.Proofs.YtnaojdjhjkendaaGreatDoor
open Go Go.Abs
mutual
inductive Vl where
 | mk (kind : Int) (s : List UInt8) (b : Bool) (n : Nat) (l : List Vl) (m : List Kv) (inner u : List UInt8)
inductive Kv where
 | mk (key : List UInt8) (has : Bool) (v : Vl) (u : List UInt8)
end
def noVl : Vl := .mk 0 [] false 0 [] [] [] []
/-! How much there is. -/
mutual
def Vl.sz : Vl → Nat
 | .mk _ s _ _ l m inner u => 60 + s.length + inner.length + u.length + Vl.szs l + Kv.szs m
def Vl.szs : List Vl → Nat
 | [] => 0
 | v :: r => v.sz + Vl.szs r
def Kv.sz : Kv → Nat
 | .mk key _ v u => 40 + key.length + u.length + v.sz
def Kv.szs : List Kv → Nat
 | [] => 0
 | k :: r => k.sz + Kv.szs r
end
theorem Vl.sz_mem : ∀ {l : List Vl} {v : Vl}, v ∈ l → v.sz ≤ Vl.szs l
 | x :: l, v, h => by
  rcases List.mem_cons.1 h with rfl | h
  ·simp [Vl.szs]
  ·have := Vl.sz_mem h; simp [Vl.szs]; omega
theorem Kv.sz_mem : ∀ {l : List Kv} {v : Kv}, v ∈ l → v.sz ≤ Kv.szs l
 | x :: l, v, h => by
  rcases List.mem_cons.1 h with rfl | h
  ·simp [Kv.szs]
  ·have := Kv.sz_mem h; simp [Kv.szs]; omega
/-! The numbers are numbers. -/
mutual
def Vl.wf : Vl → Prop
 | .mk kind _ _ n l m _ _ => -9223372036854775808 ≤ kind ∧ kind < 9223372036854775808 ∧ n < 2 ^ 64 ∧ Vl.wfs l ∧ Kv.wfs m
def Vl.wfs : List Vl → Prop
 | [] => True
 | v :: r => v.wf ∧ Vl.wfs r
def Kv.wf : Kv → Prop
 | .mk _ _ v _ => v.wf
def Kv.wfs : List Kv → Prop
 | [] => True
 | k :: r => k.wf ∧ Kv.wfs r
end
theorem Vl.wf_of : ∀ {l : List Vl}, (∀ v ∈ l, v.wf) → Vl.wfs l
 | [], _ => trivial
 | x :: l, h => ⟨h x (List.mem_cons_self ..), Vl.wf_of fun v hv => h v (List.mem_cons_of_mem _ hv)⟩
theorem Kv.wf_of : ∀ {l : List Kv}, (∀ v ∈ l, v.wf) → Kv.wfs l
 | [], _ => trivial
 | x :: l, h => ⟨h x (List.mem_cons_self ..), Kv.wf_of fun v hv => h v (List.mem_cons_of_mem _ hv)⟩
/-! Their bytes. -/
mutual
def Vl.mar : Vl → List UInt8
 | .mk kind s b n l m inner u =>
  (if kind = 1 then paV 1 s else if kind = 7 then paV 7 s else if kind = 2 then fewV 2 (if b then 1 else n) else if kind = 3 then fewV 3 n else if kind = 4 then e8V 4 n
   else if kind = 5 then paV 5 (psV 1 (Vl.mars l) ++ inner) else if kind = 6 then paV 6 (psV 1 (Kv.mars m) ++ inner) else []) ++ u
def Vl.mars : List Vl → List (List UInt8)
 | [] => []
 | v :: r => v.mar :: Vl.mars r
def Kv.mar : Kv → List UInt8
 | .mk key has v u => txV 1 key ++ (if has then paV 2 v.mar else []) ++ u
def Kv.mars : List Kv → List (List UInt8)
 | [] => []
 | k :: r => k.mar :: Kv.mars r
end
theorem Vl.mars_map : ∀ l : List Vl, Vl.mars l = l.map Vl.mar
 | [] => rfl
 | v :: l => by rw [Vl.mars, Vl.mars_map l]; rfl
theorem Kv.mars_map : ∀ l : List Kv, Kv.mars l = l.map Kv.mar
 | [] => rfl
 | v :: l => by rw [Kv.mars, Kv.mars_map l]; rfl
theorem k'3t (n : Nat) (s : List UInt8) : (paV n s).length ≤ 20 + s.length := by
 have := tagV_len n 2; have := putV_len s.length
 unfold paV; simp; omega
theorem txV_len (n : Nat) (s : List UInt8) : (txV n s).length ≤ 20 + s.length := by
 have := k'3t n s
 unfold txV; split <;> simp; omega
theorem fewV_len (n v : Nat) : (fewV n v).length ≤ 20 := by
 have := tagV_len n 0; have := putV_len v
 unfold fewV; simp; omega
theorem e8V_len (n v : Nat) : (e8V n v).length ≤ 18 := by
 have := tagV_len n 1; have := le8_len v
 unfold e8V; simp; omega
theorem psV_cons (n : Nat) (s : List UInt8) (l : List (List UInt8)) : psV n (s :: l) = paV n s ++ psV n l := rfl
mutual
theorem Vl.mar_len : ∀ v : Vl, v.mar.length + 20 ≤ v.sz
 | .mk kind s b n l m inner u => by
  have h1 := k'3t 1 s
  have h2 := k'3t 7 s
  have h3 := fewV_len 2 (if b then 1 else n)
  have h4 := fewV_len 3 n
  have h5 := e8V_len 4 n
  have h6 := k'3t 5 (psV 1 (Vl.mars l) ++ inner)
  have h7 := k'3t 6 (psV 1 (Kv.mars m) ++ inner)
  have h8 := Vl.mars_len l
  have h9 := Kv.mars_len m
  rw [List.length_append] at h6 h7
  unfold Vl.mar Vl.sz
  rw [List.length_append]
  split
  ·omega
  split
  ·omega
  split
  ·omega
  split
  ·omega
  split
  ·omega
  split
  ·omega
  split
  ·omega
  ·simp; omega
theorem Vl.mars_len : ∀ l : List Vl, (psV 1 (Vl.mars l)).length ≤ Vl.szs l
 | [] => by simp [Vl.mars, Vl.szs, psV]
 | v :: r => by
  have h1 := Vl.mar_len v
  have h2 := Vl.mars_len r
  have h3 := k'3t 1 v.mar
  unfold Vl.mars Vl.szs
  rw [psV_cons, List.length_append]; omega
theorem Kv.mar_len : ∀ k : Kv, k.mar.length + 20 ≤ k.sz
 | .mk key has v u => by
  have h1 := Vl.mar_len v
  have h2 := txV_len 1 key
  have h3 := k'3t 2 v.mar
  unfold Kv.mar Kv.sz
  rw [List.length_append, List.length_append]
  split
  ·omega
  ·simp; omega
theorem Kv.mars_len : ∀ l : List Kv, (psV 1 (Kv.mars l)).length ≤ Kv.szs l
 | [] => by simp [Kv.mars, Kv.szs, psV]
 | v :: r => by
  have h1 := Kv.mar_len v
  have h2 := Kv.mars_len r
  have h3 := k'3t 1 v.mar
  unfold Kv.mars Kv.szs
  rw [psV_cons, List.length_append]; omega
end
/-! May they be? -/
def nestB (ll lm : Nat) (inner : List UInt8) : Bool := ll == 0 && lm == 0 && inner == []
def bareV (kind : Int) (s : List UInt8) (b : Bool) (n ll lm : Nat) (inner : List UInt8) : Bool :=
 if kind = 1 then txt s && (n == 0 && !b && nestB ll lm inner)
 else if kind = 7 then n == 0 && !b && nestB ll lm inner
 else if kind = 2 then s == [] && n == 0 && nestB ll lm inner
 else if kind = 3 ∨ kind = 4 then s == [] && !b && nestB ll lm inner
 else if kind = 0 then s == [] && n == 0 && !b && nestB ll lm inner
 else if kind = 5 then s == [] && n == 0 && !b && lm == 0
 else if kind = 6 then s == [] && n == 0 && !b && ll == 0
 else false
def Vl.isNo : Vl → Bool
 | .mk kind s b n l m inner u => kind == 0 && s == [] && b == false && n == 0 && inner == [] && u == [] && l.length == 0 && m.length == 0
mutual
def Vl.may : Vl → Int → Bool
 | .mk kind s b n l m inner u, d => decide (0 ≤ d) && bareV kind s b n l.length m.length inner && restB tbV u d &&
  (if kind = 5 ∨ kind = 6 then decide (1 ≤ d) && restB tbL inner (d - 1) && Vl.mays l (d - 2) && Kv.mays m (d - 2) else true)
def Vl.mays : List Vl → Int → Bool
 | [], _ => true
 | v :: r, d => v.may d && Vl.mays r d
def Kv.may : Kv → Int → Bool
 | .mk key has v u, d => decide (0 ≤ d) && txt key && restB tbK u d && (if has then v.may (d - 1) else v.isNo)
def Kv.mays : List Kv → Int → Bool
 | [], _ => true
 | k :: r, d => k.may d && Kv.mays r d
end
theorem Vl.mays_all : ∀ (l : List Vl) (d : Int), Vl.mays l d = l.all fun v => v.may d
 | [], _ => rfl
 | v :: l, d => by rw [Vl.mays, Vl.mays_all l d]; rfl
theorem Kv.mays_all : ∀ (l : List Kv) (d : Int), Kv.mays l d = l.all fun v => v.may d
 | [], _ => rfl
 | v :: l, d => by rw [Kv.mays, Kv.mays_all l d]; rfl
/-! What is read. -/
def tellV (oe : List UInt8 → Option Vl) (ok : List UInt8 → Option Kv) (d : Int) (l : List Fld) : Option (List UInt8 → Vl) :=
 if ((sel 1 l).all fun x => txt x.s) = false then none else
 let o := oneF [1, 2, 3, 4, 5, 6, 7] l
 if o.num = 1 ∨ o.num = 7 then some fun u => .mk o.num o.s false 0 [] [] [] u
 else if o.num = 2 then some fun u => .mk 2 [] (decide (0 < o.n)) 0 [] [] [] u
 else if o.num = 3 ∨ o.num = 4 then some fun u => .mk o.num [] false o.n [] [] [] u
 else if o.num = 5 then (match okG tbL (fun _ l => k'7 oe 1 l) o.all.flatten (d - 1) with
  | none => none
  | some p => some fun u => .mk 5 [] false 0 p.1 [] p.2 u)
 else if o.num = 6 then (match okG tbL (fun _ l => k'7 ok 1 l) o.all.flatten (d - 1) with
  | none => none
  | some p => some fun u => .mk 6 [] false 0 [] p.1 p.2 u)
 else some fun u => .mk 0 [] false 0 [] [] [] u
def tellK (ov : List UInt8 → Option Vl) (d : Int) (l : List Fld) : Option (List UInt8 → Kv) :=
 if ((sel 1 l).all fun x => txt x.s) = false then none else
 match partO ov noVl 2 l with
 | none => none
 | some p => some fun u => .mk (k'a l 1).s p.1 p.2 u
def apO {α : Type} (p : Option ((List UInt8 → α) × List UInt8)) : Option α := p.map fun p => p.1 p.2
def okVK : Nat → (List UInt8 → Option Vl) × (List UInt8 → Option Kv)
 | 0 => (fun _ => none, fun _ => none)
 | 1 => (fun s => apO (okG tbV (tellV (fun _ => none) (fun _ => none)) s 0), fun s => apO (okG tbK (tellK fun _ => none) s 0))
 | k + 2 => (fun s => apO (okG tbV (tellV (okVK k).1 (okVK k).2) s ((k : Int) + 1)), fun s => apO (okG tbK (tellK (okVK (k + 1)).1) s ((k : Int) + 1)))
def okV (s : List UInt8) (d : Int) : Option Vl := (okVK (d + 1).toNat).1 s
def okK (s : List UInt8) (d : Int) : Option Kv := (okVK (d + 1).toNat).2 s
theorem okV_eq (s : List UInt8) (d : Int) : okV s d = apO (okG tbV (tellV (fun s => okV s (d - 2)) fun s => okK s (d - 2)) s d) := by
 rcases Int.lt_or_le d 0 with h | h
 ·rw [okG_neg h]
  unfold okV
  rw [show (d + 1).toNat = 0 by omega]; rfl
 ·obtain ⟨k, rfl⟩ : ∃ n : Nat, d = n := ⟨d.toNat, by omega⟩
  rcases k with _ | k
  ·rfl
  ·unfold okV okK
   rw [show (((k + 1 : Nat) : Int) + 1).toNat = k + 2 by omega, show (((k + 1 : Nat) : Int) - 2 + 1).toNat = k by omega]
   rfl
theorem okK_eq (s : List UInt8) (d : Int) : okK s d = apO (okG tbK (tellK fun s => okV s (d - 1)) s d) := by
 rcases Int.lt_or_le d 0 with h | h
 ·rw [okG_neg h]
  unfold okK
  rw [show (d + 1).toNat = 0 by omega]; rfl
 ·obtain ⟨k, rfl⟩ : ∃ n : Nat, d = n := ⟨d.toNat, by omega⟩
  rcases k with _ | k
  ·rfl
  ·unfold okV okK
   rw [show (((k + 1 : Nat) : Int) + 1).toNat = k + 2 by omega, show (((k + 1 : Nat) : Int) - 1 + 1).toNat = k + 1 by omega]
   rfl
end Go.Proofs.YtnaojdjhjkendaaGreatDoor
/-! Values and attributes: what is written is read; less deep it is none; what is read may be. -/
namespace Go.Proofs.YtnaojdjhjkendaaGreatDoor
open Go Go.Abs
section
variable {β : Type} {tb : Nat → Nat → Bool} {tell : Int → List Fld → Option β} {hb u : List UInt8} {h : List Fld} {d e : Int}
theorem k'3e {s : List UInt8} {p : β × List UInt8} (hp : okG tb tell s d = some p) : ∃ l, okL s d = some l ∧ tell d (k'1 tb l) = some p.1 ∧ p.2 = unkL tb l ∧ restB tb p.2 d = true ∧ 0 ≤ d ∧ (∀ x ∈ k'1 tb l, FOk x) ∧ wt (k'1 tb l) + p.2.length ≤ s.length := by
 unfold okG at hp
 cases ho : okL s d with
 | none => rw [ho] at hp; simp at hp
 | some l =>
  rw [ho] at hp
  simp only at hp
  obtain ⟨-, -, h1, hd⟩ := k'1n ho
  obtain ⟨w1, w2⟩ := k'47 ho
  cases ht : tell d (k'1 tb l) with
  | none => rw [ht] at hp; simp at hp
  | some b =>
   rw [ht] at hp
   simp only [Option.some.injEq] at hp
   subst hp
   have key : ∀ l : List Fld, wt (k'1 tb l) + (unkL tb l).length = wt l := by
    intro l
    induction l with
    | nil => rfl
    | cons x l ih =>
     have hc : wt (x :: l) = x.raw.length + wt l := by simp [wt]
     have e1 : k'1 tb (x :: l) = if isT tb x then x :: k'1 tb l else k'1 tb l := by unfold k'1; rw [List.filter_cons]
     have e2 : unkL tb (x :: l) = if isT tb x then unkL tb l else x.raw ++ unkL tb l := by unfold unkL; rw [List.filter_cons]; cases isT tb x <;> rfl
     rw [e1, e2, hc]
     cases isT tb x with
     | true =>
      simp only [if_true]
      have : wt (x :: k'1 tb l) = x.raw.length + wt (k'1 tb l) := by simp [wt]
      omega
     | false => simp only [Bool.false_eq_true, if_false, List.length_append]; omega
   have := key l
   exact ⟨l, rfl, ht, rfl, unk_rest tb h1, hd, fun x hx => w2 x (List.mem_filter.1 hx).1, by show wt (k'1 tb l) + (unkL tb l).length ≤ _; omega⟩
end
theorem k'2z {α : Type} {p : Option ((List UInt8 → α) × List UInt8)} {v : α} (h : apO p = some v) : ∃ f u, p = some (f, u) ∧ v = f u := by
 unfold apO at h
 cases p with
 | none => simp at h
 | some q => simp at h; exact ⟨q.1, q.2, rfl, h.symm⟩
/-! Values of one record. -/
theorem all_false {α : Type} {p : α → Bool} {l : List α} (h : (l.all p) = false) : ∃ x ∈ l, p x = false := by
 induction l with
 | nil => simp at h
 | cons x l ih =>
  rw [List.all_cons] at h
  cases hx : p x with
  | false => exact ⟨x, List.mem_cons_self .., hx⟩
  | true =>
   rw [hx] at h
   obtain ⟨y, h1, h2⟩ := ih (by simpa using h)
   exact ⟨y, List.mem_cons_of_mem _ h1, h2⟩
end Go.Proofs.YtnaojdjhjkendaaGreatDoor
/-! Values and attributes: what is read may be, and is not long; deep enough is deep enough; alike. -/
namespace Go.Proofs.YtnaojdjhjkendaaGreatDoor
open Go Go.Abs
theorem wt_cons (x : Fld) (l : List Fld) : wt (x :: l) = x.raw.length + wt l := by simp [wt]
theorem wt_sel (m : Nat) (l : List Fld) : wt (sel m l) ≤ wt l := k'1l _ l
theorem lastF_s {l : List Fld} (h : ∀ x ∈ l, FOk x) (num : Nat) : (k'a l num).s.length ≤ wt l := by
 rcases lastF_mem num l with g | g
 ·have h1 := (h _ g).s
  have h2 : (k'a l num).raw.length ≤ wt l := by
   generalize k'a l num = y at *
   clear h h1
   induction l with
   | nil => simp at g
   | cons x l ih =>
    rw [wt_cons]
    rcases List.mem_cons.1 g with rfl | g
    ·omega
    ·have := ih g; omega
  omega
 ·rw [g]; show 0 ≤ _; omega
theorem k'18 {l : List Fld} (h : ∀ x ∈ l, FOk x) (num : Nat) : (k'a l num).n < 2 ^ 64 := by
 rcases lastF_mem num l with g | g
 ·exact (h _ g).n
 ·rw [g]; show 0 < 2 ^ 64; omega
theorem k'3a {l : List Fld} (h : ∀ x ∈ l, FOk x) (num : Nat) : (k'c l num).length ≤ wt l := k'34 num l h
theorem oneF_ok {ns : List Nat} {l : List Fld} (h : ∀ x ∈ l, FOk x) : (oneF ns l).n < 2 ^ 64 ∧ (oneF ns l).s.length ≤ wt l ∧ (oneF ns l).all.flatten.length ≤ wt l ∧ ((oneF ns l).num = 0 ∨ (ns.contains (oneF ns l).num = true ∧ ∃ x ∈ l, x.num = (oneF ns l).num ∧ x.s = (oneF ns l).s)) := by
 have key : ∀ (l l0 : List Fld) (o : OneS) (W : Nat), (∀ x ∈ l, FOk x) → (∀ x ∈ l, x ∈ l0) → o.n < 2 ^ 64 → o.s.length ≤ W → o.all.flatten.length ≤ W → (o.num = 0 ∨ (ns.contains o.num = true ∧ ∃ x ∈ l0, x.num = o.num ∧ x.s = o.s)) →
   (l.foldl (k'm ns) o).n < 2 ^ 64 ∧ (l.foldl (k'm ns) o).s.length ≤ W + wt l ∧ (l.foldl (k'm ns) o).all.flatten.length ≤ W + wt l ∧ ((l.foldl (k'm ns) o).num = 0 ∨ (ns.contains (l.foldl (k'm ns) o).num = true ∧ ∃ x ∈ l0, x.num = (l.foldl (k'm ns) o).num ∧ x.s = (l.foldl (k'm ns) o).s)) := by
  intro l l0
  induction l with
  | nil => intro o W _ _ h1 h2 h3 h4; exact ⟨h1, by simp [wt]; omega, by simpa [wt] using h3, h4⟩
  | cons x l ih =>
   intro o W hf hm h1 h2 h3 h4
   have hx := hf x (List.mem_cons_self ..)
   have hxs := hx.s
   rw [List.foldl_cons, wt_cons]
   have step : (k'm ns o x).n < 2 ^ 64 ∧ (k'm ns o x).s.length ≤ W + x.raw.length ∧ (k'm ns o x).all.flatten.length ≤ W + x.raw.length ∧ ((k'm ns o x).num = 0 ∨ (ns.contains (k'm ns o x).num = true ∧ ∃ y ∈ l0, y.num = (k'm ns o x).num ∧ y.s = (k'm ns o x).s)) := by
    unfold k'm
    split
    ·rename_i hc
     split
     ·refine ⟨hx.n, by show x.s.length ≤ _; omega, ?_, .inr ⟨hc, x, hm x (List.mem_cons_self ..), rfl, rfl⟩⟩
      simp only [List.flatten_append, List.flatten_cons, List.flatten_nil, List.append_nil, List.length_append]; omega
     ·refine ⟨hx.n, by show x.s.length ≤ _; omega, ?_, .inr ⟨hc, x, hm x (List.mem_cons_self ..), rfl, rfl⟩⟩
      simp only [List.flatten_cons, List.flatten_nil, List.append_nil]; omega
    ·exact ⟨h1, by omega, by omega, h4⟩
   obtain ⟨s1, s2, s3, s4⟩ := step
   obtain ⟨a, b, c, d⟩ := ih (k'm ns o x) (W + x.raw.length) (fun y hy => hf y (List.mem_cons_of_mem _ hy)) (fun y hy => hm y (List.mem_cons_of_mem _ hy)) s1 s2 s3 s4
   exact ⟨a, by omega, by omega, d⟩
 have := key l l noOne 0 h (fun x hx => hx) (by show 0 < 2 ^ 64; omega) (by simp [noOne]) (by simp [noOne]) (.inl rfl)
 simpa [oneF] using this
theorem parts_told {α : Type} {ok : List UInt8 → Option α} {sz : α → Nat} {szs : List α → Nat} (h0 : szs [] = 0) (h1 : ∀ x l, szs (x :: l) = sz x + szs l) (hs : ∀ s v, ok s = some v → sz v ≤ 100 + 100 * s.length) :
  ∀ {l : List Fld} {r : List α}, (∀ x ∈ l, FOk x) → mapO (fun x => ok x.s) l = some r → szs r ≤ 100 * wt l
 | [], r, _, h => by simp [mapO] at h; subst h; rw [h0]; omega
 | x :: l, r, hf, h => by
  have hx := (hf x (List.mem_cons_self ..)).s
  unfold mapO at h
  split at h
  ·simp at h
  ·rename_i y hy
   split at h
   ·simp at h
   ·rename_i r' hr
    injection h with h; subst h
    have := parts_told h0 h1 hs (fun y hy => hf y (List.mem_cons_of_mem _ hy)) hr
    have := hs _ _ hy
    rw [h1, wt_cons]; omega
theorem all_txt {l : List Fld} {m : Nat} {s : List UInt8} (h : ((sel m l).all fun x => txt x.s) = true) {x : Fld} (hx : x ∈ l) (hn : x.num = m) : txt x.s = true := List.all_eq_true.1 h x (sel_mem.2 ⟨hx, hn⟩)
theorem last_txt {l : List Fld} {m : Nat} (h : ((sel m l).all fun x => txt x.s) = true) : txt (k'a l m).s = true := by
 cases ha : anyL l m with
 | false => rw [lastF_no ha]; rfl
 | true => obtain ⟨h1, h2⟩ := lastF_num ha; exact all_txt (s := []) h h2 h1
theorem val_told (k : Nat) : ∀ d : Int, d < k →
  (∀ s v, okV s d = some v → v.may d = true ∧ v.wf ∧ v.sz ≤ 60 + 100 * s.length) ∧ (∀ s v, okK s d = some v → v.may d = true ∧ v.wf ∧ v.sz ≤ 100 + 100 * s.length) := by
 induction k with
 | zero =>
  intro d hd
  constructor
  ·intro s v h; rw [okV_eq, okG_neg (by omega)] at h; simp [apO] at h
  ·intro s v h; rw [okK_eq, okG_neg (by omega)] at h; simp [apO] at h
 | succ k ih =>
  intro d hdk
  constructor
  ·intro s v h
   rw [okV_eq] at h
   obtain ⟨f, u, h1, rfl⟩ := k'2z h
   obtain ⟨l, -, h2, -, h4, hd, hf, hw⟩ := k'3e h1
   dsimp only at h2 h4 hw
   obtain ⟨o1, o2, o3, o4⟩ := oneF_ok (ns := [1, 2, 3, 4, 5, 6, 7]) hf
   unfold tellV at h2
   split at h2
   ·simp at h2
   rename_i htx
   have htx : ((sel 1 (k'1 tbV l)).all fun x => txt x.s) = true := by simpa using htx
   dsimp only at h2
   generalize oneF [1, 2, 3, 4, 5, 6, 7] (k'1 tbV l) = o at *
   split at h2
   ·rename_i hk
    injection h2 with h2; subst h2
    have ht : o.num = 1 → txt o.s = true := fun h => by
     rcases o4 with g | ⟨-, x, g1, g2, g3⟩
     ·omega
     ·rw [← g3]; exact all_txt (s := []) htx g1 (by omega)
    refine ⟨?_, ⟨by omega, by rcases hk with h | h <;> rw [h] <;> omega, by omega, trivial, trivial⟩, by unfold Vl.sz; simp [Vl.szs, Kv.szs]; omega⟩
    unfold Vl.may
    rw [decide_eq_true hd, h4]
    rcases hk with h | h <;> rw [h]
    ·have := ht h
     simp [bareV, nestB, this]
    ·simp [bareV, nestB]
   split at h2
   ·rename_i hk
    injection h2 with h2; subst h2
    refine ⟨?_, ⟨by omega, by omega, by omega, trivial, trivial⟩, by unfold Vl.sz; simp [Vl.szs, Kv.szs]; omega⟩
    unfold Vl.may
    rw [decide_eq_true hd, h4]
    simp [bareV, nestB]
   split at h2
   ·rename_i hk
    injection h2 with h2; subst h2
    refine ⟨?_, ⟨by omega, by rcases hk with h | h <;> rw [h] <;> omega, o1, trivial, trivial⟩, by unfold Vl.sz; simp [Vl.szs, Kv.szs]; omega⟩
    unfold Vl.may
    rw [decide_eq_true hd, h4]
    rcases hk with h | h <;> rw [h] <;> simp [bareV, nestB]
   split at h2
   ·rename_i hk
    split at h2
    ·simp at h2
    rename_i p hp
    injection h2 with h2; subst h2
    obtain ⟨l2, -, g2, -, g4, gd, gf, gw⟩ := k'3e hp
    unfold k'7 at g2
    have hsz := parts_told (sz := Vl.sz) (szs := Vl.szs) rfl (fun _ _ => rfl) (fun s v h => by have := ((ih (d - 2) (by omega)).1 s v h).2.2; omega) (fok_sel gf 1) g2
    have hws := wt_sel 1 (k'1 tbL l2)
    have hel : ∀ y ∈ p.1, y.may (d - 2) = true ∧ y.wf := fun y hy => by
     obtain ⟨x, -, hx⟩ := mapO_mem g2 y hy
     have := (ih (d - 2) (by omega)).1 x.s y hx
     exact ⟨this.1, this.2.1⟩
    refine ⟨?_, ⟨by omega, by omega, by omega, Vl.wf_of fun y hy => (hel y hy).2, trivial⟩, by unfold Vl.sz; simp [Kv.szs]; omega⟩
    unfold Vl.may
    rw [decide_eq_true hd, h4, if_pos (.inl rfl), decide_eq_true (show 1 ≤ d by omega), g4, Vl.mays_all, List.all_eq_true.2 fun y hy => (hel y hy).1]
    simp [bareV, Kv.mays]
   split at h2
   ·rename_i hk
    split at h2
    ·simp at h2
    rename_i p hp
    injection h2 with h2; subst h2
    obtain ⟨l2, -, g2, -, g4, gd, gf, gw⟩ := k'3e hp
    unfold k'7 at g2
    have hsz := parts_told (sz := Kv.sz) (szs := Kv.szs) rfl (fun _ _ => rfl) (fun s v h => ((ih (d - 2) (by omega)).2 s v h).2.2) (fok_sel gf 1) g2
    have hws := wt_sel 1 (k'1 tbL l2)
    have hel : ∀ y ∈ p.1, y.may (d - 2) = true ∧ y.wf := fun y hy => by
     obtain ⟨x, -, hx⟩ := mapO_mem g2 y hy
     have := (ih (d - 2) (by omega)).2 x.s y hx
     exact ⟨this.1, this.2.1⟩
    refine ⟨?_, ⟨by omega, by omega, by omega, trivial, Kv.wf_of fun y hy => (hel y hy).2⟩, by unfold Vl.sz; simp [Vl.szs]; omega⟩
    unfold Vl.may
    rw [decide_eq_true hd, h4, if_pos (.inr rfl), decide_eq_true (show 1 ≤ d by omega), g4, Kv.mays_all, List.all_eq_true.2 fun y hy => (hel y hy).1]
    simp [bareV, Vl.mays]
   ·injection h2 with h2; subst h2
    refine ⟨?_, ⟨by omega, by omega, by omega, trivial, trivial⟩, by unfold Vl.sz; simp [Vl.szs, Kv.szs]; omega⟩
    unfold Vl.may
    rw [decide_eq_true hd, h4]
    simp [bareV, nestB]
  ·intro s v h
   rw [okK_eq] at h
   obtain ⟨f, u, h1, rfl⟩ := k'2z h
   obtain ⟨l, -, h2, -, h4, hd, hf, hw⟩ := k'3e h1
   dsimp only at h2 h4 hw
   unfold tellK at h2
   split at h2
   ·simp at h2
   rename_i htx
   have htx : ((sel 1 (k'1 tbK l)).all fun x => txt x.s) = true := by simpa using htx
   have hks := lastF_s hf 1
   have hbs := k'3a hf 2
   have hlt := last_txt htx
   split at h2
   ·simp at h2
   rename_i p hp
   injection h2 with h2; subst h2
   unfold partO at hp
   split at hp
   ·split at hp
    ·simp at hp
    rename_i x hx
    injection hp with hp; subst hp
    obtain ⟨i1, i2, i3⟩ := (ih (d - 1) (by omega)).1 _ x hx
    have hsum : (k'a (k'1 tbK l) 1).s.length + (k'c (k'1 tbK l) 2).length ≤ wt (k'1 tbK l) := by
     generalize k'1 tbK l = q at *
     have e1 : (k'a q 1).s.length ≤ wt (sel 1 q) := by rw [← sel_last]; exact lastF_s (fok_sel hf 1) 1
     have e2 : (k'c q 2).length ≤ wt (sel 2 q) := by
      have : k'c q 2 = k'c (sel 2 q) 2 := by rw [k'2m, k'2m, sel_of (n := 2) (fun x hx => (sel_mem.1 hx).2) 2, if_pos rfl]
      rw [this]; exact k'3a (fok_sel hf 2) 2
     have e3 : ∀ q : List Fld, wt (sel 1 q) + wt (sel 2 q) ≤ wt q := by
      intro q
      induction q with
      | nil => simp [sel_nil, wt]
      | cons x q ih =>
       rw [k'2h, k'2h, wt_cons]
       by_cases h1 : x.num = 1
       ·rw [if_pos h1, if_neg (by omega), wt_cons]; omega
       ·rw [if_neg h1]
        split
        ·rw [wt_cons]; omega
        ·omega
     have := e3 q; omega
    refine ⟨?_, i2, by unfold Kv.sz; simp only; omega⟩
    unfold Kv.may
    rw [decide_eq_true hd, hlt, h4]
    simpa using i1
   ·injection hp with hp; subst hp
    refine ⟨?_, ⟨by omega, by omega, by omega, trivial, trivial⟩, by unfold Kv.sz noVl Vl.sz; simp [Vl.szs, Kv.szs]; omega⟩
    unfold Kv.may
    rw [decide_eq_true hd, hlt, h4]; rfl
/-! Deep enough. -/
/-! Alike. -/
mutual
def Vl.eq : Vl → Vl → Bool
 | .mk kind s b n l m inner u, .mk kind' s' b' n' l' m' inner' u' => kind == kind' && s == s' && b == b' && n == n' && inner == inner' && u == u' && Vl.eqs l l' && Kv.eqs m m'
def Vl.eqs : List Vl → List Vl → Bool
 | [], [] => true
 | v :: l, w :: r => v.eq w && Vl.eqs l r
 | [], _ :: _ => false
 | _ :: _, [] => false
def Kv.eq : Kv → Kv → Bool
 | .mk key has v u, .mk key' has' v' u' => key == key' && has == has' && u == u' && v.eq v'
def Kv.eqs : List Kv → List Kv → Bool
 | [], [] => true
 | v :: l, w :: r => v.eq w && Kv.eqs l r
 | [], _ :: _ => false
 | _ :: _, [] => false
end
mutual
theorem Vl.eq_self : ∀ v : Vl, v.eq v = true
 | .mk kind s b n l m inner u => by unfold Vl.eq; simp [Vl.eqs_self l, Kv.eqs_self m]
theorem Vl.eqs_self : ∀ l : List Vl, Vl.eqs l l = true
 | [] => by simp [Vl.eqs]
 | v :: l => by unfold Vl.eqs; simp [Vl.eq_self v, Vl.eqs_self l]
theorem Kv.eq_self : ∀ v : Kv, v.eq v = true
 | .mk key has v u => by unfold Kv.eq; simp [Vl.eq_self v]
theorem Kv.eqs_self : ∀ l : List Kv, Kv.eqs l l = true
 | [] => by simp [Kv.eqs]
 | v :: l => by unfold Kv.eqs; simp [Kv.eq_self v, Kv.eqs_self l]
end
