/- Unknown records behind and ahead; groups as deep as told. And more. -/
import Derived.Test.YtnaojdjhjkendaaGreatDoorPG
import Derived.WalkKit
import Derived.LoopN
import Derived.Laws.MakeOwn
import Derived.Laws.OwnMore
import Derived.Laws.IdiomStrings
import Derived.Test.YtnaojdjhjkendaaGreatDoorWT
set_option linter.unusedSimpArgs false
set_option linter.unusedVariables false
set_option maxRecDepth 100000
/-! Unknown records behind and ahead; groups as deep as told. -/
namespace Go.Proofs.YtnaojdjhjkendaaGreatDoor
open Go Go.Abs
def okG {β : Type} (tb : Nat → Nat → Bool) (tell : Int → List Fld → Option β) (s : List UInt8) (d : Int) : Option (β × List UInt8) :=
 match okL s d with
 | none => none
 | some l => match tell d (knownL tb l) with
  | none => none
  | some b => some (b, unkL tb l)
theorem okL_neg {s : List UInt8} {d : Int} (h : d < 0) : okL s d = none := by unfold okL; rw [if_pos h]
section
variable {β : Type} {tb : Nat → Nat → Bool} {tell : Int → List Fld → Option β} {s w : List UInt8} {d : Int}
end
/-! Buckets. -/
theorem recE_f64 {n : Nat} (d : Int) (t : List UInt8) (h1 : 1 ≤ n) (h2 : n ≤ 536870911) (ht : t.length = 8) : recE (tagV n 1 ++ t) d 0 = .ok (⟨n, 1, leN t, [], tagV n 1 ++ t⟩, (tagV n 1 ++ t).length) := by
 unfold recE
 have hg := tagE_tagV [] t h1 h2 (show 1 < 8 by omega) (p := 0) rfl
 rw [List.nil_append, Nat.zero_add] at hg
 rw [hg]
 dsimp only
 unfold k'2c
 rw [if_neg (by omega), if_pos rfl]
 unfold takeE
 rw [if_neg (by simp; omega)]
 dsimp only
 rw [List.drop_left, ← ht, List.take_length, ← List.length_append, List.drop_zero, Nat.sub_zero, List.take_length]
/-! Groups. -/
end Go.Proofs.YtnaojdjhjkendaaGreatDoor
/-! Numbers of eight bytes, written and read back. -/
namespace Go.Proofs.YtnaojdjhjkendaaGreatDoor
open Go Go.Abs Go.RowKit
def leB : Nat → Nat → List UInt8
 | 0, _ => []
 | k + 1, n => UInt8.ofNat (n % 256) :: leB k (n / 256)
theorem leB_len : ∀ (k n : Nat), (leB k n).length = k
 | 0, _ => rfl
 | k + 1, n => by simp [leB, leB_len k]
theorem leN_leB : ∀ (k n : Nat), n < 256 ^ k → leN (leB k n) = n
 | 0, n, h => by simp at h; subst h; rfl
 | k + 1, n, h => by
  have := leN_leB k (n / 256) (by rw [Nat.pow_succ] at h; omega)
  simp only [leB, leN, this]
  rw [k'3q (by omega)]; omega
def le8 (n : Nat) : List UInt8 := leB 8 n
theorem k'3o (n : Nat) : (le8 n).length = 8 := leB_len 8 n
theorem le8_N {n : Nat} (h : n < 2 ^ 64) : leN (le8 n) = n := leN_leB 8 n h
set_option maxHeartbeats 4000000 in
theorem eight_run (n : Nat) (w : World) :
  Calls Tryz.prog 315 #[.int .u64 n] w fun e w' => e = .returned (.string ⟨(le8 n).toArray⟩) ∧ More w w' := by
 obtain ⟨i, hi, hib, his, hiz⟩ : ∃ i, Tryz.prog.info? 5 = some i ∧ i.bytes = 1 ∧ i.size = 1 ∧ i.zero = some (.int .u8 0) := by
  have h0 : (Tryz.prog.info? 5).map (fun i => (i.bytes, i.size, i.zero)) = some (1, 1, some (.int .u8 0)) := by kernel_rfl
  obtain ⟨i, h1, h2⟩ := Option.map_eq_some_iff.1 h0
  simp at h2
  exact ⟨i, h1, h2.1, h2.2.1, h2.2.2⟩
 have hmk := run_makeSlice (P := Tryz.prog) w 118 5 i (.int .u8 0) (by kernel_rfl) hi hiz .i64 .i64 8 8 (by omega) (by omega) (by rw [his]; decide) (by rw [hib]; decide) (by omega)
 have hmc : madeCells (Value.int .u8 0).cells (Int.toNat 8 * i.size) = #[.int .u8 0, .int .u8 0, .int .u8 0, .int .u8 0, .int .u8 0, .int .u8 0, .int .u8 0, .int .u8 0] := by rw [his]; kernel_rfl
 rw [hmc] at hmk
 have hbk := fun (w' : World) (l : List UInt8) (hl : l.length = 8) (hc : ∀ j (hj : j < l.length), w'.cell? ((⟨w.heap.size, 0, none⟩ : Addr).add j) = some (.int .u8 (l[j].toNat : Int))) => hl ▸ run_convert_bytes_back (P := Tryz.prog) w' 118 9 5 ⟨w.heap.size, 0, none⟩ 8 l (by kernel_rfl) (by kernel_rfl) (by kernel_rfl) hc
 clear hmc hi hib his hiz
 have hcv : ∀ k : Nat, Value.int .u8 ((n : Int) / (k : Int) % 256) = Value.int .u8 ((UInt8.ofNat (n / k % 256)).toNat : Int) := fun k => by
  rw [k'3q (by omega)]; congr 1
 go_enter Tryz.func315, Tryz.ntmps315
 go_wp2
 refine wp_loop_rounds 9 ?_
 iterate 9 (rw [rounds_succ]; go_wp2)
 rw [hbk _ (le8 n) (k'3o n) ?_]
 ·simp only [Result.andThen]
  rw [Oper.upon_value]
  go_wp2
  go_ret
  exact ⟨rfl, More.alloc _ _⟩
 ·intro j hj
  rw [k'3o] at hj
  have ha : (⟨w.heap.size, 0, none⟩ : Addr).add j = ⟨w.heap.size, j, none⟩ := by unfold Addr.add; split <;> simp_all
  have hc := World.cell?_alloc_new w #[Value.int IntKind.u8 ((n : Int) % 256), Value.int IntKind.u8 ((n : Int) / 256 % 256), Value.int IntKind.u8 ((n : Int) / 65536 % 256), Value.int IntKind.u8 ((n : Int) / 16777216 % 256), Value.int IntKind.u8 ((n : Int) / 4294967296 % 256), Value.int IntKind.u8 ((n : Int) / 1099511627776 % 256), Value.int IntKind.u8 ((n : Int) / 281474976710656 % 256), Value.int IntKind.u8 ((n : Int) / 72057594037927936 % 256)] 5 j
  rw [ha]
  refine hc.trans ?_
  have hb : ∀ k : Nat, (UInt8.ofNat (k % 256)).toNat = k % 256 := fun k => k'3q (by omega)
  rcases j with _ | _ | _ | _ | _ | _ | _ | _ | j
  ·simp [le8, leB]
  ·simp [le8, leB]
  ·simp [le8, leB]; omega
  ·simp [le8, leB]; omega
  ·simp [le8, leB]; omega
  ·simp [le8, leB]; omega
  ·simp [le8, leB]; omega
  ·simp [le8, leB]; omega
  ·omega
open Go Go.Abs
variable (B : Fr)
theorem leaf_calls {X : Ctx} {f : FuncId} {args : List T} {x : D} (hf : ∃ fn, X.P.funcs[f]? = some fn ∧ fn.body.isSome = true ∧ (fn.name == "runtime.NumGoroutine") = false)
  (h : ∀ F ρ w vs, TRs F ρ w (.tmp 0) args vs → ∃ v, DR F x v ∧ Calls X.P f vs.toArray w fun e w' => e = .returned v ∧ More w w') : k'0 X f args [] (.d x) [] := by
 refine ⟨hf, fun F ρ w vs hwr hvs hnt hb => ?_⟩
 obtain ⟨v, hx, hc⟩ := h F ρ w vs hvs
 refine hc.mono fun e w' ⟨he, hm⟩ => ?_
 have h1 : WR F ρ w' ([] ++ []) := hwr.more hm (Sub.refl F) (fun _ _ _ => rfl) (fun _ _ => rfl) (fun b off v hb e => absurd (k'y (hwr.fix b off v e)) (by omega)) (fun b hb => Nat.lt_of_lt_of_le (hwr.lt b hb) hm.size)
  (fun b i hb e => absurd (hwr.lt b (by rw [e]; simp)) (by omega))
 exact ⟨v, F, ρ, he, h1, .d hx, Ext.more hwr hm (Sub.refl F) (fun _ _ _ => rfl) (fun _ _ => rfl), hnt⟩
theorem eight_calls (n : Nat) : k'0 (cx B) 315 [uT n] [] (sT (le8 n)) [] := by
 refine leaf_calls ⟨Tryz.f315, Tryz.func315, rfl, rfl⟩ fun F ρ w vs hvs => ?_
 cases hvs with
 | cons hp hr =>
 cases hr
 obtain rfl := hp.inv_int
 exact ⟨_, .str _, eight_run n w⟩
theorem Fixed_calls (n m : Nat) (h1 : 1 ≤ n) (h2 : n ≤ 536870911) : k'0 (cx B) 282 [iT n, uT m] [] (sT (tagV n 1 ++ le8 m)) [] := by
 have hlen := k'3o m
 refine l_bw Tryz.func282 0 [] ?_
 refine k'2 [] (eight_calls B m) rfl rfl rfl ?_
 refine k'2 [] (put_calls B n 1 (le8 m) h1 h2 (by omega) (by unfold most; omega)) rfl rfl rfl ?_
 exact Z
end Go.Proofs.YtnaojdjhjkendaaGreatDoor
/-! What a message's records of a number tell; what is written, as records. -/
namespace Go.Proofs.YtnaojdjhjkendaaGreatDoor
open Go Go.Abs
def sel (num : Nat) (l : List Fld) : List Fld := l.filter fun x => x.num == num
theorem k'9 (m : Nat) (a b : List Fld) : sel m (a ++ b) = sel m a ++ sel m b := by unfold sel; rw [List.filter_append]
theorem sel_cons (m : Nat) (x : Fld) (l : List Fld) : sel m (x :: l) = if x.num = m then x :: sel m l else sel m l := by
 unfold sel
 rw [List.filter_cons]
 by_cases h : x.num = m <;> simp [h]
theorem sel_of {n : Nat} {l : List Fld} (h : ∀ x ∈ l, x.num = n) (m : Nat) : sel m l = if n = m then l else [] := by
 unfold sel
 split
 ·rename_i e; subst e
  exact List.filter_eq_self.2 fun x hx => by simpa using h x hx
 ·rename_i e
  exact List.filter_eq_nil_iff.2 fun x hx => by have := h x hx; simp; omega
theorem sel_any (m : Nat) (l : List Fld) : anyL (sel m l) m = anyL l m := by
 induction l with
 | nil => rfl
 | cons x l ih => rw [sel_cons, anyL_cons]; split <;> (rename_i h; simp [anyL_cons, h, ih])
theorem sel_last (m : Nat) (l : List Fld) : k'z (sel m l) m = k'z l m := by
 induction l with
 | nil => rfl
 | cons x l ih =>
  rw [sel_cons, lastF_cons]
  split
  ·rename_i h; rw [lastF_cons, sel_any, ih, if_pos h]
  ·rename_i h
   rw [ih]
   cases ha : anyL l m with
   | true => simp
   | false => rw [lastF_no ha]; simp [h]
theorem anyL_sel (m : Nat) (l : List Fld) : anyL l m = !(sel m l).isEmpty := by
 induction l with
 | nil => rfl
 | cons x l ih => rw [sel_cons, anyL_cons, ih]; split <;> (rename_i h; simp [h])
theorem bytesL_sel (m : Nat) (l : List Fld) : bytesL l m = (sel m l).flatMap Fld.s := rfl
def mapO {α β : Type} (f : α → Option β) : List α → Option (List β)
 | [] => some []
 | x :: l => match f x with
  | none => none
  | some y => match mapO f l with
   | none => none
   | some r => some (y :: r)
section
variable {α β γ : Type} {f g : α → Option β}
theorem mapO_map (h : γ → α) : ∀ (l : List γ), mapO f (l.map h) = mapO (fun x => f (h x)) l
 | [] => rfl
 | x :: l => by simp only [List.map_cons, mapO, mapO_map h l]
theorem mapO_congr : ∀ {l : List α}, (∀ x ∈ l, f x = g x) → mapO f l = mapO g l
 | [], _ => rfl
 | x :: l, h => by
  simp only [mapO]
  rw [h x (List.mem_cons_self ..), mapO_congr fun z hz => h z (List.mem_cons_of_mem _ hz)]
end
def k'1q {α : Type} (ok : List UInt8 → Option α) (num : Nat) (l : List Fld) : Option (List α) := mapO (fun x => ok x.s) (sel num l)
def partO {α : Type} (ok : List UInt8 → Option α) (z : α) (num : Nat) (l : List Fld) : Option (Bool × α) :=
 if anyL l num then (match ok (bytesL l num) with | none => none | some x => some (true, x)) else some (false, z)
/-! What is written, as records. -/
def fxV (n v : Nat) : List UInt8 := if v = 0 then [] else tagV n 1 ++ le8 v
def e8V (n v : Nat) : List UInt8 := tagV n 1 ++ le8 v
def paV (n : Nat) (s : List UInt8) : List UInt8 := tagV n 2 ++ (putV s.length ++ s)
def txV (n : Nat) (s : List UInt8) : List UInt8 := if s = [] then [] else paV n s
def psV (n : Nat) (l : List (List UInt8)) : List UInt8 := l.flatMap (paV n)
def opV (n : Nat) (h : Bool) (v : Nat) : List UInt8 := if h then e8V n v else []
def fewV (n v : Nat) : List UInt8 := tagV n 0 ++ putV v
def flV (n : Nat) (b : Bool) : List UInt8 := if b then fewV n 1 else []
def k'4c (l : List Nat) : List UInt8 := l.flatMap le8
def pwV (n : Nat) (cs : List Nat) : List UInt8 := txV n (k'4c cs)
def e8R (n v : Nat) : Fld := ⟨n, 1, v, [], e8V n v⟩
def paR (n : Nat) (s : List UInt8) : Fld := ⟨n, 2, 0, s, paV n s⟩
def fewR (n v : Nat) : Fld := ⟨n, 0, v, [], fewV n v⟩
def fxF (n v : Nat) : List Fld := if v = 0 then [] else [e8R n v]
def txF (n : Nat) (s : List UInt8) : List Fld := if s = [] then [] else [paR n s]
def psF (n : Nat) (l : List (List UInt8)) : List Fld := l.map (paR n)
def opF (n : Nat) (h : Bool) (v : Nat) : List Fld := if h then [e8R n v] else []
def vrF (n v : Nat) : List Fld := if v = 0 then [] else [fewR n v]
def flF (n : Nat) (b : Bool) : List Fld := if b then [fewR n 1] else []
def pwF (n : Nat) (cs : List Nat) : List Fld := txF n (k'4c cs)
section
variable {n v : Nat} (h1 : 1 ≤ n) (h2 : n ≤ 536870911) (d : Int)
include h1 h2
theorem all_e8 (hv : v < 2 ^ 64) : all (e8V n v) d = .ok [e8R n v] := by
 have h := recE_f64 d (le8 v) h1 h2 (k'3o v)
 rw [le8_N hv] at h
 exact rec_all h
theorem k'3r (hv : v < 2 ^ 64) : all (fxV n v) d = .ok (fxF n v) := by
 unfold fxV fxF
 split
 ·exact all_nil d
 ·exact all_e8 h1 h2 d hv
theorem all_op (b : Bool) (hv : v < 2 ^ 64) : all (opV n b v) d = .ok (opF n b v) := by
 cases b with
 | false => exact all_nil d
 | true => exact all_e8 h1 h2 d hv
theorem all_pa {s : List UInt8} (hs : s.length < 2 ^ 64) : all (paV n s) d = .ok [paR n s] := rec_all (recE_str d s h1 h2 hs)
theorem all_tx {s : List UInt8} (hs : s.length < 2 ^ 64) : all (txV n s) d = .ok (txF n s) := by
 unfold txV txF
 split
 ·exact all_nil d
 ·exact all_pa h1 h2 d hs
theorem k'4a : ∀ {l : List (List UInt8)}, (∀ s ∈ l, s.length < 2 ^ 64) → all (psV n l) d = .ok (psF n l)
 | [], _ => all_nil d
 | s :: l, h => k'3 (all_pa h1 h2 d (h s (List.mem_cons_self ..))) (k'4a fun t ht => h t (List.mem_cons_of_mem _ ht))
theorem all_few (hv : v < 2 ^ 64) : all (fewV n v) d = .ok [fewR n v] := rec_all (recE_var d h1 h2 hv)
theorem all_vr (hv : v < 2 ^ 64) : all (vrV n v) d = .ok (vrF n v) := by
 unfold vrV vrF
 split
 ·exact all_nil d
 ·exact all_few h1 h2 d hv
theorem all_fl (b : Bool) : all (flV n b) d = .ok (flF n b) := by
 cases b with
 | false => exact all_nil d
 | true => exact all_few h1 h2 d (by omega)
end
theorem k'35 (l : List Nat) : (k'4c l).length = 8 * l.length := by
 induction l with
 | nil => rfl
 | cons n l ih => simp [k'4c, k'3o] at *; omega
section
variable (n m v : Nat) (s : List UInt8) (b : Bool)
theorem k's : sel m (fxF n v) = if n = m then fxF n v else [] := sel_of (by unfold fxF; split <;> simp [e8R]) m
theorem k'r : sel m (opF n b v) = if n = m then opF n b v else [] := sel_of (by unfold opF; split <;> simp [e8R]) m
theorem k'p : sel m (txF n s) = if n = m then txF n s else [] := sel_of (by unfold txF; split <;> simp [paR]) m
theorem k'n (l : List (List UInt8)) : sel m (psF n l) = if n = m then psF n l else [] := sel_of (by unfold psF; simp [paR]) m
theorem k'q : sel m (vrF n v) = if n = m then vrF n v else [] := sel_of (by unfold vrF; split <;> simp [fewR]) m
end
section
variable {tb : Nat → Nat → Bool} (n v : Nat) (s : List UInt8) (b : Bool)
end
section
variable (n v : Nat) (s : List UInt8) (b : Bool)
theorem last_one (x : Fld) (h : x.num = n) : k'z [x] n = x := by rw [lastF_cons, if_neg (by simp [anyL]), if_pos h]
theorem tell_fx : (k'z (fxF n v) n).n = v := by
 unfold fxF; split
 ·rename_i h; rw [h]; rfl
 ·rw [last_one n _ rfl]; rfl
theorem tell_tx : (k'z (txF n s) n).s = s := by
 unfold txF; split
 ·rename_i h; rw [h]; rfl
 ·rw [last_one n _ rfl]; rfl
theorem tell_vr : (k'z (vrF n v) n).n = v := by
 unfold vrF; split
 ·rename_i h; rw [h]; rfl
 ·rw [last_one n _ rfl]; rfl
theorem tell_op (h : b = true ∨ v = 0) : anyL (opF n b v) n = b ∧ (k'z (opF n b v) n).n = v := by
 cases b
 ·have : v = 0 := by simpa using h
  subst this; exact ⟨rfl, rfl⟩
 show anyL [e8R n v] n = true ∧ (k'z [e8R n v] n).n = v
 rw [last_one n _ rfl]; simp [anyL, e8R]
theorem tell_ps {α : Type} (ok : List UInt8 → Option α) (l : List (List UInt8)) : k'1q ok n (psF n l) = mapO ok l := by
 unfold k'1q
 rw [k'n, if_pos rfl]
 unfold psF
 rw [mapO_map]
 exact mapO_congr fun x _ => rfl
theorem tell_pk {rd : List UInt8 → Except Er (List Nat)} {cs : List Nat} (h0 : s = [] → cs = []) (h : rd s = .ok cs) : packO rd n (txF n s) = some cs := by
 unfold txF; split
 ·rename_i e; rw [h0 e]; rfl
 ·unfold packO paR
  simp only [if_true, h]
  simp [packO]
end
end Go.Proofs.YtnaojdjhjkendaaGreatDoor
/-! Values and attributes: what they are, their bytes, what may be, what is read. -/
namespace Go.Proofs.YtnaojdjhjkendaaGreatDoor
open Go Go.Abs
mutual
inductive Vl where
 | mk (kind : Int) (s : List UInt8) (b : Bool) (n : Nat) (l : List Vl) (m : List Kv) (inner u : List UInt8)
inductive Kv where
 | mk (key : List UInt8) (has : Bool) (v : Vl) (u : List UInt8)
end
def noVl : Vl := .mk 0 [] false 0 [] [] [] []
/-! How much there is. -/
mutual
def Vl.sz : Vl → Nat
 | .mk _ s _ _ l m inner u => 60 + s.length + inner.length + u.length + Vl.szs l + Kv.szs m
def Vl.szs : List Vl → Nat
 | [] => 0
 | v :: r => v.sz + Vl.szs r
def Kv.sz : Kv → Nat
 | .mk key _ v u => 40 + key.length + u.length + v.sz
def Kv.szs : List Kv → Nat
 | [] => 0
 | k :: r => k.sz + Kv.szs r
end
theorem Vl.sz_mem : ∀ {l : List Vl} {v : Vl}, v ∈ l → v.sz ≤ Vl.szs l
 | x :: l, v, h => by
  rcases List.mem_cons.1 h with rfl | h
  ·simp [Vl.szs]
  ·have := Vl.sz_mem h; simp [Vl.szs]; omega
theorem Kv.sz_mem : ∀ {l : List Kv} {v : Kv}, v ∈ l → v.sz ≤ Kv.szs l
 | x :: l, v, h => by
  rcases List.mem_cons.1 h with rfl | h
  ·simp [Kv.szs]
  ·have := Kv.sz_mem h; simp [Kv.szs]; omega
/-! The numbers are numbers. -/
mutual
def Vl.wf : Vl → Prop
 | .mk kind _ _ n l m _ _ => -9223372036854775808 ≤ kind ∧ kind < 9223372036854775808 ∧ n < 2 ^ 64 ∧ Vl.wfs l ∧ Kv.wfs m
def Vl.wfs : List Vl → Prop
 | [] => True
 | v :: r => v.wf ∧ Vl.wfs r
def Kv.wf : Kv → Prop
 | .mk _ _ v _ => v.wf
def Kv.wfs : List Kv → Prop
 | [] => True
 | k :: r => k.wf ∧ Kv.wfs r
end
theorem Vl.wf_mem : ∀ {l : List Vl}, Vl.wfs l → ∀ v ∈ l, v.wf
 | x :: l, h, v, hv => by
  rcases List.mem_cons.1 hv with rfl | hv
  ·exact h.1
  ·exact Vl.wf_mem h.2 v hv
theorem Kv.wf_mem : ∀ {l : List Kv}, Kv.wfs l → ∀ v ∈ l, v.wf
 | x :: l, h, v, hv => by
  rcases List.mem_cons.1 hv with rfl | hv
  ·exact h.1
  ·exact Kv.wf_mem h.2 v hv
/-! Their bytes. -/
mutual
def Vl.mar : Vl → List UInt8
 | .mk kind s b n l m inner u =>
  (if kind = 1 then paV 1 s else if kind = 7 then paV 7 s else if kind = 2 then fewV 2 (if b then 1 else n) else if kind = 3 then fewV 3 n else if kind = 4 then e8V 4 n
   else if kind = 5 then paV 5 (psV 1 (Vl.mars l) ++ inner) else if kind = 6 then paV 6 (psV 1 (Kv.mars m) ++ inner) else []) ++ u
def Vl.mars : List Vl → List (List UInt8)
 | [] => []
 | v :: r => v.mar :: Vl.mars r
def Kv.mar : Kv → List UInt8
 | .mk key has v u => txV 1 key ++ (if has then paV 2 v.mar else []) ++ u
def Kv.mars : List Kv → List (List UInt8)
 | [] => []
 | k :: r => k.mar :: Kv.mars r
end
theorem Vl.mars_map : ∀ l : List Vl, Vl.mars l = l.map Vl.mar
 | [] => rfl
 | v :: l => by rw [Vl.mars, Vl.mars_map l]; rfl
theorem Kv.mars_map : ∀ l : List Kv, Kv.mars l = l.map Kv.mar
 | [] => rfl
 | v :: l => by rw [Kv.mars, Kv.mars_map l]; rfl
theorem k'25 (n : Nat) (s : List UInt8) : (paV n s).length ≤ 20 + s.length := by
 have := k'44 n 2; have := k'11 s.length
 unfold paV; simp; omega
theorem txV_len (n : Nat) (s : List UInt8) : (txV n s).length ≤ 20 + s.length := by
 have := k'25 n s
 unfold txV; split <;> simp; omega
theorem fewV_len (n v : Nat) : (fewV n v).length ≤ 20 := by
 have := k'44 n 0; have := k'11 v
 unfold fewV; simp; omega
theorem e8V_len (n v : Nat) : (e8V n v).length ≤ 18 := by
 have := k'44 n 1; have := k'3o v
 unfold e8V; simp; omega
theorem psV_cons (n : Nat) (s : List UInt8) (l : List (List UInt8)) : psV n (s :: l) = paV n s ++ psV n l := rfl
mutual
theorem Vl.mar_len : ∀ v : Vl, v.mar.length + 20 ≤ v.sz
 | .mk kind s b n l m inner u => by
  have h1 := k'25 1 s
  have h2 := k'25 7 s
  have h3 := fewV_len 2 (if b then 1 else n)
  have h4 := fewV_len 3 n
  have h5 := e8V_len 4 n
  have h6 := k'25 5 (psV 1 (Vl.mars l) ++ inner)
  have h7 := k'25 6 (psV 1 (Kv.mars m) ++ inner)
  have h8 := Vl.mars_len l
  have h9 := Kv.mars_len m
  rw [List.length_append] at h6 h7
  unfold Vl.mar Vl.sz
  rw [List.length_append]
  split
  ·omega
  split
  ·omega
  split
  ·omega
  split
  ·omega
  split
  ·omega
  split
  ·omega
  split
  ·omega
  ·simp; omega
theorem Vl.mars_len : ∀ l : List Vl, (psV 1 (Vl.mars l)).length ≤ Vl.szs l
 | [] => by simp [Vl.mars, Vl.szs, psV]
 | v :: r => by
  have h1 := Vl.mar_len v
  have h2 := Vl.mars_len r
  have h3 := k'25 1 v.mar
  unfold Vl.mars Vl.szs
  rw [psV_cons, List.length_append]; omega
theorem Kv.mar_len : ∀ k : Kv, k.mar.length + 20 ≤ k.sz
 | .mk key has v u => by
  have h1 := Vl.mar_len v
  have h2 := txV_len 1 key
  have h3 := k'25 2 v.mar
  unfold Kv.mar Kv.sz
  rw [List.length_append, List.length_append]
  split
  ·omega
  ·simp; omega
theorem Kv.mars_len : ∀ l : List Kv, (psV 1 (Kv.mars l)).length ≤ Kv.szs l
 | [] => by simp [Kv.mars, Kv.szs, psV]
 | v :: r => by
  have h1 := Kv.mar_len v
  have h2 := Kv.mars_len r
  have h3 := k'25 1 v.mar
  unfold Kv.mars Kv.szs
  rw [psV_cons, List.length_append]; omega
end
/-! May they be? -/
def k'1j (ll lm : Nat) (inner : List UInt8) : Bool := ll == 0 && lm == 0 && inner == []
def k'16 (kind : Int) (s : List UInt8) (b : Bool) (n ll lm : Nat) (inner : List UInt8) : Bool :=
 if kind = 1 then txt s && (n == 0 && !b && k'1j ll lm inner)
 else if kind = 7 then n == 0 && !b && k'1j ll lm inner
 else if kind = 2 then s == [] && n == 0 && k'1j ll lm inner
 else if kind = 3 ∨ kind = 4 then s == [] && !b && k'1j ll lm inner
 else if kind = 0 then s == [] && n == 0 && !b && k'1j ll lm inner
 else if kind = 5 then s == [] && n == 0 && !b && lm == 0
 else if kind = 6 then s == [] && n == 0 && !b && ll == 0
 else false
def Vl.isNo : Vl → Bool
 | .mk kind s b n l m inner u => kind == 0 && s == [] && b == false && n == 0 && inner == [] && u == [] && l.length == 0 && m.length == 0
mutual
def Vl.may : Vl → Int → Bool
 | .mk kind s b n l m inner u, d => decide (0 ≤ d) && k'16 kind s b n l.length m.length inner && k'1v tbV u d &&
  (if kind = 5 ∨ kind = 6 then decide (1 ≤ d) && k'1v tbL inner (d - 1) && Vl.mays l (d - 2) && Kv.mays m (d - 2) else true)
def Vl.mays : List Vl → Int → Bool
 | [], _ => true
 | v :: r, d => v.may d && Vl.mays r d
def Kv.may : Kv → Int → Bool
 | .mk key has v u, d => decide (0 ≤ d) && txt key && k'1v tbK u d && (if has then v.may (d - 1) else v.isNo)
def Kv.mays : List Kv → Int → Bool
 | [], _ => true
 | k :: r, d => k.may d && Kv.mays r d
end
theorem Vl.mays_all : ∀ (l : List Vl) (d : Int), Vl.mays l d = l.all fun v => v.may d
 | [], _ => rfl
 | v :: l, d => by rw [Vl.mays, Vl.mays_all l d]; rfl
theorem Kv.mays_all : ∀ (l : List Kv) (d : Int), Kv.mays l d = l.all fun v => v.may d
 | [], _ => rfl
 | v :: l, d => by rw [Kv.mays, Kv.mays_all l d]; rfl
/-! What is read. -/
def tellV (oe : List UInt8 → Option Vl) (ok : List UInt8 → Option Kv) (d : Int) (l : List Fld) : Option (List UInt8 → Vl) :=
 if ((sel 1 l).all fun x => txt x.s) = false then none else
 let o := oneF [1, 2, 3, 4, 5, 6, 7] l
 if o.num = 1 ∨ o.num = 7 then some fun u => .mk o.num o.s false 0 [] [] [] u
 else if o.num = 2 then some fun u => .mk 2 [] (decide (0 < o.n)) 0 [] [] [] u
 else if o.num = 3 ∨ o.num = 4 then some fun u => .mk o.num [] false o.n [] [] [] u
 else if o.num = 5 then (match okG tbL (fun _ l => k'1q oe 1 l) o.all.flatten (d - 1) with
  | none => none
  | some p => some fun u => .mk 5 [] false 0 p.1 [] p.2 u)
 else if o.num = 6 then (match okG tbL (fun _ l => k'1q ok 1 l) o.all.flatten (d - 1) with
  | none => none
  | some p => some fun u => .mk 6 [] false 0 [] p.1 p.2 u)
 else some fun u => .mk 0 [] false 0 [] [] [] u
def tellK (ov : List UInt8 → Option Vl) (d : Int) (l : List Fld) : Option (List UInt8 → Kv) :=
 if ((sel 1 l).all fun x => txt x.s) = false then none else
 match partO ov noVl 2 l with
 | none => none
 | some p => some fun u => .mk (k'z l 1).s p.1 p.2 u
def apO {α : Type} (p : Option ((List UInt8 → α) × List UInt8)) : Option α := p.map fun p => p.1 p.2
def okVK : Nat → (List UInt8 → Option Vl) × (List UInt8 → Option Kv)
 | 0 => (fun _ => none, fun _ => none)
 | 1 => (fun s => apO (okG tbV (tellV (fun _ => none) (fun _ => none)) s 0), fun s => apO (okG tbK (tellK fun _ => none) s 0))
 | k + 2 => (fun s => apO (okG tbV (tellV (okVK k).1 (okVK k).2) s ((k : Int) + 1)), fun s => apO (okG tbK (tellK (okVK (k + 1)).1) s ((k : Int) + 1)))
def okK (s : List UInt8) (d : Int) : Option Kv := (okVK (d + 1).toNat).2 s
end Go.Proofs.YtnaojdjhjkendaaGreatDoor
/-! Values and attributes: what is written is read; less deep it is none; what is read may be. -/
namespace Go.Proofs.YtnaojdjhjkendaaGreatDoor
open Go Go.Abs
section
variable {β : Type} {tb : Nat → Nat → Bool} {tell : Int → List Fld → Option β} {hb u : List UInt8} {h : List Fld} {d e : Int}
end
/-! Values of one record. -/
end Go.Proofs.YtnaojdjhjkendaaGreatDoor
/-! Values and attributes: what is read may be, and is not long; deep enough is deep enough; alike. -/
namespace Go.Proofs.YtnaojdjhjkendaaGreatDoor
open Go Go.Abs
/-! Deep enough. -/
theorem k'2j {tb : Nat → Nat → Bool} {u : List UInt8} {d e : Int} (hde : (u.length : Int) ≤ e) (h : k'1v tb u d = true) : k'1v tb u e = true := by
 unfold k'1v at h ⊢
 cases ha : all u d with
 | error e => rw [ha] at h; simp at h
 | ok l =>
  have hb : all u e = .ok l := allE_far hde ha
  rw [ha] at h; rw [hb]; exact h
mutual
theorem Vl.far : ∀ (v : Vl) (d e : Int), (v.sz : Int) ≤ e → v.may d = true → v.may e = true
 | .mk kind s b n l m inner u, d, e, hs, h => by
  unfold Vl.sz at hs
  unfold Vl.may at h ⊢
  simp only [Bool.and_eq_true, decide_eq_true_eq] at h ⊢
  obtain ⟨⟨⟨h1, h2⟩, h3⟩, h4⟩ := h
  refine ⟨⟨⟨by omega, h2⟩, k'2j (by omega) h3⟩, ?_⟩
  split
  ·rw [if_pos ‹_›] at h4
   simp only [Bool.and_eq_true, decide_eq_true_eq] at h4 ⊢
   obtain ⟨⟨⟨g1, g2⟩, g3⟩, g4⟩ := h4
   exact ⟨⟨⟨by omega, k'2j (by omega) g2⟩, Vl.fars l (d - 2) (e - 2) (by omega) g3⟩, Kv.fars m (d - 2) (e - 2) (by omega) g4⟩
  ·rfl
theorem Vl.fars : ∀ (l : List Vl) (d e : Int), (Vl.szs l : Int) ≤ e → Vl.mays l d = true → Vl.mays l e = true
 | [], _, _, _, _ => rfl
 | v :: l, d, e, hs, h => by
  unfold Vl.szs at hs
  unfold Vl.mays at h ⊢
  rw [Bool.and_eq_true] at h ⊢
  exact ⟨Vl.far v d e (by omega) h.1, Vl.fars l d e (by omega) h.2⟩
theorem Kv.far : ∀ (v : Kv) (d e : Int), (v.sz : Int) ≤ e → v.may d = true → v.may e = true
 | .mk key has v u, d, e, hs, h => by
  unfold Kv.sz at hs
  unfold Kv.may at h ⊢
  simp only [Bool.and_eq_true, decide_eq_true_eq] at h ⊢
  obtain ⟨⟨⟨h1, h2⟩, h3⟩, h4⟩ := h
  refine ⟨⟨⟨by omega, h2⟩, k'2j (by omega) h3⟩, ?_⟩
  split
  ·rw [if_pos ‹_›] at h4
   exact Vl.far v (d - 1) (e - 1) (by omega) h4
  ·rw [if_neg ‹_›] at h4; exact h4
theorem Kv.fars : ∀ (l : List Kv) (d e : Int), (Kv.szs l : Int) ≤ e → Kv.mays l d = true → Kv.mays l e = true
 | [], _, _, _, _ => rfl
 | v :: l, d, e, hs, h => by
  unfold Kv.szs at hs
  unfold Kv.mays at h ⊢
  rw [Bool.and_eq_true] at h ⊢
  exact ⟨Kv.far v d e (by omega) h.1, Kv.fars l d e (by omega) h.2⟩
end
/-! Alike. -/
mutual
def Vl.eq : Vl → Vl → Bool
 | .mk kind s b n l m inner u, .mk kind' s' b' n' l' m' inner' u' => kind == kind' && s == s' && b == b' && n == n' && inner == inner' && u == u' && Vl.eqs l l' && Kv.eqs m m'
def Vl.eqs : List Vl → List Vl → Bool
 | [], [] => true
 | v :: l, w :: r => v.eq w && Vl.eqs l r
 | [], _ :: _ => false
 | _ :: _, [] => false
def Kv.eq : Kv → Kv → Bool
 | .mk key has v u, .mk key' has' v' u' => key == key' && has == has' && u == u' && v.eq v'
def Kv.eqs : List Kv → List Kv → Bool
 | [], [] => true
 | v :: l, w :: r => v.eq w && Kv.eqs l r
 | [], _ :: _ => false
 | _ :: _, [] => false
end
