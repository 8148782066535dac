/- Unknown records behind and ahead; groups as deep as told. And more. -/
import Derived.Test.YtcfkbpddmdfbaaaGreatDoorPG
import Derived.WalkKit
import Derived.LoopN
import Derived.Laws.MakeOwn
import Derived.Laws.OwnMore
import Derived.Laws.IdiomStrings
import Derived.Test.YtcfkbpddmdfbaaaGreatDoorWT
import Derived.Shelf.Strings.OnBuilder
set_option linter.unusedSimpArgs false
set_option linter.unusedVariables false
set_option maxRecDepth 100000
namespace Go.Proofs.YtcfkbpddmdfbaaaGreatDoor
open Go Go.Abs
variable (B : Fr)
/-! Unknown records behind and ahead; groups as deep as told. -/
section
def okG {β : Type} (tb : Nat → Nat → Bool) (tell : Int → List Fld → Option β) (s : List UInt8) (d : Int) : Option (β × List UInt8) :=
 match okL s d with
 | none => none
 | some l => match tell d (knownL tb l) with
  | none => none
  | some b => some (b, unkL tb l)
theorem okL_neg {s : List UInt8} {d : Int} (h : d < 0) : okL s d = none := by unfold okL; rw [if_pos h]
section
variable {β : Type} {tb : Nat → Nat → Bool} {tell : Int → List Fld → Option β} {s w : List UInt8} {d : Int}
end
/-! Buckets. -/
theorem recE_f64 {n : Nat} (d : Int) (t : List UInt8) (h1 : 1 ≤ n) (h2 : n ≤ 536870911) (ht : t.length = 8) : recE (tagV n 1 ++ t) d 0 = .ok (⟨n, 1, leN t, [], tagV n 1 ++ t⟩, (tagV n 1 ++ t).length) := by
 unfold recE
 have hg := tagE_tagV [] t h1 h2 (show 1 < 8 by omega) (p := 0) rfl
 rw [List.nil_append, Nat.zero_add] at hg
 rw [hg]
 dsimp only
 unfold k'2w
 rw [if_neg (by omega), if_pos rfl]
 unfold takeE
 rw [if_neg (by simp; omega)]
 dsimp only
 rw [List.drop_left, ← ht, List.take_length, ← List.length_append, List.drop_zero, Nat.sub_zero, List.take_length]
/-! Groups. -/
end
/-! Numbers of eight bytes, written and read back. -/
section
open Go Go.Abs Go.RowKit
def leB : Nat → Nat → List UInt8
 | 0, _ => []
 | k + 1, n => UInt8.ofNat (n % 256) :: leB k (n / 256)
theorem leB_len : ∀ (k n : Nat), (leB k n).length = k
 | 0, _ => rfl
 | k + 1, n => by simp [leB, leB_len k]
theorem leN_leB : ∀ (k n : Nat), n < 256 ^ k → leN (leB k n) = n
 | 0, n, h => by simp at h; subst h; rfl
 | k + 1, n, h => by
  have := leN_leB k (n / 256) (by rw [Nat.pow_succ] at h; omega)
  simp only [leB, leN, this]
  rw [k'3z (by omega)]; omega
def le8 (n : Nat) : List UInt8 := leB 8 n
theorem k'3x (n : Nat) : (le8 n).length = 8 := leB_len 8 n
theorem le8_N {n : Nat} (h : n < 2 ^ 64) : leN (le8 n) = n := leN_leB 8 n h
set_option maxHeartbeats 4000000 in
theorem eight_run (n : Nat) (w : World) :
  Calls Tryz.prog 446 #[.int .u64 n] w fun e w' => e = .returned (.string ⟨(le8 n).toArray⟩) ∧ More w w' := by
 obtain ⟨i, hi, hib, his, hiz⟩ : ∃ i, Tryz.prog.info? 5 = some i ∧ i.bytes = 1 ∧ i.size = 1 ∧ i.zero = some (.int .u8 0) := by
  have h0 : (Tryz.prog.info? 5).map (fun i => (i.bytes, i.size, i.zero)) = some (1, 1, some (.int .u8 0)) := by kernel_rfl
  obtain ⟨i, h1, h2⟩ := Option.map_eq_some_iff.1 h0
  simp at h2
  exact ⟨i, h1, h2.1, h2.2.1, h2.2.2⟩
 have hmk := run_makeSlice (P := Tryz.prog) w 54 5 i (.int .u8 0) (by kernel_rfl) hi hiz .i64 .i64 8 8 (by omega) (by omega) (by rw [his]; decide) (by rw [hib]; decide) (by omega)
 have hmc : madeCells (Value.int .u8 0).cells (Int.toNat 8 * i.size) = #[.int .u8 0, .int .u8 0, .int .u8 0, .int .u8 0, .int .u8 0, .int .u8 0, .int .u8 0, .int .u8 0] := by rw [his]; kernel_rfl
 rw [hmc] at hmk
 have hbk := fun (w' : World) (l : List UInt8) (hl : l.length = 8) (hc : ∀ j (hj : j < l.length), w'.cell? ((⟨w.heap.size, 0, none⟩ : Addr).add j) = some (.int .u8 (l[j].toNat : Int))) => hl ▸ run_convert_bytes_back (P := Tryz.prog) w' 54 9 5 ⟨w.heap.size, 0, none⟩ 8 l (by kernel_rfl) (by kernel_rfl) (by kernel_rfl) hc
 clear hmc hi hib his hiz
 have hcv : ∀ k : Nat, Value.int .u8 ((n : Int) / (k : Int) % 256) = Value.int .u8 ((UInt8.ofNat (n / k % 256)).toNat : Int) := fun k => by
  rw [k'3z (by omega)]; congr 1
 go_enter Tryz.func446, Tryz.ntmps446
 go_wp2
 refine wp_loop_rounds 9 ?_
 iterate 9 (rw [rounds_succ]; go_wp2)
 rw [hbk _ (le8 n) (k'3x n) ?_]
 ·simp only [Result.andThen]
  rw [Oper.upon_value]
  go_wp2
  go_ret
  exact ⟨rfl, More.alloc _ _⟩
 ·intro j hj
  rw [k'3x] at hj
  have ha : (⟨w.heap.size, 0, none⟩ : Addr).add j = ⟨w.heap.size, j, none⟩ := by unfold Addr.add; split <;> simp_all
  have hc := World.cell?_alloc_new w #[Value.int IntKind.u8 ((n : Int) % 256), Value.int IntKind.u8 ((n : Int) / 256 % 256), Value.int IntKind.u8 ((n : Int) / 65536 % 256), Value.int IntKind.u8 ((n : Int) / 16777216 % 256), Value.int IntKind.u8 ((n : Int) / 4294967296 % 256), Value.int IntKind.u8 ((n : Int) / 1099511627776 % 256), Value.int IntKind.u8 ((n : Int) / 281474976710656 % 256), Value.int IntKind.u8 ((n : Int) / 72057594037927936 % 256)] 5 j
  rw [ha]
  refine hc.trans ?_
  have hb : ∀ k : Nat, (UInt8.ofNat (k % 256)).toNat = k % 256 := fun k => k'3z (by omega)
  rcases j with _ | _ | _ | _ | _ | _ | _ | _ | j
  ·simp [le8, leB]
  ·simp [le8, leB]
  ·simp [le8, leB]; omega
  ·simp [le8, leB]; omega
  ·simp [le8, leB]; omega
  ·simp [le8, leB]; omega
  ·simp [le8, leB]; omega
  ·simp [le8, leB]; omega
  ·omega
theorem leaf_calls {X : Ctx} {f : FuncId} {args : List T} {x : D} (hf : ∃ fn, X.P.funcs[f]? = some fn ∧ fn.body.isSome = true ∧ (fn.name == "runtime.NumGoroutine") = false)
  (h : ∀ F ρ w vs, TRs F ρ w (.tmp 0) args vs → ∃ v, DR F x v ∧ Calls X.P f vs.toArray w fun e w' => e = .returned v ∧ More w w') : k'0 X f args [] (.d x) [] := by
 refine ⟨hf, fun F ρ w vs hwr hvs hnt hb => ?_⟩
 obtain ⟨v, hx, hc⟩ := h F ρ w vs hvs
 refine hc.mono fun e w' ⟨he, hm⟩ => ?_
 have h1 : WR F ρ w' ([] ++ []) := hwr.more hm (Sub.refl F) (fun _ _ _ => rfl) (fun _ _ => rfl) (fun b off v hb e => absurd (k'1c (hwr.fix b off v e)) (by omega)) (fun b hb => Nat.lt_of_lt_of_le (hwr.lt b hb) hm.size)
  (fun b i hb e => absurd (hwr.lt b (by rw [e]; simp)) (by omega))
 exact ⟨v, F, ρ, he, h1, .d hx, Ext.more hwr hm (Sub.refl F) (fun _ _ _ => rfl) (fun _ _ => rfl), hnt⟩
theorem eight_calls (n : Nat) : k'0 (cx B) 446 [uT n] [] (sT (le8 n)) [] := by
 refine leaf_calls ⟨Tryz.f446, Tryz.func446, rfl, rfl⟩ fun F ρ w vs hvs => ?_
 cases hvs with
 | cons hp hr =>
 cases hr
 obtain rfl := hp.inv_int
 exact ⟨_, .str _, eight_run n w⟩
theorem Fixed_calls (n m : Nat) (h1 : 1 ≤ n) (h2 : n ≤ 536870911) : k'0 (cx B) 436 [iT n, uT m] [] (sT (tagV n 1 ++ le8 m)) [] := by
 have hlen := k'3x m
 refine l_bw Tryz.func436 0 [] ?_
 refine k'2 [] (eight_calls B m) rfl rfl rfl ?_
 refine k'2 [] (put_calls B n 1 (le8 m) h1 h2 (by omega) (by unfold most; omega)) rfl rfl rfl ?_
 exact Z
end
/-! What a message's records of a number tell; what is written, as records. -/
section
def sel (num : Nat) (l : List Fld) : List Fld := l.filter fun x => x.num == num
theorem k'b (m : Nat) (a b : List Fld) : sel m (a ++ b) = sel m a ++ sel m b := by unfold sel; rw [List.filter_append]
theorem sel_cons (m : Nat) (x : Fld) (l : List Fld) : sel m (x :: l) = if x.num = m then x :: sel m l else sel m l := by
 unfold sel
 rw [List.filter_cons]
 by_cases h : x.num = m <;> simp [h]
theorem sel_mem {m : Nat} {l : List Fld} {x : Fld} : x ∈ sel m l ↔ x ∈ l ∧ x.num = m := by unfold sel; simp
theorem sel_of {n : Nat} {l : List Fld} (h : ∀ x ∈ l, x.num = n) (m : Nat) : sel m l = if n = m then l else [] := by
 unfold sel
 split
 ·rename_i e; subst e
  exact List.filter_eq_self.2 fun x hx => by simpa using h x hx
 ·rename_i e
  exact List.filter_eq_nil_iff.2 fun x hx => by have := h x hx; simp; omega
theorem sel_any (m : Nat) (l : List Fld) : anyL (sel m l) m = anyL l m := by
 induction l with
 | nil => rfl
 | cons x l ih => rw [sel_cons, anyL_cons]; split <;> (rename_i h; simp [anyL_cons, h, ih])
theorem sel_last (m : Nat) (l : List Fld) : k'19 (sel m l) m = k'19 l m := by
 induction l with
 | nil => rfl
 | cons x l ih =>
  rw [sel_cons, lastF_cons]
  split
  ·rename_i h; rw [lastF_cons, sel_any, ih, if_pos h]
  ·rename_i h
   rw [ih]
   cases ha : anyL l m with
   | true => simp
   | false => rw [lastF_no ha]; simp [h]
theorem anyL_sel (m : Nat) (l : List Fld) : anyL l m = !(sel m l).isEmpty := by
 induction l with
 | nil => rfl
 | cons x l ih => rw [sel_cons, anyL_cons, ih]; split <;> (rename_i h; simp [h])
theorem bytesL_sel (m : Nat) (l : List Fld) : bytesL l m = (sel m l).flatMap Fld.s := rfl
theorem fok_sel {l : List Fld} (h : ∀ x ∈ l, FOk x) (m : Nat) : ∀ x ∈ sel m l, FOk x := fun x hx => h x (sel_mem.1 hx).1
def mapO {α β : Type} (f : α → Option β) : List α → Option (List β)
 | [] => some []
 | x :: l => match f x with
  | none => none
  | some y => match mapO f l with
   | none => none
   | some r => some (y :: r)
section
variable {α β γ : Type} {f g : α → Option β}
theorem mapO_none : ∀ {l : List α} {x : α}, x ∈ l → f x = none → mapO f l = none
 | y :: l, x, hx, h => by
  unfold mapO
  rcases List.mem_cons.1 hx with rfl | hx
  ·rw [h]
  ·cases f y with
   | none => rfl
   | some z => simp only; rw [mapO_none hx h]
theorem mapO_map (h : γ → α) : ∀ (l : List γ), mapO f (l.map h) = mapO (fun x => f (h x)) l
 | [] => rfl
 | x :: l => by simp only [List.map_cons, mapO, mapO_map h l]
theorem mapO_id {h : β → α} : ∀ {l : List β}, (∀ y ∈ l, f (h y) = some y) → mapO f (l.map h) = some l
 | [], _ => rfl
 | y :: l, k => by
  simp only [List.map_cons, mapO, k y (List.mem_cons_self ..)]
  rw [mapO_id fun z hz => k z (List.mem_cons_of_mem _ hz)]
theorem mapO_congr : ∀ {l : List α}, (∀ x ∈ l, f x = g x) → mapO f l = mapO g l
 | [], _ => rfl
 | x :: l, h => by
  simp only [mapO]
  rw [h x (List.mem_cons_self ..), mapO_congr fun z hz => h z (List.mem_cons_of_mem _ hz)]
end
def k'1o {α : Type} (ok : List UInt8 → Option α) (num : Nat) (l : List Fld) : Option (List α) := mapO (fun x => ok x.s) (sel num l)
def partO {α : Type} (ok : List UInt8 → Option α) (z : α) (num : Nat) (l : List Fld) : Option (Bool × α) :=
 if anyL l num then (match ok (bytesL l num) with | none => none | some x => some (true, x)) else some (false, z)
/-! What is written, as records. -/
def fxV (n v : Nat) : List UInt8 := if v = 0 then [] else tagV n 1 ++ le8 v
def e8V (n v : Nat) : List UInt8 := tagV n 1 ++ le8 v
def paV (n : Nat) (s : List UInt8) : List UInt8 := tagV n 2 ++ (putV s.length ++ s)
def txV (n : Nat) (s : List UInt8) : List UInt8 := if s = [] then [] else paV n s
def psV (n : Nat) (l : List (List UInt8)) : List UInt8 := l.flatMap (paV n)
def opV (n : Nat) (h : Bool) (v : Nat) : List UInt8 := if h then e8V n v else []
def fewV (n v : Nat) : List UInt8 := tagV n 0 ++ putV v
def flV (n : Nat) (b : Bool) : List UInt8 := if b then fewV n 1 else []
def k'4r (l : List Nat) : List UInt8 := l.flatMap le8
def pwV (n : Nat) (cs : List Nat) : List UInt8 := txV n (k'4r cs)
def e8R (n v : Nat) : Fld := ⟨n, 1, v, [], e8V n v⟩
def paR (n : Nat) (s : List UInt8) : Fld := ⟨n, 2, 0, s, paV n s⟩
def fewR (n v : Nat) : Fld := ⟨n, 0, v, [], fewV n v⟩
def fxF (n v : Nat) : List Fld := if v = 0 then [] else [e8R n v]
def txF (n : Nat) (s : List UInt8) : List Fld := if s = [] then [] else [paR n s]
def psF (n : Nat) (l : List (List UInt8)) : List Fld := l.map (paR n)
def opF (n : Nat) (h : Bool) (v : Nat) : List Fld := if h then [e8R n v] else []
def vrF (n v : Nat) : List Fld := if v = 0 then [] else [fewR n v]
def flF (n : Nat) (b : Bool) : List Fld := if b then [fewR n 1] else []
def pwF (n : Nat) (cs : List Nat) : List Fld := txF n (k'4r cs)
section
variable {n v : Nat} (h1 : 1 ≤ n) (h2 : n ≤ 536870911) (d : Int)
include h1 h2
theorem all_e8 (hv : v < 2 ^ 64) : all (e8V n v) d = .ok [e8R n v] := by
 have h := recE_f64 d (le8 v) h1 h2 (k'3x v)
 rw [le8_N hv] at h
 exact rec_all h
theorem k'41 (hv : v < 2 ^ 64) : all (fxV n v) d = .ok (fxF n v) := by
 unfold fxV fxF
 split
 ·exact all_nil d
 ·exact all_e8 h1 h2 d hv
theorem all_op (b : Bool) (hv : v < 2 ^ 64) : all (opV n b v) d = .ok (opF n b v) := by
 cases b with
 | false => exact all_nil d
 | true => exact all_e8 h1 h2 d hv
theorem all_pa {s : List UInt8} (hs : s.length < 2 ^ 64) : all (paV n s) d = .ok [paR n s] := rec_all (recE_str d s h1 h2 hs)
theorem all_tx {s : List UInt8} (hs : s.length < 2 ^ 64) : all (txV n s) d = .ok (txF n s) := by
 unfold txV txF
 split
 ·exact all_nil d
 ·exact all_pa h1 h2 d hs
theorem k'40 : ∀ {l : List (List UInt8)}, (∀ s ∈ l, s.length < 2 ^ 64) → all (psV n l) d = .ok (psF n l)
 | [], _ => all_nil d
 | s :: l, h => k'4 (all_pa h1 h2 d (h s (List.mem_cons_self ..))) (k'40 fun t ht => h t (List.mem_cons_of_mem _ ht))
theorem all_few (hv : v < 2 ^ 64) : all (fewV n v) d = .ok [fewR n v] := rec_all (recE_var d h1 h2 hv)
theorem all_vr (hv : v < 2 ^ 64) : all (vrV n v) d = .ok (vrF n v) := by
 unfold vrV vrF
 split
 ·exact all_nil d
 ·exact all_few h1 h2 d hv
theorem all_fl (b : Bool) : all (flV n b) d = .ok (flF n b) := by
 cases b with
 | false => exact all_nil d
 | true => exact all_few h1 h2 d (by omega)
end
theorem k'39 (l : List Nat) : (k'4r l).length = 8 * l.length := by
 induction l with
 | nil => rfl
 | cons n l ih => simp [k'4r, k'3x] at *; omega
section
variable (n m v : Nat) (s : List UInt8) (b : Bool)
theorem k'u : sel m (fxF n v) = if n = m then fxF n v else [] := sel_of (by unfold fxF; split <;> simp [e8R]) m
theorem k't : sel m (opF n b v) = if n = m then opF n b v else [] := sel_of (by unfold opF; split <;> simp [e8R]) m
theorem k'q : sel m (txF n s) = if n = m then txF n s else [] := sel_of (by unfold txF; split <;> simp [paR]) m
theorem k'p (l : List (List UInt8)) : sel m (psF n l) = if n = m then psF n l else [] := sel_of (by unfold psF; simp [paR]) m
theorem k's : sel m (vrF n v) = if n = m then vrF n v else [] := sel_of (by unfold vrF; split <;> simp [fewR]) m
end
section
variable {tb : Nat → Nat → Bool} (n v : Nat) (s : List UInt8) (b : Bool)
end
section
variable (n v : Nat) (s : List UInt8) (b : Bool)
theorem last_one (x : Fld) (h : x.num = n) : k'19 [x] n = x := by rw [lastF_cons, if_neg (by simp [anyL]), if_pos h]
theorem tell_fx : (k'19 (fxF n v) n).n = v := by
 unfold fxF; split
 ·rename_i h; rw [h]; rfl
 ·rw [last_one n _ rfl]; rfl
theorem tell_tx : (k'19 (txF n s) n).s = s := by
 unfold txF; split
 ·rename_i h; rw [h]; rfl
 ·rw [last_one n _ rfl]; rfl
theorem tell_vr : (k'19 (vrF n v) n).n = v := by
 unfold vrF; split
 ·rename_i h; rw [h]; rfl
 ·rw [last_one n _ rfl]; rfl
theorem tell_op (h : b = true ∨ v = 0) : anyL (opF n b v) n = b ∧ (k'19 (opF n b v) n).n = v := by
 cases b
 ·have : v = 0 := by simpa using h
  subst this; exact ⟨rfl, rfl⟩
 show anyL [e8R n v] n = true ∧ (k'19 [e8R n v] n).n = v
 rw [last_one n _ rfl]; simp [anyL, e8R]
theorem tell_ps {α : Type} (ok : List UInt8 → Option α) (l : List (List UInt8)) : k'1o ok n (psF n l) = mapO ok l := by
 unfold k'1o
 rw [k'p, if_pos rfl]
 unfold psF
 rw [mapO_map]
 exact mapO_congr fun x _ => rfl
theorem tell_pk {rd : List UInt8 → Except Er (List Nat)} {cs : List Nat} (h0 : s = [] → cs = []) (h : rd s = .ok cs) : packO rd n (txF n s) = some cs := by
 unfold txF; split
 ·rename_i e; rw [h0 e]; rfl
 ·unfold packO paR
  simp only [if_true, h]
  simp [packO]
end
end
/-! Values and attributes: what they are, their bytes, what may be, what is read. -/
section
mutual
inductive Vl where
 | mk (kind : Int) (s : List UInt8) (b : Bool) (n : Nat) (l : List Vl) (m : List Kv) (inner u : List UInt8)
inductive Kv where
 | mk (key : List UInt8) (has : Bool) (v : Vl) (u : List UInt8)
end
def noVl : Vl := .mk 0 [] false 0 [] [] [] []
/-! How much there is. -/
mutual
def Vl.sz : Vl → Nat
 | .mk _ s _ _ l m inner u => 60 + s.length + inner.length + u.length + Vl.szs l + Kv.szs m
def Vl.szs : List Vl → Nat
 | [] => 0
 | v :: r => v.sz + Vl.szs r
def Kv.sz : Kv → Nat
 | .mk key _ v u => 40 + key.length + u.length + v.sz
def Kv.szs : List Kv → Nat
 | [] => 0
 | k :: r => k.sz + Kv.szs r
end
theorem Vl.sz_mem : ∀ {l : List Vl} {v : Vl}, v ∈ l → v.sz ≤ Vl.szs l
 | x :: l, v, h => by
  rcases List.mem_cons.1 h with rfl | h
  ·simp [Vl.szs]
  ·have := Vl.sz_mem h; simp [Vl.szs]; omega
theorem Kv.sz_mem : ∀ {l : List Kv} {v : Kv}, v ∈ l → v.sz ≤ Kv.szs l
 | x :: l, v, h => by
  rcases List.mem_cons.1 h with rfl | h
  ·simp [Kv.szs]
  ·have := Kv.sz_mem h; simp [Kv.szs]; omega
/-! The numbers are numbers. -/
mutual
def Vl.wf : Vl → Prop
 | .mk kind _ _ n l m _ _ => -9223372036854775808 ≤ kind ∧ kind < 9223372036854775808 ∧ n < 2 ^ 64 ∧ Vl.wfs l ∧ Kv.wfs m
def Vl.wfs : List Vl → Prop
 | [] => True
 | v :: r => v.wf ∧ Vl.wfs r
def Kv.wf : Kv → Prop
 | .mk _ _ v _ => v.wf
def Kv.wfs : List Kv → Prop
 | [] => True
 | k :: r => k.wf ∧ Kv.wfs r
end
theorem Vl.wf_mem : ∀ {l : List Vl}, Vl.wfs l → ∀ v ∈ l, v.wf
 | x :: l, h, v, hv => by
  rcases List.mem_cons.1 hv with rfl | hv
  ·exact h.1
  ·exact Vl.wf_mem h.2 v hv
theorem Kv.wf_mem : ∀ {l : List Kv}, Kv.wfs l → ∀ v ∈ l, v.wf
 | x :: l, h, v, hv => by
  rcases List.mem_cons.1 hv with rfl | hv
  ·exact h.1
  ·exact Kv.wf_mem h.2 v hv
/-! Their bytes. -/
mutual
def Vl.mar : Vl → List UInt8
 | .mk kind s b n l m inner u =>
  (if kind = 1 then paV 1 s else if kind = 7 then paV 7 s else if kind = 2 then fewV 2 (if b then 1 else n) else if kind = 3 then fewV 3 n else if kind = 4 then e8V 4 n
   else if kind = 5 then paV 5 (psV 1 (Vl.mars l) ++ inner) else if kind = 6 then paV 6 (psV 1 (Kv.mars m) ++ inner) else []) ++ u
def Vl.mars : List Vl → List (List UInt8)
 | [] => []
 | v :: r => v.mar :: Vl.mars r
def Kv.mar : Kv → List UInt8
 | .mk key has v u => txV 1 key ++ (if has then paV 2 v.mar else []) ++ u
def Kv.mars : List Kv → List (List UInt8)
 | [] => []
 | k :: r => k.mar :: Kv.mars r
end
theorem Vl.mars_map : ∀ l : List Vl, Vl.mars l = l.map Vl.mar
 | [] => rfl
 | v :: l => by rw [Vl.mars, Vl.mars_map l]; rfl
theorem Kv.mars_map : ∀ l : List Kv, Kv.mars l = l.map Kv.mar
 | [] => rfl
 | v :: l => by rw [Kv.mars, Kv.mars_map l]; rfl
theorem k'2b (n : Nat) (s : List UInt8) : (paV n s).length ≤ 20 + s.length := by
 have := k'4j n 2; have := k'1e s.length
 unfold paV; simp; omega
theorem k'3m (n : Nat) (s : List UInt8) : (txV n s).length ≤ 20 + s.length := by
 have := k'2b n s
 unfold txV; split <;> simp; omega
theorem fewV_len (n v : Nat) : (fewV n v).length ≤ 20 := by
 have := k'4j n 0; have := k'1e v
 unfold fewV; simp; omega
theorem e8V_len (n v : Nat) : (e8V n v).length ≤ 18 := by
 have := k'4j n 1; have := k'3x v
 unfold e8V; simp; omega
theorem psV_cons (n : Nat) (s : List UInt8) (l : List (List UInt8)) : psV n (s :: l) = paV n s ++ psV n l := rfl
mutual
theorem Vl.mar_len : ∀ v : Vl, v.mar.length + 20 ≤ v.sz
 | .mk kind s b n l m inner u => by
  have h1 := k'2b 1 s
  have h2 := k'2b 7 s
  have h3 := fewV_len 2 (if b then 1 else n)
  have h4 := fewV_len 3 n
  have h5 := e8V_len 4 n
  have h6 := k'2b 5 (psV 1 (Vl.mars l) ++ inner)
  have h7 := k'2b 6 (psV 1 (Kv.mars m) ++ inner)
  have h8 := Vl.mars_len l
  have h9 := Kv.mars_len m
  rw [List.length_append] at h6 h7
  unfold Vl.mar Vl.sz
  rw [List.length_append]
  split
  ·omega
  split
  ·omega
  split
  ·omega
  split
  ·omega
  split
  ·omega
  split
  ·omega
  split
  ·omega
  ·simp; omega
theorem Vl.mars_len : ∀ l : List Vl, (psV 1 (Vl.mars l)).length ≤ Vl.szs l
 | [] => by simp [Vl.mars, Vl.szs, psV]
 | v :: r => by
  have h1 := Vl.mar_len v
  have h2 := Vl.mars_len r
  have h3 := k'2b 1 v.mar
  unfold Vl.mars Vl.szs
  rw [psV_cons, List.length_append]; omega
theorem Kv.mar_len : ∀ k : Kv, k.mar.length + 20 ≤ k.sz
 | .mk key has v u => by
  have h1 := Vl.mar_len v
  have h2 := k'3m 1 key
  have h3 := k'2b 2 v.mar
  unfold Kv.mar Kv.sz
  rw [List.length_append, List.length_append]
  split
  ·omega
  ·simp; omega
theorem Kv.mars_len : ∀ l : List Kv, (psV 1 (Kv.mars l)).length ≤ Kv.szs l
 | [] => by simp [Kv.mars, Kv.szs, psV]
 | v :: r => by
  have h1 := Kv.mar_len v
  have h2 := Kv.mars_len r
  have h3 := k'2b 1 v.mar
  unfold Kv.mars Kv.szs
  rw [psV_cons, List.length_append]; omega
end
/-! May they be? -/
def k'1s (ll lm : Nat) (inner : List UInt8) : Bool := ll == 0 && lm == 0 && inner == []
def k'1l (kind : Int) (s : List UInt8) (b : Bool) (n ll lm : Nat) (inner : List UInt8) : Bool :=
 if kind = 1 then txt s && (n == 0 && !b && k'1s ll lm inner)
 else if kind = 7 then n == 0 && !b && k'1s ll lm inner
 else if kind = 2 then s == [] && n == 0 && k'1s ll lm inner
 else if kind = 3 ∨ kind = 4 then s == [] && !b && k'1s ll lm inner
 else if kind = 0 then s == [] && n == 0 && !b && k'1s ll lm inner
 else if kind = 5 then s == [] && n == 0 && !b && lm == 0
 else if kind = 6 then s == [] && n == 0 && !b && ll == 0
 else false
def Vl.isNo : Vl → Bool
 | .mk kind s b n l m inner u => kind == 0 && s == [] && b == false && n == 0 && inner == [] && u == [] && l.length == 0 && m.length == 0
mutual
def Vl.may : Vl → Int → Bool
 | .mk kind s b n l m inner u, d => decide (0 ≤ d) && k'1l kind s b n l.length m.length inner && k'1a tbV u d &&
  (if kind = 5 ∨ kind = 6 then decide (1 ≤ d) && k'1a tbL inner (d - 1) && Vl.mays l (d - 2) && Kv.mays m (d - 2) else true)
def Vl.mays : List Vl → Int → Bool
 | [], _ => true
 | v :: r, d => v.may d && Vl.mays r d
def Kv.may : Kv → Int → Bool
 | .mk key has v u, d => decide (0 ≤ d) && txt key && k'1a tbK u d && (if has then v.may (d - 1) else v.isNo)
def Kv.mays : List Kv → Int → Bool
 | [], _ => true
 | k :: r, d => k.may d && Kv.mays r d
end
theorem Vl.mays_all : ∀ (l : List Vl) (d : Int), Vl.mays l d = l.all fun v => v.may d
 | [], _ => rfl
 | v :: l, d => by rw [Vl.mays, Vl.mays_all l d]; rfl
theorem Kv.mays_all : ∀ (l : List Kv) (d : Int), Kv.mays l d = l.all fun v => v.may d
 | [], _ => rfl
 | v :: l, d => by rw [Kv.mays, Kv.mays_all l d]; rfl
theorem Vl.isNo_eq {v : Vl} (h : v.isNo = true) : v = noVl := by
 cases v with
 | mk kind s b n l m inner u =>
 unfold Vl.isNo at h
 simp at h
 obtain ⟨⟨⟨⟨⟨⟨⟨rfl, rfl⟩, rfl⟩, rfl⟩, rfl⟩, rfl⟩, rfl⟩, rfl⟩ := h
 rfl
/-! What is read. -/
def tellV (oe : List UInt8 → Option Vl) (ok : List UInt8 → Option Kv) (d : Int) (l : List Fld) : Option (List UInt8 → Vl) :=
 if ((sel 1 l).all fun x => txt x.s) = false then none else
 let o := oneF [1, 2, 3, 4, 5, 6, 7] l
 if o.num = 1 ∨ o.num = 7 then some fun u => .mk o.num o.s false 0 [] [] [] u
 else if o.num = 2 then some fun u => .mk 2 [] (decide (0 < o.n)) 0 [] [] [] u
 else if o.num = 3 ∨ o.num = 4 then some fun u => .mk o.num [] false o.n [] [] [] u
 else if o.num = 5 then (match okG tbL (fun _ l => k'1o oe 1 l) o.all.flatten (d - 1) with
  | none => none
  | some p => some fun u => .mk 5 [] false 0 p.1 [] p.2 u)
 else if o.num = 6 then (match okG tbL (fun _ l => k'1o ok 1 l) o.all.flatten (d - 1) with
  | none => none
  | some p => some fun u => .mk 6 [] false 0 [] p.1 p.2 u)
 else some fun u => .mk 0 [] false 0 [] [] [] u
def tellK (ov : List UInt8 → Option Vl) (d : Int) (l : List Fld) : Option (List UInt8 → Kv) :=
 if ((sel 1 l).all fun x => txt x.s) = false then none else
 match partO ov noVl 2 l with
 | none => none
 | some p => some fun u => .mk (k'19 l 1).s p.1 p.2 u
def apO {α : Type} (p : Option ((List UInt8 → α) × List UInt8)) : Option α := p.map fun p => p.1 p.2
def okVK : Nat → (List UInt8 → Option Vl) × (List UInt8 → Option Kv)
 | 0 => (fun _ => none, fun _ => none)
 | 1 => (fun s => apO (okG tbV (tellV (fun _ => none) (fun _ => none)) s 0), fun s => apO (okG tbK (tellK fun _ => none) s 0))
 | k + 2 => (fun s => apO (okG tbV (tellV (okVK k).1 (okVK k).2) s ((k : Int) + 1)), fun s => apO (okG tbK (tellK (okVK (k + 1)).1) s ((k : Int) + 1)))
def okK (s : List UInt8) (d : Int) : Option Kv := (okVK (d + 1).toNat).2 s
end
/-! Values and attributes: what is written is read; less deep it is none; what is read may be. -/
section
section
variable {β : Type} {tb : Nat → Nat → Bool} {tell : Int → List Fld → Option β} {hb u : List UInt8} {h : List Fld} {d e : Int}
end
/-! Values of one record. -/
theorem all_false {α : Type} {p : α → Bool} {l : List α} (h : (l.all p) = false) : ∃ x ∈ l, p x = false := by
 induction l with
 | nil => simp at h
 | cons x l ih =>
  rw [List.all_cons] at h
  cases hx : p x with
  | false => exact ⟨x, List.mem_cons_self .., hx⟩
  | true =>
   rw [hx] at h
   obtain ⟨y, h1, h2⟩ := ih (by simpa using h)
   exact ⟨y, List.mem_cons_of_mem _ h1, h2⟩
end
/-! Values and attributes: what is read may be, and is not long; deep enough is deep enough; alike. -/
section
theorem wt_cons (x : Fld) (l : List Fld) : wt (x :: l) = x.raw.length + wt l := by simp [wt]
theorem wt_sel (m : Nat) (l : List Fld) : wt (sel m l) ≤ wt l := wt_filter _ l
/-! Deep enough. -/
/-! Alike. -/
mutual
def Vl.eq : Vl → Vl → Bool
 | .mk kind s b n l m inner u, .mk kind' s' b' n' l' m' inner' u' => kind == kind' && s == s' && b == b' && n == n' && inner == inner' && u == u' && Vl.eqs l l' && Kv.eqs m m'
def Vl.eqs : List Vl → List Vl → Bool
 | [], [] => true
 | v :: l, w :: r => v.eq w && Vl.eqs l r
 | [], _ :: _ => false
 | _ :: _, [] => false
def Kv.eq : Kv → Kv → Bool
 | .mk key has v u, .mk key' has' v' u' => key == key' && has == has' && u == u' && v.eq v'
def Kv.eqs : List Kv → List Kv → Bool
 | [], [] => true
 | v :: l, w :: r => v.eq w && Kv.eqs l r
 | [], _ :: _ => false
 | _ :: _, [] => false
end
mutual
theorem Vl.eq_self : ∀ v : Vl, v.eq v = true
 | .mk kind s b n l m inner u => by unfold Vl.eq; simp [Vl.eqs_self l, Kv.eqs_self m]
theorem Vl.eqs_self : ∀ l : List Vl, Vl.eqs l l = true
 | [] => by simp [Vl.eqs]
 | v :: l => by unfold Vl.eqs; simp [Vl.eq_self v, Vl.eqs_self l]
theorem Kv.eq_self : ∀ v : Kv, v.eq v = true
 | .mk key has v u => by unfold Kv.eq; simp [Vl.eq_self v]
theorem Kv.eqs_self : ∀ l : List Kv, Kv.eqs l l = true
 | [] => by simp [Kv.eqs]
 | v :: l => by unfold Kv.eqs; simp [Kv.eq_self v, Kv.eqs_self l]
end
end
/-! The table of a point of an exponential histogram; the shapes of attributes and exemplars. -/
section
structure KVs where
 key : List UInt8
 has : Bool
 kind : Int
 s : List UInt8
 b : Bool
 n : Nat
 l : List D
 m : List D
 inner : List UInt8
 unk : List UInt8
 u : List UInt8
def KVs.d (x : KVs) : D := .agg [.str x.key, .bool x.has, .int .i64 x.kind, .str x.s, .bool x.b, .int .u64 x.n, slD x.l, slD x.m, .str x.inner, .str x.unk, .str x.u]
structure Exm where
 attrs : List KVs
 time : Nat
 kind : Int
 n : Nat
 span : List UInt8
 trace : List UInt8
 u : List UInt8
def Exm.d (x : Exm) : D := .agg [slD (x.attrs.map KVs.d), .int .u64 x.time, .int .i64 x.kind, .int .u64 x.n, .str x.span, .str x.trace, .str x.u]
end
/-! A point of an exponential histogram read. -/
section
section
variable (rdK : List UInt8 → KVs × Option Er) (rdE : List UInt8 → Exm × Option Er) (s : List UInt8) (d : Int)
end
end
/-! What the chapter's examples fix. -/
/-! Values and attributes as data. -/
section
mutual
def Vl.d : Vl → D
 | .mk kind s b n l m inner u => .agg [.int .i64 kind, .str s, .bool b, .int .u64 n, slD (Vl.ds l), slD (Kv.ds m), .str inner, .str u]
def Vl.ds : List Vl → List D
 | [] => []
 | v :: l => v.d :: Vl.ds l
def Kv.d : Kv → D
 | .mk key has (.mk kind s b n l m inner vu) u => .agg [.str key, .bool has, .int .i64 kind, .str s, .bool b, .int .u64 n, slD (Vl.ds l), slD (Kv.ds m), .str inner, .str vu, .str u]
def Kv.ds : List Kv → List D
 | [] => []
 | v :: l => v.d :: Kv.ds l
end
structure VaS where
 kind : Int
 s : List UInt8
 b : Bool
 n : Nat
 l : List D
 m : List D
 inner : List UInt8
 u : List UInt8
def VaS.d (x : VaS) : D := .agg [.int .i64 x.kind, .str x.s, .bool x.b, .int .u64 x.n, slD x.l, slD x.m, .str x.inner, .str x.u]
def Vl.sh : Vl → VaS
 | .mk kind s b n l m inner u => ⟨kind, s, b, n, Vl.ds l, Kv.ds m, inner, u⟩
def Kv.sh : Kv → KVs
 | .mk key has (.mk kind s b n l m inner vu) u => ⟨key, has, kind, s, b, n, Vl.ds l, Kv.ds m, inner, vu, u⟩
/-! As an argument: a list that is empty may be nil or not. -/
mutual
def Vl.R : Vl → D → Prop
 | .mk kind s b n l m inner u, x => ∃ zl ls zm ms, x = .agg [.int .i64 kind, .str s, .bool b, .int .u64 n, .sl zl ls, .sl zm ms, .str inner, .str u] ∧ Vl.Rs l ls ∧ Kv.Rs m ms
def Vl.Rs : List Vl → List D → Prop
 | [], xs => xs = []
 | v :: l, xs => ∃ y ys, xs = y :: ys ∧ v.R y ∧ Vl.Rs l ys
def Kv.R : Kv → D → Prop
 | .mk key has (.mk kind s b n l m inner vu) u, x => ∃ zl ls zm ms, x = .agg [.str key, .bool has, .int .i64 kind, .str s, .bool b, .int .u64 n, .sl zl ls, .sl zm ms, .str inner, .str vu, .str u] ∧ Vl.Rs l ls ∧ Kv.Rs m ms
def Kv.Rs : List Kv → List D → Prop
 | [], xs => xs = []
 | v :: l, xs => ∃ y ys, xs = y :: ys ∧ v.R y ∧ Kv.Rs l ys
end
mutual
theorem Vl.d_R : ∀ v : Vl, v.R v.d
 | .mk kind s b n l m inner u => ⟨_, _, _, _, rfl, Vl.ds_R l, Kv.ds_R m⟩
theorem Vl.ds_R : ∀ l : List Vl, Vl.Rs l (Vl.ds l)
 | [] => rfl
 | v :: l => ⟨_, _, rfl, Vl.d_R v, Vl.ds_R l⟩
theorem Kv.d_R : ∀ v : Kv, v.R v.d
 | .mk key has (.mk kind s b n l m inner vu) u => ⟨_, _, _, _, rfl, Vl.ds_R l, Kv.ds_R m⟩
theorem Kv.ds_R : ∀ l : List Kv, Kv.Rs l (Kv.ds l)
 | [] => rfl
 | v :: l => ⟨_, _, rfl, Kv.d_R v, Kv.ds_R l⟩
end
theorem Vl.Rs_len : ∀ {l : List Vl} {xs : List D}, Vl.Rs l xs → xs.length = l.length
 | [], xs, h => by have e : xs = [] := h; rw [e]; rfl
 | v :: l, _, ⟨y, ys, h1, _, h3⟩ => by rw [h1]; simp [Vl.Rs_len h3]
theorem Kv.Rs_len : ∀ {l : List Kv} {xs : List D}, Kv.Rs l xs → xs.length = l.length
 | [], xs, h => by have e : xs = [] := h; rw [e]; rfl
 | v :: l, _, ⟨y, ys, h1, _, h3⟩ => by rw [h1]; simp [Kv.Rs_len h3]
theorem Vl.Rs_get : ∀ {l : List Vl} {xs : List D}, Vl.Rs l xs → ∀ {i : Nat} {v : Vl}, l[i]? = some v → ∃ x, xs[i]? = some x ∧ v.R x
 | [], _, _, i, v, hv => by simp at hv
 | w :: l, _, ⟨y, ys, h1, h2, h3⟩, i, v, hv => by
  rw [h1]
  cases i with
  | zero => simp at hv; subst hv; exact ⟨y, rfl, h2⟩
  | succ i => simp at hv ⊢; exact Vl.Rs_get h3 hv
theorem Kv.Rs_get : ∀ {l : List Kv} {xs : List D}, Kv.Rs l xs → ∀ {i : Nat} {v : Kv}, l[i]? = some v → ∃ x, xs[i]? = some x ∧ v.R x
 | [], _, _, i, v, hv => by simp at hv
 | w :: l, _, ⟨y, ys, h1, h2, h3⟩, i, v, hv => by
  rw [h1]
  cases i with
  | zero => simp at hv; subst hv; exact ⟨y, rfl, h2⟩
  | succ i => simp at hv ⊢; exact Kv.Rs_get h3 hv
end
/-! What a reader tells, step by step: parts, lists, texts; or the first error. -/
section
section
variable {α β : Type} {n : Nat} {e e' : Option Er} {t : Option α} {sh : α → β} {v : β}
end
def textO (num : Nat) (l : List Fld) : Option (List UInt8) := if ((sel num l).all fun x => txt x.s) then some (k'19 l num).s else none
end
/-! strings.Join with nothing between. -/
section
open Go Go.Abs Go.Shelf
end
/-! Values and attributes read. -/
/-! Values and attributes read: at any depth. -/
