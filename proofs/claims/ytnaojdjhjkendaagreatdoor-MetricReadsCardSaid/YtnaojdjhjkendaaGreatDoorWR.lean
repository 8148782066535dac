/- Values and attributes as data. And more. -/
import Derived.Test.YtnaojdjhjkendaaGreatDoorPW
import Derived.Test.YtnaojdjhjkendaaGreatDoorR5
import Derived.Shelf.Strings.OnBuilder
set_option linter.unusedSimpArgs false
set_option linter.unusedVariables false
set_option maxRecDepth 100000
/-! Values and attributes as data. -/
namespace Go.Proofs.YtnaojdjhjkendaaGreatDoor
open Go Go.Abs
mutual
def Vl.d : Vl → D
 | .mk kind s b n l m inner u => .agg [.int .i64 kind, .str s, .bool b, .int .u64 n, slD (Vl.ds l), slD (Kv.ds m), .str inner, .str u]
def Vl.ds : List Vl → List D
 | [] => []
 | v :: l => v.d :: Vl.ds l
def Kv.d : Kv → D
 | .mk key has (.mk kind s b n l m inner vu) u => .agg [.str key, .bool has, .int .i64 kind, .str s, .bool b, .int .u64 n, slD (Vl.ds l), slD (Kv.ds m), .str inner, .str vu, .str u]
def Kv.ds : List Kv → List D
 | [] => []
 | v :: l => v.d :: Kv.ds l
end
theorem Vl.ds_map : ∀ l : List Vl, Vl.ds l = l.map Vl.d
 | [] => rfl
 | v :: l => by rw [Vl.ds, Vl.ds_map l]; rfl
theorem Kv.ds_map : ∀ l : List Kv, Kv.ds l = l.map Kv.d
 | [] => rfl
 | v :: l => by rw [Kv.ds, Kv.ds_map l]; rfl
structure VaS where
 kind : Int
 s : List UInt8
 b : Bool
 n : Nat
 l : List D
 m : List D
 inner : List UInt8
 u : List UInt8
def VaS.d (x : VaS) : D := .agg [.int .i64 x.kind, .str x.s, .bool x.b, .int .u64 x.n, slD x.l, slD x.m, .str x.inner, .str x.u]
def noVaS : VaS := ⟨0, [], false, 0, [], [], [], []⟩
def Vl.sh : Vl → VaS
 | .mk kind s b n l m inner u => ⟨kind, s, b, n, Vl.ds l, Kv.ds m, inner, u⟩
theorem Vl.sh_d (v : Vl) : v.sh.d = v.d := by cases v; rfl
def Kv.sh : Kv → KVs
 | .mk key has (.mk kind s b n l m inner vu) u => ⟨key, has, kind, s, b, n, Vl.ds l, Kv.ds m, inner, vu, u⟩
theorem Kv.sh_d (v : Kv) : v.sh.d = v.d := by rcases v with ⟨key, has, ⟨⟩, u⟩; rfl
/-! As an argument: a list that is empty may be nil or not. -/
mutual
def Vl.R : Vl → D → Prop
 | .mk kind s b n l m inner u, x => ∃ zl ls zm ms, x = .agg [.int .i64 kind, .str s, .bool b, .int .u64 n, .sl zl ls, .sl zm ms, .str inner, .str u] ∧ Vl.Rs l ls ∧ Kv.Rs m ms
def Vl.Rs : List Vl → List D → Prop
 | [], xs => xs = []
 | v :: l, xs => ∃ y ys, xs = y :: ys ∧ v.R y ∧ Vl.Rs l ys
def Kv.R : Kv → D → Prop
 | .mk key has (.mk kind s b n l m inner vu) u, x => ∃ zl ls zm ms, x = .agg [.str key, .bool has, .int .i64 kind, .str s, .bool b, .int .u64 n, .sl zl ls, .sl zm ms, .str inner, .str vu, .str u] ∧ Vl.Rs l ls ∧ Kv.Rs m ms
def Kv.Rs : List Kv → List D → Prop
 | [], xs => xs = []
 | v :: l, xs => ∃ y ys, xs = y :: ys ∧ v.R y ∧ Kv.Rs l ys
end
mutual
theorem Vl.d_R : ∀ v : Vl, v.R v.d
 | .mk kind s b n l m inner u => ⟨_, _, _, _, rfl, Vl.ds_R l, Kv.ds_R m⟩
theorem Vl.ds_R : ∀ l : List Vl, Vl.Rs l (Vl.ds l)
 | [] => rfl
 | v :: l => ⟨_, _, rfl, Vl.d_R v, Vl.ds_R l⟩
theorem Kv.d_R : ∀ v : Kv, v.R v.d
 | .mk key has (.mk kind s b n l m inner vu) u => ⟨_, _, _, _, rfl, Vl.ds_R l, Kv.ds_R m⟩
theorem Kv.ds_R : ∀ l : List Kv, Kv.Rs l (Kv.ds l)
 | [] => rfl
 | v :: l => ⟨_, _, rfl, Kv.d_R v, Kv.ds_R l⟩
end
theorem Vl.Rs_len : ∀ {l : List Vl} {xs : List D}, Vl.Rs l xs → xs.length = l.length
 | [], xs, h => by have e : xs = [] := h; rw [e]; rfl
 | v :: l, _, ⟨y, ys, h1, _, h3⟩ => by rw [h1]; simp [Vl.Rs_len h3]
theorem Kv.Rs_len : ∀ {l : List Kv} {xs : List D}, Kv.Rs l xs → xs.length = l.length
 | [], xs, h => by have e : xs = [] := h; rw [e]; rfl
 | v :: l, _, ⟨y, ys, h1, _, h3⟩ => by rw [h1]; simp [Kv.Rs_len h3]
theorem Vl.Rs_get : ∀ {l : List Vl} {xs : List D}, Vl.Rs l xs → ∀ {i : Nat} {v : Vl}, l[i]? = some v → ∃ x, xs[i]? = some x ∧ v.R x
 | [], _, _, i, v, hv => by simp at hv
 | w :: l, _, ⟨y, ys, h1, h2, h3⟩, i, v, hv => by
  rw [h1]
  cases i with
  | zero => simp at hv; subst hv; exact ⟨y, rfl, h2⟩
  | succ i => simp at hv ⊢; exact Vl.Rs_get h3 hv
theorem Kv.Rs_get : ∀ {l : List Kv} {xs : List D}, Kv.Rs l xs → ∀ {i : Nat} {v : Kv}, l[i]? = some v → ∃ x, xs[i]? = some x ∧ v.R x
 | [], _, _, i, v, hv => by simp at hv
 | w :: l, _, ⟨y, ys, h1, h2, h3⟩, i, v, hv => by
  rw [h1]
  cases i with
  | zero => simp at hv; subst hv; exact ⟨y, rfl, h2⟩
  | succ i => simp at hv ⊢; exact Kv.Rs_get h3 hv
end Go.Proofs.YtnaojdjhjkendaaGreatDoor
/-! What a reader tells, step by step: parts, lists, texts; or the first error. -/
namespace Go.Proofs.YtnaojdjhjkendaaGreatDoor
open Go Go.Abs
variable (B : Fr)
def RdAt {α S : Type} (f : Nat) (cap : List D) (dS : S → D) (sh : α → S) (o : Option α) (s : List UInt8) (d : Int) : Prop :=
 match o with
 | some x => k'5 (cx B) f ([sT s, .d (.int .i64 d)] ++ cap.map T.d) [] (.tup [.d (dS (sh x)), .d .nili]) []
 | none => ∃ (y : S) (e : Er), EIn s.length e ∧ k'5 (cx B) f ([sT s, .d (.int .i64 d)] ++ cap.map T.d) [] (.tup [.d (dS y), .d e.d]) []
def Tells {α β : Type} (n : Nat) (e : Option Er) (t : Option α) (sh : α → β) (v : β) (e' : Option Er) : Prop :=
 match e, t with
 | some x, _ => e' = some x
 | none, some a => v = sh a ∧ e' = none
 | none, none => ∃ er, e' = some er ∧ EIn n er
section
variable {α β : Type} {n : Nat} {e e' : Option Er} {t : Option α} {sh : α → β} {v : β}
theorem Tells.ok (h : Tells n e t sh v none) : e = none ∧ ∃ a, t = some a ∧ v = sh a := by
 cases e with
 | some x => simp [Tells] at h
 | none =>
  cases t with
  | some a => exact ⟨rfl, a, rfl, h.1⟩
  | none => obtain ⟨er, h1, -⟩ := h; simp at h1
theorem Tells.keep {x : Er} (h : Tells n (some x) t sh v e') : e' = some x := h
theorem Tells.get {a : α} (h : Tells n none (some a) sh v e') : v = sh a ∧ e' = none := h
theorem Tells.ein (h : Tells n e t sh v e') (he : ∀ x, e = some x → EIn n x) : ∀ x, e' = some x → EIn n x := by
 intro x hx
 cases e with
 | some y => have : e' = some y := h; rw [this] at hx; injection hx with hx; subst hx; exact he _ rfl
 | none =>
  cases t with
  | some a => rw [h.2] at hx; simp at hx
  | none => obtain ⟨er, h1, h2⟩ := h; rw [h1] at hx; injection hx with hx; subst hx; exact h2
end
theorem rd_choose {α S : Type} {f : Nat} {cap : List D} {dS : S → D} {sh : α → S} {ok : List UInt8 → Option α} {d : Int} {l : List Fld} {num : Nat} (z : S) (h : ∀ x ∈ l, x.num = num → RdAt B f cap dS sh (ok x.s) x.s d) :
  ∃ rd : List UInt8 → S × Option Er, (∀ x ∈ l, x.num = num → k'5 (cx B) f ([sT x.s, .d (.int .i64 d)] ++ cap.map T.d) [] (.tup [.d (dS (rd x.s).1), .d (eD (rd x.s).2)]) []) ∧
   (∀ x ∈ l, x.num = num → match ok x.s with | some a => rd x.s = (sh a, none) | none => ∃ e, EIn x.s.length e ∧ (rd x.s).2 = some e) := by
 have key : ∀ s : List UInt8, ∃ p : S × Option Er, (∃ x ∈ l, x.num = num ∧ x.s = s) → (k'5 (cx B) f ([sT s, .d (.int .i64 d)] ++ cap.map T.d) [] (.tup [.d (dS p.1), .d (eD p.2)]) [] ∧ match ok s with | some a => p = (sh a, none) | none => ∃ e, EIn s.length e ∧ p.2 = some e) := by
  intro s
  by_cases hx : ∃ x ∈ l, x.num = num ∧ x.s = s
  ·obtain ⟨x, h1, h2, rfl⟩ := hx
   have h3 := h x h1 h2
   unfold RdAt at h3
   cases ho : ok x.s with
   | some a => rw [ho] at h3; exact ⟨(sh a, none), fun _ => ⟨h3, rfl⟩⟩
   | none => rw [ho] at h3; obtain ⟨y, e, h4, h5⟩ := h3; exact ⟨(y, some e), fun _ => ⟨h5, e, h4, rfl⟩⟩
  ·exact ⟨(z, none), fun hh => absurd hh hx⟩
 obtain ⟨rd, hrd⟩ := Classical.axiomOfChoice key
 exact ⟨rd, fun x h1 h2 => (hrd x.s ⟨x, h1, h2, rfl⟩).1, fun x h1 h2 => (hrd x.s ⟨x, h1, h2, rfl⟩).2⟩
theorem listF_err {S : Type} (rd : List UInt8 → S × Option Er) (n : Int) (num : Nat) (e : Er) : ∀ (l : List Fld) (a : List S), (l.foldl (k's rd n num) (a, some e)).2 = some e
 | [], _ => rfl
 | x :: l, a => by
  rw [List.foldl_cons]
  have : ∃ a', k's rd n num (a, some e) x = (a', some e) := by
   unfold k's
   split
   ·exact ⟨_, by cases (rd x.s).2 <;> rfl⟩
   ·exact ⟨_, rfl⟩
  obtain ⟨a', h⟩ := this
  rw [h]; exact listF_err rd n num e l a'
theorem listF_tells {α S : Type} {rd : List UInt8 → S × Option Er} {ok : List UInt8 → Option α} {sh : α → S} {l : List Fld} (n num : Nat) (e : Option Er) (h : ∀ x ∈ l, x.num = num → match ok x.s with | some a => rd x.s = (sh a, none) | none => ∃ e, EIn x.s.length e ∧ (rd x.s).2 = some e) :
  Tells n e (k'7 ok num l) (List.map sh) (listF rd n num l e).1 (listF rd n num l e).2 := by
 cases e with
 | some x => exact listF_err rd n num x l []
 | none =>
  have key : ∀ (l : List Fld) (a : List S), (∀ x ∈ l, x.num = num → match ok x.s with | some a => rd x.s = (sh a, none) | none => ∃ e, EIn x.s.length e ∧ (rd x.s).2 = some e) →
    match k'7 ok num l with
    | some r => l.foldl (k's rd n num) (a, none) = (a ++ r.map sh, none)
    | none => ∃ er, (l.foldl (k's rd n num) (a, none)).2 = some er ∧ EIn n er := by
   intro l
   induction l with
   | nil => intro a _; simp [k'7, sel_nil, mapO]
   | cons x l ih =>
    intro a h
    have h' := fun y hy => h y (List.mem_cons_of_mem _ hy)
    have hx := h x (List.mem_cons_self ..)
    unfold k'7 at ih ⊢
    rw [k'2h, List.foldl_cons]
    by_cases hn : x.num = num
    ·rw [if_pos hn]
     have hx := hx hn
     unfold mapO
     cases ho : ok x.s with
     | none =>
      rw [ho] at hx
      obtain ⟨er, h1, h2⟩ := hx
      simp only
      obtain ⟨e1, g1, g2⟩ := fail_in n num er h1.2
      have hs : k's rd n num (a, none) x = (a ++ [(rd x.s).1], some e1) := by unfold k's; rw [if_pos hn, h2]; simp only; rw [g1]
      rw [hs]
      exact ⟨e1, listF_err rd n num e1 l _, g2⟩
     | some b =>
      rw [ho] at hx
      simp only at hx ⊢
      have hs : k's rd n num (a, none) x = (a ++ [sh b], none) := by unfold k's; rw [if_pos hn, hx]; rfl
      rw [hs]
      have := ih (a ++ [sh b]) h'
      cases hm : mapO (fun x => ok x.s) (sel num l) with
      | none => rw [hm] at this; exact this
      | some r => rw [hm] at this; simp only at this ⊢; rw [this]; simp
    ·rw [if_neg hn]
     have hs : k's rd n num (a, none) x = (a, none) := by unfold k's; rw [if_neg hn]
     rw [hs]; exact ih a h'
  have := key l [] h
  unfold Tells listF
  cases hp : k'7 ok num l with
  | none => rw [hp] at this; exact this
  | some r => rw [hp] at this; simp only at this ⊢; rw [this]; simp
def k'1p (num : Nat) (l : List Fld) : Option (List UInt8) := if ((sel num l).all fun x => txt x.s) then some (k'a l num).s else none
theorem chk_gc (s : List UInt8) {e : Er} (h : chkE s = some e) : gc (codeOf e) := by
 unfold chkE at h
 split at h
 ·simp at h
 ·injection h with h; subst h; exact .inr (.inr (.inr (.inl rfl)))
theorem chkF_keep (n : Int) (num : Nat) (e : Er) : ∀ l : List Fld, chkF n num l (some e) = some e
 | [] => rfl
 | x :: l => by
  unfold chkF
  rw [List.foldl_cons]
  have : (if x.num = num then k'4c n num (some e) (chkE x.s) else some e) = some e := by
   split
   ·cases chkE x.s <;> rfl
   ·rfl
  rw [this]; exact chkF_keep n num e l
theorem chkF_tells (n num : Nat) (e : Option Er) (l : List Fld) : Tells n e (k'1p num l) id (k'a l num).s (chkF n num l e) := by
 cases e with
 | some x => exact chkF_keep n num x l
 | none =>
  have key : ∀ l : List Fld, match (sel num l).all fun x => txt x.s with
    | true => chkF n num l none = none
    | false => ∃ er, chkF n num l none = some er ∧ EIn n er := by
   intro l
   induction l with
   | nil => rfl
   | cons x l ih =>
    rw [k'2h]
    have hc : chkF n num (x :: l) none = chkF n num l (if x.num = num then k'4c n num none (chkE x.s) else none) := rfl
    rw [hc]
    by_cases hn : x.num = num
    ·rw [if_pos hn, if_pos hn, List.all_cons]
     cases ht : txt x.s with
     | true => rw [show chkE x.s = none by unfold chkE; rw [ht]; rfl]; exact ih
     | false =>
      have hce : chkE x.s = some (.loc (whU x.s) (.code 5)) := by unfold chkE; rw [ht]; rfl
      rw [hce]
      obtain ⟨e1, g1, g2⟩ := fail_in n num (.loc (whU x.s) (.code 5)) (chk_gc x.s hce)
      rw [g1, chkF_keep]
      exact ⟨e1, rfl, g2⟩
    ·rw [if_neg hn, if_neg hn]; exact ih
  have := key l
  unfold k'1p Tells
  cases ht : (sel num l).all fun x => txt x.s with
  | true => rw [ht] at this; exact ⟨rfl, this⟩
  | false => rw [ht] at this; exact this
theorem k'40 (hB : BOk B) (e : Option Er) (u : List UInt8) (d : Int) (n : Nat) (l : List Fld) (num : Nat) (hl : LOk l) :
  ∃ v e', k'5 (cx B) 25 [.ptr 0 0, iT num] [rO e u d n l] (sT v) [rO e' u d n l] ∧ Tells n e (k'1p num l) id v e' ∧ v = (k'a l num).s :=
 ⟨_, _, rText_calls B hB e u d n l num hl, chkF_tells n num e l, rfl⟩
theorem packF_tells {rd : List UInt8 → Except Er (List Nat)} (hg : ∀ s e, rd s = .error e → gc (codeOf e)) (n num : Nat) (e : Option Er) (l : List Fld) : Tells n e (k'p rd num l) id (packF rd n num l e).1 (packF rd n num l e).2 := by
 cases e with
 | some x => exact packF_err rd n num l x
 | none =>
  unfold Tells
  cases hp : k'p rd num l with
  | some b => rw [packF_some _ hp]; exact ⟨rfl, rfl⟩
  | none =>
   obtain ⟨s, x, -, h2, h3⟩ := packF_none (n : Int) hp
   obtain ⟨e1, g1, g2⟩ := fail_in n num x (hg _ _ h2)
   exact ⟨e1, by rw [h3, g1], g2⟩
def ListT {S : Type} (G : Nat) (dd : S → D) : Prop := ∀ (_ : BOk B) {α : Type} (ok : List UInt8 → Option α) (sh : α → S) (_ : S) (f : Nat) (cap : List D) (e : Option Er) (u : List UInt8) (d : Int) (n : Nat) (l : List Fld) (num : Nat), LOk l → (anyL l num = true → -9223372036854775808 < d) → d < 9223372036854775808 →
  (∀ x ∈ l, x.num = num → RdAt B f cap dd sh (ok x.s) x.s (d - 1)) →
  ∃ vs e', k'5 (cx B) G [.ptr 0 0, iT num, .d (.fn f cap)] [rO e u d n l] (.d (slD (vs.map dd))) [rO e' u d n l] ∧ Tells n e (k'7 ok num l) (List.map sh) vs e'
theorem k'27 {S : Type} {G : Nat} {dd : S → D} (hL : ListP B G dd) : ListT B G dd := fun hB _ ok sh z f cap e u d n l num hl hd1 hd2 h => by
 obtain ⟨rd, h1, h2⟩ := rd_choose B z h
 exact ⟨_, _, hL hB f cap rd e u d n l num hl hd1 hd2 h1, listF_tells n num e h2⟩
theorem k'1e : ListT B 26 KVs.d := k'27 B (List_KVs_calls B)
end Go.Proofs.YtnaojdjhjkendaaGreatDoor
/-! strings.Join with nothing between. -/
namespace Go.Proofs.YtnaojdjhjkendaaGreatDoor
open Go Go.Abs Go.Shelf
def j_ren : Go.Shelf.Ren := ⟨fun | 156 => 78 | 165 => 164 | 166 => 74 | 169 => 75 | 240 => 162 | 241 => 255 | 276 => 254 | 277 => 313 | n => n, fun | 0 => 0 | 3 => 3 | 4 => 4 | 9 => 9 | 20 => 20 | 31 => 51 | 37 => 118 | 70 => 117 | 72 => 120 | 75 => 31 | 76 => 141 | 127 => 234 | 164 => 217 | 5 => 5 | 80 => 129 | n => n, fun | n => n⟩
theorem j_lays : Go.Proofs.Lays.n156 Tryz.prog j_ren := {
 mixed := by kernel_rfl
 f156 := Tryz.func78.trans (congrArg some (by kernel_rfl))
 f165 := Tryz.func164.trans (congrArg some (by kernel_rfl))
 f166 := Tryz.func74.trans (congrArg some (by kernel_rfl))
 f169 := Tryz.func75.trans (congrArg some (by kernel_rfl))
 f240 := Tryz.func162.trans (congrArg some (by kernel_rfl))
 f241 := Tryz.func255.trans (congrArg some (by kernel_rfl))
 f276 := Tryz.func254.trans (congrArg some (by kernel_rfl))
 f277 := Tryz.func313.trans (congrArg some (by kernel_rfl))
 t0 := Tryz.underlying0
 a0 := Tryz.isAgg0
 z0 := Tryz.sizeOf0
 v0 := Tryz.zeroValue0
 t3 := Tryz.underlying3
 a3 := Tryz.isAgg3
 z3 := Tryz.sizeOf3
 v3 := Tryz.zeroValue3
 t4 := Tryz.underlying4
 a4 := Tryz.isAgg4
 z4 := Tryz.sizeOf4
 v4 := Tryz.zeroValue4
 t9 := Tryz.underlying9
 a9 := Tryz.isAgg9
 z9 := Tryz.sizeOf9
 v9 := Tryz.zeroValue9
 t20 := Tryz.underlying20
 a20 := Tryz.isAgg20
 z20 := Tryz.sizeOf20
 v20 := Tryz.zeroValue20
 t31 := Tryz.underlying51
 a31 := Tryz.isAgg51
 z31 := Tryz.sizeOf51
 v31 := Tryz.zeroValue51
 t37 := Tryz.underlying118
 a37 := Tryz.isAgg118
 z37 := Tryz.sizeOf118
 v37 := Tryz.zeroValue118
 t70 := Tryz.underlying117
 a70 := Tryz.isAgg117
 z70 := Tryz.sizeOf117
 v70 := Tryz.zeroValue117
 t72 := Tryz.underlying120
 a72 := Tryz.isAgg120
 z72 := Tryz.sizeOf120
 v72 := Tryz.zeroValue120
 t75 := Tryz.underlying31
 a75 := Tryz.isAgg31
 z75 := Tryz.sizeOf31
 v75 := Tryz.zeroValue31
 t76 := Tryz.underlying141
 a76 := Tryz.isAgg141
 z76 := Tryz.sizeOf141
 v76 := Tryz.zeroValue141
 t127 := Tryz.underlying234
 a127 := Tryz.isAgg234
 z127 := Tryz.sizeOf234
 v127 := Tryz.zeroValue234
 t164 := Tryz.underlying217
 a164 := Tryz.isAgg217
 z164 := Tryz.sizeOf217
 v164 := Tryz.zeroValue217 }
theorem j_extra : Go.Proofs.Builder.Extra Tryz.prog j_ren := {
 sizeBuilder := by kernel_rfl
 liesBuilder := by kernel_rfl
 t5 := Tryz.underlying5
 a5 := Tryz.isAgg5
 z5 := Tryz.sizeOf5
 v5 := Tryz.zeroValue5
 infoByte := by kernel_rfl
 cellsByte := by kernel_rfl
 sizeByte := by kernel_rfl
 neB5 := by decide }
theorem below_more {w w' : World} (h : Go.RowKit.Below w.heap.size w w') : More w w' := ⟨h.size, h.os, h.tape, h.output, h.block⟩
theorem join_flat : ∀ l : List (List UInt8), Lib.join l [] = l.flatten
 | [] => rfl
 | [x] => by rw [Lib.join_one]; simp
 | x :: y :: l => by
  rw [Lib.join_cons]
  unfold Lib.joinTail
  simp
theorem strs_cells {F : Fr} : ∀ {l : List (List UInt8)} {vs : List Value}, DRe F 1 (l.map D.str) vs → vs = l.map fun s => Value.string ⟨s.toArray⟩
 | [], _, h => by cases h; rfl
 | s :: l, _, h => by
  cases h with
  | cons h1 h2 h3 =>
  rename_i a b
  have e := strs_cells h3
  cases h1 with
  | cons h4 h5 =>
  cases h5
  rw [e, h4.inv_str]; rfl
variable (B : Fr)
theorem Join_calls (l : List (List UInt8)) (hl : l.flatten.length < big) (hn : l.length < big) : k'5 (cx B) 78 [.d (slD (l.map D.str)), sT []] [] (sT l.flatten) [] := by
 unfold big at hl hn
 refine ⟨⟨Tryz.f78, Tryz.func78, rfl, rfl⟩, fun F ρ w vs hwr hvs hnt hb => ?_⟩
 cases hvs with
 | cons hp hr =>
 cases hr with
 | cons hq hr =>
 cases hr
 obtain rfl := hq.inv_str
 have fin : ∀ v, Calls (cx B).P 78 #[v, .string ⟨#[]⟩] w (fun e w' => e = .returned (.string ⟨l.flatten.toArray⟩) ∧ More w w') → Calls (cx B).P 78 #[v, .string ⟨#[]⟩] w (Post F ρ w (sT l.flatten) []) := by
  intro v hc
  refine hc.mono fun e w' ⟨he, hm⟩ => ?_
  have h1 : WR F ρ w' ([] ++ []) := hwr.more hm (Sub.refl F) (fun _ _ _ => rfl) (fun _ _ => rfl) (fun b off v hb e => absurd (k'o (hwr.fix b off v e)) (by omega)) (fun b hb => Nat.lt_of_lt_of_le (hwr.lt b hb) hm.size)
   (fun b i hb e => absurd (hwr.lt b (by rw [e]; simp)) (by omega))
  exact ⟨_, F, ρ, he, h1, .d (.str _), Ext.more hwr hm (Sub.refl F) (fun _ _ _ => rfl) (fun _ _ => rfl), hnt⟩
 have hp := hp.inv_d
 rcases l with _ | ⟨s, l⟩
 ·cases hp
  refine fin _ ((Any.strings_Join_none j_lays j_extra none 0 .empty w).mono ?_)
  rintro e w' ⟨rfl, rfl⟩
  exact ⟨rfl, ⟨Nat.le_refl _, rfl, rfl, rfl, fun _ _ => rfl⟩⟩
 ·cases hp with
  | sl he hA hc =>
  rename_i vs b off cap sz
  have hsz : sz = 1 := by
   rw [List.map_cons] at he
   cases he with
   | cons h1 h2 h3 =>
   have := h1.length
   rw [← h2, ← this]; rfl
  subst hsz
  obtain rfl := strs_cells he
  have hcell : ∀ (j : Nat) (x : List UInt8), (s :: l)[j]? = some x → w.cell? ⟨b, off + j, none⟩ = some (.string ⟨x.toArray⟩) := fun j x hx => hwr.fix _ _ _ (hA j _ (by rw [List.getElem?_map, hx]; rfl))
  have hj := Any.strings_Join j_lays j_extra b off cap ((s :: l).map fun s => ⟨s.toArray⟩) .empty w (fun j x hx => by
   rw [List.getElem?_map] at hx
   cases hy : (s :: l)[j]? with
   | none => rw [hy] at hx; simp at hx
   | some y => rw [hy] at hx; simp at hx; rw [← hx]; exact hcell j y hy) (k'o (hcell 0 s rfl)) (by simp at hn ⊢; omega) (by simpa using hc)
   (by
    rw [List.map_map]
    have e : ((s :: l).map ((fun b : ByteArray => b.data.toList) ∘ fun s : List UInt8 => (⟨s.toArray⟩ : ByteArray))) = s :: l := by
     have : ((fun b : ByteArray => b.data.toList) ∘ fun s : List UInt8 => (⟨s.toArray⟩ : ByteArray)) = id := by funext x; simp
     rw [this]; simp
    rw [e]
    show (Lib.join (s :: l) []).length ≤ _
    rw [join_flat]; omega)
  have e : (((s :: l).map fun s : List UInt8 => (⟨s.toArray⟩ : ByteArray)).map (·.data.toList)) = s :: l := by
   rw [List.map_map]
   have : ((fun b : ByteArray => b.data.toList) ∘ fun s : List UInt8 => (⟨s.toArray⟩ : ByteArray)) = id := by funext x; simp
   rw [this]; simp
  rw [e, List.length_map] at hj
  rw [List.length_map]
  refine fin _ (hj.mono fun e w' ⟨he, hm⟩ => ⟨?_, below_more hm⟩)
  rw [he]
  show Ending.returned (.string ⟨(Lib.join (s :: l) []).toArray⟩) = _
  rw [join_flat]
end Go.Proofs.YtnaojdjhjkendaaGreatDoor
/-! Values and attributes read. -/
namespace Go.Proofs.YtnaojdjhjkendaaGreatDoor
open Go Go.Abs
variable (B : Fr)
theorem okG_rd {β : Type} (tb : Nat → Nat → Bool) (tell : Int → List Fld → Option β) (s : List UInt8) (d : Int) : okG tb tell s d = (match k't s d with | none => (tell d (knB tb s d)).map fun b => (b, unB tb s d) | some _ => none) := by
 unfold okG
 cases ho : okL s d with
 | none =>
  obtain ⟨⟨e, he⟩, -⟩ := okL_none ho
  rw [he]
 | some l =>
  obtain ⟨h1, h2, -⟩ := k'1n ho
  rw [h1]
  unfold knB unB
  rw [h2]
  simp only
  cases tell d (k'1 tb l) <;> rfl
structure SoV where
 l : List D
 rest : List UInt8
def SoV.d (x : SoV) : D := .agg [slD x.l, .str x.rest]
structure SoK where
 l : List D
 rest : List UInt8
def SoK.d (x : SoK) : D := .agg [slD x.l, .str x.rest]
theorem VaS_fits (l : List VaS) : ∀ a ∈ l.map VaS.d, a.fits 8 = true := by
 intro a ha
 obtain ⟨c, -, rfl⟩ := List.mem_map.1 ha
 rfl
theorem part_VaS_calls : partP B 185 VaS.d := k'3d B Tryz.func185
theorem Part_VaS : PartC B 95 VaS.d (noVaS) := Part_mk B Tryz.func95 (part_VaS_calls B)
theorem List_VaS_calls : ListP B 269 VaS.d := List_S B (fun x => VaS_fits [x]) (part_VaS_calls B) (List_mk B Tryz.func269)
theorem List_VaS_tells : ListT B 269 VaS.d := k'27 B (List_VaS_calls B)
theorem PartC.tells {S : Type} {dd : S → D} {z : S} {G : Nat} (hP : PartC B G dd z) (hB : BOk B) {α : Type} (ok : List UInt8 → Option α) (sh : α → S) (z0 : α) (hz : sh z0 = z) (f : Nat) (cap : List D) (e : Option Er) (u : List UInt8) (d : Int) (n : Nat) (l : List Fld) (num : Nat) (hl : LOk l) (hd1 : anyL l num = true → -9223372036854775808 < d) (hd2 : d < 9223372036854775808)
  (h : anyL l num = true → RdAt B f cap dd sh (ok (k'c l num)) (k'c l num) (d - 1)) :
  ∃ (v : Bool × S) (e' : Option Er), k'5 (cx B) G [.ptr 0 0, iT num, .d (.fn f cap)] [rO e u d n l] (.tup [.d (dd v.2), .d (.bool v.1)]) [rO e' u d n l] ∧ Tells n e (partO ok z0 num l) (fun p => (p.1, sh p.2)) v e' := by
 unfold partO
 cases h0 : anyL l num with
 | false => exact ⟨(false, z), e, (hP hB f cap e u d n l num hl hd1 hd2).1 h0, by cases e with | some x => rfl | none => exact ⟨by show (false, z) = (false, sh z0); rw [hz], rfl⟩⟩
 | true =>
  have h := h h0
  unfold RdAt at h
  simp only [if_true]
  cases ho : ok (k'c l num) with
  | some x =>
   rw [ho] at h
   refine ⟨(true, sh x), k'4c n num e none, (hP hB f cap e u d n l num hl hd1 hd2).2 (sh x) none h0 h, ?_⟩
   rw [failE_nn]
   cases e with
   | some y => rfl
   | none => exact ⟨rfl, rfl⟩
  | none =>
   rw [ho] at h
   obtain ⟨y, er, h1, h2⟩ := h
   refine ⟨(true, y), k'4c n num e (some er), (hP hB f cap e u d n l num hl hd1 hd2).2 y (some er) h0 h2, ?_⟩
   cases e with
   | some y => rfl
   | none =>
    obtain ⟨e1, g1, g2⟩ := fail_in n num er h1.2
    exact ⟨e1, g1, g2⟩
theorem part_SoV_calls : partP B 266 SoV.d := k'3d B Tryz.func266
theorem part_SoK_calls : partP B 270 SoK.d := k'3d B Tryz.func270
theorem Inner_SoV_calls (hB : BOk B) (o : OneS) (f : Nat) (cap : List D) (x : SoV) (er : Option Er) (e : Option Er) (u : List UInt8) (d n : Int) (l : List Fld) (hd1 : -9223372036854775808 < d) (hd2 : d < 9223372036854775808) (hl : o.all.flatten.length < big) (hn : o.all.length < big)
  (hf : k'5 (cx B) f ([sT o.all.flatten, .d (.int .i64 (d - 1))] ++ cap.map T.d) [] (.tup [.d x.d, .d (eD er)]) []) :
  k'5 (cx B) 187 [.ptr 0 0, .d o.d, .d (.fn f cap)] [rO e u d n l] (.d x.d) [rO (k'4c n o.num e er) u d n l] := by
 have h1 := Join_calls B o.all hl hn
 have h2 := part_SoV_calls B hB f cap x er o.all.flatten e u d n l o.num hd1 hd2 hf
 refine l_bw Tryz.func187 1 [] ?_
 refine x_cw [] (h1) rfl rfl rfl ?_
 refine x_callq [0] (h2) rfl rfl rfl ?_
 exact O
theorem Inner_SoK_calls (hB : BOk B) (o : OneS) (f : Nat) (cap : List D) (x : SoK) (er : Option Er) (e : Option Er) (u : List UInt8) (d n : Int) (l : List Fld) (hd1 : -9223372036854775808 < d) (hd2 : d < 9223372036854775808) (hl : o.all.flatten.length < big) (hn : o.all.length < big)
  (hf : k'5 (cx B) f ([sT o.all.flatten, .d (.int .i64 (d - 1))] ++ cap.map T.d) [] (.tup [.d x.d, .d (eD er)]) []) :
  k'5 (cx B) 189 [.ptr 0 0, .d o.d, .d (.fn f cap)] [rO e u d n l] (.d x.d) [rO (k'4c n o.num e er) u d n l] := by
 have h1 := Join_calls B o.all hl hn
 have h2 := part_SoK_calls B hB f cap x er o.all.flatten e u d n l o.num hd1 hd2 hf
 refine l_bw Tryz.func189 1 [] ?_
 refine x_cw [] (h1) rfl rfl rfl ?_
 refine x_callq [0] (h2) rfl rfl rfl ?_
 exact O
theorem listsV_calls (f : Nat) (cap : List D) : k'5 (cx B) 188 [.d (.fn f cap)] [] (.d (.fn 267 [.box [.fn f cap]])) [] := by
 refine l_b0 Tryz.func188 0 [] ?_
 exact O
theorem listsK_calls (f : Nat) (cap : List D) : k'5 (cx B) 190 [.d (.fn f cap)] [] (.d (.fn 271 [.box [.fn f cap]])) [] := by
 refine l_b0 Tryz.func190 0 [] ?_
 exact O
theorem listsV1_rd (hB : BOk B) (f : Nat) (cap : List D) (ok : List UInt8 → Option Vl) (s : List UInt8) (d : Int) (hl : s.length < big) (hd1 : -9223372036854775808 ≤ d) (hd2 : d < 9223372036854775808)
  (h : ∀ x ∈ knB tbL s d, x.num = 1 → RdAt B f cap VaS.d Vl.sh (ok x.s) x.s (d - 1)) :
  RdAt B 267 [.box [.fn f cap]] SoV.d (fun p : List Vl × List UInt8 => ⟨p.1.map Vl.d, p.2⟩) (okG tbL (fun _ l => k'7 ok 1 l) s d) s d := by
 have h1 := k'1h B hB 268 tbL (tbL_calls B) s d hl hd1 hd2
 have hk : LOk (knB tbL s d) := k'x tbL s d hl
 obtain ⟨vs, e', c1, t1⟩ := List_VaS_tells B hB ok Vl.sh noVaS f cap (k't s d) (unB tbL s d) d s.length (knB tbL s d) 1 hk (fun h => by have := k'25 h; omega) hd2 h
 have hein : ∀ x, e' = some x → EIn s.length x := t1.ein fun x hx => k'1a hx
 rw [okG_rd]
 have main : k'5 (cx B) 267 [sT s, .d (.int .i64 d), .d (.box [.fn f cap])] [] (.tup [.d (SoV.d ⟨vs.map VaS.d, unB tbL s d⟩), .d (eD e')]) [] := by
  clear hein t1
  refine l_bw Tryz.func267 0 [] ?_
  refine l_cw [] (h1) rfl rfl rfl ?_
  refine k'8 [1] (c1) rfl rfl rfl ?_
  exact O
 cases e' with
 | none =>
  obtain ⟨g1, a, g2, rfl⟩ := t1.ok
  rw [g1]
  simp only [g2, Option.map_some]
  rw [show (a.map Vl.sh).map VaS.d = a.map Vl.d by rw [List.map_map]; exact List.map_congr_left fun v _ => Vl.sh_d v] at main
  exact main
 | some er =>
  have hno : (match k't s d with | none => (k'7 ok 1 (knB tbL s d)).map fun b => (b, unB tbL s d) | some _ => none) = none := by
   cases hr : k't s d with
   | some x => rfl
   | none =>
    rw [hr] at t1
    cases hp : k'7 ok 1 (knB tbL s d) with
    | none => rfl
    | some a => rw [hp] at t1; have := t1.get.2; simp at this
  rw [hno]
  exact ⟨_, er, hein er rfl, main⟩
theorem listsK1_rd (hB : BOk B) (f : Nat) (cap : List D) (ok : List UInt8 → Option Kv) (s : List UInt8) (d : Int) (hl : s.length < big) (hd1 : -9223372036854775808 ≤ d) (hd2 : d < 9223372036854775808)
  (h : ∀ x ∈ knB tbL s d, x.num = 1 → RdAt B f cap KVs.d Kv.sh (ok x.s) x.s (d - 1)) :
  RdAt B 271 [.box [.fn f cap]] SoK.d (fun p : List Kv × List UInt8 => ⟨p.1.map Kv.d, p.2⟩) (okG tbL (fun _ l => k'7 ok 1 l) s d) s d := by
 have h1 := k'1h B hB 268 tbL (tbL_calls B) s d hl hd1 hd2
 have hk : LOk (knB tbL s d) := k'x tbL s d hl
 obtain ⟨vs, e', c1, t1⟩ := k'1e B hB ok Kv.sh noKV f cap (k't s d) (unB tbL s d) d s.length (knB tbL s d) 1 hk (fun h => by have := k'25 h; omega) hd2 h
 have hein : ∀ x, e' = some x → EIn s.length x := t1.ein fun x hx => k'1a hx
 rw [okG_rd]
 have main : k'5 (cx B) 271 [sT s, .d (.int .i64 d), .d (.box [.fn f cap])] [] (.tup [.d (SoK.d ⟨vs.map KVs.d, unB tbL s d⟩), .d (eD e')]) [] := by
  clear hein t1
  refine l_bw Tryz.func271 0 [] ?_
  refine l_cw [] (h1) rfl rfl rfl ?_
  refine k'8 [1] (c1) rfl rfl rfl ?_
  exact O
 cases e' with
 | none =>
  obtain ⟨g1, a, g2, rfl⟩ := t1.ok
  rw [g1]
  simp only [g2, Option.map_some]
  rw [show (a.map Kv.sh).map KVs.d = a.map Kv.d by rw [List.map_map]; exact List.map_congr_left fun v _ => Kv.sh_d v] at main
  exact main
 | some er =>
  have hno : (match k't s d with | none => (k'7 ok 1 (knB tbL s d)).map fun b => (b, unB tbL s d) | some _ => none) = none := by
   cases hr : k't s d with
   | some x => rfl
   | none =>
    rw [hr] at t1
    cases hp : k'7 ok 1 (knB tbL s d) with
    | none => rfl
    | some a => rw [hp] at t1; have := t1.get.2; simp at this
  rw [hno]
  exact ⟨_, er, hein er rfl, main⟩
end Go.Proofs.YtnaojdjhjkendaaGreatDoor
/-! Values and attributes read: at any depth. -/
namespace Go.Proofs.YtnaojdjhjkendaaGreatDoor
open Go Go.Abs
variable (B : Fr)
def tellO (oe : List UInt8 → Option Vl) (ok : List UInt8 → Option Kv) (d : Int) (o : OneS) : Option (List UInt8 → Vl) :=
 if o.num = 1 ∨ o.num = 7 then some fun u => .mk o.num o.s false 0 [] [] [] u
 else if o.num = 2 then some fun u => .mk 2 [] (decide (0 < o.n)) 0 [] [] [] u
 else if o.num = 3 ∨ o.num = 4 then some fun u => .mk o.num [] false o.n [] [] [] u
 else if o.num = 5 then (match okG tbL (fun _ l => k'7 oe 1 l) o.all.flatten (d - 1) with
  | none => none
  | some p => some fun u => .mk 5 [] false 0 p.1 [] p.2 u)
 else if o.num = 6 then (match okG tbL (fun _ l => k'7 ok 1 l) o.all.flatten (d - 1) with
  | none => none
  | some p => some fun u => .mk 6 [] false 0 [] p.1 p.2 u)
 else some fun u => .mk 0 [] false 0 [] [] [] u
theorem okV_rd (s : List UInt8) (d : Int) : okV s d = (match k't s d, k'1p 1 (knB tbV s d) with
  | none, some _ => (tellO (fun s => okV s (d - 2)) (fun s => okK s (d - 2)) d (oneF [1, 2, 3, 4, 5, 6, 7] (knB tbV s d))).map fun f => f (unB tbV s d)
  | _, _ => none) := by
 rw [okV_eq, okG_rd]
 have ht : ∀ oe ok l, tellV oe ok d l = (match k'1p 1 l with | some _ => tellO oe ok d (oneF [1, 2, 3, 4, 5, 6, 7] l) | none => none) := by
  intro oe ok l
  unfold tellV k'1p
  cases ((sel 1 l).all fun x => txt x.s) <;> rfl
 cases k't s d with
 | some e => rfl
 | none =>
  simp only
  rw [ht]
  cases k'1p 1 (knB tbV s d) with
  | none => rfl
  | some t =>
   simp only
   cases tellO (fun s => okV s (d - 2)) (fun s => okK s (d - 2)) d (oneF [1, 2, 3, 4, 5, 6, 7] (knB tbV s d)) <;> rfl
theorem okK_rd (s : List UInt8) (d : Int) : okK s d = (match k't s d, k'1p 1 (knB tbK s d), partO (fun s => okV s (d - 1)) noVl 2 (knB tbK s d) with
  | none, some t, some p => some (.mk t p.1 p.2 (unB tbK s d))
  | _, _, _ => none) := by
 rw [okK_eq, okG_rd]
 cases k't s d with
 | some e => rfl
 | none =>
  simp only
  unfold tellK k'1p
  cases ((sel 1 (knB tbK s d)).all fun x => txt x.s) with
  | false => rfl
  | true =>
   simp only [Bool.true_eq_false, if_false, if_true]
   cases partO (fun s => okV s (d - 1)) noVl 2 (knB tbK s d) <;> rfl
theorem k'3i (hB : BOk B) (s : List UInt8) (d : Int) (hl : s.length < big) (hd1 : -9223372036854775808 ≤ d) (hd2 : d < 9223372036854775808)
  (hV : 0 ≤ d → ∀ s', s'.length < big → RdAt B 96 [] VaS.d Vl.sh (okV s' (d - 1)) s' (d - 1)) : RdAt B 27 [] KVs.d Kv.sh (okK s d) s d := by
 have h1 := k'1h B hB 94 tbK (tbK_calls B) s d hl hd1 hd2
 have hk : LOk (knB tbK s d) := k'x tbK s d hl
 obtain ⟨t, e1, c1, t1, -⟩ := k'40 B hB (k't s d) (unB tbK s d) d s.length (knB tbK s d) 1 hk
 obtain ⟨p, e2, c2, t2⟩ := (Part_VaS B).tells B hB (fun s => okV s (d - 1)) Vl.sh noVl rfl 96 [] e1 (unB tbK s d) d s.length (knB tbK s d) 2 hk (fun h => by have := k'25 h; omega) hd2
  (fun h => hV (k'25 h) _ (bytes_big hk 2))
 have hein : ∀ x, e2 = some x → EIn s.length x := t2.ein (t1.ein fun x hx => k'1a hx)
 rw [okK_rd]
 obtain ⟨ph, pv⟩ := p
 have main : k'5 (cx B) 27 [sT s, .d (.int .i64 d)] [] (.tup [.d (match e2 with | none => (⟨t, ph, pv.kind, pv.s, pv.b, pv.n, pv.l, pv.m, pv.inner, pv.u, unB tbK s d⟩ : KVs) | some _ => noKV).d, .d (eD e2)]) [] := by
  clear hein t1 t2
  dsimp only at c2
  refine l_bw Tryz.func27 0 [] ?_
  refine l_cw [] (h1) rfl rfl rfl ?_
  refine k'43 (i0 := 7) (z := 8) (t0 := 7) rfl (by decide) rfl rfl rfl rfl rfl rfl rfl rfl rfl rfl ?_
  refine Z ?_
  refine x_cw [1] (c1) rfl rfl rfl ?_
  refine l_cw [1] (c2) rfl rfl rfl ?_
  cases e2 with
  | none =>
   exact O
  | some er =>
   cases er <;> (
   exact O)
 cases e2 with
 | none =>
  obtain ⟨rfl, a, g2, g3⟩ := t2.ok
  obtain ⟨g4, b, g5, rfl⟩ := t1.ok
  rw [g4, g5, g2]
  obtain ⟨ah, ⟨kind, vs, vb, vn, vl, vm, vi, vu⟩⟩ := a
  injection g3 with g6 g7
  subst g6; subst g7
  exact main
 | some er =>
  have hno : (match k't s d, k'1p 1 (knB tbK s d), partO (fun s => okV s (d - 1)) noVl 2 (knB tbK s d) with
   | none, some t, some p => some (Kv.mk t p.1 p.2 (unB tbK s d))
   | _, _, _ => none) = none := by
   cases hr : k't s d with
   | some x => rfl
   | none =>
    cases hx : k'1p 1 (knB tbK s d) with
    | none => rfl
    | some b =>
     cases hp : partO (fun s => okV s (d - 1)) noVl 2 (knB tbK s d) with
     | none => rfl
     | some a =>
      rw [hr, hx] at t1
      obtain ⟨-, rfl⟩ := t1.get
      rw [hp] at t2
      have := t2.get.2; simp at this
  rw [hno]
  exact ⟨_, er, hein er rfl, main⟩
theorem Unmarshal_step (hB : BOk B) (s : List UInt8) (d : Int) (hl : s.length < big) (hd1 : -9223372036854775808 ≤ d) (hd2 : d < 9223372036854775808)
  (hV : 1 ≤ d → ∀ s', s'.length < big → RdAt B 96 [] VaS.d Vl.sh (okV s' (d - 2)) s' (d - 2))
  (hK : 1 ≤ d → ∀ s', s'.length < big → RdAt B 27 [] KVs.d Kv.sh (okK s' (d - 2)) s' (d - 2)) : RdAt B 96 [] VaS.d Vl.sh (okV s d) s d := by
 have h1 := k'1h B hB 186 tbV (tbV_calls B) s d hl hd1 hd2
 have hk : LOk (knB tbV s d) := k'x tbV s d hl
 have h2 := rCheck_calls B hB (k't s d) (unB tbV s d) d s.length (knB tbV s d) 1 hk
 have t1 := chkF_tells s.length 1 (k't s d) (knB tbV s d)
 have h3 := fun e => rOne_calls B e (unB tbV s d) d s.length (knB tbV s d) false [1, 2, 3, 4, 5, 6, 7] (by decide) hk
 obtain ⟨o1, o2, o3, o4⟩ := oneF_ok (ns := [1, 2, 3, 4, 5, 6, 7]) hk.1
 have o5 := oneF_len [1, 2, 3, 4, 5, 6, 7] (knB tbV s d)
 have hkl := hk.lenb
 have hkw := hk.2
 have hpos : (oneF [1, 2, 3, 4, 5, 6, 7] (knB tbV s d)).num ≠ 0 → 0 ≤ d := by
  intro h
  rcases o4 with g | ⟨-, x, g1, g2, -⟩
  ·exact absurd g h
  ·exact k'25 (num := x.num) (List.any_eq_true.2 ⟨x, g1, by simp⟩)
 have hnum : (oneF [1, 2, 3, 4, 5, 6, 7] (knB tbV s d)).num = 0 ∨ (oneF [1, 2, 3, 4, 5, 6, 7] (knB tbV s d)).num = 1 ∨ (oneF [1, 2, 3, 4, 5, 6, 7] (knB tbV s d)).num = 2 ∨ (oneF [1, 2, 3, 4, 5, 6, 7] (knB tbV s d)).num = 3 ∨ (oneF [1, 2, 3, 4, 5, 6, 7] (knB tbV s d)).num = 4 ∨ (oneF [1, 2, 3, 4, 5, 6, 7] (knB tbV s d)).num = 5 ∨ (oneF [1, 2, 3, 4, 5, 6, 7] (knB tbV s d)).num = 6 ∨ (oneF [1, 2, 3, 4, 5, 6, 7] (knB tbV s d)).num = 7 := by
  rcases o4 with g | ⟨g, -⟩
  ·exact .inl g
  ·exact .inr (by simpa using g)
 rw [okV_rd]
 clear o4
 generalize oneF [1, 2, 3, 4, 5, 6, 7] (knB tbV s d) = o at *
 obtain ⟨num, n, os, all⟩ := o
 dsimp only at *
 have hein1 : ∀ x, chkF s.length 1 (knB tbV s d) (k't s d) = some x → EIn s.length x := t1.ein fun x hx => k'1a hx
 generalize chkF s.length 1 (knB tbV s d) (k't s d) = e1 at *
 have h3 := h3 e1
 have simple : ∀ (x : VaS) (f : List UInt8 → Vl), tellO (fun s => okV s (d - 2)) (fun s => okK s (d - 2)) d ⟨num, n, os, all⟩ = some f → (f (unB tbV s d)).sh = x → k'5 (cx B) 96 [sT s, .d (.int .i64 d)] [] (.tup [.d (match e1 with | none => x | some _ => noVaS).d, .d (eD e1)]) [] →
   RdAt B 96 [] VaS.d Vl.sh (match k't s d, k'1p 1 (knB tbV s d) with
    | none, some _ => (tellO (fun s => okV s (d - 2)) (fun s => okK s (d - 2)) d ⟨num, n, os, all⟩).map fun f => f (unB tbV s d)
    | _, _ => none) s d := by
  intro x f hf hx main
  cases e1 with
  | none =>
   obtain ⟨g1, b, g2, -⟩ := t1.ok
   rw [g1, g2, hf]
   subst hx
   exact main
  | some er =>
   have hno : (match k't s d, k'1p 1 (knB tbV s d) with
    | none, some _ => (tellO (fun s => okV s (d - 2)) (fun s => okK s (d - 2)) d ⟨num, n, os, all⟩).map fun f => f (unB tbV s d)
    | _, _ => none) = none := by
    cases hr : k't s d with
    | some x => rfl
    | none =>
     cases hx : k'1p 1 (knB tbV s d) with
     | none => rfl
     | some b =>
      rw [hr, hx] at t1
      have := t1.get.2; simp at this
   rw [hno]
   exact ⟨_, er, hein1 er rfl, main⟩
 rcases hnum with rfl | rfl | rfl | rfl | rfl | rfl | rfl | rfl
 ·refine simple ⟨0, [], false, 0, [], [], [], unB tbV s d⟩ _ rfl rfl ?_
  clear simple hein1 t1
  refine l_bw Tryz.func96 0 [] ?_
  refine l_cw [] (h1) rfl rfl rfl ?_
  refine l_cw [1] (h2) rfl rfl rfl ?_
  refine k'3 (.buildSlice (es := [1, 2, 3, 4, 5, 6, 7].map iD) rfl rfl rfl rfl rfl rfl (by intro x hx; simp [iD] at hx; rcases hx with rfl | rfl | rfl | rfl | rfl | rfl | rfl <;> rfl) (by simp) (by decide) (by decide)) rfl rfl ?_
  refine l_cw [1] (h3) rfl rfl rfl ?_
  cases e1 with
  | none =>
   exact O
  | some er =>
   cases er <;> (
   exact O)
 ·refine simple ⟨1, os, false, 0, [], [], [], unB tbV s d⟩ _ rfl rfl ?_
  clear simple hein1 t1
  refine l_bw Tryz.func96 0 [] ?_
  refine l_cw [] (h1) rfl rfl rfl ?_
  refine l_cw [1] (h2) rfl rfl rfl ?_
  refine k'3 (.buildSlice (es := [1, 2, 3, 4, 5, 6, 7].map iD) rfl rfl rfl rfl rfl rfl (by intro x hx; simp [iD] at hx; rcases hx with rfl | rfl | rfl | rfl | rfl | rfl | rfl <;> rfl) (by simp) (by decide) (by decide)) rfl rfl ?_
  refine l_cw [1] (h3) rfl rfl rfl ?_
  cases e1 with
  | none =>
   exact O
  | some er =>
   cases er <;> (
   exact O)
 ·refine simple ⟨2, [], decide (0 < n), 0, [], [], [], unB tbV s d⟩ _ rfl rfl ?_
  clear simple hein1 t1
  refine l_bw Tryz.func96 0 [] ?_
  refine l_cw [] (h1) rfl rfl rfl ?_
  refine l_cw [1] (h2) rfl rfl rfl ?_
  refine k'3 (.buildSlice (es := [1, 2, 3, 4, 5, 6, 7].map iD) rfl rfl rfl rfl rfl rfl (by intro x hx; simp [iD] at hx; rcases hx with rfl | rfl | rfl | rfl | rfl | rfl | rfl <;> rfl) (by simp) (by decide) (by decide)) rfl rfl ?_
  refine l_cw [1] (h3) rfl rfl rfl ?_
  rw [show decide ((n : Int) > 0) = decide (0 < n) from decide_eq_decide.2 (by omega)]
  cases e1 with
  | none =>
   exact O
  | some er =>
   cases er <;> (
   exact O)
 ·refine simple ⟨3, [], false, n, [], [], [], unB tbV s d⟩ _ rfl rfl ?_
  clear simple hein1 t1
  refine l_bw Tryz.func96 0 [] ?_
  refine l_cw [] (h1) rfl rfl rfl ?_
  refine l_cw [1] (h2) rfl rfl rfl ?_
  refine k'3 (.buildSlice (es := [1, 2, 3, 4, 5, 6, 7].map iD) rfl rfl rfl rfl rfl rfl (by intro x hx; simp [iD] at hx; rcases hx with rfl | rfl | rfl | rfl | rfl | rfl | rfl <;> rfl) (by simp) (by decide) (by decide)) rfl rfl ?_
  refine l_cw [1] (h3) rfl rfl rfl ?_
  cases e1 with
  | none =>
   exact O
  | some er =>
   cases er <;> (
   exact O)
 ·refine simple ⟨4, [], false, n, [], [], [], unB tbV s d⟩ _ rfl rfl ?_
  clear simple hein1 t1
  refine l_bw Tryz.func96 0 [] ?_
  refine l_cw [] (h1) rfl rfl rfl ?_
  refine l_cw [1] (h2) rfl rfl rfl ?_
  refine k'3 (.buildSlice (es := [1, 2, 3, 4, 5, 6, 7].map iD) rfl rfl rfl rfl rfl rfl (by intro x hx; simp [iD] at hx; rcases hx with rfl | rfl | rfl | rfl | rfl | rfl | rfl <;> rfl) (by simp) (by decide) (by decide)) rfl rfl ?_
  refine l_cw [1] (h3) rfl rfl rfl ?_
  cases e1 with
  | none =>
   exact O
  | some er =>
   cases er <;> (
   exact O)
 ·have hd0 := hpos (by omega)
  have hlen : all.flatten.length < big := by omega
  have h4 := listsV_calls B 96 []
  have hin : RdAt B 267 [.box [.fn 96 []]] SoV.d (fun p : List Vl × List UInt8 => ⟨p.1.map Vl.d, p.2⟩) (okG tbL (fun _ l => k'7 (fun s => okV s (d - 2)) 1 l) all.flatten (d - 1)) all.flatten (d - 1) :=
   listsV1_rd B hB 96 [] (fun s => okV s (d - 2)) all.flatten (d - 1) hlen (by omega) (by omega) fun x hx hxn => by
    have h0 : 0 ≤ d - 1 := k'25 (num := 1) (List.any_eq_true.2 ⟨x, hx, by simpa using hxn⟩)
    rw [show d - 1 - 1 = d - 2 by omega]
    have hfx := (k'x tbL all.flatten (d - 1) hlen).1 x hx
    have hwx := (k'x tbL all.flatten (d - 1) hlen).2
    have hxl : x.raw.length ≤ wt (k'1 tbL (fldsE all.flatten (d - 1))) := by
     obtain ⟨i, hi⟩ := List.getElem?_of_mem hx
     exact (k'1x (k'x tbL all.flatten (d - 1) hlen) hi).2
    exact hV (by omega) x.s (by have := hfx.s; omega)
  have hsub : ∃ (x : SoV) (er : Option Er), k'5 (cx B) 267 ([sT all.flatten, .d (.int .i64 (d - 1))] ++ [D.box [.fn 96 []]].map T.d) [] (.tup [.d x.d, .d (eD er)]) [] ∧
    (match okG tbL (fun _ l => k'7 (fun s => okV s (d - 2)) 1 l) all.flatten (d - 1) with
     | some p => x = ⟨p.1.map Vl.d, p.2⟩ ∧ er = none
     | none => ∃ e, er = some e ∧ EIn all.flatten.length e) := by
   unfold RdAt at hin
   cases hg : okG tbL (fun _ l => k'7 (fun s => okV s (d - 2)) 1 l) all.flatten (d - 1) with
   | some p => rw [hg] at hin; exact ⟨_, none, hin, rfl, rfl⟩
   | none => rw [hg] at hin; obtain ⟨y, e, g1, g2⟩ := hin; exact ⟨y, some e, g2, e, rfl, g1⟩
  obtain ⟨x, er, c5, hx⟩ := hsub
  have c6 := Inner_SoV_calls B hB ⟨5, n, os, all⟩ _ _ x er e1 (unB tbV s d) d s.length (knB tbV s d) (by omega) hd2 hlen (by show all.length < big; omega) c5
  have main : k'5 (cx B) 96 [sT s, .d (.int .i64 d)] [] (.tup [.d (match k'4c s.length 5 e1 er with | none => (⟨5, [], false, 0, x.l, [], x.rest, unB tbV s d⟩ : VaS) | some _ => noVaS).d, .d (eD (k'4c s.length 5 e1 er))]) [] := by
   clear hx c5 hin simple hein1 t1
   dsimp only at c6
   generalize k'4c s.length 5 e1 er = e2 at *
   refine l_bw Tryz.func96 0 [] ?_
   refine l_cw [] (h1) rfl rfl rfl ?_
   refine l_cw [1] (h2) rfl rfl rfl ?_
   refine k'3 (.buildSlice (es := [1, 2, 3, 4, 5, 6, 7].map iD) rfl rfl rfl rfl rfl rfl (by intro x hx; simp [iD] at hx; rcases hx with rfl | rfl | rfl | rfl | rfl | rfl | rfl <;> rfl) (by simp) (by decide) (by decide)) rfl rfl ?_
   refine l_cw [1] (h3) rfl rfl rfl ?_
   refine k'43 (i0 := 4) (z := 5) (t0 := 9) rfl (by decide) rfl rfl rfl rfl rfl rfl rfl rfl rfl rfl ?_
   refine Z ?_
   refine x_cw [] (h4) rfl rfl rfl ?_
   refine x_cw [1] (c6) rfl rfl rfl ?_
   cases e2 with
   | none =>
    exact O
   | some er =>
    cases er <;> (
    exact O)
  have htl : tellO (fun s => okV s (d - 2)) (fun s => okK s (d - 2)) d ⟨5, n, os, all⟩ = (match okG tbL (fun _ l => k'7 (fun s => okV s (d - 2)) 1 l) all.flatten (d - 1) with
   | none => none
   | some p => some fun u => .mk 5 [] false 0 p.1 [] p.2 u) := rfl
  rw [htl]
  cases hg : okG tbL (fun _ l => k'7 (fun s => okV s (d - 2)) 1 l) all.flatten (d - 1) with
  | some p =>
   rw [hg] at hx
   obtain ⟨rfl, rfl⟩ := hx
   rw [failE_nn] at main
   cases e1 with
   | none =>
    obtain ⟨g1, b, g2, -⟩ := t1.ok
    rw [g1, g2]
    show RdAt B _ _ _ _ (some (Vl.mk 5 [] false 0 p.1 [] p.2 (unB tbV s d))) s d
    unfold RdAt
    show k'5 _ _ _ _ (.tup [.d (VaS.d ⟨5, [], false, 0, Vl.ds p.1, [], p.2, unB tbV s d⟩), _]) _
    rw [Vl.ds_map]
    exact main
   | some er =>
    have hno : (match k't s d, k'1p 1 (knB tbV s d) with
     | none, some _ => (some fun u => Vl.mk 5 [] false 0 p.1 [] p.2 u).map fun f => f (unB tbV s d)
     | _, _ => none) = none := by
     cases hr : k't s d with
     | some x => rfl
     | none =>
      cases hx : k'1p 1 (knB tbV s d) with
      | none => rfl
      | some b => rw [hr, hx] at t1; have := t1.get.2; simp at this
    simp only at hno ⊢
    rw [hno]
    exact ⟨_, er, hein1 er rfl, main⟩
  | none =>
   rw [hg] at hx
   obtain ⟨e5, rfl, g5⟩ := hx
   have hno : (match k't s d, k'1p 1 (knB tbV s d) with
    | none, some _ => (none : Option (List UInt8 → Vl)).map fun f => f (unB tbV s d)
    | _, _ => none) = none := by
    cases k't s d with
    | some x => rfl
    | none => cases k'1p 1 (knB tbV s d) <;> rfl
   simp only at hno ⊢
   rw [hno]
   cases e1 with
   | some er => exact ⟨_, er, hein1 er rfl, main⟩
   | none =>
    obtain ⟨e6, g6, g7⟩ := fail_in s.length 5 e5 g5.2
    rw [g6] at main
    exact ⟨_, e6, g7, main⟩
 ·have hd0 := hpos (by omega)
  have hlen : all.flatten.length < big := by omega
  have h4 := listsK_calls B 27 []
  have hin : RdAt B 271 [.box [.fn 27 []]] SoK.d (fun p : List Kv × List UInt8 => ⟨p.1.map Kv.d, p.2⟩) (okG tbL (fun _ l => k'7 (fun s => okK s (d - 2)) 1 l) all.flatten (d - 1)) all.flatten (d - 1) :=
   listsK1_rd B hB 27 [] (fun s => okK s (d - 2)) all.flatten (d - 1) hlen (by omega) (by omega) fun x hx hxn => by
    have h0 : 0 ≤ d - 1 := k'25 (num := 1) (List.any_eq_true.2 ⟨x, hx, by simpa using hxn⟩)
    rw [show d - 1 - 1 = d - 2 by omega]
    have hfx := (k'x tbL all.flatten (d - 1) hlen).1 x hx
    have hwx := (k'x tbL all.flatten (d - 1) hlen).2
    have hxl : x.raw.length ≤ wt (k'1 tbL (fldsE all.flatten (d - 1))) := by
     obtain ⟨i, hi⟩ := List.getElem?_of_mem hx
     exact (k'1x (k'x tbL all.flatten (d - 1) hlen) hi).2
    exact hK (by omega) x.s (by have := hfx.s; omega)
  have hsub : ∃ (x : SoK) (er : Option Er), k'5 (cx B) 271 ([sT all.flatten, .d (.int .i64 (d - 1))] ++ [D.box [.fn 27 []]].map T.d) [] (.tup [.d x.d, .d (eD er)]) [] ∧
    (match okG tbL (fun _ l => k'7 (fun s => okK s (d - 2)) 1 l) all.flatten (d - 1) with
     | some p => x = ⟨p.1.map Kv.d, p.2⟩ ∧ er = none
     | none => ∃ e, er = some e ∧ EIn all.flatten.length e) := by
   unfold RdAt at hin
   cases hg : okG tbL (fun _ l => k'7 (fun s => okK s (d - 2)) 1 l) all.flatten (d - 1) with
   | some p => rw [hg] at hin; exact ⟨_, none, hin, rfl, rfl⟩
   | none => rw [hg] at hin; obtain ⟨y, e, g1, g2⟩ := hin; exact ⟨y, some e, g2, e, rfl, g1⟩
  obtain ⟨x, er, c5, hx⟩ := hsub
  have c6 := Inner_SoK_calls B hB ⟨6, n, os, all⟩ _ _ x er e1 (unB tbV s d) d s.length (knB tbV s d) (by omega) hd2 hlen (by show all.length < big; omega) c5
  have main : k'5 (cx B) 96 [sT s, .d (.int .i64 d)] [] (.tup [.d (match k'4c s.length 6 e1 er with | none => (⟨6, [], false, 0, [], x.l, x.rest, unB tbV s d⟩ : VaS) | some _ => noVaS).d, .d (eD (k'4c s.length 6 e1 er))]) [] := by
   clear hx c5 hin simple hein1 t1
   dsimp only at c6
   generalize k'4c s.length 6 e1 er = e2 at *
   refine l_bw Tryz.func96 0 [] ?_
   refine l_cw [] (h1) rfl rfl rfl ?_
   refine l_cw [1] (h2) rfl rfl rfl ?_
   refine k'3 (.buildSlice (es := [1, 2, 3, 4, 5, 6, 7].map iD) rfl rfl rfl rfl rfl rfl (by intro x hx; simp [iD] at hx; rcases hx with rfl | rfl | rfl | rfl | rfl | rfl | rfl <;> rfl) (by simp) (by decide) (by decide)) rfl rfl ?_
   refine l_cw [1] (h3) rfl rfl rfl ?_
   refine k'43 (i0 := 4) (z := 5) (t0 := 10) rfl (by decide) rfl rfl rfl rfl rfl rfl rfl rfl rfl rfl ?_
   refine Z ?_
   refine x_cw [] (h4) rfl rfl rfl ?_
   refine x_cw [1] (c6) rfl rfl rfl ?_
   cases e2 with
   | none =>
    exact O
   | some er =>
    cases er <;> (
    exact O)
  have htl : tellO (fun s => okV s (d - 2)) (fun s => okK s (d - 2)) d ⟨6, n, os, all⟩ = (match okG tbL (fun _ l => k'7 (fun s => okK s (d - 2)) 1 l) all.flatten (d - 1) with
   | none => none
   | some p => some fun u => .mk 6 [] false 0 [] p.1 p.2 u) := rfl
  rw [htl]
  cases hg : okG tbL (fun _ l => k'7 (fun s => okK s (d - 2)) 1 l) all.flatten (d - 1) with
  | some p =>
   rw [hg] at hx
   obtain ⟨rfl, rfl⟩ := hx
   rw [failE_nn] at main
   cases e1 with
   | none =>
    obtain ⟨g1, b, g2, -⟩ := t1.ok
    rw [g1, g2]
    show RdAt B _ _ _ _ (some (Vl.mk 6 [] false 0 [] p.1 p.2 (unB tbV s d))) s d
    unfold RdAt
    show k'5 _ _ _ _ (.tup [.d (VaS.d ⟨6, [], false, 0, [], Kv.ds p.1, p.2, unB tbV s d⟩), _]) _
    rw [Kv.ds_map]
    exact main
   | some er =>
    have hno : (match k't s d, k'1p 1 (knB tbV s d) with
     | none, some _ => (some fun u => Vl.mk 6 [] false 0 [] p.1 p.2 u).map fun f => f (unB tbV s d)
     | _, _ => none) = none := by
     cases hr : k't s d with
     | some x => rfl
     | none =>
      cases hx : k'1p 1 (knB tbV s d) with
      | none => rfl
      | some b => rw [hr, hx] at t1; have := t1.get.2; simp at this
    simp only at hno ⊢
    rw [hno]
    exact ⟨_, er, hein1 er rfl, main⟩
  | none =>
   rw [hg] at hx
   obtain ⟨e5, rfl, g5⟩ := hx
   have hno : (match k't s d, k'1p 1 (knB tbV s d) with
    | none, some _ => (none : Option (List UInt8 → Vl)).map fun f => f (unB tbV s d)
    | _, _ => none) = none := by
    cases k't s d with
    | some x => rfl
    | none => cases k'1p 1 (knB tbV s d) <;> rfl
   simp only at hno ⊢
   rw [hno]
   cases e1 with
   | some er => exact ⟨_, er, hein1 er rfl, main⟩
   | none =>
    obtain ⟨e6, g6, g7⟩ := fail_in s.length 6 e5 g5.2
    rw [g6] at main
    exact ⟨_, e6, g7, main⟩
 ·refine simple ⟨7, os, false, 0, [], [], [], unB tbV s d⟩ _ rfl rfl ?_
  clear simple hein1 t1
  refine l_bw Tryz.func96 0 [] ?_
  refine l_cw [] (h1) rfl rfl rfl ?_
  refine l_cw [1] (h2) rfl rfl rfl ?_
  refine k'3 (.buildSlice (es := [1, 2, 3, 4, 5, 6, 7].map iD) rfl rfl rfl rfl rfl rfl (by intro x hx; simp [iD] at hx; rcases hx with rfl | rfl | rfl | rfl | rfl | rfl | rfl <;> rfl) (by simp) (by decide) (by decide)) rfl rfl ?_
  refine l_cw [1] (h3) rfl rfl rfl ?_
  cases e1 with
  | none =>
   exact O
  | some er =>
   cases er <;> (
   exact O)
theorem val_read (hB : BOk B) (k : Nat) : ∀ d : Int, d < k → -9223372036854775808 ≤ d → d < 9223372036854775808 → ∀ s, s.length < big →
  RdAt B 96 [] VaS.d Vl.sh (okV s d) s d ∧ RdAt B 27 [] KVs.d Kv.sh (okK s d) s d := by
 induction k with
 | zero =>
  intro d hk hd1 hd2 s hs
  exact ⟨Unmarshal_step B hB s d hs hd1 hd2 (fun h => by omega) (fun h => by omega), k'3i B hB s d hs hd1 hd2 (fun h => by omega)⟩
 | succ k ih =>
  intro d hk hd1 hd2 s hs
  exact ⟨Unmarshal_step B hB s d hs hd1 hd2 (fun h s' hs' => (ih (d - 2) (by omega) (by omega) (by omega) s' hs').1) (fun h s' hs' => (ih (d - 2) (by omega) (by omega) (by omega) s' hs').2),
   k'3i B hB s d hs hd1 hd2 (fun h s' hs' => (ih (d - 1) (by omega) (by omega) (by omega) s' hs').1)⟩
theorem k'1i (hB : BOk B) (s : List UInt8) (d : Int) (hs : s.length < big) (hd1 : -9223372036854775808 ≤ d) (hd2 : d < 9223372036854775808) : RdAt B 27 [] KVs.d Kv.sh (okK s d) s d :=
 (val_read B hB (d.toNat + 1) d (by omega) hd1 hd2 s hs).2
