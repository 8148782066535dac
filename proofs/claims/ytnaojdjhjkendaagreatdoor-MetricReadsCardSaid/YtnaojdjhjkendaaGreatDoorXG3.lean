/- msg.Reader: an error noted; numbers unfolded. And more. -/
import Derived.Test.YtnaojdjhjkendaaGreatDoorXG2
import Derived.Test.YtnaojdjhjkendaaGreatDoorXAF
set_option linter.unusedSimpArgs false
set_option linter.unusedVariables false
set_option maxRecDepth 100000
/-! msg.Reader: an error noted; numbers unfolded. -/
namespace Go.Proofs.YtnaojdjhjkendaaGreatDoor
open Go Go.Abs
variable (B : Fr)
def BOk (B : Fr) : Prop := B 0 0 = some (rty 31)
def clampE (n at' : Int) : Int :=
 let m := if (0 : Int) > at' then 0 else at'
 if n < m then n else m
def k'4c (n : Int) (num : Nat) : Option Er → Option Er → Option Er
 | none, some x => some (.loc (clampE n (placeOf x).1) (.fld num x))
 | e, _ => e
theorem k'1v (hB : BOk B) (e : Option Er) (u : List UInt8) (d n : Int) (l : List Fld) (num : Nat) (er : Option Er) : k'5 (cx B) 72 [.ptr 0 0, iT num, .d (eD er)] [rO e u d n l] (.tup []) [rO (k'4c n num e er) u d n l] := by
 cases e with
 | some e =>
  refine l_b0 Tryz.func72 1 [] ?_
  cases e <;> (
  exact O)
 | none =>
  cases er with
  | none =>
   refine l_b0 Tryz.func72 1 [] ?_
   exact O
  | some er =>
   have h1 := Place_calls B hB (some er)
   have h2 := In_calls B num (some er)
   have h3 := At_calls B (clampE n (placeOf er).1) (some (.fld num er))
   dsimp only at h1
   refine l_b0 Tryz.func72 1 [] ?_
   cases er <;> (
   refine Z ?_
   refine l_cw [] (h1) rfl rfl rfl ?_
   refine x_cw [] (h2) rfl rfl rfl ?_
   refine x_callq [] (h3) rfl rfl rfl ?_
   exact O)
end Go.Proofs.YtnaojdjhjkendaaGreatDoor
/-! msg.Read: a message taken apart. -/
namespace Go.Proofs.YtnaojdjhjkendaaGreatDoor
open Go Go.Abs
variable (B : Fr)
def k't (s : List UInt8) (d : Int) : Option Er :=
 if d < 0 then k'4c s.length 0 none (some (.code 6)) else match all s d with
  | .ok _ => none
  | .error e => some e
def fldsE (s : List UInt8) (d : Int) : List Fld :=
 if d < 0 then [] else match all s d with
  | .ok l => l
  | .error _ => []
def isT (tb : Nat → Nat → Bool) (x : Fld) : Bool := tb x.num x.kind
def k'1 (tb : Nat → Nat → Bool) (l : List Fld) : List Fld := l.filter (isT tb)
def unkL (tb : Nat → Nat → Bool) (l : List Fld) : List UInt8 := (l.filter fun x => !isT tb x).flatMap Fld.raw
theorem k'6 (tb : Nat → Nat → Bool) (l : List Fld) (x : Fld) : unkL tb (l ++ [x]) = unkL tb l ++ (if isT tb x then [] else x.raw) := by
 unfold unkL
 rw [List.filter_append, List.flatMap_append]
 cases h : isT tb x <;> simp [h]
theorem k'4 (tb : Nat → Nat → Bool) (l : List Fld) (x : Fld) : k'1 tb (l ++ [x]) = k'1 tb l ++ (if isT tb x then [x] else []) := by
 unfold k'1
 rw [List.filter_append]
 cases h : isT tb x <;> simp [h]
theorem grpS_pos {s : List UInt8} {d : Int} {p q : Nat} {r : Fld} (h : recE s d p = .ok (r, q)) : r.raw = (s.drop p).take (q - p) := by
 unfold recE at h
 split at h <;> (try (simp at h; done))
 split at h <;> (try (simp at h; done))
 injection h with h; injection h with h1 h2
 subst h1; subst h2; rfl
theorem allE_raw {s : List UInt8} {d : Int} : ∀ {f p : Nat} {l : List Fld}, allE s d f p = .ok l → (l.map fun x => x.raw.length).sum ≤ s.length - p
 | 0, p, l, h => by simp [allE] at h; subst h; simp
 | f + 1, p, l, h => by
  unfold allE at h
  split at h
  ·split at h <;> (try (simp at h; done))
   rename_i r q e
   obtain ⟨a, b, -⟩ := k'3s e
   have hr := grpS_pos e
   split at h <;> (try (simp at h; done))
   rename_i e2
   injection h with h; subst h
   have := allE_raw e2
   have h3 : r.raw.length ≤ q - p := by rw [hr]; simp; omega
   simp; omega
  ·injection h with h; subst h; simp
theorem unk_le (tb : Nat → Nat → Bool) : ∀ (l : List Fld), (unkL tb l).length ≤ (l.map fun x => x.raw.length).sum
 | [] => by simp [unkL]
 | x :: l => by
  have := unk_le tb l
  unfold unkL at *
  cases h : isT tb x <;> simp [h] at * <;> omega
theorem sum_take (l : List Fld) (i : Nat) : ((l.take i).map fun x => x.raw.length).sum ≤ (l.map fun x => x.raw.length).sum := by
 induction l generalizing i with
 | nil => simp
 | cons x l ih =>
  cases i with
  | zero => simp
  | succ i => have := ih i; simp at *; omega
def bA (b : Bool) : T := if b then .me else .nw 120 2
theorem bA_ok (b : Bool) : adOk (bA b) := by cases b; exact .inr (.inl rfl); exact .inl rfl
theorem Read_cap (hB : BOk B) (f : Nat) (cap : List D) (tb : Nat → Nat → Bool) (ht : TblC B f cap tb) (s : List UInt8) (d : Int) (hl : s.length < big) (hd1 : -9223372036854775808 ≤ d) (hd2 : d < 9223372036854775808) :
  k'5 (cx B) 18 [sT s, .d (.int .i64 d), .d (.fn f cap)] [] (.ptr 0 0) [rO (k't s d) (unkL tb (fldsE s d)) d s.length (k'1 tb (fldsE s d))] := by
 have hl' := hl
 unfold big at hl'
 unfold k't fldsE
 by_cases hd : d < 0
 ·have h0 := k'1v B hB none [] d s.length [] 0 (some (.code 6))
  rw [if_pos hd, if_pos hd]
  refine l_bw Tryz.func18 0 [0] ?_
  rw [show decide (d < 0) = true from decide_eq_true hd]
  refine Z ?_
  refine k'8 [0] (h0) rfl rfl rfl ?_
  exact O
 ·rw [if_neg hd, if_neg hd]
  have h1 := all_calls B s d hl hd1 hd2
  cases ha : all s d with
  | error e =>
   rw [ha] at h1
   dsimp only
   refine l_bw Tryz.func18 0 [0] ?_
   rw [show decide (d < 0) = false from decide_eq_false hd]
   refine Z ?_
   refine k'8 [] (h1) rfl rfl rfl ?_
   cases e <;> (
   exact O)
  | ok l =>
   have hll := all_len ha
   have hrw : (l.map fun x => x.raw.length).sum ≤ s.length := by have := allE_raw ha; omega
   rw [ha] at h1
   dsimp only
   have hlen : (l.map Fld.d).length = l.length := by simp
   refine l_bw Tryz.func18 0 [0] ?_
   rw [show decide (d < 0) = false from decide_eq_false hd]
   refine Z ?_
   refine l_cw [] (h1) rfl rfl rfl ?_
   rw [hlen]
   refine k'1w (fun i : Nat => l.length - i) (fun i => [(2, .d (.fn f cap)), (7, .ptr 0 0), (10, .ptr 1 0), (37, .d (slD (l.map Fld.d))), (38, iT l.length), (39, iT i)])
    (fun i => [.mu [.d .nili, sT [], .d (.int .i64 d), .d (.int .i64 s.length), owT ((k'1 tb (l.take i)).map Fld.d)], .mu [bA ((l.take i).any fun x => !isT tb x), bT (unkL tb (l.take i))]]) (fun i => i ≤ l.length) 0 (by omega) ⟨rfl, rfl, rfl, rfl, rfl, rfl, trivial⟩
    ⟨⟨.inr (.inl rfl), .inr (.inl rfl), .inr (.inl rfl), .inr (.inl rfl), .inr (.inr (.inr ⟨rfl, rfl⟩)), trivial⟩, ⟨.inr (.inl rfl), .inr (.inl rfl), trivial⟩, trivial⟩ rfl 2 rfl (fun _ => rfl) (fun i => by
     simp [k'2y (bA_ok _)]; rfl) (fun _ => rfl) ?_
   intro i i1
   refine Z ?_
   refine k'1q rfl (fun hc => ?_) (fun hc => ?_)
   ·have hlt : i < l.length := by have := of_decide_eq_true hc; omega
    obtain ⟨x, hx⟩ : ∃ x, l[i]? = some x := ⟨_, List.getElem?_eq_getElem hlt⟩
    have hdx : (l.map Fld.d)[i]? = some x.d := by rw [List.getElem?_map, hx]; rfl
    have htk : l.take (i + 1) = l.take i ++ [x] := by rw [List.take_add_one, hx]; rfl
    refine Z ?_
    refine k'3 (.indexAddr (k := .i64) (n := i) (es := l.map Fld.d) (u := x.d) rfl rfl rfl rfl (.inl ⟨_, rfl⟩) rfl (by omega) (by simpa using hdx) rfl (by decide)) rfl rfl ?_
    refine Z ?_
    refine k'8 [] (ht x.num x.kind) rfl rfl rfl ?_
    cases hb : tb x.num x.kind
    rotate_left
    ·have hk : k'1 tb (l.take (i + 1)) = k'1 tb (l.take i) ++ [x] := by rw [htk, k'4, show isT tb x = true from hb]; rfl
     have hu : unkL tb (l.take (i + 1)) = unkL tb (l.take i) := by rw [htk, k'6, show isT tb x = true from hb]; simp
     have ha : (l.take (i + 1)).any (fun x => !isT tb x) = (l.take i).any (fun x => !isT tb x) := by rw [htk, List.any_append]; simp [show isT tb x = true from hb]
     have hkl : (k'1 tb (l.take i)).length ≤ i := by have := List.length_filter_le (isT tb) (l.take i); unfold k'1; simp at this; omega
     refine adm ?_
     refine x_open rfl rfl ?_
     refine x_pure rfl rfl rfl ?_
     refine x_pure rfl rfl rfl ?_
     refine x_pure rfl rfl rfl ?_
     refine x_pure rfl rfl rfl ?_
     refine x_step (.loadMov (q := owT ((k'1 tb (l.take i)).map Fld.d)) rfl rfl rfl rfl rfl rfl rfl) rfl rfl ?_
     refine x_load rfl rfl rfl rfl rfl rfl ?_
     refine k'35 (.buildSlice (es := [x.d]) rfl rfl rfl rfl rfl rfl (by intro y hy; simp at hy; subst hy; rfl) (by simp) (by decide) (by decide)) rfl rfl rfl ?_
     have hm : ((k'1 tb (l.take i)).map Fld.d).length + [x.d].length ≤ most := by simp [most]; omega
     refine x_step (.append' rfl rfl rfl rfl ⟨_, _, rfl, rfl, by intro q; simp⟩ rfl rfl rfl rfl rfl (by rw [show [x.d] = [x].map Fld.d from rfl, ← List.map_append]; exact fld_fits _) (by decide) rfl hm rfl) rfl rfl ?_
     refine x_pure rfl rfl rfl ?_
     refine x_pure rfl rfl rfl ?_
     refine x_step (.storeMov rfl rfl rfl rfl rfl rfl rfl (Nat.le_of_ble_eq_true rfl) rfl) rfl rfl ?_
     refine Z ?_
     rw [wS i (by omega)]
     refine ⟨i + 1, by omega, by omega, ⟨rfl, rfl, rfl, rfl, rfl, rfl, trivial⟩, by simp [k'2y (bA_ok _)]; rfl, ?_⟩
     rw [hk, hu, ha, List.map_append]
     exact k'g rfl
    have hk : k'1 tb (l.take (i + 1)) = k'1 tb (l.take i) := by rw [htk, k'4, show isT tb x = false from hb]; simp
    have hu : unkL tb (l.take (i + 1)) = unkL tb (l.take i) ++ x.raw := by rw [htk, k'6, show isT tb x = false from hb]; rfl
    have ha : (l.take (i + 1)).any (fun x => !isT tb x) = true := by rw [htk, List.any_append]; simp [show isT tb x = false from hb]
    have hul := unk_le tb (l.take (i + 1))
    have hus := sum_take l (i + 1)
    have h3 := k'2a B _ (unkL tb (l.take i)) x.raw (bA_ok ((l.take i).any fun x => !isT tb x)) (by rw [hu] at hul; simp [most] at *; omega)
    rw [← hu] at h3
    refine Z ?_
    refine l_wr [1] (h3) (bA_ok _) (.inl rfl) ?_
    rw [wS i (by omega)]
    refine ⟨i + 1, by omega, by omega, ⟨rfl, rfl, rfl, rfl, rfl, rfl, trivial⟩, by simp [k'2y (.inl rfl)]; rfl, ?_⟩
    rw [hk, ha]
    exact k'g rfl
   ·have hge : i = l.length := by have := of_decide_eq_false hc; omega
    subst hge
    rw [List.take_length]
    have hul := unk_le tb l
    have h3 := k'4l B _ (unkL tb l) (bA_ok (l.any fun x => !isT tb x)) (by simp [most]; omega)
    refine Z ?_
    refine l_call [1] (h3) rfl rfl rfl rfl rfl rfl rfl (by decide) (by simp [k'2y (bA_ok _)]) (by simp [Ob.plain, (bA_ok _).plain]; rfl) rfl rfl rfl ?_
    refine Z ?_
    exact l_endW trivial (by decide) rfl rfl rfl rfl rfl ⟨⟨.inr (.inl rfl), .inr (.inl rfl), .inr (.inl rfl), .inr (.inl rfl), .inr (.inr (.inl ⟨_, _, rfl, rfl⟩)), trivial⟩, trivial⟩
theorem k'1h (hB : BOk B) (f : Nat) (tb : Nat → Nat → Bool) (ht : Tbl B f tb) (s : List UInt8) (d : Int) (hl : s.length < big) (hd1 : -9223372036854775808 ≤ d) (hd2 : d < 9223372036854775808) :
  k'5 (cx B) 18 [sT s, .d (.int .i64 d), .d (.fn f [])] [] (.ptr 0 0) [rO (k't s d) (unkL tb (fldsE s d)) d s.length (k'1 tb (fldsE s d))] := Read_cap B hB f [] tb ht s d hl hd1 hd2
end Go.Proofs.YtnaojdjhjkendaaGreatDoor
/-! msg.Reader: packed numbers; a number that may lack; numbers unfolded. -/
namespace Go.Proofs.YtnaojdjhjkendaaGreatDoor
open Go Go.Abs
variable (B : Fr)
structure FOk (x : Fld) : Prop where
 s : x.s.length < x.raw.length
 n : x.n < 2 ^ 64
 num : x.num ≤ 536870911
 one : 1 ≤ x.num
 kind : x.kind < 8
def wt (l : List Fld) : Nat := (l.map fun x => x.raw.length).sum
def LOk (l : List Fld) : Prop := (∀ x ∈ l, FOk x) ∧ wt l < big
theorem restG_len {g : Int → Nat → Nat → Except Er Nat} {s : List UInt8} {d : Int} {num kind a p n q : Nat} {t : List UInt8} (hg : ∀ d num p q, g d num p = .ok q → p ≤ s.length → p ≤ q ∧ q ≤ s.length) (h : k'28 g s d num kind a p = .ok (n, t, q)) (hp : p ≤ s.length) : t.length ≤ q - p := by
 have h0 := k'20 hg h hp
 unfold k'28 at h
 split at h
 ·split at h <;> (try (simp at h; done))
  injection h with h; injection h with h1 h2; injection h2 with h2 h3
  subst h2; simp
 split at h
 ·split at h <;> (try (simp at h; done))
  injection h with h; injection h with h1 h2; injection h2 with h2 h3
  subst h2; simp
 split at h
 ·split at h <;> (try (simp at h; done))
  injection h with h; injection h with h1 h2; injection h2 with h2 h3
  subst h2; simp
 split at h
 ·split at h <;> (try (simp at h; done))
  rename_i e1
  split at h <;> (try (simp at h; done))
  rename_i e; injection h with h; injection h with h1 h2; injection h2 with h2 h3
  subst h2; subst h3
  obtain ⟨a1, b1, c1⟩ := vE_ok e1
  obtain ⟨a, b, c, d, -⟩ := k'3n e b1; omega
 split at h
 ·split at h <;> (try (simp at h; done))
  injection h with h; injection h with h1 h2; injection h2 with h2 h3
  subst h2; simp
 ·simp at h
theorem recE_fok {s : List UInt8} {d : Int} {p q : Nat} {r : Fld} (h : recE s d p = .ok (r, q)) : FOk r := by
 have h0 := k'3s h
 unfold recE at h
 split at h <;> (try (simp at h; done))
 rename_i e
 obtain ⟨a, b, c, d1, e1⟩ := k'2g e
 split at h <;> (try (simp at h; done))
 rename_i e2
 have h3 := restG_len (fun d n p q => k'49 _ d n p q) e2 b
 obtain ⟨a2, b2, c2⟩ := k'20 (fun d n p q => k'49 _ d n p q) e2 b
 injection h with h; injection h with h1 h2
 subst h1; subst h2
 refine ⟨?_, c2, c, d1, e1⟩
 simp; omega
theorem allE_fok {s : List UInt8} {d : Int} : ∀ {f p : Nat} {l : List Fld}, allE s d f p = .ok l → ∀ x ∈ l, FOk x
 | 0, p, l, h => by simp [allE] at h; subst h; simp
 | f + 1, p, l, h => by
  unfold allE at h
  split at h
  ·split at h <;> (try (simp at h; done))
   rename_i e
   split at h <;> (try (simp at h; done))
   rename_i e2
   injection h with h; subst h
   intro x hx
   rcases List.mem_cons.1 hx with rfl | hx
   ·exact recE_fok e
   ·exact allE_fok e2 x hx
  ·injection h with h; subst h; simp
theorem all_lok {s : List UInt8} {d : Int} {l : List Fld} (h : all s d = .ok l) (hl : s.length < big) : LOk l := ⟨allE_fok h, by have := allE_raw h; unfold wt; omega⟩
theorem flds_lok (s : List UInt8) (d : Int) (hl : s.length < big) : LOk (fldsE s d) := by
 unfold fldsE
 split
 ·exact ⟨by simp, by simp [wt, big]⟩
 ·split
  ·exact all_lok ‹_› hl
  ·exact ⟨by simp, by simp [wt, big]⟩
theorem k'1l (p : Fld → Bool) (l : List Fld) : wt (l.filter p) ≤ wt l := by
 induction l with
 | nil => simp [wt]
 | cons x l ih => unfold wt at *; cases h : p x <;> simp [h] <;> omega
theorem LOk.filter {l : List Fld} (h : LOk l) (p : Fld → Bool) : LOk (l.filter p) := ⟨fun x hx => h.1 x (List.mem_filter.1 hx).1, Nat.lt_of_le_of_lt (k'1l p l) h.2⟩
theorem k'x (tb : Nat → Nat → Bool) (s : List UInt8) (d : Int) (hl : s.length < big) : LOk (k'1 tb (fldsE s d)) := (flds_lok s d hl).filter _
theorem LOk.len {l : List Fld} (h : LOk l) : l.length ≤ wt l := by
 obtain ⟨h, -⟩ := h
 induction l with
 | nil => simp [wt]
 | cons x l ih =>
  have h1 := (h x (List.mem_cons_self ..)).s
  have := ih fun y hy => h y (List.mem_cons_of_mem _ hy)
  unfold wt at *; simp; omega
theorem LOk.lenb {l : List Fld} (h : LOk l) : l.length < big := Nat.lt_of_le_of_lt h.len h.2
theorem k'1x {l : List Fld} (h : LOk l) {i : Nat} {x : Fld} (hx : l[i]? = some x) : FOk x ∧ x.raw.length ≤ wt l := by
 have hm := List.mem_of_getElem? hx
 refine ⟨h.1 x hm, ?_⟩
 clear h hx
 induction l with
 | nil => simp at hm
 | cons y l ih =>
  unfold wt at *
  rcases List.mem_cons.1 hm with rfl | hm
  ·simp
  ·have := ih hm; simp; omega
theorem k'1u (l : List Fld) (i : Nat) : wt (l.take i) ≤ wt l := sum_take l i
theorem wt_snoc (l : List Fld) (x : Fld) : wt (l ++ [x]) = wt l + x.raw.length := by simp [wt]
def NumsRd (f : Nat) (rd : List UInt8 → Except Er (List Nat)) : Prop := (∀ s, s.length < big → k'5 (cx B) f [sT s] [] (numsT (rd s)) []) ∧ ∀ s l, rd s = .ok l → l.length ≤ s.length
def k'r (rd : List UInt8 → Except Er (List Nat)) (n : Int) (num : Nat) (st : List Nat × Option Er) (x : Fld) : List Nat × Option Er :=
 if x.num = num then (if x.kind = 2 then (match rd x.s with | .ok l => (st.1 ++ l, k'4c n num st.2 none) | .error e => (st.1, k'4c n num st.2 (some e))) else (st.1 ++ [x.n], st.2)) else st
def packF (rd : List UInt8 → Except Er (List Nat)) (n : Int) (num : Nat) (l : List Fld) (e : Option Er) : List Nat × Option Er := l.foldl (k'r rd n num) ([], e)
theorem packF_len {rd : List UInt8 → Except Er (List Nat)} (hr : ∀ s l, rd s = .ok l → l.length ≤ s.length) (n : Int) (num : Nat) (e : Option Er) (l : List Fld) (h : ∀ x ∈ l, FOk x) : (packF rd n num l e).1.length ≤ wt l := by
 have key : ∀ (l : List Fld) (st : List Nat × Option Er), (∀ x ∈ l, FOk x) → (l.foldl (k'r rd n num) st).1.length ≤ st.1.length + wt l := by
  intro l
  induction l with
  | nil => intro st _; simp [wt]
  | cons x l ih =>
   intro st h
   have h1 := (h x (List.mem_cons_self ..)).s
   have h2 := ih (k'r rd n num st x) fun y hy => h y (List.mem_cons_of_mem _ hy)
   have h3 : (k'r rd n num st x).1.length ≤ st.1.length + x.raw.length := by
    unfold k'r
    split
    ·split
     ·split
      ·have := hr _ _ ‹_›; simp; omega
      ·simp
     ·simp; omega
    ·simp
   unfold wt at *; simp at *; omega
 have := key l ([], e) h
 simpa [packF] using this
theorem packF_snoc (rd : List UInt8 → Except Er (List Nat)) (n : Int) (num : Nat) (l : List Fld) (x : Fld) (e : Option Er) : packF rd n num (l ++ [x]) e = k'r rd n num (packF rd n num l e) x := by
 unfold packF; rw [List.foldl_append]; rfl
theorem packed_calls (hB : BOk B) (f : Nat) (rd : List UInt8 → Except Er (List Nat)) (hf : NumsRd B f rd) (e : Option Er) (u : List UInt8) (d n : Int) (l : List Fld) (num : Nat) (hl : LOk l) :
  k'5 (cx B) 259 [.ptr 0 0, iT num, .d (.fn f [])] [rO e u d n l] (.d (slD ((packF rd n num l e).1.map uD))) [rO (packF rd n num l e).2 u d n l] := by
 have hlen : (l.map Fld.d).length = l.length := by simp
 have hlb := hl.lenb
 unfold big at hlb
 refine l_bw Tryz.func259 1 [] ?_
 rw [hlen]
 refine k'y (fun i : Nat => l.length - i) (fun i => [(0, .ptr 0 0), (1, iT num), (2, .d (.fn f [])), (7, owT ((packF rd n num (l.take i) e).1.map uD)), (15, .d (slD (l.map Fld.d))), (16, iT l.length), (17, iT i)])
  (fun i => [rO (packF rd n num (l.take i) e).2 u d n l]) (fun i => i ≤ l.length) 0 (by omega) ⟨rfl, rfl, rfl, rfl, rfl, rfl, rfl, trivial⟩ rfl 1 rfl (fun _ => rfl) (fun _ => rfl) (fun _ => rfl) ?_
 intro i i1
 refine Z ?_
 refine k'1q rfl (fun hc => ?_) (fun hc => ?_)
 ·have hlt : i < l.length := by have := of_decide_eq_true hc; omega
  obtain ⟨x, hx⟩ : ∃ x, l[i]? = some x := ⟨_, List.getElem?_eq_getElem hlt⟩
  have hdx : (l.map Fld.d)[i]? = some x.d := by rw [List.getElem?_map, hx]; rfl
  have htk : l.take (i + 1) = l.take i ++ [x] := by rw [List.take_add_one, hx]; rfl
  obtain ⟨hfx, hwx⟩ := k'1x hl hx
  have hxs : x.s.length < big := by have := hfx.s; have := hl.2; omega
  have hpl := packF_len hf.2 n num e (l.take i) fun y hy => hl.1 y (List.mem_of_mem_take hy)
  have hwt := k'1u l i
  have hwb := hl.2
  have hwi : IntKind.i64.wrap ((i : Int) + 1) = ((i + 1 : Nat) : Int) := by rw [k'1b (by omega) (by omega)]; omega
  have hst : packF rd n num (l.take (i + 1)) e = k'r rd n num (packF rd n num (l.take i) e) x := by rw [htk, packF_snoc]
  refine Z ?_
  refine k'3 (.indexAddr (k := .i64) (n := i) (es := l.map Fld.d) (u := x.d) rfl rfl rfl rfl (.inl ⟨_, rfl⟩) rfl (by omega) (by simpa using hdx) rfl (by decide)) rfl rfl ?_
  refine Z ?_
  generalize hP : packF rd n num (l.take i) e = st at *
  obtain ⟨a, e'⟩ := st
  dsimp only at *
  by_cases hn : x.num = num
  ·rw [show ((x.num : Int) != num) = false by subst hn; simp]
   refine Z ?_
   by_cases hk : x.kind = 2
   ·rw [show ((x.kind : Int) == 2) = true by rw [hk]; rfl]
    have hr := hf.1 x.s hxs
    have hrl := hf.2 x.s
    cases hrd : rd x.s with
    | ok ns =>
     rw [hrd] at hr
     have hs2 : k'r rd n num (a, e') x = (a ++ ns, k'4c n num e' none) := by unfold k'r; rw [if_pos hn, if_pos hk, hrd]
     rw [hs2] at hst
     have hnl := hrl ns hrd
     have h3 := k'1v B hB e' u d n l num none
     refine Z ?_
     refine l_cw [] (hr) rfl rfl rfl ?_
     refine k'8 [0] (h3) rfl rfl rfl ?_
     refine adm ?_
     (try refine k'h rfl ?_)
     refine k'3 (.assignOwn (.inr rfl) rfl) rfl rfl ?_
     refine Z ?_
     have hfx2 := hfx.s
     have hm : (a.map uD).length + (ns.map uD).length ≤ most := by unfold big at *; simp [most]; omega
     refine k'3 (.append' rfl rfl rfl rfl ⟨_, _, rfl, rfl, by intro q; simp⟩ rfl rfl rfl rfl rfl (by rw [← List.map_append]; exact u_fits _) (by decide) rfl hm rfl) rfl rfl ?_
     refine k'3 (.assignOwn (.inl rfl) rfl) rfl rfl ?_
     refine Z ?_
     rw [hwi]
     refine ⟨i + 1, by omega, by omega, ?_, rfl, ?_⟩
     ·rw [hst]; exact ⟨rfl, rfl, rfl, by show T.own _ _ = owT _; rw [List.map_append]; rfl, rfl, rfl, rfl, trivial⟩
     ·rw [hst]; exact k'g rfl
    | error er =>
     rw [hrd] at hr
     have hs2 : k'r rd n num (a, e') x = (a, k'4c n num e' (some er)) := by unfold k'r; rw [if_pos hn, if_pos hk, hrd]
     rw [hs2] at hst
     have h3 := k'1v B hB e' u d n l num (some er)
     refine Z ?_
     refine l_cw [] (hr) rfl rfl rfl ?_
     refine k'8 [0] (h3) rfl rfl rfl ?_
     refine adm ?_
     (try refine k'h rfl ?_)
     refine k'3 (.assignOwn (.inr rfl) rfl) rfl rfl ?_
     refine Z ?_
     have hm : (a.map uD).length + ([] : List D).length ≤ most := by unfold big at *; simp [most]; omega
     refine k'3 (.append' (xs := []) rfl rfl rfl rfl ⟨_, _, rfl, rfl, by intro q; simp⟩ rfl rfl rfl rfl rfl (by rw [List.append_nil]; exact u_fits _) (by decide) rfl hm rfl) rfl rfl ?_
     refine k'3 (.assignOwn (.inl rfl) rfl) rfl rfl ?_
     refine Z ?_
     rw [hwi]
     refine ⟨i + 1, by omega, by omega, ?_, rfl, ?_⟩
     ·rw [hst]; exact ⟨rfl, rfl, rfl, by show T.own _ _ = owT _; rw [List.append_nil]; rfl, rfl, rfl, rfl, trivial⟩
     ·rw [hst]; exact k'g rfl
   ·rw [show ((x.kind : Int) == 2) = false by simp; omega]
    have hs2 : k'r rd n num (a, e') x = (a ++ [x.n], e') := by unfold k'r; rw [if_pos hn, if_neg hk]
    rw [hs2] at hst
    refine adm ?_
    (try refine k'h rfl ?_)
    refine k'3 (.assignOwn (.inr rfl) rfl) rfl rfl ?_
    refine Z ?_
    refine k'3 (.buildSlice (es := [uD x.n]) rfl rfl rfl rfl rfl rfl (by intro x hx; simp at hx; subst hx; rfl) (by simp) (by decide) (by decide)) rfl rfl ?_
    have hm : (a.map uD).length + [uD x.n].length ≤ most := by unfold big at *; simp [most]; omega
    refine k'3 (.append' rfl rfl rfl rfl ⟨_, _, rfl, rfl, by intro q; simp⟩ rfl rfl rfl rfl rfl (by rw [show [uD x.n] = [x.n].map uD from rfl, ← List.map_append]; exact u_fits _) (by decide) rfl hm rfl) rfl rfl ?_
    refine k'3 (.assignOwn (.inl rfl) rfl) rfl rfl ?_
    refine Z ?_
    rw [hwi]
    refine ⟨i + 1, by omega, by omega, ?_, rfl, ?_⟩
    ·rw [hst]; exact ⟨rfl, rfl, rfl, by show T.own _ _ = owT _; rw [List.map_append]; rfl, rfl, rfl, rfl, trivial⟩
    ·rw [hst]; exact k'g rfl
  ·rw [show ((x.num : Int) != num) = true by simp; omega]
   have hs2 : k'r rd n num (a, e') x = (a, e') := by unfold k'r; rw [if_neg hn]
   rw [hs2] at hst
   refine Z ?_
   rw [hwi]
   refine ⟨i + 1, by omega, by omega, ?_, rfl, ?_⟩
   ·rw [hst]; exact ⟨rfl, rfl, rfl, rfl, rfl, rfl, rfl, trivial⟩
   ·rw [hst]; exact k'g rfl
 ·have hge : i = l.length := by have := of_decide_eq_false hc; omega
  subst hge
  rw [List.take_length]
  refine adm ?_
  (try refine k'h rfl ?_)
  refine k'3 (.moveShare rfl rfl) rfl rfl ?_
  exact O
end Go.Proofs.YtnaojdjhjkendaaGreatDoor
/-! msg.Reader: numbers; a number that may lack; numbers unfolded. -/
namespace Go.Proofs.YtnaojdjhjkendaaGreatDoor
open Go Go.Abs
variable (B : Fr)
theorem vars_len {s : List UInt8} {l : List Nat} (h : vars s = .ok l) : l.length ≤ s.length := by
 have key : ∀ (f p : Nat) (l : List Nat), varsE s f p = .ok l → l.length ≤ s.length - p := by
  intro f
  induction f with
  | zero => intro p l h; simp [varsE] at h; subst h; simp
  | succ f ih =>
   intro p l h
   unfold varsE at h
   split at h
   ·split at h <;> (try (simp at h; done))
    rename_i e
    obtain ⟨a, b, -⟩ := vE_ok e
    split at h <;> (try (simp at h; done))
    rename_i e2
    injection h with h; subst h
    have := ih _ _ e2
    simp; omega
   ·injection h with h; subst h; simp
 have := key _ _ _ h; omega
theorem vars_rd : NumsRd B 314 vars := ⟨fun s hs => varints_calls B s hs, fun s l h => vars_len h⟩
theorem rVars_calls (hB : BOk B) (e : Option Er) (u : List UInt8) (d n : Int) (l : List Fld) (num : Nat) (hl : LOk l) :
  k'5 (cx B) 263 [.ptr 0 0, iT num] [rO e u d n l] (.d (slD ((packF vars n num l e).1.map uD))) [rO (packF vars n num l e).2 u d n l] := by
 have h1 := packed_calls B hB 314 vars (vars_rd B) e u d n l num hl
 refine l_bw Tryz.func263 1 [] ?_
 refine k'8 [0] (h1) rfl rfl rfl ?_
 exact O
def hasL (l : List Fld) (num : Nat) : Bool := (k'a l num).num == num
def optD (b : Bool) (n : Nat) : D := .agg [.bool b, .int .u64 n]
theorem k'42 (e : Option Er) (u : List UInt8) (d n : Int) (l : List Fld) (num : Nat) (hl : l.length ≤ most) : k'5 (cx B) 173 [.ptr 0 0, iT num] [rO e u d n l] (.d (optD (hasL l num) (k'a l num).n)) [rO e u d n l] := by
 have h1 := k'3v B e u d n l num hl
 have hb : (((k'a l num).num : Int) == num) = hasL l num := by
  unfold hasL
  by_cases h : (k'a l num).num = num
  ·rw [h]; simp
  ·rw [show ((k'a l num).num == num) = false by simpa using h]; simp; omega
 refine l_bw Tryz.func173 1 [] ?_
 refine l_cw [0] (h1) rfl rfl rfl ?_
 rw [hb]
 exact k'j rfl
def zag32 (n : Nat) : Int := if n % 2 = 0 then ((n % 4294967296 / 2 : Nat) : Int) else -((n % 4294967296 / 2 : Nat) : Int) - 1
theorem zag32_lt (n : Nat) : -2147483648 ≤ zag32 n ∧ zag32 n < 2147483648 := by unfold zag32; split <;> omega
theorem and1 (m : Nat) (hm : m < 2 ^ 64) : (BitVec.ofInt IntKind.u64.bits (m : Int) &&& BitVec.ofInt IntKind.u64.bits 1).toNat = m % 2 := by
 show (BitVec.ofInt 64 (m : Int) &&& BitVec.ofInt 64 1).toNat = m % 2
 rw [ofN, BitVec.toNat_and, BitVec.toNat_ofNat, Nat.mod_eq_of_lt hm]
 simp
theorem xorI0 (a : Int) (h1 : 0 ≤ a) (h2 : a < 2147483648) : IntKind.i32.wrap ((BitVec.ofInt IntKind.i32.bits a ^^^ BitVec.ofInt IntKind.i32.bits 0).toNat : Int) = a := by
 show IntKind.i32.wrap ((BitVec.ofInt 32 a ^^^ BitVec.ofInt 32 0).toNat : Int) = a
 rw [show BitVec.ofInt 32 0 = 0#32 from rfl, BitVec.xor_zero, BitVec.toNat_ofInt]
 rw [IntKind.wrap_i32]; omega
theorem xorI1 (a : Int) (h1 : 0 ≤ a) (h2 : a < 2147483648) : IntKind.i32.wrap ((BitVec.ofInt IntKind.i32.bits a ^^^ BitVec.ofInt IntKind.i32.bits (-1)).toNat : Int) = -a - 1 := by
 show IntKind.i32.wrap ((BitVec.ofInt 32 a ^^^ BitVec.ofInt 32 (-1)).toNat : Int) = -a - 1
 rw [show BitVec.ofInt 32 (-1) = BitVec.allOnes 32 by decide, BitVec.xor_allOnes, BitVec.toNat_not, BitVec.toNat_ofInt]
 rw [IntKind.wrap_i32]; omega
theorem Zag32_calls (n : Nat) (hn : n < 2 ^ 64) : k'5 (cx B) 177 [uT n] [] (.d (.int .i32 (zag32 n))) [] := by
 refine l_bw Tryz.func177 0 [] ?_
 have key : IntKind.i32.wrap ((BitVec.ofInt IntKind.i32.bits (IntKind.i32.wrap (Int.fdiv (IntKind.u32.wrap (n : Int)) (2 ^ min 1 IntKind.u32.bits))) ^^^ BitVec.ofInt IntKind.i32.bits (IntKind.i32.wrap (0 - IntKind.i32.wrap (IntKind.u64.wrap ((BitVec.ofInt IntKind.u64.bits (n : Int) &&& BitVec.ofInt IntKind.u64.bits 1).toNat : Int))))).toNat : Int) = zag32 n := by
  rw [and1 n hn, show min 1 IntKind.u32.bits = 1 from rfl, Int.fdiv_eq_ediv_of_nonneg _ (by decide)]
  have e1 : IntKind.i32.wrap (IntKind.u32.wrap (n : Int) / 2 ^ 1) = ((n % 4294967296 / 2 : Nat) : Int) := by rw [IntKind.wrap_u32, IntKind.wrap_i32]; omega
  rw [e1]
  unfold zag32
  by_cases h : n % 2 = 0
  ·rw [if_pos h, h]
   rw [show IntKind.i32.wrap (0 - IntKind.i32.wrap (IntKind.u64.wrap ((0 : Nat) : Int))) = 0 from rfl]
   exact xorI0 _ (by omega) (by omega)
  ·rw [if_neg h, show n % 2 = 1 by omega]
   rw [show IntKind.i32.wrap (0 - IntKind.i32.wrap (IntKind.u64.wrap ((1 : Nat) : Int))) = -1 from rfl]
   exact xorI1 _ (by omega) (by omega)
 rw [key]
 exact k'j rfl
end Go.Proofs.YtnaojdjhjkendaaGreatDoor
/-! msg.Reader: parts and lists of parts; buckets read. -/
namespace Go.Proofs.YtnaojdjhjkendaaGreatDoor
open Go Go.Abs
variable (B : Fr)
def anyL (l : List Fld) (num : Nat) : Bool := l.any fun x => x.num == num
def k'c (l : List Fld) (num : Nat) : List UInt8 := (l.filter fun x => x.num == num).flatMap Fld.s
theorem k'34 (num : Nat) : ∀ (l : List Fld), (∀ x ∈ l, FOk x) → (k'c l num).length ≤ wt l
 | [], _ => by simp [k'c]
 | x :: l, h => by
  have h1 := (h x (List.mem_cons_self ..)).s
  have h2 := k'34 num l fun y hy => h y (List.mem_cons_of_mem _ hy)
  have h3 : wt (x :: l) = x.raw.length + wt l := by simp [wt]
  unfold k'c at *
  rw [List.filter_cons, h3]
  split
  ·rw [List.flatMap_cons, List.length_append]; omega
  ·omega
def k's {α : Type} (rd : List UInt8 → α × Option Er) (n : Int) (num : Nat) (st : List α × Option Er) (x : Fld) : List α × Option Er :=
 if x.num = num then (st.1 ++ [(rd x.s).1], k'4c n num st.2 (rd x.s).2) else st
def listF {α : Type} (rd : List UInt8 → α × Option Er) (n : Int) (num : Nat) (l : List Fld) (e : Option Er) : List α × Option Er := l.foldl (k's rd n num) ([], e)
theorem listF_snoc {α : Type} (rd : List UInt8 → α × Option Er) (n : Int) (num : Nat) (l : List Fld) (x : Fld) (e : Option Er) : listF rd n num (l ++ [x]) e = k's rd n num (listF rd n num l e) x := by
 unfold listF; rw [List.foldl_append]; rfl
theorem listF_len {α : Type} (rd : List UInt8 → α × Option Er) (n : Int) (num : Nat) (l : List Fld) (e : Option Er) : (listF rd n num l e).1.length ≤ l.length := by
 have key : ∀ (l : List Fld) (st : List α × Option Er), (l.foldl (k's rd n num) st).1.length ≤ st.1.length + l.length := by
  intro l
  induction l with
  | nil => intro st; simp
  | cons x l ih =>
   intro st
   have h2 := ih (k's rd n num st x)
   have h3 : (k's rd n num st x).1.length ≤ st.1.length + 1 := by unfold k's; split <;> simp
   simp at *; omega
 have := key l ([], e)
 simpa [listF] using this
def partF {α : Type} (z : α) (rd : List UInt8 → α × Option Er) (n : Int) (num : Nat) (l : List Fld) (e : Option Er) : α × Option Er :=
 match anyL l num with
 | true => ((rd (k'c l num)).1, k'4c n num e (rd (k'c l num)).2)
 | false => (z, e)
def partP {S : Type} (G : Nat) (dd : S → D) : Prop := ∀ (_ : BOk B) (f : Nat) (cap : List D) (x : S) (er : Option Er) (s : List UInt8) (e : Option Er) (u : List UInt8) (d n : Int) (l : List Fld) (num : Nat), -9223372036854775808 < d → d < 9223372036854775808 →
  k'5 (cx B) f ([sT s, .d (.int .i64 (d - 1))] ++ cap.map T.d) [] (.tup [.d (dd x), .d (eD er)]) [] →
  k'5 (cx B) G [.ptr 0 0, iT num, sT s, .d (.fn f cap)] [rO e u d n l] (.d (dd x)) [rO (k'4c n num e er) u d n l]
theorem k'3d {S : Type} {dd : S → D} {G : Nat} {fn : Func} (hF : Tryz.prog.funcs[G]? = some fn) (main : Tryz.prog.funcs[G]? = some fn → partP B G dd := by
  intro hF hB f cap x er s e u d n l num hd1 hd2 hf
  have h2 := k'1v B hB e u d n l num er
  refine l_body (X := cx B) hF rfl rfl rfl rfl rfl 1 [] rfl rfl ?_
  refine Z ?_
  rw [show IntKind.i64.wrap (d - 1) = d - 1 from k'1b (by omega) (by omega)]
  refine l_cw [] (hf) rfl rfl rfl ?_
  refine k'8 [0] (h2) rfl rfl rfl ?_
  exact O) : partP B G dd := main hF
theorem listF_all {α : Type} {p : α → Prop} {rd : List UInt8 → α × Option Er} (h : ∀ s, p (rd s).1) (n : Int) (num : Nat) (l : List Fld) (e : Option Er) : ∀ q ∈ (listF rd n num l e).1, p q := by
 have key : ∀ (l : List Fld) (st : List α × Option Er), (∀ q ∈ st.1, p q) → ∀ q ∈ (l.foldl (k's rd n num) st).1, p q := by
  intro l
  induction l with
  | nil => exact fun st h => h
  | cons x l ih =>
   intro st hst
   refine ih _ fun q hq => ?_
   unfold k's at hq
   split at hq
   ·rcases List.mem_append.1 hq with hq | hq
    ·exact hst q hq
    ·rw [List.mem_singleton.1 hq]; exact h _
   ·exact hst q hq
 exact key l _ (by simp)
theorem listF_fits {nn : Nat} {rd : List UInt8 → D × Option Er} (h : ∀ s, (rd s).1.fits nn = true) (n : Int) (num : Nat) (l : List Fld) (e : Option Er) : ∀ q ∈ (listF rd n num l e).1, q.fits nn = true := fun q hq => listF_all (p := fun q => q.fits nn = true) h n num l e q hq
theorem listF_map {α β : Type} (g : α → β) (rd : List UInt8 → α × Option Er) (n : Int) (num : Nat) (l : List Fld) (e : Option Er) : listF (fun s => (g (rd s).1, (rd s).2)) n num l e = ((listF rd n num l e).1.map g, (listF rd n num l e).2) := by
 have key : ∀ (l : List Fld) (st : List α × Option Er), l.foldl (k's (fun s => (g (rd s).1, (rd s).2)) n num) (st.1.map g, st.2) = ((l.foldl (k's rd n num) st).1.map g, (l.foldl (k's rd n num) st).2) := by
  intro l
  induction l with
  | nil => exact fun st => rfl
  | cons x l ih =>
   intro st
   rw [List.foldl_cons, List.foldl_cons, ← ih]
   congr 1
   unfold k's
   split
   ·simp
   ·rfl
 exact key l ([], e)
def ListD (G Gp nn : Nat) : Prop := ∀ (f : Nat) (cap : List D) (rd : List UInt8 → D × Option Er) (e : Option Er) (u : List UInt8) (d n : Int) (l : List Fld) (num : Nat), LOk l → (∀ s, (rd s).1.fits nn = true) →
  (∀ x ∈ l, x.num = num → ∀ e, k'5 (cx B) Gp [.ptr 0 0, iT num, sT x.s, .d (.fn f cap)] [rO e u d n l] (.d (rd x.s).1) [rO (k'4c n num e (rd x.s).2) u d n l]) →
  k'5 (cx B) G [.ptr 0 0, iT num, .d (.fn f cap)] [rO e u d n l] (.d (slD (listF rd n num l e).1)) [rO (listF rd n num l e).2 u d n l]
theorem List_mk {G Gp nn : Nat} {fn : Func} (hF : Tryz.prog.funcs[G]? = some fn) (main : Tryz.prog.funcs[G]? = some fn → ListD B G Gp nn := by
  intro hF f cap rd e u d n l num hl hfit hf
  have hlen : (l.map Fld.d).length = l.length := by simp
  have hlb := hl.lenb
  unfold big at hlb
  refine l_body (X := cx B) hF rfl rfl rfl rfl rfl 1 [] rfl rfl ?_
  refine Z ?_
  rw [hlen]
  refine k'y (fun i : Nat => l.length - i) (fun i => [(0, .ptr 0 0), (1, iT num), (2, .d (.fn f cap)), (7, owT (listF rd n num (l.take i) e).1), (13, .d (slD (l.map Fld.d))), (14, iT l.length), (15, iT i)])
   (fun i => [rO (listF rd n num (l.take i) e).2 u d n l]) (fun i => i ≤ l.length) 0 (by omega) ⟨rfl, rfl, rfl, rfl, rfl, rfl, rfl, trivial⟩ rfl 1 rfl (fun _ => rfl) (fun _ => rfl) (fun _ => rfl) ?_
  intro i i1
  refine Z ?_
  refine k'1q rfl (fun hc => ?_) (fun hc => ?_)
  ·have hlt : i < l.length := by have := of_decide_eq_true hc; omega
   obtain ⟨x, hx⟩ : ∃ x, l[i]? = some x := ⟨_, List.getElem?_eq_getElem hlt⟩
   have hdx : (l.map Fld.d)[i]? = some x.d := by rw [List.getElem?_map, hx]; rfl
   have htk : l.take (i + 1) = l.take i ++ [x] := by rw [List.take_add_one, hx]; rfl
   have hpl := listF_len rd n num (l.take i) e
   have hwi : IntKind.i64.wrap ((i : Int) + 1) = ((i + 1 : Nat) : Int) := by rw [k'1b (by omega) (by omega)]; omega
   have hst : listF rd n num (l.take (i + 1)) e = k's rd n num (listF rd n num (l.take i) e) x := by rw [htk, listF_snoc]
   refine Z ?_
   refine k'3 (.indexAddr (k := .i64) (n := i) (es := l.map Fld.d) (u := x.d) rfl rfl rfl rfl (.inl ⟨_, rfl⟩) rfl (by omega) (by simpa using hdx) rfl (by decide)) rfl rfl ?_
   refine Z ?_
   generalize hP : listF rd n num (l.take i) e = st at *
   obtain ⟨a, e'⟩ := st
   dsimp only at *
   by_cases hn : x.num = num
   ·rw [show ((x.num : Int) == num) = true by rw [hn]; simp]
    have hs2 : k's rd n num (a, e') x = (a ++ [(rd x.s).1], k'4c n num e' (rd x.s).2) := by unfold k's; rw [if_pos hn]
    rw [hs2] at hst
    have h5 := hf x (List.mem_of_getElem? hx) hn e'
    have hy := hfit x.s
    have hfa := listF_fits hfit n num (l.take (i + 1)) e
    rw [hst] at hfa
    generalize (rd x.s).1 = y at *
    generalize (rd x.s).2 = er at *
    refine adm ?_
    (try refine k'h rfl ?_)
    refine k'3 (.assignOwn (.inr rfl) rfl) rfl rfl ?_
    refine Z ?_
    refine k'8 [0] (h5) rfl rfl rfl ?_
    refine k'3 (.buildSlice (es := [y]) rfl rfl rfl rfl rfl rfl (by intro x hx; simp at hx; subst hx; exact hy) (by simp) (by decide) (by decide)) rfl rfl ?_
    have hm : a.length + [y].length ≤ most := by simp [most] at *; omega
    refine k'3 (.append' rfl rfl rfl rfl ⟨_, _, rfl, rfl, by intro q; simp⟩ rfl rfl rfl rfl rfl hfa (by decide) rfl hm rfl) rfl rfl ?_
    refine k'3 (.assignOwn (.inl rfl) rfl) rfl rfl ?_
    refine Z ?_
    rw [hwi]
    refine ⟨i + 1, by omega, by omega, ?_, rfl, ?_⟩
    ·rw [hst]; exact ⟨rfl, rfl, rfl, rfl, rfl, rfl, rfl, trivial⟩
    ·rw [hst]; exact k'g rfl
   ·rw [show ((x.num : Int) == num) = false by simp; omega]
    have hs2 : k's rd n num (a, e') x = (a, e') := by unfold k's; rw [if_neg hn]
    rw [hs2] at hst
    refine Z ?_
    rw [hwi]
    refine ⟨i + 1, by omega, by omega, ?_, rfl, ?_⟩
    ·rw [hst]; exact ⟨rfl, rfl, rfl, rfl, rfl, rfl, rfl, trivial⟩
    ·rw [hst]; exact k'g rfl
  ·have hge : i = l.length := by have := of_decide_eq_false hc; omega
   subst hge
   rw [List.take_length]
   refine adm ?_
   (try refine k'h rfl ?_)
   refine k'3 (.moveShare rfl rfl) rfl rfl ?_
   exact O) : ListD B G Gp nn := main hF
def ListP {S : Type} (G : Nat) (dd : S → D) : Prop := ∀ (_ : BOk B) (f : Nat) (cap : List D) (rd : List UInt8 → S × Option Er) (e : Option Er) (u : List UInt8) (d n : Int) (l : List Fld) (num : Nat), LOk l → (anyL l num = true → -9223372036854775808 < d) → d < 9223372036854775808 →
  (∀ x ∈ l, x.num = num → k'5 (cx B) f ([sT x.s, .d (.int .i64 (d - 1))] ++ cap.map T.d) [] (.tup [.d (dd (rd x.s).1), .d (eD (rd x.s).2)]) []) →
  k'5 (cx B) G [.ptr 0 0, iT num, .d (.fn f cap)] [rO e u d n l] (.d (slD ((listF rd n num l e).1.map dd))) [rO (listF rd n num l e).2 u d n l]
theorem List_S {S : Type} {dd : S → D} {G Gp nn : Nat} (hfit : ∀ x : S, ∀ a ∈ [x].map dd, a.fits nn = true) (hp : partP B Gp dd) (h : ListD B G Gp nn) : ListP B G dd := fun hB f cap rd e u d n l num hl hd1 hd2 hf => by
 have := h f cap (fun s => (dd (rd s).1, (rd s).2)) e u d n l num hl (fun s => hfit (rd s).1 _ (List.mem_singleton.2 rfl)) (fun x hx hn e => hp hB f cap (rd x.s).1 (rd x.s).2 x.s e u d n l num (hd1 (List.any_eq_true.2 ⟨x, hx, by simpa using hn⟩)) hd2 (hf x hx hn))
 rw [listF_map] at this
 exact this
structure Bk where
 off : Int
 cs : List Nat
 u : List UInt8
def Bk.d (b : Bk) : D := bkD b.off b.cs b.u
def noBk : Bk := ⟨0, [], []⟩
def PartC {S : Type} (G : Nat) (dd : S → D) (z : S) : Prop := ∀ (_ : BOk B) (f : Nat) (cap : List D) (e : Option Er) (u : List UInt8) (d n : Int) (l : List Fld) (num : Nat), LOk l → (anyL l num = true → -9223372036854775808 < d) → d < 9223372036854775808 →
  (anyL l num = false → k'5 (cx B) G [.ptr 0 0, iT num, .d (.fn f cap)] [rO e u d n l] (.tup [.d (dd z), .d (.bool false)]) [rO e u d n l]) ∧
  (∀ (x0 : S) (er : Option Er), anyL l num = true → k'5 (cx B) f ([sT (k'c l num), .d (.int .i64 (d - 1))] ++ cap.map T.d) [] (.tup [.d (dd x0), .d (eD er)]) [] → k'5 (cx B) G [.ptr 0 0, iT num, .d (.fn f cap)] [rO e u d n l] (.tup [.d (dd x0), .d (.bool true)]) [rO (k'4c n num e er) u d n l])
theorem Part_mk {S : Type} {dd : S → D} {z : S} {G G2 : Nat} {fn : Func} (hF : Tryz.prog.funcs[G]? = some fn) (hp : partP B G2 dd) (main : Tryz.prog.funcs[G]? = some fn → partP B G2 dd → PartC B G dd z := by
  intro hF hp hB f cap e u d n l num hl hd1 hd2
  constructor
  ·intro h0
   have hlen : (l.map Fld.d).length = l.length := by simp
   have hlb := hl.lenb
   unfold big at hlb
   refine l_bw hF 1 [] ?_
   rw [hlen]
   refine l_loopK (fun i : Nat => l.length - i) (fun i => [(0, .ptr 0 0), (1, iT num), (2, .d (.fn f cap)), (6, .ptr 1 0), (8, .ptr 2 0), (9, .d (.bool false)), (16, .d (slD (l.map Fld.d))), (17, iT l.length), (18, iT i)])
    (fun K0 i => [rO e u d n l, K0, .mu [.nw 120 2, bT []]]) (fun i => i ≤ l.length) 0 (by omega) ⟨rfl, rfl, rfl, rfl, rfl, rfl, rfl, rfl, rfl, trivial⟩ rfl 3 rfl (fun _ => rfl) (fun _ => rfl) (fun _ => rfl) ?_
   intro i i1
   refine Z ?_
   refine k'1q rfl (fun hc => ?_) (fun hc => ?_)
   ·have hlt : i < l.length := by have := of_decide_eq_true hc; omega
    obtain ⟨x, hx⟩ : ∃ x, l[i]? = some x := ⟨_, List.getElem?_eq_getElem hlt⟩
    have hdx : (l.map Fld.d)[i]? = some x.d := by rw [List.getElem?_map, hx]; rfl
    have hxn : x.num ≠ num := by
     intro h; have : anyL l num = true := List.any_eq_true.2 ⟨x, List.mem_of_getElem? hx, by simpa using h⟩
     rw [h0] at this; simp at this
    refine Z ?_
    refine k'3 (.indexAddr (k := .i64) (n := i) (es := l.map Fld.d) (u := x.d) rfl rfl rfl rfl (.inl ⟨_, rfl⟩) rfl (by omega) (by simpa using hdx) rfl (by decide)) rfl rfl ?_
    refine Z ?_
    rw [show ((x.num : Int) == num) = false by simp; omega]
    refine Z ?_
    rw [wS i (by omega)]
    exact ⟨i + 1, by omega, by omega, ⟨rfl, rfl, rfl, rfl, rfl, rfl, rfl, rfl, rfl, trivial⟩, rfl, k'g rfl⟩
   ·exact O
  ·intro x0 er h0 hf
   have hd1 := hd1 h0
   have hlen : (l.map Fld.d).length = l.length := by simp
   have hlb := hl.lenb
   have hwb := hl.2
   unfold big at hlb hwb
   have h5 := hp hB f cap x0 er (k'c l num) e u d n l num hd1 hd2 hf
   refine l_bw hF 1 [] ?_
   rw [hlen]
   refine l_loopK (fun i : Nat => l.length - i) (fun i => [(0, .ptr 0 0), (1, iT num), (2, .d (.fn f cap)), (6, .ptr 1 0), (8, .ptr 2 0), (9, .d (.bool (anyL (l.take i) num))), (16, .d (slD (l.map Fld.d))), (17, iT l.length), (18, iT i)])
    (fun K0 i => [rO e u d n l, K0, .mu [bA (anyL (l.take i) num), bT (k'c (l.take i) num)]]) (fun i => i ≤ l.length) 0 (by omega) ⟨rfl, rfl, rfl, rfl, rfl, rfl, rfl, rfl, rfl, trivial⟩ rfl 3 rfl (fun _ => rfl) (fun _ => by simp [k'2y (bA_ok _)] <;> exact ⟨rfl, rfl⟩) (fun _ => rfl) ?_
   intro i i1
   refine Z ?_
   refine k'1q rfl (fun hc => ?_) (fun hc => ?_)
   ·have hlt : i < l.length := by have := of_decide_eq_true hc; omega
    obtain ⟨x, hx⟩ : ∃ x, l[i]? = some x := ⟨_, List.getElem?_eq_getElem hlt⟩
    have hdx : (l.map Fld.d)[i]? = some x.d := by rw [List.getElem?_map, hx]; rfl
    have htk : l.take (i + 1) = l.take i ++ [x] := by rw [List.take_add_one, hx]; rfl
    have hwi : IntKind.i64.wrap ((i : Int) + 1) = ((i + 1 : Nat) : Int) := by rw [k'1b (by omega) (by omega)]; omega
    refine Z ?_
    refine k'3 (.indexAddr (k := .i64) (n := i) (es := l.map Fld.d) (u := x.d) rfl rfl rfl rfl (.inl ⟨_, rfl⟩) rfl (by omega) (by simpa using hdx) rfl (by decide)) rfl rfl ?_
    refine Z ?_
    by_cases hn : x.num = num
    ·rw [show ((x.num : Int) == num) = true by rw [hn]; simp]
     have ha : anyL (l.take (i + 1)) num = true := by rw [htk]; unfold anyL; rw [List.any_append]; simp [hn]
     have hb : k'c (l.take (i + 1)) num = k'c (l.take i) num ++ x.s := by rw [htk]; unfold k'c; rw [List.filter_append, List.flatMap_append]; simp [hn]
     have hbl := k'34 num (l.take (i + 1)) fun y hy => hl.1 y (List.mem_of_mem_take hy)
     have hwt := k'1u l (i + 1)
     have h3 := k'2a B _ (k'c (l.take i) num) x.s (bA_ok (anyL (l.take i) num)) (by rw [hb] at hbl; simp [most] at *; omega)
     rw [← hb] at h3
     refine Z ?_
     refine l_wr [2] (h3) (bA_ok _) (.inl rfl) ?_
     rw [hwi]
     refine ⟨i + 1, by omega, by omega, ⟨rfl, rfl, rfl, rfl, rfl, by rw [ha]; rfl, rfl, rfl, rfl, trivial⟩, by simp [k'2y (.inl rfl)]; exact ⟨rfl, rfl⟩, ?_⟩
     rw [ha]
     exact k'g rfl
    ·rw [show ((x.num : Int) == num) = false by simp; omega]
     have ha : anyL (l.take (i + 1)) num = anyL (l.take i) num := by rw [htk]; unfold anyL; rw [List.any_append]; simp [hn]
     have hb : k'c (l.take (i + 1)) num = k'c (l.take i) num := by rw [htk]; unfold k'c; rw [List.filter_append, List.flatMap_append]; simp [hn]
     refine Z ?_
     rw [hwi]
     refine ⟨i + 1, by omega, by omega, ⟨rfl, rfl, rfl, rfl, rfl, by rw [ha]; rfl, rfl, rfl, rfl, trivial⟩, by simp [k'2y (bA_ok _)]; exact ⟨rfl, rfl⟩, ?_⟩
     rw [ha, hb]
     exact k'g rfl
   ·have hge : i = l.length := by have := of_decide_eq_false hc; omega
    subst hge
    rw [List.take_length, h0]
    have hbl := k'34 num l hl.1
    have h3 := k'4l B _ (k'c l num) (bA_ok true) (by simp [most]; omega)
    refine Z ?_
    refine l_ws [2] (h3) (bA_ok _) ?_
    refine k'8 [0] (h5) rfl rfl rfl ?_
    exact O
  ) : PartC B G dd z := main hF hp
theorem PartC.any {S : Type} {dd : S → D} {z : S} {G : Nat} (hP : PartC B G dd z) (hB : BOk B) (f : Nat) (cap : List D) (rd : List UInt8 → S × Option Er) (e : Option Er) (u : List UInt8) (d n : Int) (l : List Fld) (num : Nat) (hl : LOk l) (hd1 : anyL l num = true → -9223372036854775808 < d) (hd2 : d < 9223372036854775808)
  (hf : anyL l num = true → k'5 (cx B) f ([sT (k'c l num), .d (.int .i64 (d - 1))] ++ cap.map T.d) [] (.tup [.d (dd (rd (k'c l num)).1), .d (eD (rd (k'c l num)).2)]) []) :
  k'5 (cx B) G [.ptr 0 0, iT num, .d (.fn f cap)] [rO e u d n l] (.tup [.d (dd (partF z rd n num l e).1), .d (.bool (anyL l num))]) [rO (partF z rd n num l e).2 u d n l] := by
 unfold partF
 cases h0 : anyL l num with
 | true => exact (hP hB f cap e u d n l num hl hd1 hd2).2 _ _ h0 (hf h0)
 | false => exact (hP hB f cap e u d n l num hl hd1 hd2).1 h0
theorem part_Bk_calls : partP B 261 Bk.d := k'3d B Tryz.func261
theorem Part_Bk : PartC B 178 Bk.d (noBk) := Part_mk B Tryz.func178 (part_Bk_calls B)
end Go.Proofs.YtnaojdjhjkendaaGreatDoor
/-! Buckets read. -/
namespace Go.Proofs.YtnaojdjhjkendaaGreatDoor
open Go Go.Abs
variable (B : Fr)
theorem lastF_mem (num : Nat) : ∀ (l : List Fld), k'a l num ∈ l ∨ k'a l num = noFld
 | [] => .inr rfl
 | r :: l => by
  unfold k'a
  split
  ·rcases lastF_mem num l with h | h
   ·exact .inl (List.mem_cons_of_mem _ h)
   ·exact .inr h
  ·split
   ·exact .inl (List.mem_cons_self ..)
   ·exact .inr rfl
theorem lastF_n {l : List Fld} (h : LOk l) (num : Nat) : (k'a l num).n < 2 ^ 64 := by
 rcases lastF_mem num l with g | g
 ·exact (h.1 _ g).n
 ·rw [g]; show 0 < 2 ^ 64; omega
theorem k'2w {l : List Fld} (h : LOk l) : l.length ≤ most := by have := h.lenb; unfold big at this; unfold most; omega
def knB (tb : Nat → Nat → Bool) (s : List UInt8) (d : Int) : List Fld := k'1 tb (fldsE s d)
def unB (tb : Nat → Nat → Bool) (s : List UInt8) (d : Int) : List UInt8 := unkL tb (fldsE s d)
def bkOf (s : List UInt8) (d : Int) : List Nat × Option Er := packF vars s.length 2 (knB tbB s d) (k't s d)
def ubB (s : List UInt8) (d : Int) : Bk × Option Er :=
 match (bkOf s d).2 with
 | none => (⟨zag32 (k'a (knB tbB s d) 1).n, (bkOf s d).1, unB tbB s d⟩, none)
 | some e => (noBk, some e)
theorem k'3y (hB : BOk B) (s : List UInt8) (d : Int) (hl : s.length < big) (hd1 : -9223372036854775808 ≤ d) (hd2 : d < 9223372036854775808) :
  k'5 (cx B) 179 [sT s, .d (.int .i64 d)] [] (.tup [.d (ubB s d).1.d, .d (eD (ubB s d).2)]) [] := by
 have h1 := k'1h B hB 262 tbB (takesBuckets_calls B) s d hl hd1 hd2
 have hk : LOk (knB tbB s d) := k'x tbB s d hl
 have h2 := k'e B (k't s d) (unB tbB s d) d s.length (knB tbB s d) 1 (k'2w hk)
 have h3 := Zag32_calls B (k'a (knB tbB s d) 1).n (lastF_n hk 1)
 have h4 := rVars_calls B hB (k't s d) (unB tbB s d) d s.length (knB tbB s d) 2 hk
 unfold ubB bkOf
 generalize packF vars s.length 2 (knB tbB s d) (k't s d) = p at *
 obtain ⟨cs, e⟩ := p
 dsimp only at *
 refine l_bw Tryz.func179 0 [] ?_
 refine k'8 [] (h1) rfl rfl rfl ?_
 refine adm ?_
 refine Z ?_
 refine k'43 (i0 := 10) (z := 11) (t0 := 7) rfl (by decide) rfl rfl rfl rfl rfl rfl rfl rfl rfl rfl ?_
 refine Z ?_
 refine x_cw [1] (h2) rfl rfl rfl ?_
 refine x_cw [] (h3) rfl rfl rfl ?_
 refine x_cw [1] (h4) rfl rfl rfl ?_
 cases e with
 | none =>
  exact O
 | some e =>
  cases e <;> (
  exact O)
