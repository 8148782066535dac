/- The table of a point of an exponential histogram; the shapes of attributes and exemplars. And more. -/
import Derived.Test.YtcinfkbdmjnjlaaGreatDoorXG3
import Derived.Test.YtcinfkbdmjnjlaaGreatDoorWT
set_option linter.unusedSimpArgs false
set_option linter.unusedVariables false
set_option maxRecDepth 100000
/-! The table of a point of an exponential histogram; the shapes of attributes and exemplars. -/
namespace Go.Proofs.YtcinfkbdmjnjlaaGreatDoor
open Go Go.Abs
variable (B : Fr)
def tbX (n k : Nat) : Bool := bif [2, 3, 4, 5, 7, 12, 13, 14].contains n then k == 1 else bif [1, 8, 9, 11].contains n then k == 2 else bif [6, 10].contains n then k == 0 else false
theorem tbX_calls (n k : Nat) : CallsA (cx B) 28 [iT n, iT k] [] (.d (.bool (tbX n k))) [] := by
  refine l_body (X := cx B) (fn := Tryz.f28) Tryz.func28 rfl rfl rfl rfl rfl 0 [] rfl rfl ?_
  refine walk ?_
  cases h0 : ((n : Int) == 2) with
  | true =>
    have e : n = 2 := by have := eq_of_beq h0; omega
    subst e
    rw [show tbX 2 k = ((k : Int) == 1) from (ibeq k 1).symm]
    refine walk ?_
    exact l_end trivial (by decide) rfl rfl rfl rfl rfl
  | false =>
  have eh0 : n ≠ 2 := by have := ne_of_beq_false h0; omega
  refine walk ?_
  cases h1 : ((n : Int) == 3) with
  | true =>
    have e : n = 3 := by have := eq_of_beq h1; omega
    subst e
    rw [show tbX 3 k = ((k : Int) == 1) from (ibeq k 1).symm]
    refine walk ?_
    exact l_end trivial (by decide) rfl rfl rfl rfl rfl
  | false =>
  have eh1 : n ≠ 3 := by have := ne_of_beq_false h1; omega
  refine walk ?_
  cases h2 : ((n : Int) == 4) with
  | true =>
    have e : n = 4 := by have := eq_of_beq h2; omega
    subst e
    rw [show tbX 4 k = ((k : Int) == 1) from (ibeq k 1).symm]
    refine walk ?_
    exact l_end trivial (by decide) rfl rfl rfl rfl rfl
  | false =>
  have eh2 : n ≠ 4 := by have := ne_of_beq_false h2; omega
  refine walk ?_
  cases h3 : ((n : Int) == 5) with
  | true =>
    have e : n = 5 := by have := eq_of_beq h3; omega
    subst e
    rw [show tbX 5 k = ((k : Int) == 1) from (ibeq k 1).symm]
    refine walk ?_
    exact l_end trivial (by decide) rfl rfl rfl rfl rfl
  | false =>
  have eh3 : n ≠ 5 := by have := ne_of_beq_false h3; omega
  refine walk ?_
  cases h4 : ((n : Int) == 7) with
  | true =>
    have e : n = 7 := by have := eq_of_beq h4; omega
    subst e
    rw [show tbX 7 k = ((k : Int) == 1) from (ibeq k 1).symm]
    refine walk ?_
    exact l_end trivial (by decide) rfl rfl rfl rfl rfl
  | false =>
  have eh4 : n ≠ 7 := by have := ne_of_beq_false h4; omega
  refine walk ?_
  cases h5 : ((n : Int) == 12) with
  | true =>
    have e : n = 12 := by have := eq_of_beq h5; omega
    subst e
    rw [show tbX 12 k = ((k : Int) == 1) from (ibeq k 1).symm]
    refine walk ?_
    exact l_end trivial (by decide) rfl rfl rfl rfl rfl
  | false =>
  have eh5 : n ≠ 12 := by have := ne_of_beq_false h5; omega
  refine walk ?_
  cases h6 : ((n : Int) == 13) with
  | true =>
    have e : n = 13 := by have := eq_of_beq h6; omega
    subst e
    rw [show tbX 13 k = ((k : Int) == 1) from (ibeq k 1).symm]
    refine walk ?_
    exact l_end trivial (by decide) rfl rfl rfl rfl rfl
  | false =>
  have eh6 : n ≠ 13 := by have := ne_of_beq_false h6; omega
  refine walk ?_
  cases h7 : ((n : Int) == 14) with
  | true =>
    have e : n = 14 := by have := eq_of_beq h7; omega
    subst e
    rw [show tbX 14 k = ((k : Int) == 1) from (ibeq k 1).symm]
    refine walk ?_
    exact l_end trivial (by decide) rfl rfl rfl rfl rfl
  | false =>
  have eh7 : n ≠ 14 := by have := ne_of_beq_false h7; omega
  refine walk ?_
  cases h8 : ((n : Int) == 1) with
  | true =>
    have e : n = 1 := by have := eq_of_beq h8; omega
    subst e
    rw [show tbX 1 k = ((k : Int) == 2) from (ibeq k 2).symm]
    refine walk ?_
    exact l_end trivial (by decide) rfl rfl rfl rfl rfl
  | false =>
  have eh8 : n ≠ 1 := by have := ne_of_beq_false h8; omega
  refine walk ?_
  cases h9 : ((n : Int) == 8) with
  | true =>
    have e : n = 8 := by have := eq_of_beq h9; omega
    subst e
    rw [show tbX 8 k = ((k : Int) == 2) from (ibeq k 2).symm]
    refine walk ?_
    exact l_end trivial (by decide) rfl rfl rfl rfl rfl
  | false =>
  have eh9 : n ≠ 8 := by have := ne_of_beq_false h9; omega
  refine walk ?_
  cases h10 : ((n : Int) == 9) with
  | true =>
    have e : n = 9 := by have := eq_of_beq h10; omega
    subst e
    rw [show tbX 9 k = ((k : Int) == 2) from (ibeq k 2).symm]
    refine walk ?_
    exact l_end trivial (by decide) rfl rfl rfl rfl rfl
  | false =>
  have eh10 : n ≠ 9 := by have := ne_of_beq_false h10; omega
  refine walk ?_
  cases h11 : ((n : Int) == 11) with
  | true =>
    have e : n = 11 := by have := eq_of_beq h11; omega
    subst e
    rw [show tbX 11 k = ((k : Int) == 2) from (ibeq k 2).symm]
    refine walk ?_
    exact l_end trivial (by decide) rfl rfl rfl rfl rfl
  | false =>
  have eh11 : n ≠ 11 := by have := ne_of_beq_false h11; omega
  refine walk ?_
  cases h12 : ((n : Int) == 6) with
  | true =>
    have e : n = 6 := by have := eq_of_beq h12; omega
    subst e
    rw [show tbX 6 k = ((k : Int) == 0) from (ibeq k 0).symm]
    refine walk ?_
    exact l_end trivial (by decide) rfl rfl rfl rfl rfl
  | false =>
  have eh12 : n ≠ 6 := by have := ne_of_beq_false h12; omega
  refine walk ?_
  cases h13 : ((n : Int) == 10) with
  | true =>
    have e : n = 10 := by have := eq_of_beq h13; omega
    subst e
    rw [show tbX 10 k = ((k : Int) == 0) from (ibeq k 0).symm]
    refine walk ?_
    exact l_end trivial (by decide) rfl rfl rfl rfl rfl
  | false =>
  have eh13 : n ≠ 10 := by have := ne_of_beq_false h13; omega
  refine walk ?_
  rw [show tbX n k = false from by unfold tbX; simp [eh0, eh1, eh2, eh3, eh4, eh5, eh6, eh7, eh8, eh9, eh10, eh11, eh12, eh13]]
  exact l_end trivial (by decide) rfl rfl rfl rfl rfl

/-- An attribute, its value's lists as they stand in memory. -/
structure KVs where
  key : List UInt8
  has : Bool
  kind : Int
  s : List UInt8
  b : Bool
  n : Nat
  l : List D
  m : List D
  inner : List UInt8
  unk : List UInt8
  u : List UInt8
def KVs.d (x : KVs) : D := .agg [.str x.key, .bool x.has, .int .i64 x.kind, .str x.s, .bool x.b, .int .u64 x.n, slD x.l, slD x.m, .str x.inner, .str x.unk, .str x.u]
structure Exm where
  attrs : List KVs
  time : Nat
  kind : Int
  n : Nat
  span : List UInt8
  trace : List UInt8
  u : List UInt8
def Exm.d (x : Exm) : D := .agg [slD (x.attrs.map KVs.d), .int .u64 x.time, .int .i64 x.kind, .int .u64 x.n, .str x.span, .str x.trace, .str x.u]
theorem KVs_fits (l : List KVs) : ∀ a ∈ l.map KVs.d, a.fits 11 = true := by
  intro a ha
  obtain ⟨c, -, rfl⟩ := List.mem_map.1 ha
  rfl

theorem Exm_fits (l : List Exm) : ∀ a ∈ l.map Exm.d, a.fits 7 = true := by
  intro a ha
  obtain ⟨c, -, rfl⟩ := List.mem_map.1 ha
  rfl

theorem part_KVs_calls (hB : BOk B) (f : Nat) (cap : List D) (x : KVs) (er : Option Er) (s : List UInt8) (e : Option Er) (u : List UInt8) (d n : Int) (l : List Fld) (num : Nat) (hd1 : -9223372036854775808 < d) (hd2 : d < 9223372036854775808)
    (hf : CallsA (cx B) f ([sT s, .d (.int .i64 (d - 1))] ++ cap.map T.d) [] (.tup [.d x.d, .d (eD er)]) []) :
    CallsA (cx B) 98 [.ptr 0 0, iT num, sT s, .d (.fn f cap)] [rO e u d n l] (.d x.d) [rO (failE n num e er) u d n l] := by
  have h2 := msgfails_calls B hB e u d n l num er
  refine l_body (X := cx B) (fn := Tryz.f98) Tryz.func98 rfl rfl rfl rfl rfl 1 [] rfl rfl ?_
  refine walk ?_
  rw [show IntKind.i64.wrap (d - 1) = d - 1 from wrapI (by omega) (by omega)]
  refine l_call [] (hf) rfl rfl rfl rfl rfl rfl rfl (by decide) rfl rfl rfl rfl rfl ?_
  refine walk ?_
  refine l_call [0] (h2) rfl rfl rfl rfl rfl rfl rfl (by decide) rfl rfl rfl rfl rfl ?_
  refine walk ?_
  exact l_end trivial (by decide) rfl rfl rfl rfl rfl

theorem List_KVs_calls (hB : BOk B) (f : Nat) (cap : List D) (rd : List UInt8 → KVs × Option Er) (e : Option Er) (u : List UInt8) (d n : Int) (l : List Fld) (num : Nat) (hl : LOk l) (hd1 : anyL l num = true → -9223372036854775808 < d) (hd2 : d < 9223372036854775808)
    (hf : ∀ x ∈ l, x.num = num → CallsA (cx B) f ([sT x.s, .d (.int .i64 (d - 1))] ++ cap.map T.d) [] (.tup [.d (rd x.s).1.d, .d (eD (rd x.s).2)]) []) :
    CallsA (cx B) 29 [.ptr 0 0, iT num, .d (.fn f cap)] [rO e u d n l] (.d (slD ((listF rd n num l e).1.map KVs.d))) [rO (listF rd n num l e).2 u d n l] := by
  have hlen : (l.map Fld.d).length = l.length := by simp
  have hlb := hl.lenb
  unfold big at hlb
  refine l_body (X := cx B) (fn := Tryz.f29) Tryz.func29 rfl rfl rfl rfl rfl 1 [] rfl rfl ?_
  refine walk ?_
  rw [hlen]
  refine l_loop (fun i : Nat => l.length - i) (fun i => [(0, .ptr 0 0), (1, iT num), (2, .d (.fn f cap)), (7, owT ((listF rd n num (l.take i) e).1.map KVs.d)), (13, .d (slD (l.map Fld.d))), (14, iT l.length), (15, iT i)])
    (fun i => [rO (listF rd n num (l.take i) e).2 u d n l]) (fun i => i ≤ l.length) 0 (by omega) ⟨rfl, rfl, rfl, rfl, rfl, rfl, rfl, trivial⟩ rfl 1 rfl (fun _ => rfl) (fun _ => rfl) (fun _ => rfl) ?_
  intro i i1
  refine walk ?_
  refine r_cond rfl (fun hc => ?_) (fun hc => ?_)
  · have hlt : i < l.length := by have := of_decide_eq_true hc; omega
    obtain ⟨x, hx⟩ : ∃ x, l[i]? = some x := ⟨_, List.getElem?_eq_getElem hlt⟩
    have hdx : (l.map Fld.d)[i]? = some x.d := by rw [List.getElem?_map, hx]; rfl
    have htk : l.take (i + 1) = l.take i ++ [x] := by rw [List.take_add_one, hx]; rfl
    have hpl := listF_len rd n num (l.take i) e
    have hwi : IntKind.i64.wrap ((i : Int) + 1) = ((i + 1 : Nat) : Int) := by rw [wrapI (by omega) (by omega)]; omega
    have hst : listF rd n num (l.take (i + 1)) e = listStep rd n num (listF rd n num (l.take i) e) x := by rw [htk, listF_snoc]
    refine walk ?_
    refine l_step (.indexAddr (k := .i64) (n := i) (es := l.map Fld.d) (u := x.d) rfl rfl rfl rfl (.inl ⟨_, rfl⟩) rfl (by omega) (by simpa using hdx) rfl (by decide)) rfl rfl ?_
    refine walk ?_
    generalize hP : listF rd n num (l.take i) e = st at *
    obtain ⟨a, e'⟩ := st
    dsimp only at *
    by_cases hn : x.num = num
    · rw [show ((x.num : Int) == num) = true by rw [hn]; simp]
      have hs2 : listStep rd n num (a, e') x = (a ++ [(rd x.s).1], failE n num e' (rd x.s).2) := by unfold listStep; rw [if_pos hn]
      rw [hs2] at hst
      have h5 := part_KVs_calls B hB f cap (rd x.s).1 (rd x.s).2 x.s e' u d n l num (hd1 (List.any_eq_true.2 ⟨x, List.mem_of_getElem? hx, by simpa using hn⟩)) hd2 (hf x (List.mem_of_getElem? hx) hn)
      generalize (rd x.s).1 = y at *
      generalize (rd x.s).2 = er at *
      refine adm ?_
      (try refine l_open rfl ?_)
      refine l_step (.assignOwn (.inr rfl) rfl) rfl rfl ?_
      refine walk ?_
      refine l_call [0] (h5) rfl rfl rfl rfl rfl rfl rfl (by decide) rfl rfl rfl rfl rfl ?_
      refine l_step (.buildSlice (es := [y.d]) rfl rfl rfl rfl rfl rfl (by intro x hx; simp at hx; subst hx; rfl) (by simp) (by decide) (by decide)) rfl rfl ?_
      have hm : (a.map KVs.d).length + [y.d].length ≤ most := by simp [most] at *; omega
      refine l_step (.append' rfl rfl rfl rfl ⟨_, _, rfl, rfl, by intro q; simp⟩ rfl rfl rfl rfl rfl (by rw [show [y.d] = [y].map KVs.d from rfl, ← List.map_append]; exact KVs_fits _) (by decide) rfl hm rfl) rfl rfl ?_
      refine l_step (.assignOwn (.inl rfl) rfl) rfl rfl ?_
      refine walk ?_
      rw [hwi]
      refine ⟨i + 1, by omega, by omega, ?_, rfl, ?_⟩
      · rw [hst]; exact ⟨rfl, rfl, rfl, by show T.own _ _ = owT _; rw [List.map_append]; rfl, rfl, rfl, rfl, trivial⟩
      · rw [hst]; exact wk_eq rfl
    · rw [show ((x.num : Int) == num) = false by simp; omega]
      have hs2 : listStep rd n num (a, e') x = (a, e') := by unfold listStep; rw [if_neg hn]
      rw [hs2] at hst
      refine walk ?_
      rw [hwi]
      refine ⟨i + 1, by omega, by omega, ?_, rfl, ?_⟩
      · rw [hst]; exact ⟨rfl, rfl, rfl, rfl, rfl, rfl, rfl, trivial⟩
      · rw [hst]; exact wk_eq rfl
  · have hge : i = l.length := by have := of_decide_eq_false hc; omega
    subst hge
    rw [List.take_length]
    refine adm ?_
    (try refine l_open rfl ?_)
    refine l_step (.moveShare rfl rfl) rfl rfl ?_
    refine walk ?_
    exact l_end trivial (by decide) rfl rfl rfl rfl rfl

theorem part_Exm_calls (hB : BOk B) (f : Nat) (cap : List D) (x : Exm) (er : Option Er) (s : List UInt8) (e : Option Er) (u : List UInt8) (d n : Int) (l : List Fld) (num : Nat) (hd1 : -9223372036854775808 < d) (hd2 : d < 9223372036854775808)
    (hf : CallsA (cx B) f ([sT s, .d (.int .i64 (d - 1))] ++ cap.map T.d) [] (.tup [.d x.d, .d (eD er)]) []) :
    CallsA (cx B) 104 [.ptr 0 0, iT num, sT s, .d (.fn f cap)] [rO e u d n l] (.d x.d) [rO (failE n num e er) u d n l] := by
  have h2 := msgfails_calls B hB e u d n l num er
  refine l_body (X := cx B) (fn := Tryz.f104) Tryz.func104 rfl rfl rfl rfl rfl 1 [] rfl rfl ?_
  refine walk ?_
  rw [show IntKind.i64.wrap (d - 1) = d - 1 from wrapI (by omega) (by omega)]
  refine l_call [] (hf) rfl rfl rfl rfl rfl rfl rfl (by decide) rfl rfl rfl rfl rfl ?_
  refine walk ?_
  refine l_call [0] (h2) rfl rfl rfl rfl rfl rfl rfl (by decide) rfl rfl rfl rfl rfl ?_
  refine walk ?_
  exact l_end trivial (by decide) rfl rfl rfl rfl rfl

theorem List_Exm_calls (hB : BOk B) (f : Nat) (cap : List D) (rd : List UInt8 → Exm × Option Er) (e : Option Er) (u : List UInt8) (d n : Int) (l : List Fld) (num : Nat) (hl : LOk l) (hd1 : anyL l num = true → -9223372036854775808 < d) (hd2 : d < 9223372036854775808)
    (hf : ∀ x ∈ l, x.num = num → CallsA (cx B) f ([sT x.s, .d (.int .i64 (d - 1))] ++ cap.map T.d) [] (.tup [.d (rd x.s).1.d, .d (eD (rd x.s).2)]) []) :
    CallsA (cx B) 34 [.ptr 0 0, iT num, .d (.fn f cap)] [rO e u d n l] (.d (slD ((listF rd n num l e).1.map Exm.d))) [rO (listF rd n num l e).2 u d n l] := by
  have hlen : (l.map Fld.d).length = l.length := by simp
  have hlb := hl.lenb
  unfold big at hlb
  refine l_body (X := cx B) (fn := Tryz.f34) Tryz.func34 rfl rfl rfl rfl rfl 1 [] rfl rfl ?_
  refine walk ?_
  rw [hlen]
  refine l_loop (fun i : Nat => l.length - i) (fun i => [(0, .ptr 0 0), (1, iT num), (2, .d (.fn f cap)), (7, owT ((listF rd n num (l.take i) e).1.map Exm.d)), (13, .d (slD (l.map Fld.d))), (14, iT l.length), (15, iT i)])
    (fun i => [rO (listF rd n num (l.take i) e).2 u d n l]) (fun i => i ≤ l.length) 0 (by omega) ⟨rfl, rfl, rfl, rfl, rfl, rfl, rfl, trivial⟩ rfl 1 rfl (fun _ => rfl) (fun _ => rfl) (fun _ => rfl) ?_
  intro i i1
  refine walk ?_
  refine r_cond rfl (fun hc => ?_) (fun hc => ?_)
  · have hlt : i < l.length := by have := of_decide_eq_true hc; omega
    obtain ⟨x, hx⟩ : ∃ x, l[i]? = some x := ⟨_, List.getElem?_eq_getElem hlt⟩
    have hdx : (l.map Fld.d)[i]? = some x.d := by rw [List.getElem?_map, hx]; rfl
    have htk : l.take (i + 1) = l.take i ++ [x] := by rw [List.take_add_one, hx]; rfl
    have hpl := listF_len rd n num (l.take i) e
    have hwi : IntKind.i64.wrap ((i : Int) + 1) = ((i + 1 : Nat) : Int) := by rw [wrapI (by omega) (by omega)]; omega
    have hst : listF rd n num (l.take (i + 1)) e = listStep rd n num (listF rd n num (l.take i) e) x := by rw [htk, listF_snoc]
    refine walk ?_
    refine l_step (.indexAddr (k := .i64) (n := i) (es := l.map Fld.d) (u := x.d) rfl rfl rfl rfl (.inl ⟨_, rfl⟩) rfl (by omega) (by simpa using hdx) rfl (by decide)) rfl rfl ?_
    refine walk ?_
    generalize hP : listF rd n num (l.take i) e = st at *
    obtain ⟨a, e'⟩ := st
    dsimp only at *
    by_cases hn : x.num = num
    · rw [show ((x.num : Int) == num) = true by rw [hn]; simp]
      have hs2 : listStep rd n num (a, e') x = (a ++ [(rd x.s).1], failE n num e' (rd x.s).2) := by unfold listStep; rw [if_pos hn]
      rw [hs2] at hst
      have h5 := part_Exm_calls B hB f cap (rd x.s).1 (rd x.s).2 x.s e' u d n l num (hd1 (List.any_eq_true.2 ⟨x, List.mem_of_getElem? hx, by simpa using hn⟩)) hd2 (hf x (List.mem_of_getElem? hx) hn)
      generalize (rd x.s).1 = y at *
      generalize (rd x.s).2 = er at *
      refine adm ?_
      (try refine l_open rfl ?_)
      refine l_step (.assignOwn (.inr rfl) rfl) rfl rfl ?_
      refine walk ?_
      refine l_call [0] (h5) rfl rfl rfl rfl rfl rfl rfl (by decide) rfl rfl rfl rfl rfl ?_
      refine l_step (.buildSlice (es := [y.d]) rfl rfl rfl rfl rfl rfl (by intro x hx; simp at hx; subst hx; rfl) (by simp) (by decide) (by decide)) rfl rfl ?_
      have hm : (a.map Exm.d).length + [y.d].length ≤ most := by simp [most] at *; omega
      refine l_step (.append' rfl rfl rfl rfl ⟨_, _, rfl, rfl, by intro q; simp⟩ rfl rfl rfl rfl rfl (by rw [show [y.d] = [y].map Exm.d from rfl, ← List.map_append]; exact Exm_fits _) (by decide) rfl hm rfl) rfl rfl ?_
      refine l_step (.assignOwn (.inl rfl) rfl) rfl rfl ?_
      refine walk ?_
      rw [hwi]
      refine ⟨i + 1, by omega, by omega, ?_, rfl, ?_⟩
      · rw [hst]; exact ⟨rfl, rfl, rfl, by show T.own _ _ = owT _; rw [List.map_append]; rfl, rfl, rfl, rfl, trivial⟩
      · rw [hst]; exact wk_eq rfl
    · rw [show ((x.num : Int) == num) = false by simp; omega]
      have hs2 : listStep rd n num (a, e') x = (a, e') := by unfold listStep; rw [if_neg hn]
      rw [hs2] at hst
      refine walk ?_
      rw [hwi]
      refine ⟨i + 1, by omega, by omega, ?_, rfl, ?_⟩
      · rw [hst]; exact ⟨rfl, rfl, rfl, rfl, rfl, rfl, rfl, trivial⟩
      · rw [hst]; exact wk_eq rfl
  · have hge : i = l.length := by have := of_decide_eq_false hc; omega
    subst hge
    rw [List.take_length]
    refine adm ?_
    (try refine l_open rfl ?_)
    refine l_step (.moveShare rfl rfl) rfl rfl ?_
    refine walk ?_
    exact l_end trivial (by decide) rfl rfl rfl rfl rfl

end Go.Proofs.YtcinfkbdmjnjlaaGreatDoor

/-! A point of an exponential histogram read. -/
namespace Go.Proofs.YtcinfkbdmjnjlaaGreatDoor
open Go Go.Abs
variable (B : Fr)
structure Xp where
  attrs : List KVs
  start : Nat
  time : Nat
  count : Nat
  sumH : Bool
  sum : Nat
  minH : Bool
  min : Nat
  maxH : Bool
  max : Nat
  scale : Int
  zero : Nat
  hasPos : Bool
  pos : Bk
  hasNeg : Bool
  neg : Bk
  exs : List Exm
  flags : Nat
  thr : Nat
  u : List UInt8
def Xp.d (x : Xp) : D := .agg [slD (x.attrs.map KVs.d), .int .u64 x.start, .int .u64 x.time, .int .u64 x.count, .bool x.sumH, .int .u64 x.sum, .bool x.minH, .int .u64 x.min, .bool x.maxH, .int .u64 x.max, .int .i32 x.scale, .int .u64 x.zero,
  .bool x.hasPos, .int .i32 x.pos.off, slD (x.pos.cs.map uD), .str x.pos.u, .bool x.hasNeg, .int .i32 x.neg.off, slD (x.neg.cs.map uD), .str x.neg.u, slD (x.exs.map Exm.d), .int .u32 x.flags, .int .u64 x.thr, .str x.u]
def noXp : Xp := ⟨[], 0, 0, 0, false, 0, false, 0, false, 0, 0, 0, false, noBk, false, noBk, [], 0, 0, []⟩
theorem kn_pos {tb : Nat → Nat → Bool} {s : List UInt8} {d : Int} {num : Nat} (h : anyL (knB tb s d) num = true) : 0 ≤ d := by
  rcases Int.lt_or_le d 0 with hd | hd
  · unfold knB fldsE at h
    rw [if_pos hd] at h
    simp [knownL, anyL] at h
  · exact hd
theorem bytes_big {l : List Fld} (h : LOk l) (num : Nat) : (bytesL l num).length < big := by
  have := bytesL_len num l h.1
  have := h.2
  omega
section
variable (rdK : List UInt8 → KVs × Option Er) (rdE : List UInt8 → Exm × Option Er) (s : List UInt8) (d : Int)
def xpA : List KVs × Option Er := listF rdK s.length 1 (knB tbX s d) (readE s d)
def xpE : List Exm × Option Er := listF rdE s.length 11 (knB tbX s d) (xpA rdK s d).2
def xpP : Bk × Option Er := partF noBk (fun b => ubB b (d - 1)) s.length 8 (knB tbX s d) (xpE rdK rdE s d).2
def xpN : Bk × Option Er := partF noBk (fun b => ubB b (d - 1)) s.length 9 (knB tbX s d) (xpP rdK rdE s d).2
def xpOf : Xp × Option Er :=
  match (xpN rdK rdE s d).2 with
  | some e => (noXp, some e)
  | none => (⟨(xpA rdK s d).1, (lastF (knB tbX s d) 2).n, (lastF (knB tbX s d) 3).n, (lastF (knB tbX s d) 4).n, hasL (knB tbX s d) 5, (lastF (knB tbX s d) 5).n, hasL (knB tbX s d) 12, (lastF (knB tbX s d) 12).n, hasL (knB tbX s d) 13, (lastF (knB tbX s d) 13).n,
      zag32 (lastF (knB tbX s d) 6).n, (lastF (knB tbX s d) 7).n, anyL (knB tbX s d) 8, (xpP rdK rdE s d).1, anyL (knB tbX s d) 9, (xpN rdK rdE s d).1, (xpE rdK rdE s d).1, (lastF (knB tbX s d) 10).n % 4294967296, (lastF (knB tbX s d) 14).n, unB tbX s d⟩, none)
end
theorem u32w (n : Nat) : IntKind.u32.wrap (n : Int) = ((n % 4294967296 : Nat) : Int) := by rw [IntKind.wrap_u32]; omega
set_option maxHeartbeats 4000000 in
theorem Unmarshal_calls (hB : BOk B) (rdK : List UInt8 → KVs × Option Er) (rdE : List UInt8 → Exm × Option Er) (s : List UInt8) (d : Int) (hl : s.length < big) (hd1 : -9223372036854775808 ≤ d) (hd2 : d < 9223372036854775808)
    (hK : ∀ x ∈ knB tbX s d, x.num = 1 → CallsA (cx B) 30 [sT x.s, .d (.int .i64 (d - 1))] [] (.tup [.d (rdK x.s).1.d, .d (eD (rdK x.s).2)]) [])
    (hE : ∀ x ∈ knB tbX s d, x.num = 11 → CallsA (cx B) 35 [sT x.s, .d (.int .i64 (d - 1))] [] (.tup [.d (rdE x.s).1.d, .d (eD (rdE x.s).2)]) []) :
    CallsA (cx B) 12 [sT s, .d (.int .i64 d)] [] (.tup [.d (xpOf rdK rdE s d).1.d, .d (eD (xpOf rdK rdE s d).2)]) [] := by
  have h1 := Read_calls B hB 28 tbX (tbX_calls B) s d hl hd1 hd2
  have hk : LOk (knB tbX s d) := known_lok tbX s d hl
  have hm := lok_most hk
  have gA := List_KVs_calls B hB 30 [] rdK (readE s d) (unB tbX s d) d s.length (knB tbX s d) 1 hk (fun h => by have := kn_pos h; omega) hd2 (by simpa using hK)
  have gE := List_Exm_calls B hB 35 [] rdE (xpA rdK s d).2 (unB tbX s d) d s.length (knB tbX s d) 11 hk (fun h => by have := kn_pos h; omega) hd2 (by simpa using hE)
  have gP := Part_Bk_any B hB 37 [] (fun b => ubB b (d - 1)) (xpE rdK rdE s d).2 (unB tbX s d) d s.length (knB tbX s d) 8 hk (fun h => by have := kn_pos h; omega) hd2 (fun h => by
    have := kn_pos h
    exact UnmarshalBuckets_calls B hB (bytesL (knB tbX s d) 8) (d - 1) (bytes_big hk 8) (by omega) (by omega))
  have gN := Part_Bk_any B hB 37 [] (fun b => ubB b (d - 1)) (xpP rdK rdE s d).2 (unB tbX s d) d s.length (knB tbX s d) 9 hk (fun h => by have := kn_pos h; omega) hd2 (fun h => by
    have := kn_pos h
    exact UnmarshalBuckets_calls B hB (bytesL (knB tbX s d) 9) (d - 1) (bytes_big hk 9) (by omega) (by omega))
  have fx := fun e num => fixed_calls B e (unB tbX s d) d s.length (knB tbX s d) num hm
  have op := fun e num => Opt_calls B e (unB tbX s d) d s.length (knB tbX s d) num hm
  have hz := Zag32_calls B (lastF (knB tbX s d) 6).n (lastF_n hk 6)
  rw [show listF rdK s.length 1 (knB tbX s d) (readE s d) = xpA rdK s d from rfl] at gA
  rw [show listF rdE s.length 11 (knB tbX s d) (xpA rdK s d).2 = xpE rdK rdE s d from rfl] at gE
  rw [show partF noBk (fun b => ubB b (d - 1)) s.length 8 (knB tbX s d) (xpE rdK rdE s d).2 = xpP rdK rdE s d from rfl] at gP
  rw [show partF noBk (fun b => ubB b (d - 1)) s.length 9 (knB tbX s d) (xpP rdK rdE s d).2 = xpN rdK rdE s d from rfl] at gN
  unfold xpOf
  generalize xpN rdK rdE s d = q at *
  generalize xpP rdK rdE s d = p at *
  generalize xpE rdK rdE s d = x at *
  generalize xpA rdK s d = a at *
  obtain ⟨a, ea⟩ := a
  obtain ⟨x, ex⟩ := x
  obtain ⟨p, ep⟩ := p
  obtain ⟨q, eq⟩ := q
  dsimp only at *
  refine l_body (X := cx B) (fn := Tryz.f12) Tryz.func12 rfl rfl rfl rfl rfl 0 [] rfl rfl ?_
  refine walk ?_
  refine l_call [] (h1) rfl rfl rfl rfl rfl rfl rfl (by decide) rfl rfl rfl rfl rfl ?_
  refine walk ?_
  refine x_tail (i0 := 31) (z := 32) (t0 := 7) rfl (by decide) rfl rfl rfl rfl rfl rfl rfl rfl rfl rfl ?_
  refine walk ?_
  refine x_call [1] (gA) rfl rfl rfl rfl rfl rfl (by decide) rfl rfl rfl rfl rfl rfl ?_
  refine walk ?_
  refine x_call [1] (fx ea 2) rfl rfl rfl rfl rfl rfl (by decide) rfl rfl rfl rfl rfl rfl ?_
  refine walk ?_
  refine x_call [1] (fx ea 3) rfl rfl rfl rfl rfl rfl (by decide) rfl rfl rfl rfl rfl rfl ?_
  refine walk ?_
  refine x_call [1] (fx ea 4) rfl rfl rfl rfl rfl rfl (by decide) rfl rfl rfl rfl rfl rfl ?_
  refine walk ?_
  refine x_call [1] (op ea 5) rfl rfl rfl rfl rfl rfl (by decide) rfl rfl rfl rfl rfl rfl ?_
  refine walk ?_
  refine x_call [1] (op ea 12) rfl rfl rfl rfl rfl rfl (by decide) rfl rfl rfl rfl rfl rfl ?_
  refine walk ?_
  refine x_call [1] (op ea 13) rfl rfl rfl rfl rfl rfl (by decide) rfl rfl rfl rfl rfl rfl ?_
  refine walk ?_
  refine x_call [1] (fx ea 6) rfl rfl rfl rfl rfl rfl (by decide) rfl rfl rfl rfl rfl rfl ?_
  refine walk ?_
  refine x_call [] (hz) rfl rfl rfl rfl rfl rfl (by decide) rfl rfl rfl rfl rfl rfl ?_
  refine walk ?_
  refine x_call [1] (fx ea 7) rfl rfl rfl rfl rfl rfl (by decide) rfl rfl rfl rfl rfl rfl ?_
  refine walk ?_
  refine x_call [1] (gE) rfl rfl rfl rfl rfl rfl (by decide) rfl rfl rfl rfl rfl rfl ?_
  refine walk ?_
  refine x_call [1] (fx ex 10) rfl rfl rfl rfl rfl rfl (by decide) rfl rfl rfl rfl rfl rfl ?_
  refine walk ?_
  rw [u32w]
  refine x_call [1] (fx ex 14) rfl rfl rfl rfl rfl rfl (by decide) rfl rfl rfl rfl rfl rfl ?_
  refine walk ?_
  refine l_call [1] (gP) rfl rfl rfl rfl rfl rfl rfl (by decide) rfl rfl rfl rfl rfl ?_
  refine walk ?_
  refine l_call [1] (gN) rfl rfl rfl rfl rfl rfl rfl (by decide) rfl rfl rfl rfl rfl ?_
  refine walk ?_
  cases eq with
  | none =>
    refine walk ?_
    exact l_end trivial (by decide) rfl rfl rfl rfl rfl
  | some e =>
    cases e <;> (
    refine walk ?_
    exact l_end trivial (by decide) rfl rfl rfl rfl rfl)
end Go.Proofs.YtcinfkbdmjnjlaaGreatDoor

/-! What the chapter's examples fix. -/
namespace Go.Proofs.YtcinfkbdmjnjlaaGreatDoor
open Go Go.Abs
variable (B : Fr)
def noKV : KVs := ⟨[], false, 0, [], false, 0, [], [], [], [], []⟩
def noEx : Exm := ⟨[], 0, 0, 0, [], [], []⟩
theorem first_xp : xpOf (fun _ => (noKV, none)) (fun _ => (noEx, none)) [66, 0] 1 = (⟨[], 0, 0, 0, false, 0, false, 0, false, 0, 0, 0, true, noBk, false, noBk, [], 0, 0, []⟩, none) := by rfl
theorem first_mar : marB (-1) [1, 300] [] = [8, 1, 18, 3, 1, 172, 2] := by rfl
theorem first_may : mayB [] 0 = true := by rfl
theorem first_kn : knB tbX [66, 0] 1 = [⟨8, 2, 0, [], [66, 0]⟩] := by rfl
theorem first14_calls (hB : BOk B) : CallsA (cx B) 11 [] [] (.d (.bool true)) [] := by
  have h1 := MarshalBuckets_calls B (-1) [1, 300] [] 0 (by omega) (by omega) (by intro m hm; simp at hm; omega) (by simp [big]) (by omega) (by omega)
  rw [if_pos first_may, first_mar] at h1
  have h2 := Unmarshal_calls B hB (fun _ => (noKV, none)) (fun _ => (noEx, none)) [66, 0] 1 (by simp [big]) (by omega) (by omega)
    (by rw [first_kn]; intro x hx hn; simp at hx; subst hx; simp at hn) (by rw [first_kn]; intro x hx hn; simp at hx; subst hx; simp at hn)
  rw [first_xp] at h2
  dsimp only at h2
  refine l_body (X := cx B) (fn := Tryz.f11) Tryz.func11 rfl rfl rfl rfl rfl 0 [] rfl rfl ?_
  refine walk ?_
  refine l_step (.buildSlice (es := [uD 1, uD 300]) rfl rfl rfl rfl rfl rfl (by intro x hx; simp at hx; rcases hx with rfl | rfl <;> rfl) (by simp) (by decide) (by decide)) rfl rfl ?_
  refine walk ?_
  refine l_call [] (h1) rfl rfl rfl rfl rfl rfl rfl (by decide) rfl rfl rfl rfl rfl ?_
  refine walk ?_
  refine l_call [] (h2) rfl rfl rfl rfl rfl rfl rfl (by decide) rfl rfl rfl rfl rfl ?_
  refine walk ?_
  exact l_end trivial (by decide) rfl rfl rfl rfl rfl
end Go.Proofs.YtcinfkbdmjnjlaaGreatDoor
