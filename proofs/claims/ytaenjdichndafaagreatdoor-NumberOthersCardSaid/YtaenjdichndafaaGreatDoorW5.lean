/- Values and attributes read. -/
import Derived.Test.YtaenjdichndafaaGreatDoorW4
import Derived.Test.YtaenjdichndafaaGreatDoorJ0
set_option linter.unusedSimpArgs false
set_option linter.unusedVariables false
set_option maxRecDepth 100000
namespace Go.Proofs.YtaenjdichndafaaGreatDoor
open Go Go.Abs
variable (B : Fr)
theorem okG_rd {β : Type} (tb : Nat → Nat → Bool) (tell : Int → List Fld → Option β) (s : List UInt8) (d : Int) : okG tb tell s d = (match readE s d with | none => (tell d (knB tb s d)).map fun b => (b, unB tb s d) | some _ => none) := by
  unfold okG
  cases ho : okL s d with
  | none =>
    obtain ⟨⟨e, he⟩, -⟩ := okL_none ho
    rw [he]
  | some l =>
    obtain ⟨h1, h2, -⟩ := okL_some ho
    rw [h1]
    unfold knB unB
    rw [h2]
    simp only
    cases tell d (knownL tb l) <;> rfl
/-- A list's message, its elements as they stand in memory. -/
structure SoV where
  l : List D
  rest : List UInt8
def SoV.d (x : SoV) : D := .agg [slD x.l, .str x.rest]
structure SoK where
  l : List D
  rest : List UInt8
def SoK.d (x : SoK) : D := .agg [slD x.l, .str x.rest]
theorem VaS_fits (l : List VaS) : ∀ a ∈ l.map VaS.d, a.fits 8 = true := by
  intro a ha
  obtain ⟨c, -, rfl⟩ := List.mem_map.1 ha
  rfl

theorem part_VaS_calls (hB : BOk B) (f : Nat) (cap : List D) (x : VaS) (er : Option Er) (s : List UInt8) (e : Option Er) (u : List UInt8) (d n : Int) (l : List Fld) (num : Nat) (hd1 : -9223372036854775808 < d) (hd2 : d < 9223372036854775808)
    (hf : CallsA (cx B) f ([sT s, .d (.int .i64 (d - 1))] ++ cap.map T.d) [] (.tup [.d x.d, .d (eD er)]) []) :
    CallsA (cx B) 111 [.ptr 0 0, iT num, sT s, .d (.fn f cap)] [rO e u d n l] (.d x.d) [rO (failE n num e er) u d n l] := by
  have h2 := msgfails_calls B hB e u d n l num er
  refine l_body (X := cx B) (fn := Tryz.f111) Tryz.func111 rfl rfl rfl rfl rfl 1 [] rfl rfl ?_
  refine walk ?_
  rw [show IntKind.i64.wrap (d - 1) = d - 1 from wrapI (by omega) (by omega)]
  refine l_call [] (hf) rfl rfl rfl rfl rfl rfl rfl (by decide) rfl rfl rfl rfl rfl ?_
  refine walk ?_
  refine l_call [0] (h2) rfl rfl rfl rfl rfl rfl rfl (by decide) rfl rfl rfl rfl rfl ?_
  refine walk ?_
  exact l_end trivial (by decide) rfl rfl rfl rfl rfl

theorem Part_VaS_none (f : Nat) (cap : List D) (e : Option Er) (u : List UInt8) (d n : Int) (l : List Fld) (num : Nat) (hl : LOk l) (h0 : anyL l num = false) :
    CallsA (cx B) 83 [.ptr 0 0, iT num, .d (.fn f cap)] [rO e u d n l] (.tup [.d (noVaS).d, .d (.bool false)]) [rO e u d n l] := by
  have hlen : (l.map Fld.d).length = l.length := by simp
  have hlb := hl.lenb
  unfold big at hlb
  refine l_body (X := cx B) (fn := Tryz.f83) Tryz.func83 rfl rfl rfl rfl rfl 1 [] rfl rfl ?_
  refine walk ?_
  rw [hlen]
  refine l_loop (fun i : Nat => l.length - i) (fun i => [(0, .ptr 0 0), (1, iT num), (2, .d (.fn f cap)), (6, .ptr 1 0), (8, .ptr 2 0), (9, .d (.bool false)), (16, .d (slD (l.map Fld.d))), (17, iT l.length), (18, iT i)])
    (fun i => [rO e u d n l, .mu ((noVaS).d.cells.map T.ofD), .mu [.nw 98 2, bT []]]) (fun i => i ≤ l.length) 0 (by omega) ⟨rfl, rfl, rfl, rfl, rfl, rfl, rfl, rfl, rfl, trivial⟩ rfl 3 rfl (fun _ => rfl) (fun _ => rfl) (fun _ => rfl) ?_
  intro i i1
  refine walk ?_
  refine r_cond rfl (fun hc => ?_) (fun hc => ?_)
  · have hlt : i < l.length := by have := of_decide_eq_true hc; omega
    obtain ⟨x, hx⟩ : ∃ x, l[i]? = some x := ⟨_, List.getElem?_eq_getElem hlt⟩
    have hdx : (l.map Fld.d)[i]? = some x.d := by rw [List.getElem?_map, hx]; rfl
    have hxn : x.num ≠ num := by
      intro h; have : anyL l num = true := List.any_eq_true.2 ⟨x, List.mem_of_getElem? hx, by simpa using h⟩
      rw [h0] at this; simp at this
    refine walk ?_
    refine l_step (.indexAddr (k := .i64) (n := i) (es := l.map Fld.d) (u := x.d) rfl rfl rfl rfl (.inl ⟨_, rfl⟩) rfl (by omega) (by simpa using hdx) rfl (by decide)) rfl rfl ?_
    refine walk ?_
    rw [show ((x.num : Int) == num) = false by simp; omega]
    refine walk ?_
    rw [show IntKind.i64.wrap ((i : Int) + 1) = ((i + 1 : Nat) : Int) by rw [wrapI (by omega) (by omega)]; omega]
    exact ⟨i + 1, by omega, by omega, ⟨rfl, rfl, rfl, rfl, rfl, rfl, rfl, rfl, rfl, trivial⟩, rfl, wk_eq rfl⟩
  · refine walk ?_
    exact l_end trivial (by decide) rfl rfl rfl rfl rfl
theorem Part_VaS_calls (hB : BOk B) (f : Nat) (cap : List D) (x0 : VaS) (er : Option Er) (e : Option Er) (u : List UInt8) (d n : Int) (l : List Fld) (num : Nat) (hl : LOk l) (hd1 : -9223372036854775808 < d) (hd2 : d < 9223372036854775808) (h0 : anyL l num = true)
    (hf : CallsA (cx B) f ([sT (bytesL l num), .d (.int .i64 (d - 1))] ++ cap.map T.d) [] (.tup [.d x0.d, .d (eD er)]) []) :
    CallsA (cx B) 83 [.ptr 0 0, iT num, .d (.fn f cap)] [rO e u d n l] (.tup [.d x0.d, .d (.bool true)]) [rO (failE n num e er) u d n l] := by
  have hlen : (l.map Fld.d).length = l.length := by simp
  have hlb := hl.lenb
  have hwb := hl.2
  unfold big at hlb hwb
  have h5 := part_VaS_calls B hB f cap x0 er (bytesL l num) e u d n l num hd1 hd2 hf
  refine l_body (X := cx B) (fn := Tryz.f83) Tryz.func83 rfl rfl rfl rfl rfl 1 [] rfl rfl ?_
  refine walk ?_
  rw [hlen]
  refine l_loop (fun i : Nat => l.length - i) (fun i => [(0, .ptr 0 0), (1, iT num), (2, .d (.fn f cap)), (6, .ptr 1 0), (8, .ptr 2 0), (9, .d (.bool (anyL (l.take i) num))), (16, .d (slD (l.map Fld.d))), (17, iT l.length), (18, iT i)])
    (fun i => [rO e u d n l, .mu ((noVaS).d.cells.map T.ofD), .mu [bA (anyL (l.take i) num), bT (bytesL (l.take i) num)]]) (fun i => i ≤ l.length) 0 (by omega) ⟨rfl, rfl, rfl, rfl, rfl, rfl, rfl, rfl, rfl, trivial⟩ rfl 3 rfl (fun _ => rfl) (fun _ => by simp [bo_plain (bA_ok _)]; exact ⟨rfl, rfl⟩) (fun _ => rfl) ?_
  intro i i1
  refine walk ?_
  refine r_cond rfl (fun hc => ?_) (fun hc => ?_)
  · have hlt : i < l.length := by have := of_decide_eq_true hc; omega
    obtain ⟨x, hx⟩ : ∃ x, l[i]? = some x := ⟨_, List.getElem?_eq_getElem hlt⟩
    have hdx : (l.map Fld.d)[i]? = some x.d := by rw [List.getElem?_map, hx]; rfl
    have htk : l.take (i + 1) = l.take i ++ [x] := by rw [List.take_add_one, hx]; rfl
    have hwi : IntKind.i64.wrap ((i : Int) + 1) = ((i + 1 : Nat) : Int) := by rw [wrapI (by omega) (by omega)]; omega
    refine walk ?_
    refine l_step (.indexAddr (k := .i64) (n := i) (es := l.map Fld.d) (u := x.d) rfl rfl rfl rfl (.inl ⟨_, rfl⟩) rfl (by omega) (by simpa using hdx) rfl (by decide)) rfl rfl ?_
    refine walk ?_
    by_cases hn : x.num = num
    · rw [show ((x.num : Int) == num) = true by rw [hn]; simp]
      have ha : anyL (l.take (i + 1)) num = true := by rw [htk]; unfold anyL; rw [List.any_append]; simp [hn]
      have hb : bytesL (l.take (i + 1)) num = bytesL (l.take i) num ++ x.s := by rw [htk]; unfold bytesL; rw [List.filter_append, List.flatMap_append]; simp [hn]
      have hbl := bytesL_len num (l.take (i + 1)) fun y hy => hl.1 y (List.mem_of_mem_take hy)
      have hwt := wt_take l (i + 1)
      have h3 := WriteString_calls B _ (bytesL (l.take i) num) x.s (bA_ok (anyL (l.take i) num)) (by rw [hb] at hbl; simp [most] at *; omega)
      rw [← hb] at h3
      refine walk ?_
      refine l_call [2] (h3) rfl rfl rfl rfl rfl rfl rfl (by decide) (by simp [bo_plain (bA_ok _)]) (by simp [bo_plain (.inl rfl)]) rfl rfl rfl ?_
      refine walk ?_
      rw [hwi]
      refine ⟨i + 1, by omega, by omega, ⟨rfl, rfl, rfl, rfl, rfl, by rw [ha]; rfl, rfl, rfl, rfl, trivial⟩, by simp [bo_plain (.inl rfl)]; exact ⟨rfl, rfl⟩, ?_⟩
      rw [ha]
      exact wk_eq rfl
    · rw [show ((x.num : Int) == num) = false by simp; omega]
      have ha : anyL (l.take (i + 1)) num = anyL (l.take i) num := by rw [htk]; unfold anyL; rw [List.any_append]; simp [hn]
      have hb : bytesL (l.take (i + 1)) num = bytesL (l.take i) num := by rw [htk]; unfold bytesL; rw [List.filter_append, List.flatMap_append]; simp [hn]
      refine walk ?_
      rw [hwi]
      refine ⟨i + 1, by omega, by omega, ⟨rfl, rfl, rfl, rfl, rfl, by rw [ha]; rfl, rfl, rfl, rfl, trivial⟩, by simp [bo_plain (bA_ok _)]; exact ⟨rfl, rfl⟩, ?_⟩
      rw [ha, hb]
      exact wk_eq rfl
  · have hge : i = l.length := by have := of_decide_eq_false hc; omega
    subst hge
    rw [List.take_length, h0]
    have hbl := bytesL_len num l hl.1
    have h3 := String_calls B _ (bytesL l num) (bA_ok true) (by simp [most]; omega)
    refine walk ?_
    refine l_call [2] (h3) rfl rfl rfl rfl rfl rfl rfl (by decide) (by simp [bo_plain (bA_ok _)]) rfl rfl rfl rfl ?_
    refine walk ?_
    refine l_call [0] (h5) rfl rfl rfl rfl rfl rfl rfl (by decide) rfl rfl rfl rfl rfl ?_
    refine walk ?_
    exact l_end trivial (by decide) rfl rfl rfl rfl rfl
theorem Part_VaS_any (hB : BOk B) (f : Nat) (cap : List D) (rd : List UInt8 → VaS × Option Er) (e : Option Er) (u : List UInt8) (d n : Int) (l : List Fld) (num : Nat) (hl : LOk l) (hd1 : anyL l num = true → -9223372036854775808 < d) (hd2 : d < 9223372036854775808)
    (hf : anyL l num = true → CallsA (cx B) f ([sT (bytesL l num), .d (.int .i64 (d - 1))] ++ cap.map T.d) [] (.tup [.d (rd (bytesL l num)).1.d, .d (eD (rd (bytesL l num)).2)]) []) :
    CallsA (cx B) 83 [.ptr 0 0, iT num, .d (.fn f cap)] [rO e u d n l] (.tup [.d (partF (noVaS) rd n num l e).1.d, .d (.bool (anyL l num))]) [rO (partF (noVaS) rd n num l e).2 u d n l] := by
  unfold partF
  cases h0 : anyL l num with
  | true => exact Part_VaS_calls B hB f cap _ _ e u d n l num hl (hd1 h0) hd2 h0 (hf h0)
  | false => exact Part_VaS_none B f cap e u d n l num hl h0

theorem List_VaS_calls (hB : BOk B) (f : Nat) (cap : List D) (rd : List UInt8 → VaS × Option Er) (e : Option Er) (u : List UInt8) (d n : Int) (l : List Fld) (num : Nat) (hl : LOk l) (hd1 : anyL l num = true → -9223372036854775808 < d) (hd2 : d < 9223372036854775808)
    (hf : ∀ x ∈ l, x.num = num → CallsA (cx B) f ([sT x.s, .d (.int .i64 (d - 1))] ++ cap.map T.d) [] (.tup [.d (rd x.s).1.d, .d (eD (rd x.s).2)]) []) :
    CallsA (cx B) 141 [.ptr 0 0, iT num, .d (.fn f cap)] [rO e u d n l] (.d (slD ((listF rd n num l e).1.map VaS.d))) [rO (listF rd n num l e).2 u d n l] := by
  have hlen : (l.map Fld.d).length = l.length := by simp
  have hlb := hl.lenb
  unfold big at hlb
  refine l_body (X := cx B) (fn := Tryz.f141) Tryz.func141 rfl rfl rfl rfl rfl 1 [] rfl rfl ?_
  refine walk ?_
  rw [hlen]
  refine l_loop (fun i : Nat => l.length - i) (fun i => [(0, .ptr 0 0), (1, iT num), (2, .d (.fn f cap)), (7, owT ((listF rd n num (l.take i) e).1.map VaS.d)), (13, .d (slD (l.map Fld.d))), (14, iT l.length), (15, iT i)])
    (fun i => [rO (listF rd n num (l.take i) e).2 u d n l]) (fun i => i ≤ l.length) 0 (by omega) ⟨rfl, rfl, rfl, rfl, rfl, rfl, rfl, trivial⟩ rfl 1 rfl (fun _ => rfl) (fun _ => rfl) (fun _ => rfl) ?_
  intro i i1
  refine walk ?_
  refine r_cond rfl (fun hc => ?_) (fun hc => ?_)
  · have hlt : i < l.length := by have := of_decide_eq_true hc; omega
    obtain ⟨x, hx⟩ : ∃ x, l[i]? = some x := ⟨_, List.getElem?_eq_getElem hlt⟩
    have hdx : (l.map Fld.d)[i]? = some x.d := by rw [List.getElem?_map, hx]; rfl
    have htk : l.take (i + 1) = l.take i ++ [x] := by rw [List.take_add_one, hx]; rfl
    have hpl := listF_len rd n num (l.take i) e
    have hwi : IntKind.i64.wrap ((i : Int) + 1) = ((i + 1 : Nat) : Int) := by rw [wrapI (by omega) (by omega)]; omega
    have hst : listF rd n num (l.take (i + 1)) e = listStep rd n num (listF rd n num (l.take i) e) x := by rw [htk, listF_snoc]
    refine walk ?_
    refine l_step (.indexAddr (k := .i64) (n := i) (es := l.map Fld.d) (u := x.d) rfl rfl rfl rfl (.inl ⟨_, rfl⟩) rfl (by omega) (by simpa using hdx) rfl (by decide)) rfl rfl ?_
    refine walk ?_
    generalize hP : listF rd n num (l.take i) e = st at *
    obtain ⟨a, e'⟩ := st
    dsimp only at *
    by_cases hn : x.num = num
    · rw [show ((x.num : Int) == num) = true by rw [hn]; simp]
      have hs2 : listStep rd n num (a, e') x = (a ++ [(rd x.s).1], failE n num e' (rd x.s).2) := by unfold listStep; rw [if_pos hn]
      rw [hs2] at hst
      have h5 := part_VaS_calls B hB f cap (rd x.s).1 (rd x.s).2 x.s e' u d n l num (hd1 (List.any_eq_true.2 ⟨x, List.mem_of_getElem? hx, by simpa using hn⟩)) hd2 (hf x (List.mem_of_getElem? hx) hn)
      generalize (rd x.s).1 = y at *
      generalize (rd x.s).2 = er at *
      refine adm ?_
      (try refine l_open rfl ?_)
      refine l_step (.assignOwn (.inr rfl) rfl) rfl rfl ?_
      refine walk ?_
      refine l_call [0] (h5) rfl rfl rfl rfl rfl rfl rfl (by decide) rfl rfl rfl rfl rfl ?_
      refine l_step (.buildSlice (es := [y.d]) rfl rfl rfl rfl rfl rfl (by intro x hx; simp at hx; subst hx; rfl) (by simp) (by decide) (by decide)) rfl rfl ?_
      have hm : (a.map VaS.d).length + [y.d].length ≤ most := by simp [most] at *; omega
      refine l_step (.append' rfl rfl rfl rfl ⟨_, _, rfl, rfl, by intro q; simp⟩ rfl rfl rfl rfl rfl (by rw [show [y.d] = [y].map VaS.d from rfl, ← List.map_append]; exact VaS_fits _) (by decide) rfl hm rfl) rfl rfl ?_
      refine l_step (.assignOwn (.inl rfl) rfl) rfl rfl ?_
      refine walk ?_
      rw [hwi]
      refine ⟨i + 1, by omega, by omega, ?_, rfl, ?_⟩
      · rw [hst]; exact ⟨rfl, rfl, rfl, by show T.own _ _ = owT _; rw [List.map_append]; rfl, rfl, rfl, rfl, trivial⟩
      · rw [hst]; exact wk_eq rfl
    · rw [show ((x.num : Int) == num) = false by simp; omega]
      have hs2 : listStep rd n num (a, e') x = (a, e') := by unfold listStep; rw [if_neg hn]
      rw [hs2] at hst
      refine walk ?_
      rw [hwi]
      refine ⟨i + 1, by omega, by omega, ?_, rfl, ?_⟩
      · rw [hst]; exact ⟨rfl, rfl, rfl, rfl, rfl, rfl, rfl, trivial⟩
      · rw [hst]; exact wk_eq rfl
  · have hge : i = l.length := by have := of_decide_eq_false hc; omega
    subst hge
    rw [List.take_length]
    refine adm ?_
    (try refine l_open rfl ?_)
    refine l_step (.moveShare rfl rfl) rfl rfl ?_
    refine walk ?_
    exact l_end trivial (by decide) rfl rfl rfl rfl rfl

theorem List_VaS_tells (hB : BOk B) {α : Type} (ok : List UInt8 → Option α) (sh : α → VaS) (z : VaS) (f : Nat) (cap : List D) (e : Option Er) (u : List UInt8) (d : Int) (n : Nat) (l : List Fld) (num : Nat) (hl : LOk l) (hd1 : anyL l num = true → -9223372036854775808 < d) (hd2 : d < 9223372036854775808)
    (h : ∀ x ∈ l, x.num = num → RdAt B f cap VaS.d sh (ok x.s) x.s (d - 1)) :
    ∃ vs e', CallsA (cx B) 141 [.ptr 0 0, iT num, .d (.fn f cap)] [rO e u d n l] (.d (slD (vs.map VaS.d))) [rO e' u d n l] ∧ Tells n e (partsO ok num l) (List.map sh) vs e' := by
  obtain ⟨rd, h1, h2⟩ := rd_choose B z h
  exact ⟨_, _, List_VaS_calls B hB f cap rd e u d n l num hl hd1 hd2 h1, listF_tells n num e h2⟩

theorem Part_VaS_tells (hB : BOk B) {α : Type} (ok : List UInt8 → Option α) (sh : α → VaS) (z0 : α) (hz : sh z0 = noVaS) (f : Nat) (cap : List D) (e : Option Er) (u : List UInt8) (d : Int) (n : Nat) (l : List Fld) (num : Nat) (hl : LOk l) (hd1 : anyL l num = true → -9223372036854775808 < d) (hd2 : d < 9223372036854775808)
    (h : anyL l num = true → RdAt B f cap VaS.d sh (ok (bytesL l num)) (bytesL l num) (d - 1)) :
    ∃ (v : Bool × VaS) (e' : Option Er), CallsA (cx B) 83 [.ptr 0 0, iT num, .d (.fn f cap)] [rO e u d n l] (.tup [.d v.2.d, .d (.bool v.1)]) [rO e' u d n l] ∧ Tells n e (partO ok z0 num l) (fun p => (p.1, sh p.2)) v e' := by
  unfold partO
  cases h0 : anyL l num with
  | false => exact ⟨(false, noVaS), e, Part_VaS_none B f cap e u d n l num hl h0, by cases e with | some x => rfl | none => exact ⟨by show (false, noVaS) = (false, sh z0); rw [hz], rfl⟩⟩
  | true =>
    have h := h h0
    unfold RdAt at h
    simp only [if_true]
    cases ho : ok (bytesL l num) with
    | some x =>
      rw [ho] at h
      refine ⟨(true, sh x), failE n num e none, Part_VaS_calls B hB f cap (sh x) none e u d n l num hl (hd1 h0) hd2 h0 h, ?_⟩
      rw [failE_nn]
      cases e with
      | some y => rfl
      | none => exact ⟨rfl, rfl⟩
    | none =>
      rw [ho] at h
      obtain ⟨y, er, h1, h2⟩ := h
      refine ⟨(true, y), failE n num e (some er), Part_VaS_calls B hB f cap y (some er) e u d n l num hl (hd1 h0) hd2 h0 h2, ?_⟩
      cases e with
      | some y => rfl
      | none =>
        obtain ⟨e1, g1, g2⟩ := fail_in n num er h1.2
        exact ⟨e1, g1, g2⟩

theorem part_SoV_calls (hB : BOk B) (f : Nat) (cap : List D) (x : SoV) (er : Option Er) (s : List UInt8) (e : Option Er) (u : List UInt8) (d n : Int) (l : List Fld) (num : Nat) (hd1 : -9223372036854775808 < d) (hd2 : d < 9223372036854775808)
    (hf : CallsA (cx B) f ([sT s, .d (.int .i64 (d - 1))] ++ cap.map T.d) [] (.tup [.d x.d, .d (eD er)]) []) :
    CallsA (cx B) 137 [.ptr 0 0, iT num, sT s, .d (.fn f cap)] [rO e u d n l] (.d x.d) [rO (failE n num e er) u d n l] := by
  have h2 := msgfails_calls B hB e u d n l num er
  refine l_body (X := cx B) (fn := Tryz.f137) Tryz.func137 rfl rfl rfl rfl rfl 1 [] rfl rfl ?_
  refine walk ?_
  rw [show IntKind.i64.wrap (d - 1) = d - 1 from wrapI (by omega) (by omega)]
  refine l_call [] (hf) rfl rfl rfl rfl rfl rfl rfl (by decide) rfl rfl rfl rfl rfl ?_
  refine walk ?_
  refine l_call [0] (h2) rfl rfl rfl rfl rfl rfl rfl (by decide) rfl rfl rfl rfl rfl ?_
  refine walk ?_
  exact l_end trivial (by decide) rfl rfl rfl rfl rfl

theorem part_SoK_calls (hB : BOk B) (f : Nat) (cap : List D) (x : SoK) (er : Option Er) (s : List UInt8) (e : Option Er) (u : List UInt8) (d n : Int) (l : List Fld) (num : Nat) (hd1 : -9223372036854775808 < d) (hd2 : d < 9223372036854775808)
    (hf : CallsA (cx B) f ([sT s, .d (.int .i64 (d - 1))] ++ cap.map T.d) [] (.tup [.d x.d, .d (eD er)]) []) :
    CallsA (cx B) 142 [.ptr 0 0, iT num, sT s, .d (.fn f cap)] [rO e u d n l] (.d x.d) [rO (failE n num e er) u d n l] := by
  have h2 := msgfails_calls B hB e u d n l num er
  refine l_body (X := cx B) (fn := Tryz.f142) Tryz.func142 rfl rfl rfl rfl rfl 1 [] rfl rfl ?_
  refine walk ?_
  rw [show IntKind.i64.wrap (d - 1) = d - 1 from wrapI (by omega) (by omega)]
  refine l_call [] (hf) rfl rfl rfl rfl rfl rfl rfl (by decide) rfl rfl rfl rfl rfl ?_
  refine walk ?_
  refine l_call [0] (h2) rfl rfl rfl rfl rfl rfl rfl (by decide) rfl rfl rfl rfl rfl ?_
  refine walk ?_
  exact l_end trivial (by decide) rfl rfl rfl rfl rfl

theorem Inner_SoV_calls (hB : BOk B) (o : OneS) (f : Nat) (cap : List D) (x : SoV) (er : Option Er) (e : Option Er) (u : List UInt8) (d n : Int) (l : List Fld) (hd1 : -9223372036854775808 < d) (hd2 : d < 9223372036854775808) (hl : o.all.flatten.length < big) (hn : o.all.length < big)
    (hf : CallsA (cx B) f ([sT o.all.flatten, .d (.int .i64 (d - 1))] ++ cap.map T.d) [] (.tup [.d x.d, .d (eD er)]) []) :
    CallsA (cx B) 113 [.ptr 0 0, .d o.d, .d (.fn f cap)] [rO e u d n l] (.d x.d) [rO (failE n o.num e er) u d n l] := by
  have h1 := Join_calls B o.all hl hn
  have h2 := part_SoV_calls B hB f cap x er o.all.flatten e u d n l o.num hd1 hd2 hf
  refine l_body (X := cx B) (fn := Tryz.f113) Tryz.func113 rfl rfl rfl rfl rfl 1 [] rfl rfl ?_
  refine walk ?_
  refine x_call [] (h1) rfl rfl rfl rfl rfl rfl (by decide) rfl rfl rfl rfl rfl rfl ?_
  refine walk ?_
  refine x_call [0] (h2) rfl rfl rfl rfl rfl rfl (by decide) rfl rfl rfl rfl rfl rfl ?_
  refine walk ?_
  exact l_end trivial (by decide) rfl rfl rfl rfl rfl

theorem Inner_SoK_calls (hB : BOk B) (o : OneS) (f : Nat) (cap : List D) (x : SoK) (er : Option Er) (e : Option Er) (u : List UInt8) (d n : Int) (l : List Fld) (hd1 : -9223372036854775808 < d) (hd2 : d < 9223372036854775808) (hl : o.all.flatten.length < big) (hn : o.all.length < big)
    (hf : CallsA (cx B) f ([sT o.all.flatten, .d (.int .i64 (d - 1))] ++ cap.map T.d) [] (.tup [.d x.d, .d (eD er)]) []) :
    CallsA (cx B) 115 [.ptr 0 0, .d o.d, .d (.fn f cap)] [rO e u d n l] (.d x.d) [rO (failE n o.num e er) u d n l] := by
  have h1 := Join_calls B o.all hl hn
  have h2 := part_SoK_calls B hB f cap x er o.all.flatten e u d n l o.num hd1 hd2 hf
  refine l_body (X := cx B) (fn := Tryz.f115) Tryz.func115 rfl rfl rfl rfl rfl 1 [] rfl rfl ?_
  refine walk ?_
  refine x_call [] (h1) rfl rfl rfl rfl rfl rfl (by decide) rfl rfl rfl rfl rfl rfl ?_
  refine walk ?_
  refine x_call [0] (h2) rfl rfl rfl rfl rfl rfl (by decide) rfl rfl rfl rfl rfl rfl ?_
  refine walk ?_
  exact l_end trivial (by decide) rfl rfl rfl rfl rfl

theorem listsV_calls (f : Nat) (cap : List D) : CallsA (cx B) 114 [.d (.fn f cap)] [] (.d (.fn 139 [.box [.fn f cap]])) [] := by
  refine l_body (X := cx B) (fn := Tryz.f114) Tryz.func114 rfl rfl rfl rfl rfl 0 [] rfl rfl ?_
  refine walk ?_
  exact l_end trivial (by decide) rfl rfl rfl rfl rfl
theorem listsK_calls (f : Nat) (cap : List D) : CallsA (cx B) 116 [.d (.fn f cap)] [] (.d (.fn 143 [.box [.fn f cap]])) [] := by
  refine l_body (X := cx B) (fn := Tryz.f116) Tryz.func116 rfl rfl rfl rfl rfl 0 [] rfl rfl ?_
  refine walk ?_
  exact l_end trivial (by decide) rfl rfl rfl rfl rfl
theorem listsV1_rd (hB : BOk B) (f : Nat) (cap : List D) (ok : List UInt8 → Option Vl) (s : List UInt8) (d : Int) (hl : s.length < big) (hd1 : -9223372036854775808 ≤ d) (hd2 : d < 9223372036854775808)
    (h : ∀ x ∈ knB tbL s d, x.num = 1 → RdAt B f cap VaS.d Vl.sh (ok x.s) x.s (d - 1)) :
    RdAt B 139 [.box [.fn f cap]] SoV.d (fun p : List Vl × List UInt8 => ⟨p.1.map Vl.d, p.2⟩) (okG tbL (fun _ l => partsO ok 1 l) s d) s d := by
  have h1 := Read_calls B hB 140 tbL (tbL_calls B) s d hl hd1 hd2
  have hk : LOk (knB tbL s d) := known_lok tbL s d hl
  obtain ⟨vs, e', c1, t1⟩ := List_VaS_tells B hB ok Vl.sh noVaS f cap (readE s d) (unB tbL s d) d s.length (knB tbL s d) 1 hk (fun h => by have := kn_pos h; omega) hd2 h
  have hein : ∀ x, e' = some x → EIn s.length x := t1.ein fun x hx => readE_err hx
  rw [okG_rd]
  have main : CallsA (cx B) 139 [sT s, .d (.int .i64 d), .d (.box [.fn f cap])] [] (.tup [.d (SoV.d ⟨vs.map VaS.d, unB tbL s d⟩), .d (eD e')]) [] := by
    clear hein t1
    refine l_body (X := cx B) (fn := Tryz.f139) Tryz.func139 rfl rfl rfl rfl rfl 0 [] rfl rfl ?_
    refine walk ?_
    refine l_call [] (h1) rfl rfl rfl rfl rfl rfl rfl (by decide) rfl rfl rfl rfl rfl ?_
    refine walk ?_
    refine l_call [1] (c1) rfl rfl rfl rfl rfl rfl rfl (by decide) rfl rfl rfl rfl rfl ?_
    refine walk ?_
    exact l_end trivial (by decide) rfl rfl rfl rfl rfl
  cases e' with
  | none =>
    obtain ⟨g1, a, g2, rfl⟩ := t1.ok
    rw [g1]
    simp only [g2, Option.map_some]
    rw [show (a.map Vl.sh).map VaS.d = a.map Vl.d by rw [List.map_map]; exact List.map_congr_left fun v _ => Vl.sh_d v] at main
    exact main
  | some er =>
    have hno : (match readE s d with | none => (partsO ok 1 (knB tbL s d)).map fun b => (b, unB tbL s d) | some _ => none) = none := by
      cases hr : readE s d with
      | some x => rfl
      | none =>
        rw [hr] at t1
        cases hp : partsO ok 1 (knB tbL s d) with
        | none => rfl
        | some a => rw [hp] at t1; have := t1.get.2; simp at this
    rw [hno]
    exact ⟨_, er, hein er rfl, main⟩
theorem listsK1_rd (hB : BOk B) (f : Nat) (cap : List D) (ok : List UInt8 → Option Kv) (s : List UInt8) (d : Int) (hl : s.length < big) (hd1 : -9223372036854775808 ≤ d) (hd2 : d < 9223372036854775808)
    (h : ∀ x ∈ knB tbL s d, x.num = 1 → RdAt B f cap KVs.d Kv.sh (ok x.s) x.s (d - 1)) :
    RdAt B 143 [.box [.fn f cap]] SoK.d (fun p : List Kv × List UInt8 => ⟨p.1.map Kv.d, p.2⟩) (okG tbL (fun _ l => partsO ok 1 l) s d) s d := by
  have h1 := Read_calls B hB 140 tbL (tbL_calls B) s d hl hd1 hd2
  have hk : LOk (knB tbL s d) := known_lok tbL s d hl
  obtain ⟨vs, e', c1, t1⟩ := List_KVs_tells B hB ok Kv.sh noKV f cap (readE s d) (unB tbL s d) d s.length (knB tbL s d) 1 hk (fun h => by have := kn_pos h; omega) hd2 h
  have hein : ∀ x, e' = some x → EIn s.length x := t1.ein fun x hx => readE_err hx
  rw [okG_rd]
  have main : CallsA (cx B) 143 [sT s, .d (.int .i64 d), .d (.box [.fn f cap])] [] (.tup [.d (SoK.d ⟨vs.map KVs.d, unB tbL s d⟩), .d (eD e')]) [] := by
    clear hein t1
    refine l_body (X := cx B) (fn := Tryz.f143) Tryz.func143 rfl rfl rfl rfl rfl 0 [] rfl rfl ?_
    refine walk ?_
    refine l_call [] (h1) rfl rfl rfl rfl rfl rfl rfl (by decide) rfl rfl rfl rfl rfl ?_
    refine walk ?_
    refine l_call [1] (c1) rfl rfl rfl rfl rfl rfl rfl (by decide) rfl rfl rfl rfl rfl ?_
    refine walk ?_
    exact l_end trivial (by decide) rfl rfl rfl rfl rfl
  cases e' with
  | none =>
    obtain ⟨g1, a, g2, rfl⟩ := t1.ok
    rw [g1]
    simp only [g2, Option.map_some]
    rw [show (a.map Kv.sh).map KVs.d = a.map Kv.d by rw [List.map_map]; exact List.map_congr_left fun v _ => Kv.sh_d v] at main
    exact main
  | some er =>
    have hno : (match readE s d with | none => (partsO ok 1 (knB tbL s d)).map fun b => (b, unB tbL s d) | some _ => none) = none := by
      cases hr : readE s d with
      | some x => rfl
      | none =>
        rw [hr] at t1
        cases hp : partsO ok 1 (knB tbL s d) with
        | none => rfl
        | some a => rw [hp] at t1; have := t1.get.2; simp at this
    rw [hno]
    exact ⟨_, er, hein er rfl, main⟩
end Go.Proofs.YtaenjdichndafaaGreatDoor
