/- msg.Reader: parts and lists of parts; buckets read. -/
import Derived.Test.YtfbckigcelmopaaGreatDoorX23
set_option linter.unusedSimpArgs false
set_option linter.unusedVariables false
set_option maxRecDepth 100000
namespace Go.Proofs.YtfbckigcelmopaaGreatDoor
open Go Go.Abs
variable (B : Fr)
def anyL (l : List Fld) (num : Nat) : Bool := l.any fun x => x.num == num
def bytesL (l : List Fld) (num : Nat) : List UInt8 := (l.filter fun x => x.num == num).flatMap Fld.s
theorem bytesL_len (num : Nat) : ∀ (l : List Fld), (∀ x ∈ l, FOk x) → (bytesL l num).length ≤ wt l
  | [], _ => by simp [bytesL]
  | x :: l, h => by
    have h1 := (h x (List.mem_cons_self ..)).s
    have h2 := bytesL_len num l fun y hy => h y (List.mem_cons_of_mem _ hy)
    have h3 : wt (x :: l) = x.raw.length + wt l := by simp [wt]
    unfold bytesL at *
    rw [List.filter_cons, h3]
    split
    · rw [List.flatMap_cons, List.length_append]; omega
    · omega
def listStep {α : Type} (rd : List UInt8 → α × Option Er) (n : Int) (num : Nat) (st : List α × Option Er) (x : Fld) : List α × Option Er :=
  if x.num = num then (st.1 ++ [(rd x.s).1], failE n num st.2 (rd x.s).2) else st
def listF {α : Type} (rd : List UInt8 → α × Option Er) (n : Int) (num : Nat) (l : List Fld) (e : Option Er) : List α × Option Er := l.foldl (listStep rd n num) ([], e)
theorem listF_snoc {α : Type} (rd : List UInt8 → α × Option Er) (n : Int) (num : Nat) (l : List Fld) (x : Fld) (e : Option Er) : listF rd n num (l ++ [x]) e = listStep rd n num (listF rd n num l e) x := by
  unfold listF; rw [List.foldl_append]; rfl
theorem listF_len {α : Type} (rd : List UInt8 → α × Option Er) (n : Int) (num : Nat) (l : List Fld) (e : Option Er) : (listF rd n num l e).1.length ≤ l.length := by
  have key : ∀ (l : List Fld) (st : List α × Option Er), (l.foldl (listStep rd n num) st).1.length ≤ st.1.length + l.length := by
    intro l
    induction l with
    | nil => intro st; simp
    | cons x l ih =>
      intro st
      have h2 := ih (listStep rd n num st x)
      have h3 : (listStep rd n num st x).1.length ≤ st.1.length + 1 := by unfold listStep; split <;> simp
      simp at *; omega
  have := key l ([], e)
  simpa [listF] using this
def partF {α : Type} (z : α) (rd : List UInt8 → α × Option Er) (n : Int) (num : Nat) (l : List Fld) (e : Option Er) : α × Option Er :=
  match anyL l num with
  | true => ((rd (bytesL l num)).1, failE n num e (rd (bytesL l num)).2)
  | false => (z, e)
/-- Buckets. -/
structure Bk where
  off : Int
  cs : List Nat
  u : List UInt8
def Bk.d (b : Bk) : D := bkD b.off b.cs b.u
def noBk : Bk := ⟨0, [], []⟩
theorem part_Bk_calls (hB : BOk B) (f : Nat) (cap : List D) (x : Bk) (er : Option Er) (s : List UInt8) (e : Option Er) (u : List UInt8) (d n : Int) (l : List Fld) (num : Nat) (hd1 : -9223372036854775808 < d) (hd2 : d < 9223372036854775808)
    (hf : CallsA (cx B) f ([sT s, .d (.int .i64 (d - 1))] ++ cap.map T.d) [] (.tup [.d x.d, .d (eD er)]) []) :
    CallsA (cx B) 91 [.ptr 0 0, iT num, sT s, .d (.fn f cap)] [rO e u d n l] (.d x.d) [rO (failE n num e er) u d n l] := by
  have h2 := msgfails_calls B hB e u d n l num er
  refine l_body (X := cx B) (fn := Tryz.f91) Tryz.func91 rfl rfl rfl rfl rfl 1 [] rfl rfl ?_
  refine walk ?_
  rw [show IntKind.i64.wrap (d - 1) = d - 1 from wrapI (by omega) (by omega)]
  refine l_call [] (hf) rfl rfl rfl rfl rfl rfl rfl (by decide) rfl rfl rfl rfl rfl ?_
  refine walk ?_
  refine l_call [0] (h2) rfl rfl rfl rfl rfl rfl rfl (by decide) rfl rfl rfl rfl rfl ?_
  refine walk ?_
  exact l_end trivial (by decide) rfl rfl rfl rfl rfl

theorem Part_Bk_none (f : Nat) (cap : List D) (e : Option Er) (u : List UInt8) (d n : Int) (l : List Fld) (num : Nat) (hl : LOk l) (h0 : anyL l num = false) :
    CallsA (cx B) 61 [.ptr 0 0, iT num, .d (.fn f cap)] [rO e u d n l] (.tup [.d (noBk).d, .d (.bool false)]) [rO e u d n l] := by
  have hlen : (l.map Fld.d).length = l.length := by simp
  have hlb := hl.lenb
  unfold big at hlb
  refine l_body (X := cx B) (fn := Tryz.f61) Tryz.func61 rfl rfl rfl rfl rfl 1 [] rfl rfl ?_
  refine walk ?_
  rw [hlen]
  refine l_loop (fun i : Nat => l.length - i) (fun i => [(0, .ptr 0 0), (1, iT num), (2, .d (.fn f cap)), (6, .ptr 1 0), (8, .ptr 2 0), (9, .d (.bool false)), (16, .d (slD (l.map Fld.d))), (17, iT l.length), (18, iT i)])
    (fun i => [rO e u d n l, .mu ((noBk).d.cells.map T.ofD), .mu [.nw 89 2, bT []]]) (fun i => i ≤ l.length) 0 (by omega) ⟨rfl, rfl, rfl, rfl, rfl, rfl, rfl, rfl, rfl, trivial⟩ rfl 3 rfl (fun _ => rfl) (fun _ => rfl) (fun _ => rfl) ?_
  intro i i1
  refine walk ?_
  refine r_cond rfl (fun hc => ?_) (fun hc => ?_)
  · have hlt : i < l.length := by have := of_decide_eq_true hc; omega
    obtain ⟨x, hx⟩ : ∃ x, l[i]? = some x := ⟨_, List.getElem?_eq_getElem hlt⟩
    have hdx : (l.map Fld.d)[i]? = some x.d := by rw [List.getElem?_map, hx]; rfl
    have hxn : x.num ≠ num := by
      intro h; have : anyL l num = true := List.any_eq_true.2 ⟨x, List.mem_of_getElem? hx, by simpa using h⟩
      rw [h0] at this; simp at this
    refine walk ?_
    refine l_step (.indexAddr (k := .i64) (n := i) (es := l.map Fld.d) (u := x.d) rfl rfl rfl rfl (.inl ⟨_, rfl⟩) rfl (by omega) (by simpa using hdx) rfl (by decide)) rfl rfl ?_
    refine walk ?_
    rw [show ((x.num : Int) == num) = false by simp; omega]
    refine walk ?_
    rw [show IntKind.i64.wrap ((i : Int) + 1) = ((i + 1 : Nat) : Int) by rw [wrapI (by omega) (by omega)]; omega]
    exact ⟨i + 1, by omega, by omega, ⟨rfl, rfl, rfl, rfl, rfl, rfl, rfl, rfl, rfl, trivial⟩, rfl, wk_eq rfl⟩
  · refine walk ?_
    exact l_end trivial (by decide) rfl rfl rfl rfl rfl
theorem Part_Bk_calls (hB : BOk B) (f : Nat) (cap : List D) (x0 : Bk) (er : Option Er) (e : Option Er) (u : List UInt8) (d n : Int) (l : List Fld) (num : Nat) (hl : LOk l) (hd1 : -9223372036854775808 < d) (hd2 : d < 9223372036854775808) (h0 : anyL l num = true)
    (hf : CallsA (cx B) f ([sT (bytesL l num), .d (.int .i64 (d - 1))] ++ cap.map T.d) [] (.tup [.d x0.d, .d (eD er)]) []) :
    CallsA (cx B) 61 [.ptr 0 0, iT num, .d (.fn f cap)] [rO e u d n l] (.tup [.d x0.d, .d (.bool true)]) [rO (failE n num e er) u d n l] := by
  have hlen : (l.map Fld.d).length = l.length := by simp
  have hlb := hl.lenb
  have hwb := hl.2
  unfold big at hlb hwb
  have h5 := part_Bk_calls B hB f cap x0 er (bytesL l num) e u d n l num hd1 hd2 hf
  refine l_body (X := cx B) (fn := Tryz.f61) Tryz.func61 rfl rfl rfl rfl rfl 1 [] rfl rfl ?_
  refine walk ?_
  rw [hlen]
  refine l_loop (fun i : Nat => l.length - i) (fun i => [(0, .ptr 0 0), (1, iT num), (2, .d (.fn f cap)), (6, .ptr 1 0), (8, .ptr 2 0), (9, .d (.bool (anyL (l.take i) num))), (16, .d (slD (l.map Fld.d))), (17, iT l.length), (18, iT i)])
    (fun i => [rO e u d n l, .mu ((noBk).d.cells.map T.ofD), .mu [bA (anyL (l.take i) num), bT (bytesL (l.take i) num)]]) (fun i => i ≤ l.length) 0 (by omega) ⟨rfl, rfl, rfl, rfl, rfl, rfl, rfl, rfl, rfl, trivial⟩ rfl 3 rfl (fun _ => rfl) (fun _ => by simp [bo_plain (bA_ok _)]; exact ⟨rfl, rfl⟩) (fun _ => rfl) ?_
  intro i i1
  refine walk ?_
  refine r_cond rfl (fun hc => ?_) (fun hc => ?_)
  · have hlt : i < l.length := by have := of_decide_eq_true hc; omega
    obtain ⟨x, hx⟩ : ∃ x, l[i]? = some x := ⟨_, List.getElem?_eq_getElem hlt⟩
    have hdx : (l.map Fld.d)[i]? = some x.d := by rw [List.getElem?_map, hx]; rfl
    have htk : l.take (i + 1) = l.take i ++ [x] := by rw [List.take_add_one, hx]; rfl
    have hwi : IntKind.i64.wrap ((i : Int) + 1) = ((i + 1 : Nat) : Int) := by rw [wrapI (by omega) (by omega)]; omega
    refine walk ?_
    refine l_step (.indexAddr (k := .i64) (n := i) (es := l.map Fld.d) (u := x.d) rfl rfl rfl rfl (.inl ⟨_, rfl⟩) rfl (by omega) (by simpa using hdx) rfl (by decide)) rfl rfl ?_
    refine walk ?_
    by_cases hn : x.num = num
    · rw [show ((x.num : Int) == num) = true by rw [hn]; simp]
      have ha : anyL (l.take (i + 1)) num = true := by rw [htk]; unfold anyL; rw [List.any_append]; simp [hn]
      have hb : bytesL (l.take (i + 1)) num = bytesL (l.take i) num ++ x.s := by rw [htk]; unfold bytesL; rw [List.filter_append, List.flatMap_append]; simp [hn]
      have hbl := bytesL_len num (l.take (i + 1)) fun y hy => hl.1 y (List.mem_of_mem_take hy)
      have hwt := wt_take l (i + 1)
      have h3 := WriteString_calls B _ (bytesL (l.take i) num) x.s (bA_ok (anyL (l.take i) num)) (by rw [hb] at hbl; simp [most] at *; omega)
      rw [← hb] at h3
      refine walk ?_
      refine l_call [2] (h3) rfl rfl rfl rfl rfl rfl rfl (by decide) (by simp [bo_plain (bA_ok _)]) (by simp [bo_plain (.inl rfl)]) rfl rfl rfl ?_
      refine walk ?_
      rw [hwi]
      refine ⟨i + 1, by omega, by omega, ⟨rfl, rfl, rfl, rfl, rfl, by rw [ha]; rfl, rfl, rfl, rfl, trivial⟩, by simp [bo_plain (.inl rfl)]; exact ⟨rfl, rfl⟩, ?_⟩
      rw [ha]
      exact wk_eq rfl
    · rw [show ((x.num : Int) == num) = false by simp; omega]
      have ha : anyL (l.take (i + 1)) num = anyL (l.take i) num := by rw [htk]; unfold anyL; rw [List.any_append]; simp [hn]
      have hb : bytesL (l.take (i + 1)) num = bytesL (l.take i) num := by rw [htk]; unfold bytesL; rw [List.filter_append, List.flatMap_append]; simp [hn]
      refine walk ?_
      rw [hwi]
      refine ⟨i + 1, by omega, by omega, ⟨rfl, rfl, rfl, rfl, rfl, by rw [ha]; rfl, rfl, rfl, rfl, trivial⟩, by simp [bo_plain (bA_ok _)]; exact ⟨rfl, rfl⟩, ?_⟩
      rw [ha, hb]
      exact wk_eq rfl
  · have hge : i = l.length := by have := of_decide_eq_false hc; omega
    subst hge
    rw [List.take_length, h0]
    have hbl := bytesL_len num l hl.1
    have h3 := String_calls B _ (bytesL l num) (bA_ok true) (by simp [most]; omega)
    refine walk ?_
    refine l_call [2] (h3) rfl rfl rfl rfl rfl rfl rfl (by decide) (by simp [bo_plain (bA_ok _)]) rfl rfl rfl rfl ?_
    refine walk ?_
    refine l_call [0] (h5) rfl rfl rfl rfl rfl rfl rfl (by decide) rfl rfl rfl rfl rfl ?_
    refine walk ?_
    exact l_end trivial (by decide) rfl rfl rfl rfl rfl
theorem Part_Bk_any (hB : BOk B) (f : Nat) (cap : List D) (rd : List UInt8 → Bk × Option Er) (e : Option Er) (u : List UInt8) (d n : Int) (l : List Fld) (num : Nat) (hl : LOk l) (hd1 : anyL l num = true → -9223372036854775808 < d) (hd2 : d < 9223372036854775808)
    (hf : anyL l num = true → CallsA (cx B) f ([sT (bytesL l num), .d (.int .i64 (d - 1))] ++ cap.map T.d) [] (.tup [.d (rd (bytesL l num)).1.d, .d (eD (rd (bytesL l num)).2)]) []) :
    CallsA (cx B) 61 [.ptr 0 0, iT num, .d (.fn f cap)] [rO e u d n l] (.tup [.d (partF (noBk) rd n num l e).1.d, .d (.bool (anyL l num))]) [rO (partF (noBk) rd n num l e).2 u d n l] := by
  unfold partF
  cases h0 : anyL l num with
  | true => exact Part_Bk_calls B hB f cap _ _ e u d n l num hl (hd1 h0) hd2 h0 (hf h0)
  | false => exact Part_Bk_none B f cap e u d n l num hl h0

end Go.Proofs.YtfbckigcelmopaaGreatDoor
