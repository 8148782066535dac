/- Exemplar: alike, may they be, written, read. -/
import Derived.Test.YtcinfkbdmjnjlaaGreatDoorEP
set_option linter.unusedSimpArgs false
set_option linter.unusedVariables false
set_option maxRecDepth 100000
namespace Go.Proofs.YtcinfkbdmjnjlaaGreatDoor
open Go Go.Abs
variable (B : Fr)
def Em.d (x : Em) : D := .agg [slD (Kv.ds x.attrs), .int .u64 x.time, .int .i64 x.kind, .int .u64 x.n, .str x.span, .str x.trace, .str x.u]
def Em.R (x : Em) (a : D) : Prop := ∃ (z_attrs : Bool) (l_attrs : List D), a = .agg [.sl z_attrs l_attrs, .int .u64 x.time, .int .i64 x.kind, .int .u64 x.n, .str x.span, .str x.trace, .str x.u] ∧ Kv.Rs x.attrs l_attrs
def EmSh (x : D) : Prop := ∃ (a0 : Bool) (a1 : List D) (a2 : Nat) (a3 : Int) (a4 : Nat) (a5 : List UInt8) (a6 : List UInt8) (a7 : List UInt8), x = .agg [.sl a0 a1, .int .u64 a2, .int .i64 a3, .int .u64 a4, .str a5, .str a6, .str a7]
theorem Em.R_sh {x : Em} {a : D} (h : x.R a) : EmSh a := by
  obtain ⟨z_attrs, l_attrs, h, -⟩ := h
  exact ⟨_, _, _, _, _, _, _, _, h⟩
theorem Em.d_R (x : Em) : x.R x.d := ⟨_, _, rfl, Kv.ds_R _⟩
theorem Em.Rs_sh {l : List Em} {xs : List D} (h : RsOf Em.R l xs) : ∀ x ∈ xs, EmSh x := fun x hx => by
  obtain ⟨v, -, r⟩ := h.mem hx
  exact Em.R_sh r
theorem Em.R_no : noEm.R noEm.d := Em.d_R _
theorem Em_fits (l : List Em) : ∀ a ∈ l.map Em.d, a.fits 7 = true := by
  intro a ha
  obtain ⟨c, -, rfl⟩ := List.mem_map.1 ha
  rfl

theorem part_Em_calls (hB : BOk B) (f : Nat) (cap : List D) (x : Em) (er : Option Er) (s : List UInt8) (e : Option Er) (u : List UInt8) (d n : Int) (l : List Fld) (num : Nat) (hd1 : -9223372036854775808 < d) (hd2 : d < 9223372036854775808)
    (hf : CallsA (cx B) f ([sT s, .d (.int .i64 (d - 1))] ++ cap.map T.d) [] (.tup [.d x.d, .d (eD er)]) []) :
    CallsA (cx B) 104 [.ptr 0 0, iT num, sT s, .d (.fn f cap)] [rO e u d n l] (.d x.d) [rO (failE n num e er) u d n l] := by
  have h2 := msgfails_calls B hB e u d n l num er
  refine l_body (X := cx B) (fn := Tryz.f104) Tryz.func104 rfl rfl rfl rfl rfl 1 [] rfl rfl ?_
  refine walk ?_
  rw [show IntKind.i64.wrap (d - 1) = d - 1 from wrapI (by omega) (by omega)]
  refine l_call [] (hf) rfl rfl rfl rfl rfl rfl rfl (by decide) rfl rfl rfl rfl rfl ?_
  refine walk ?_
  refine l_call [0] (h2) rfl rfl rfl rfl rfl rfl rfl (by decide) rfl rfl rfl rfl rfl ?_
  refine walk ?_
  exact l_end trivial (by decide) rfl rfl rfl rfl rfl

theorem List_Em_calls (hB : BOk B) (f : Nat) (cap : List D) (rd : List UInt8 → Em × Option Er) (e : Option Er) (u : List UInt8) (d n : Int) (l : List Fld) (num : Nat) (hl : LOk l) (hd1 : anyL l num = true → -9223372036854775808 < d) (hd2 : d < 9223372036854775808)
    (hf : ∀ x ∈ l, x.num = num → CallsA (cx B) f ([sT x.s, .d (.int .i64 (d - 1))] ++ cap.map T.d) [] (.tup [.d (rd x.s).1.d, .d (eD (rd x.s).2)]) []) :
    CallsA (cx B) 34 [.ptr 0 0, iT num, .d (.fn f cap)] [rO e u d n l] (.d (slD ((listF rd n num l e).1.map Em.d))) [rO (listF rd n num l e).2 u d n l] := by
  have hlen : (l.map Fld.d).length = l.length := by simp
  have hlb := hl.lenb
  unfold big at hlb
  refine l_body (X := cx B) (fn := Tryz.f34) Tryz.func34 rfl rfl rfl rfl rfl 1 [] rfl rfl ?_
  refine walk ?_
  rw [hlen]
  refine l_loop (fun i : Nat => l.length - i) (fun i => [(0, .ptr 0 0), (1, iT num), (2, .d (.fn f cap)), (7, owT ((listF rd n num (l.take i) e).1.map Em.d)), (13, .d (slD (l.map Fld.d))), (14, iT l.length), (15, iT i)])
    (fun i => [rO (listF rd n num (l.take i) e).2 u d n l]) (fun i => i ≤ l.length) 0 (by omega) ⟨rfl, rfl, rfl, rfl, rfl, rfl, rfl, trivial⟩ rfl 1 rfl (fun _ => rfl) (fun _ => rfl) (fun _ => rfl) ?_
  intro i i1
  refine walk ?_
  refine r_cond rfl (fun hc => ?_) (fun hc => ?_)
  · have hlt : i < l.length := by have := of_decide_eq_true hc; omega
    obtain ⟨x, hx⟩ : ∃ x, l[i]? = some x := ⟨_, List.getElem?_eq_getElem hlt⟩
    have hdx : (l.map Fld.d)[i]? = some x.d := by rw [List.getElem?_map, hx]; rfl
    have htk : l.take (i + 1) = l.take i ++ [x] := by rw [List.take_add_one, hx]; rfl
    have hpl := listF_len rd n num (l.take i) e
    have hwi : IntKind.i64.wrap ((i : Int) + 1) = ((i + 1 : Nat) : Int) := by rw [wrapI (by omega) (by omega)]; omega
    have hst : listF rd n num (l.take (i + 1)) e = listStep rd n num (listF rd n num (l.take i) e) x := by rw [htk, listF_snoc]
    refine walk ?_
    refine l_step (.indexAddr (k := .i64) (n := i) (es := l.map Fld.d) (u := x.d) rfl rfl rfl rfl (.inl ⟨_, rfl⟩) rfl (by omega) (by simpa using hdx) rfl (by decide)) rfl rfl ?_
    refine walk ?_
    generalize hP : listF rd n num (l.take i) e = st at *
    obtain ⟨a, e'⟩ := st
    dsimp only at *
    by_cases hn : x.num = num
    · rw [show ((x.num : Int) == num) = true by rw [hn]; simp]
      have hs2 : listStep rd n num (a, e') x = (a ++ [(rd x.s).1], failE n num e' (rd x.s).2) := by unfold listStep; rw [if_pos hn]
      rw [hs2] at hst
      have h5 := part_Em_calls B hB f cap (rd x.s).1 (rd x.s).2 x.s e' u d n l num (hd1 (List.any_eq_true.2 ⟨x, List.mem_of_getElem? hx, by simpa using hn⟩)) hd2 (hf x (List.mem_of_getElem? hx) hn)
      generalize (rd x.s).1 = y at *
      generalize (rd x.s).2 = er at *
      refine adm ?_
      (try refine l_open rfl ?_)
      refine l_step (.assignOwn (.inr rfl) rfl) rfl rfl ?_
      refine walk ?_
      refine l_call [0] (h5) rfl rfl rfl rfl rfl rfl rfl (by decide) rfl rfl rfl rfl rfl ?_
      refine l_step (.buildSlice (es := [y.d]) rfl rfl rfl rfl rfl rfl (by intro x hx; simp at hx; subst hx; rfl) (by simp) (by decide) (by decide)) rfl rfl ?_
      have hm : (a.map Em.d).length + [y.d].length ≤ most := by simp [most] at *; omega
      refine l_step (.append' rfl rfl rfl rfl ⟨_, _, rfl, rfl, by intro q; simp⟩ rfl rfl rfl rfl rfl (by rw [show [y.d] = [y].map Em.d from rfl, ← List.map_append]; exact Em_fits _) (by decide) rfl hm rfl) rfl rfl ?_
      refine l_step (.assignOwn (.inl rfl) rfl) rfl rfl ?_
      refine walk ?_
      rw [hwi]
      refine ⟨i + 1, by omega, by omega, ?_, rfl, ?_⟩
      · rw [hst]; exact ⟨rfl, rfl, rfl, by show T.own _ _ = owT _; rw [List.map_append]; rfl, rfl, rfl, rfl, trivial⟩
      · rw [hst]; exact wk_eq rfl
    · rw [show ((x.num : Int) == num) = false by simp; omega]
      have hs2 : listStep rd n num (a, e') x = (a, e') := by unfold listStep; rw [if_neg hn]
      rw [hs2] at hst
      refine walk ?_
      rw [hwi]
      refine ⟨i + 1, by omega, by omega, ?_, rfl, ?_⟩
      · rw [hst]; exact ⟨rfl, rfl, rfl, rfl, rfl, rfl, rfl, trivial⟩
      · rw [hst]; exact wk_eq rfl
  · have hge : i = l.length := by have := of_decide_eq_false hc; omega
    subst hge
    rw [List.take_length]
    refine adm ?_
    (try refine l_open rfl ?_)
    refine l_step (.moveShare rfl rfl) rfl rfl ?_
    refine walk ?_
    exact l_end trivial (by decide) rfl rfl rfl rfl rfl

theorem List_Em_tells (hB : BOk B) {α : Type} (ok : List UInt8 → Option α) (sh : α → Em) (z : Em) (f : Nat) (cap : List D) (e : Option Er) (u : List UInt8) (d : Int) (n : Nat) (l : List Fld) (num : Nat) (hl : LOk l) (hd1 : anyL l num = true → -9223372036854775808 < d) (hd2 : d < 9223372036854775808)
    (h : ∀ x ∈ l, x.num = num → RdAt B f cap Em.d sh (ok x.s) x.s (d - 1)) :
    ∃ vs e', CallsA (cx B) 34 [.ptr 0 0, iT num, .d (.fn f cap)] [rO e u d n l] (.d (slD (vs.map Em.d))) [rO e' u d n l] ∧ Tells n e (partsO ok num l) (List.map sh) vs e' := by
  obtain ⟨rd, h1, h2⟩ := rd_choose B z h
  exact ⟨_, _, List_Em_calls B hB f cap rd e u d n l num hl hd1 hd2 h1, listF_tells n num e h2⟩

theorem okEm_rd (s : List UInt8) (d : Int) : okEm s d = (match readE s d, partsO (fun s => okK s (d - 1)) 7 (knB tbE s d) with
  | none, some attrs => some ⟨attrs, (lastF (knB tbE s d) 2).n, ((numKN 3 6 (oneF [3, 6] (knB tbE s d))).1 : Int), (numKN 3 6 (oneF [3, 6] (knB tbE s d))).2, (lastF (knB tbE s d) 4).s, (lastF (knB tbE s d) 5).s, unB tbE s d⟩
  | _, _ => none) := by
  unfold okEm
  rw [okG_rd]
  cases readE s d with
  | some e => rfl
  | none =>
    unfold tellEm
    simp only
    cases partsO (fun s => okK s (d - 1)) 7 (knB tbE s d) with
    | none => rfl
    | some attrs =>
      rfl
theorem Em_read (hB : BOk B) (s : List UInt8) (d : Int) (hl : s.length < big) (hd1 : -9223372036854775808 ≤ d) (hd2 : d < 9223372036854775808) :
    RdZ B 35 Em.d noEm (okEm s d) s d ∧ (∀ e0, readE s d = some e0 → CallsA (cx B) 35 [sT s, .d (.int .i64 d)] [] (.tup [.d noEm.d, .d e0.d]) []) := by
  have h1 := Read_calls B hB 105 tbE (tbE_calls B) s d hl hd1 hd2
  have hk : LOk (knB tbE s d) := known_lok tbE s d hl
  have hm := lok_most hk
  obtain ⟨vs_attrs, e1, c_attrs, t1⟩ := List_KVs_tells B hB (fun s => okK s (d - 1)) Kv.sh noKV 30 [] (readE s d) (unB tbE s d) d s.length (knB tbE s d) 7 hk (fun h => by have := kn_pos h; omega) hd2 (fun x hx hn => UnmarshalKey_rd B hB x.s (d - 1) (lok_s hk hx) (by have := kn_pos2 hx; omega) (by omega))
  have hein : ∀ x, e1 = some x → EIn s.length x := t1.ein (fun x hx => readE_err hx)
  have main : CallsA (cx B) 35 [sT s, .d (.int .i64 d)] [] (.tup [.d (orD e1 (.agg [slD (vs_attrs.map KVs.d), .int .u64 (lastF (knB tbE s d) 2).n, .int .i64 ((numKN 3 6 (oneF [3, 6] (knB tbE s d))).1 : Nat), .int .u64 ((numKN 3 6 (oneF [3, 6] (knB tbE s d))).2 : Nat), .str (lastF (knB tbE s d) 4).s, .str (lastF (knB tbE s d) 5).s, .str (unB tbE s d)]) noEm.d), .d (eD e1)]) [] := by
    clear hein t1
    refine l_body (X := cx B) (fn := Tryz.f35) Tryz.func35 rfl rfl rfl rfl rfl 0 [] rfl rfl ?_
    refine walk ?_
    refine l_call [] (h1) rfl rfl rfl rfl rfl rfl rfl (by decide) rfl rfl rfl rfl rfl ?_
    refine walk ?_
    refine x_tail (i0 := 13) (z := 14) (t0 := 7) rfl (by decide) rfl rfl rfl rfl rfl rfl rfl rfl rfl rfl ?_
    refine walk ?_
    refine x_call [1] (fixed_calls B (readE s d) (unB tbE s d) d s.length (knB tbE s d) 2 hm) rfl rfl rfl rfl rfl rfl (by decide) rfl rfl rfl rfl rfl rfl ?_
    refine walk ?_
    refine x_call [1] (rBytes0_calls B (readE s d) (unB tbE s d) d s.length (knB tbE s d) 4 hm) rfl rfl rfl rfl rfl rfl (by decide) rfl rfl rfl rfl rfl rfl ?_
    refine walk ?_
    refine x_call [1] (rBytes0_calls B (readE s d) (unB tbE s d) d s.length (knB tbE s d) 5 hm) rfl rfl rfl rfl rfl rfl (by decide) rfl rfl rfl rfl rfl rfl ?_
    refine walk ?_
    refine x_call [1] (c_attrs) rfl rfl rfl rfl rfl rfl (by decide) rfl rfl rfl rfl rfl rfl ?_
    refine walk ?_
    refine l_call [1] (rNumber_calls B e1 (unB tbE s d) d s.length (knB tbE s d) 3 6 hk) rfl rfl rfl rfl rfl rfl rfl (by decide) rfl rfl rfl rfl rfl ?_
    refine walk ?_
    cases e1 with
    | none =>
      refine walk ?_
      exact l_end trivial (by decide) rfl rfl rfl rfl rfl
    | some er =>
      cases er <;> (
      refine walk ?_
      exact l_end trivial (by decide) rfl rfl rfl rfl rfl)
  constructor
  · rw [okEm_rd]
    cases e1 with
    | none =>
      obtain ⟨k0, a_attrs, g_attrs, v_attrs⟩ := t1.ok
      rw [k0, g_attrs]
      subst v_attrs
      rw [ks_map a_attrs] at main
      exact main
    | some er =>
      have hno : (match readE s d, partsO (fun s => okK s (d - 1)) 7 (knB tbE s d) with
        | none, some attrs => some (⟨attrs, (lastF (knB tbE s d) 2).n, ((numKN 3 6 (oneF [3, 6] (knB tbE s d))).1 : Int), (numKN 3 6 (oneF [3, 6] (knB tbE s d))).2, (lastF (knB tbE s d) 4).s, (lastF (knB tbE s d) 5).s, unB tbE s d⟩ : Em)
        | _, _ => none) = none := by
        cases hr : readE s d with
        | some x => rfl
        | none =>
          rw [hr] at t1
          cases hp0 : partsO (fun s => okK s (d - 1)) 7 (knB tbE s d) with
          | none => rfl
          | some a0 =>
            rw [hp0] at t1
            have := t1.get.2; simp at this
      rw [hno]
      exact ⟨er, hein er rfl, main⟩
  · intro e0 he
    rw [he] at t1
    have k1 := t1.keep
    subst k1
    exact main
end Go.Proofs.YtcinfkbdmjnjlaaGreatDoor
