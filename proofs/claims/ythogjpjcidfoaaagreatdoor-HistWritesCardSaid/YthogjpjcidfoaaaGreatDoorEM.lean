/- Exemplar: the reference tells if they may be, and their bytes. -/
import Derived.Test.YthogjpjcidfoaaaGreatDoorRW
import Derived.Test.YthogjpjcidfoaaaGreatDoorER
set_option linter.unusedSimpArgs false
set_option linter.unusedVariables false
set_option maxRecDepth 100000
namespace Go.Proofs.YthogjpjcidfoaaaGreatDoor
open Go Go.Abs
variable (B : Fr)
set_option maxHeartbeats 8000000 in
theorem rMayEm_calls (x : Em) (xa : D) (d : Int) (hbig : x.sz < big) (hx : x.R xa) (hd1 : -9223372036854775808 ≤ d) (hd2 : d < 9223372036854775808) : CallsA (cx B) 98 [.d xa, .d (.int .i64 d)] [] (.d (.bool (x.may d))) [] := by
  obtain ⟨z_attrs, l_attrs, rfl, r_attrs⟩ := hx
  unfold Em.sz at hbig
  unfold big at hbig
  have c_u := Unknown_calls B [17, 25, 34, 42, 49, 58] (by decide) (by decide) x.u d (by unfold big; omega) (by omega) hd2
  rw [unk_eq tk_Em] at c_u
  have c_t := tabEm_calls B
  have q_attrs : 0 ≤ d → CallsA (cx B) 37 [.d (.sl z_attrs l_attrs), .d (.int .i64 (d - 1))] [] (.d (.bool (x.attrs.all fun k => k.may (d - 1)))) [] := fun h => rMayKeys_calls B x.attrs z_attrs l_attrs (d - 1) (by unfold big; omega) r_attrs (by omega) (by omega)
  have hR : x.may d = (decide (d ≥ 0) && (decide (x.kind ≥ 0) && (decide (x.kind ≤ 2) && ((decide (x.kind > 0) || ((x.n : Int) == 0)) && ((x.attrs.all fun k => k.may (d - 1)) && restB tbE x.u d))))) := by
    unfold Em.may mayNum
    rw [show ((x.n : Int) == 0) = (x.n == 0) from ibeq x.n 0]
    rw [Bool.eq_iff_iff]
    simp only [Bool.and_eq_true, ge_iff_le, decide_eq_true_eq, Bool.not_eq_true', decide_eq_false_iff_not, Int.not_lt]
    constructor <;> (intro h; simp only [h, and_self, true_and, and_true])
  rw [hR]
  clear hR
  refine l_body (X := cx B) (fn := Tryz.f98) Tryz.func98 rfl rfl rfl rfl rfl 0 [] rfl rfl ?_
  refine walk ?_
  (repeat ((with_reducible refine is_runX ?_); first | refine x_skip rfl rfl ?_ | refine x_pure rfl rfl rfl ?_ | refine x_load rfl rfl rfl rfl rfl rfl ?_))
  cases hd : decide (d ≥ 0) with
  | false =>
    (repeat ((with_reducible refine is_runX ?_); first | refine x_skip rfl rfl ?_ | refine x_pure rfl rfl rfl ?_ | refine x_load rfl rfl rfl rfl rfl rfl ?_))
    refine walk ?_
    exact l_end trivial (by decide) rfl rfl rfl rfl rfl
  | true =>
    have hd0 : 0 ≤ d := of_decide_eq_true hd
    replace q_attrs := q_attrs hd0
    rw [decide_eq_true hd0, Bool.true_and] at c_u
    (repeat ((with_reducible refine is_runX ?_); first | refine x_skip rfl rfl ?_ | refine x_pure rfl rfl rfl ?_ | refine x_load rfl rfl rfl rfl rfl rfl ?_))
    refine walk ?_
    cases h_k1 : decide (x.kind ≥ 0) with
    | false =>
      (repeat ((with_reducible refine is_runX ?_); first | refine x_skip rfl rfl ?_ | refine x_pure rfl rfl rfl ?_ | refine x_load rfl rfl rfl rfl rfl rfl ?_))
      refine walk ?_
      exact l_end trivial (by decide) rfl rfl rfl rfl rfl
    | true =>
      (repeat ((with_reducible refine is_runX ?_); first | refine x_skip rfl rfl ?_ | refine x_pure rfl rfl rfl ?_ | refine x_load rfl rfl rfl rfl rfl rfl ?_))
      refine walk ?_
      cases h_k2 : decide (x.kind ≤ 2) with
      | false =>
        (repeat ((with_reducible refine is_runX ?_); first | refine x_skip rfl rfl ?_ | refine x_pure rfl rfl rfl ?_ | refine x_load rfl rfl rfl rfl rfl rfl ?_))
        refine walk ?_
        exact l_end trivial (by decide) rfl rfl rfl rfl rfl
      | true =>
        (repeat ((with_reducible refine is_runX ?_); first | refine x_skip rfl rfl ?_ | refine x_pure rfl rfl rfl ?_ | refine x_load rfl rfl rfl rfl rfl rfl ?_))
        refine walk ?_
        cases h_k3 : decide (x.kind > 0) with
        | true =>
          (repeat ((with_reducible refine is_runX ?_); first | refine x_skip rfl rfl ?_ | refine x_pure rfl rfl rfl ?_ | refine x_load rfl rfl rfl rfl rfl rfl ?_))
          refine walk ?_
          rw [wrap_sub 1 (by omega) (by omega) (by omega) hd2]
          refine x_call [] (q_attrs) rfl rfl rfl rfl rfl rfl (by decide) rfl rfl rfl rfl rfl rfl ?_
          (repeat ((with_reducible refine is_runX ?_); first | refine x_skip rfl rfl ?_ | refine x_pure rfl rfl rfl ?_ | refine x_load rfl rfl rfl rfl rfl rfl ?_))
          refine walk ?_
          cases h_attrs : (x.attrs.all fun k => k.may (d - 1)) with
          | false =>
            (repeat ((with_reducible refine is_runX ?_); first | refine x_skip rfl rfl ?_ | refine x_pure rfl rfl rfl ?_ | refine x_load rfl rfl rfl rfl rfl rfl ?_))
            refine walk ?_
            exact l_end trivial (by decide) rfl rfl rfl rfl rfl
          | true =>
            (repeat ((with_reducible refine is_runX ?_); first | refine x_skip rfl rfl ?_ | refine x_pure rfl rfl rfl ?_ | refine x_load rfl rfl rfl rfl rfl rfl ?_))
            refine walk ?_
            refine x_call [] (c_t) rfl rfl rfl rfl rfl rfl (by decide) rfl rfl rfl rfl rfl rfl ?_
            (repeat ((with_reducible refine is_runX ?_); first | refine x_skip rfl rfl ?_ | refine x_pure rfl rfl rfl ?_ | refine x_load rfl rfl rfl rfl rfl rfl ?_))
            refine walk ?_
            refine x_call [] (c_u) rfl rfl rfl rfl rfl rfl (by decide) rfl rfl rfl rfl rfl rfl ?_
            (repeat ((with_reducible refine is_runX ?_); first | refine x_skip rfl rfl ?_ | refine x_pure rfl rfl rfl ?_ | refine x_load rfl rfl rfl rfl rfl rfl ?_))
            refine walk ?_
            exact l_end trivial (by decide) rfl rfl rfl rfl rfl
        | false =>
          (repeat ((with_reducible refine is_runX ?_); first | refine x_skip rfl rfl ?_ | refine x_pure rfl rfl rfl ?_ | refine x_load rfl rfl rfl rfl rfl rfl ?_))
          refine walk ?_
          cases h_n : ((x.n : Int) == 0) with
          | false =>
            (repeat ((with_reducible refine is_runX ?_); first | refine x_skip rfl rfl ?_ | refine x_pure rfl rfl rfl ?_ | refine x_load rfl rfl rfl rfl rfl rfl ?_))
            refine walk ?_
            exact l_end trivial (by decide) rfl rfl rfl rfl rfl
          | true =>
            (repeat ((with_reducible refine is_runX ?_); first | refine x_skip rfl rfl ?_ | refine x_pure rfl rfl rfl ?_ | refine x_load rfl rfl rfl rfl rfl rfl ?_))
            refine walk ?_
            rw [wrap_sub 1 (by omega) (by omega) (by omega) hd2]
            refine x_call [] (q_attrs) rfl rfl rfl rfl rfl rfl (by decide) rfl rfl rfl rfl rfl rfl ?_
            (repeat ((with_reducible refine is_runX ?_); first | refine x_skip rfl rfl ?_ | refine x_pure rfl rfl rfl ?_ | refine x_load rfl rfl rfl rfl rfl rfl ?_))
            refine walk ?_
            cases h_attrs : (x.attrs.all fun k => k.may (d - 1)) with
            | false =>
              (repeat ((with_reducible refine is_runX ?_); first | refine x_skip rfl rfl ?_ | refine x_pure rfl rfl rfl ?_ | refine x_load rfl rfl rfl rfl rfl rfl ?_))
              refine walk ?_
              exact l_end trivial (by decide) rfl rfl rfl rfl rfl
            | true =>
              (repeat ((with_reducible refine is_runX ?_); first | refine x_skip rfl rfl ?_ | refine x_pure rfl rfl rfl ?_ | refine x_load rfl rfl rfl rfl rfl rfl ?_))
              refine walk ?_
              refine x_call [] (c_t) rfl rfl rfl rfl rfl rfl (by decide) rfl rfl rfl rfl rfl rfl ?_
              (repeat ((with_reducible refine is_runX ?_); first | refine x_skip rfl rfl ?_ | refine x_pure rfl rfl rfl ?_ | refine x_load rfl rfl rfl rfl rfl rfl ?_))
              refine walk ?_
              refine x_call [] (c_u) rfl rfl rfl rfl rfl rfl (by decide) rfl rfl rfl rfl rfl rfl ?_
              (repeat ((with_reducible refine is_runX ?_); first | refine x_skip rfl rfl ?_ | refine x_pure rfl rfl rfl ?_ | refine x_load rfl rfl rfl rfl rfl rfl ?_))
              refine walk ?_
              exact l_end trivial (by decide) rfl rfl rfl rfl rfl
theorem MayEms_L (d : Int) (z : Bool) (xs : List D) (r : Nat → Bool) (hl : xs.length < 9223372036854775807) (hx : ∀ x ∈ xs, EmSh x) (hf : ∀ (i : Nat) x, xs[i]? = some x → CallsA (cx B) 98 [.d x, .d (.int .i64 d)] [] (.d (.bool (r i))) []) :
    CallsA (cx B) 38 [.d (.sl z xs), .d (.int .i64 d)] [] (.d (.bool ((List.range xs.length).all r))) [] := by
  refine l_body (X := cx B) (fn := Tryz.f38) Tryz.func38 rfl rfl rfl rfl rfl 0 [] rfl rfl ?_
  refine walk ?_
  refine l_loop (fun i : Nat => xs.length - i) (fun i => [(0, .d (.sl z xs)), (1, .d (.int .i64 d)), (5, iT i)]) (fun _ => []) (fun i => i ≤ xs.length ∧ (List.range i).all r = true) 0 ⟨by omega, rfl⟩ ⟨rfl, rfl, rfl, trivial⟩ rfl 0 rfl (fun _ => rfl) (fun _ => rfl) (fun _ => rfl) ?_
  rintro i ⟨i1, i2⟩
  refine walk ?_
  by_cases hlt : i < xs.length
  · rw [show decide ((i : Int) < xs.length) = true from decide_eq_true (by omega)]
    obtain ⟨x, hxi⟩ : ∃ x, xs[i]? = some x := ⟨_, List.getElem?_eq_getElem hlt⟩
    have hc := hf i x hxi
    obtain ⟨a0, a1, a2, a3, a4, a5, a6, a7, rfl⟩ := hx x (List.mem_of_getElem? hxi)
    have hin : (List.range xs.length).all r = true → r i = true := fun h => List.all_eq_true.1 h i (List.mem_range.2 hlt)
    refine walk ?_
    refine l_step (.indexAddr (k := .i64) (n := i) (es := xs) rfl rfl rfl rfl (.inl ⟨_, rfl⟩) rfl (by omega) (by simpa using hxi) rfl (by decide)) rfl rfl ?_
    refine walk ?_
    refine l_call [] (hc) rfl rfl rfl rfl rfl rfl rfl (by decide) rfl rfl rfl rfl rfl ?_
    refine walk ?_
    cases hr : r i with
    | false =>
      rw [show (List.range xs.length).all r = false by cases hh : (List.range xs.length).all r with | false => rfl | true => rw [hin hh] at hr; simp at hr]
      refine walk ?_
      exact l_end trivial (by decide) rfl rfl rfl rfl rfl
    | true =>
      refine walk ?_
      rw [show IntKind.i64.wrap ((i : Int) + 1) = ((i + 1 : Nat) : Int) by rw [wrapI (by omega) (by omega)]; omega]
      exact ⟨i + 1, by omega, ⟨by omega, by rw [List.range_succ, List.all_append, i2]; simp [hr]⟩, ⟨rfl, rfl, rfl, trivial⟩, rfl, wk_eq rfl⟩
  · have hge : i = xs.length := by omega
    subst hge
    rw [i2, show decide ((xs.length : Int) < xs.length) = false from decide_eq_false (by omega)]
    refine walk ?_
    exact l_end trivial (by decide) rfl rfl rfl rfl rfl

theorem rMayEms_calls {a : List Em} {xs : List D} (z : Bool) (d : Int) (hb : (a.map Em.sz).sum < big) (hd1 : -9223372036854775808 ≤ d) (hd2 : d < 9223372036854775808) (hR : RsOf Em.R a xs) : CallsA (cx B) 38 [.d (.sl z xs), .d (.int .i64 d)] [] (.d (.bool (a.all fun k => k.may d))) [] := by
  have hla := sum_ge (sz := Em.sz) (fun x => by unfold Em.sz; omega) a
  have h := MayEms_L B d z xs (atB (fun k => k.may d) a) (by rw [hR.1]; unfold big at hb; omega) (Em.Rs_sh hR) (fun i x hx => by
    obtain ⟨v, hv, r1⟩ := hR.at hx
    have hm := sum_mem (sz := Em.sz) (List.mem_of_getElem? hv)
    have e : atB (fun k : Em => k.may d) a i = v.may d := by unfold atB; rw [hv]
    rw [e]
    exact rMayEm_calls B v x d (by omega) r1 hd1 hd2)
  rw [hR.1, ← atB_all] at h
  exact h
set_option maxHeartbeats 8000000 in
theorem rEm_calls (x : Em) (xa : D) (d : Int) (hbig : x.sz < big) (hwf : x.wf) (hm : x.may d = true) (hx : x.R xa) : CallsA (cx B) 114 [.d xa] [] (sT x.mar) [] := by
  have hlen := Em.mar_len x
  obtain ⟨z_attrs, l_attrs, rfl, r_attrs⟩ := hx
  unfold Em.may at hm
  simp only [Bool.and_eq_true, decide_eq_true_eq] at hm
  obtain ⟨⟨⟨hd, m_kn⟩, m_attrs⟩, hu⟩ := hm
  obtain ⟨w_attrs, w_time, w_n⟩ := hwf
  have hlen : x.mar.length < big := by omega
  unfold Em.sz at hbig
  unfold Em.mar Em.hb at hlen ⊢
  have c0 : CallsA (cx B) 56 [iT 2, uT x.time] [] (sT (fxV 2 x.time)) [] := PutNum_calls B 2 x.time (by omega) (by omega) w_time
  have c1 : CallsA (cx B) 57 [.d (.bool (x.kind == 1)), sT (e8V 3 x.n)] [] (sT (opV 3 (x.kind == 1) x.n)) [] := if1_calls B _ _
  have e1 := rFixed_calls B 3 x.n (by omega) (by omega) w_n
  have c2 : CallsA (cx B) 143 [iT 4, sT x.span] [] (sT (txV 4 x.span)) [] := PutText_calls B 4 x.span (by omega) (by omega) (by omega)
  have c3 : CallsA (cx B) 143 [iT 5, sT x.trace] [] (sT (txV 5 x.trace)) [] := PutText_calls B 5 x.trace (by omega) (by omega) (by omega)
  have c4 : CallsA (cx B) 57 [.d (.bool (x.kind == 2)), sT (e8V 6 x.n)] [] (sT (opV 6 (x.kind == 2) x.n)) [] := if1_calls B _ _
  have e4 := rFixed_calls B 6 x.n (by omega) (by omega) w_n
  have c5 : CallsA (cx B) 60 [iT 7, .d (.sl z_attrs l_attrs)] [] (sT (psV 7 (Kv.mars x.attrs))) [] := rPutKeys_calls B 7 (by omega) (by omega) x.attrs z_attrs l_attrs (d - 1) (by omega) w_attrs m_attrs r_attrs
  generalize fxV 2 x.time = o0 at *
  generalize opV 3 (x.kind == 1) x.n = o1 at *
  generalize txV 4 x.span = o2 at *
  generalize txV 5 x.trace = o3 at *
  generalize opV 6 (x.kind == 2) x.n = o4 at *
  generalize psV 7 (Kv.mars x.attrs) = o5 at *
  unfold big at hlen
  simp only [List.length_append] at hlen
  refine l_body (X := cx B) (fn := Tryz.f114) Tryz.func114 rfl rfl rfl rfl rfl 0 [] rfl rfl ?_
  refine walk ?_
  refine x_call [] (c0) rfl rfl rfl rfl rfl rfl (by decide) rfl rfl rfl rfl rfl rfl ?_
  refine walk ?_
  refine x_call [] (e1) rfl rfl rfl rfl rfl rfl (by decide) rfl rfl rfl rfl rfl rfl ?_
  refine walk ?_
  refine x_call [] (c1) rfl rfl rfl rfl rfl rfl (by decide) rfl rfl rfl rfl rfl rfl ?_
  refine walk ?_
  refine x_mob (.addStr (a := o0) (b := o1) rfl rfl rfl (by (try simp only [List.length_append]); omega)) rfl rfl rfl ?_
  refine walk ?_
  refine x_call [] (c2) rfl rfl rfl rfl rfl rfl (by decide) rfl rfl rfl rfl rfl rfl ?_
  refine walk ?_
  refine x_mob (.addStr (a := o0 ++ o1) (b := o2) rfl rfl rfl (by (try simp only [List.length_append]); omega)) rfl rfl rfl ?_
  refine walk ?_
  refine x_call [] (c3) rfl rfl rfl rfl rfl rfl (by decide) rfl rfl rfl rfl rfl rfl ?_
  refine walk ?_
  refine x_mob (.addStr (a := o0 ++ o1 ++ o2) (b := o3) rfl rfl rfl (by (try simp only [List.length_append]); omega)) rfl rfl rfl ?_
  refine walk ?_
  refine x_call [] (e4) rfl rfl rfl rfl rfl rfl (by decide) rfl rfl rfl rfl rfl rfl ?_
  refine walk ?_
  refine x_call [] (c4) rfl rfl rfl rfl rfl rfl (by decide) rfl rfl rfl rfl rfl rfl ?_
  refine walk ?_
  refine x_mob (.addStr (a := o0 ++ o1 ++ o2 ++ o3) (b := o4) rfl rfl rfl (by (try simp only [List.length_append]); omega)) rfl rfl rfl ?_
  refine walk ?_
  refine x_call [] (c5) rfl rfl rfl rfl rfl rfl (by decide) rfl rfl rfl rfl rfl rfl ?_
  refine walk ?_
  refine x_mob (.addStr (a := o0 ++ o1 ++ o2 ++ o3 ++ o4) (b := o5) rfl rfl rfl (by (try simp only [List.length_append]); omega)) rfl rfl rfl ?_
  refine walk ?_
  refine x_mob (.addStr (a := o0 ++ o1 ++ o2 ++ o3 ++ o4 ++ o5) (b := x.u) rfl rfl rfl (by (try simp only [List.length_append]); omega)) rfl rfl rfl ?_
  refine walk ?_
  exact l_end trivial (by decide) rfl rfl rfl rfl rfl
theorem PutEms_L (n : Nat) (h1 : 1 ≤ n) (h2 : n ≤ 536870911) (z : Bool) (xs : List D) (ms : List (List UInt8)) (hl : ms.length = xs.length) (hx : ∀ x ∈ xs, EmSh x) (hb : (psV n ms).length < big) (hf : ∀ (i : Nat) x s, xs[i]? = some x → ms[i]? = some s → CallsA (cx B) 114 [.d x] [] (sT s) []) :
    CallsA (cx B) 59 [iT n, .d (.sl z xs)] [] (sT (psV n ms)) [] := by
  have hxl := psV_num n ms
  unfold big at hb
  refine l_body (X := cx B) (fn := Tryz.f59) Tryz.func59 rfl rfl rfl rfl rfl 0 [] rfl rfl ?_
  refine walk ?_
  refine l_loop (fun i : Nat => xs.length - i) (fun i => [(0, iT n), (1, .d (.sl z xs)), (5, sT (psV n (ms.take i))), (6, iT i)]) (fun _ => []) (fun i => i ≤ xs.length) 0 (by omega) ⟨rfl, rfl, rfl, rfl, trivial⟩ rfl 0 rfl (fun _ => rfl) (fun _ => rfl) (fun _ => rfl) ?_
  intro i i1
  refine walk ?_
  by_cases hlt : i < xs.length
  · rw [show decide ((i : Int) < xs.length) = true from decide_eq_true (by omega)]
    obtain ⟨x, hxi⟩ : ∃ x, xs[i]? = some x := ⟨_, List.getElem?_eq_getElem hlt⟩
    obtain ⟨s, hsi⟩ : ∃ s, ms[i]? = some s := ⟨_, List.getElem?_eq_getElem (by omega)⟩
    have hc := hf i x s hxi hsi
    obtain ⟨e1, e2, e3⟩ := psV_step n hsi
    obtain ⟨a0, a1, a2, a3, a4, a5, a6, a7, rfl⟩ := hx x (List.mem_of_getElem? hxi)
    have hB := rBytes_calls B n s h1 h2 (by unfold big; omega)
    refine walk ?_
    refine l_step (.indexAddr (k := .i64) (n := i) (es := xs) rfl rfl rfl rfl (.inl ⟨_, rfl⟩) rfl (by omega) (by simpa using hxi) rfl (by decide)) rfl rfl ?_
    refine walk ?_
    refine l_call [] (hc) rfl rfl rfl rfl rfl rfl rfl (by decide) rfl rfl rfl rfl rfl ?_
    refine walk ?_
    refine l_call [] (hB) rfl rfl rfl rfl rfl rfl rfl (by decide) rfl rfl rfl rfl rfl ?_
    refine walk ?_
    refine l_step (.addStr (a := psV n (ms.take i)) (b := tagV n 2 ++ (putV s.length ++ s)) rfl rfl rfl (by omega)) rfl rfl ?_
    rw [e1]
    refine walk ?_
    rw [show IntKind.i64.wrap ((i : Int) + 1) = ((i + 1 : Nat) : Int) by rw [wrapI (by omega) (by omega)]; omega]
    exact ⟨i + 1, by omega, by omega, ⟨rfl, rfl, rfl, rfl, trivial⟩, rfl, wk_eq rfl⟩
  · rw [show decide ((i : Int) < xs.length) = false from decide_eq_false (by omega), List.take_of_length_le (by omega)]
    refine walk ?_
    exact l_end trivial (by decide) rfl rfl rfl rfl rfl

theorem rPutEms_calls {a : List Em} {xs : List D} (n : Nat) (h1 : 1 ≤ n) (h2 : n ≤ 536870911) (z : Bool) (d : Int) (hb : (a.map Em.sz).sum < big) (hw : ∀ k ∈ a, k.wf) (hm : (a.all fun k => k.may d) = true) (hR : RsOf Em.R a xs) : CallsA (cx B) 59 [iT n, .d (.sl z xs)] [] (sT (psV n (a.map Em.mar))) [] := by
  have hpl := psV_sum (sz := Em.sz) (mar := Em.mar) n a fun y _ => Em.mar_len y
  refine PutEms_L B n h1 h2 z xs (a.map Em.mar) (by rw [List.length_map, hR.1]) (Em.Rs_sh hR) (by omega) fun i x s hx hs => ?_
  obtain ⟨v, hv, r⟩ := hR.at hx
  rw [List.getElem?_map, hv] at hs
  injection hs with hs; subst hs
  have hmem := List.mem_of_getElem? hv
  have := sum_mem (sz := Em.sz) hmem
  exact rEm_calls B v x d (by omega) (hw v hmem) (List.all_eq_true.1 hm v hmem) r
end Go.Proofs.YthogjpjcidfoaaaGreatDoor
