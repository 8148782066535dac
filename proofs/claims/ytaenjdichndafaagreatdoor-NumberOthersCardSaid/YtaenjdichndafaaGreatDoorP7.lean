/- Values and attributes: what is written is read; less deep it is none; what is read may be. -/
import Derived.Test.YtaenjdichndafaaGreatDoorP6
set_option linter.unusedSimpArgs false
set_option linter.unusedVariables false
set_option maxRecDepth 100000
namespace Go.Proofs.YtaenjdichndafaaGreatDoor
open Go Go.Abs
section
variable {β : Type} {tb : Nat → Nat → Bool} {tell : Int → List Fld → Option β} {hb u : List UInt8} {h : List Fld} {d e : Int}
theorem okG_mar (hd : 0 ≤ d) (h1 : all hb d = .ok h) (h2 : inT tb h = true) (hu : restB tb u d = true) : okG tb tell (hb ++ u) d = (tell d h).map fun b => (b, u) := by
  obtain ⟨lu, k1, k2, k3⟩ := mayU_okL (tb := tb) (u := u) (d := d) (by unfold mayU; rw [hu, decide_eq_true (show d ≥ 0 from hd)]; rfl)
  unfold okG
  rw [okL_app (okL_mk hd h1) k1]
  simp only
  rw [knownL_app, (known_in h2).1, k2, List.append_nil, unkL_app, (known_in h2).2, k3]
  cases tell d h <;> rfl
theorem okG_mar_bad (h1 : all hb e = .ok h) (hde : e ≤ d) (hu : restB tb u d = true) (hn : 0 ≤ e → restB tb u e = false) : okG tb tell (hb ++ u) e = none := by
  rcases Int.lt_or_le e 0 with he | he
  · exact okG_neg he
  · have hn := hn he
    unfold okG okL
    rw [if_neg (by omega)]
    cases ha : all u e with
    | error x => rw [all_app_err h1 ha]
    | ok l =>
      have := all_deep hde ha
      unfold restB at hu hn
      rw [this] at hu; rw [ha] at hn
      rw [hu] at hn; simp at hn
theorem okG_inv {s : List UInt8} {p : β × List UInt8} (hp : okG tb tell s d = some p) : ∃ l, okL s d = some l ∧ tell d (knownL tb l) = some p.1 ∧ p.2 = unkL tb l ∧ restB tb p.2 d = true ∧ 0 ≤ d ∧ (∀ x ∈ knownL tb l, FOk x) ∧ wt (knownL tb l) + p.2.length ≤ s.length := by
  unfold okG at hp
  cases ho : okL s d with
  | none => rw [ho] at hp; simp at hp
  | some l =>
    rw [ho] at hp
    simp only at hp
    obtain ⟨-, -, h1, hd⟩ := okL_some ho
    obtain ⟨w1, w2⟩ := okL_wt ho
    cases ht : tell d (knownL tb l) with
    | none => rw [ht] at hp; simp at hp
    | some b =>
      rw [ht] at hp
      simp only [Option.some.injEq] at hp
      subst hp
      have key : ∀ l : List Fld, wt (knownL tb l) + (unkL tb l).length = wt l := by
        intro l
        induction l with
        | nil => rfl
        | cons x l ih =>
          have hc : wt (x :: l) = x.raw.length + wt l := by simp [wt]
          have e1 : knownL tb (x :: l) = if isT tb x then x :: knownL tb l else knownL tb l := by unfold knownL; rw [List.filter_cons]
          have e2 : unkL tb (x :: l) = if isT tb x then unkL tb l else x.raw ++ unkL tb l := by unfold unkL; rw [List.filter_cons]; cases isT tb x <;> rfl
          rw [e1, e2, hc]
          cases isT tb x with
          | true => simp only [if_true]; have : wt (x :: knownL tb l) = x.raw.length + wt (knownL tb l) := by simp [wt]
                    omega
          | false => simp only [Bool.false_eq_true, if_false, List.length_append]; omega
      have := key l
      exact ⟨l, rfl, ht, rfl, unk_rest tb h1, hd, fun x hx => w2 x (List.mem_filter.1 hx).1, by show wt (knownL tb l) + (unkL tb l).length ≤ _; omega⟩
end
theorem apO_some {α : Type} {p : Option ((List UInt8 → α) × List UInt8)} {v : α} (h : apO p = some v) : ∃ f u, p = some (f, u) ∧ v = f u := by
  unfold apO at h
  cases p with
  | none => simp at h
  | some q => simp at h; exact ⟨q.1, q.2, rfl, h.symm⟩
/-! Values of one record. -/
theorem V_simple {hb u : List UInt8} {h : List Fld} {f : List UInt8 → Vl} (h1 : ∀ d, all hb d = .ok h) (h2 : inT tbV h = true) (ht : ∀ oe ok d, tellV oe ok d h = some f) {d : Int} (hd : 0 ≤ d) (hu : restB tbV u d = true) :
    okV (hb ++ u) d = some (f u) ∧ ∀ e, e ≤ d → (0 ≤ e → restB tbV u e = false) → okV (hb ++ u) e = none := by
  refine ⟨?_, fun e he hn => ?_⟩
  · rw [okV_eq, okG_mar hd (h1 d) h2 hu, ht]; rfl
  · rw [okV_eq, okG_mar_bad (h1 e) he hu hn]; rfl
theorem tellV_1 (k : Nat) (hk : k = 1 ∨ k = 7) (s : List UInt8) (hs : k = 1 → txt s = true) (oe : List UInt8 → Option Vl) (ok : List UInt8 → Option Kv) (d : Int) : tellV oe ok d [paR k s] = some fun u => .mk k s false 0 [] [] [] u := by
  rcases hk with rfl | rfl
  · unfold tellV
    rw [if_neg (by simp [sel_cons, sel_nil, paR, hs rfl])]; rfl
  · rfl
theorem tellV_2 (b : Bool) (oe : List UInt8 → Option Vl) (ok : List UInt8 → Option Kv) (d : Int) : tellV oe ok d [fewR 2 (if b then 1 else 0)] = some fun u => .mk 2 [] b 0 [] [] [] u := by cases b <;> rfl
theorem tellV_3 (n : Nat) (oe : List UInt8 → Option Vl) (ok : List UInt8 → Option Kv) (d : Int) : tellV oe ok d [fewR 3 n] = some fun u => .mk 3 [] false n [] [] [] u := rfl
theorem tellV_4 (n : Nat) (oe : List UInt8 → Option Vl) (ok : List UInt8 → Option Kv) (d : Int) : tellV oe ok d [e8R 4 n] = some fun u => .mk 4 [] false n [] [] [] u := rfl
theorem tellV_5 (c : List UInt8) (oe : List UInt8 → Option Vl) (ok : List UInt8 → Option Kv) (d : Int) : tellV oe ok d [paR 5 c] = (match okG tbL (fun _ l => partsO oe 1 l) c (d - 1) with | none => none | some p => some fun u => .mk 5 [] false 0 p.1 [] p.2 u) := by
  have h : tellV oe ok d [paR 5 c] = (match okG tbL (fun _ l => partsO oe 1 l) [c].flatten (d - 1) with | none => none | some p => some fun u => .mk 5 [] false 0 p.1 [] p.2 u) := rfl
  rw [h]; simp
theorem tellV_6 (c : List UInt8) (oe : List UInt8 → Option Vl) (ok : List UInt8 → Option Kv) (d : Int) : tellV oe ok d [paR 6 c] = (match okG tbL (fun _ l => partsO ok 1 l) c (d - 1) with | none => none | some p => some fun u => .mk 6 [] false 0 [] p.1 p.2 u) := by
  have h : tellV oe ok d [paR 6 c] = (match okG tbL (fun _ l => partsO ok 1 l) [c].flatten (d - 1) with | none => none | some p => some fun u => .mk 6 [] false 0 [] p.1 p.2 u) := rfl
  rw [h]; simp
/-- A list's message. -/
theorem list_back {α : Type} {ok : List UInt8 → Option α} {mar : α → List UInt8} {l : List α} {inner : List UInt8} {d : Int} (hl : ∀ x ∈ l, (mar x).length < 2 ^ 64) (hd : 0 ≤ d) (hi : restB tbL inner d = true) (h : ∀ x ∈ l, ok (mar x) = some x) :
    okG tbL (fun _ l => partsO ok 1 l) (psV 1 (l.map mar) ++ inner) d = some (l, inner) := by
  rw [okG_mar hd (all_ps (by omega) (by omega) d (by simpa using hl)) (in_ps 1 _ rfl) hi]
  rw [show partsO ok 1 (psF 1 (l.map mar)) = some l by rw [tell_ps]; exact mapO_id h]; rfl
theorem list_less {α : Type} {ok : List UInt8 → Option α} {mar : α → List UInt8} {l : List α} {inner : List UInt8} {d e : Int} (hl : ∀ x ∈ l, (mar x).length < 2 ^ 64) (hde : e ≤ d) (hi : restB tbL inner d = true) (h : 0 ≤ e → restB tbL inner e = true → ∃ x ∈ l, ok (mar x) = none) :
    okG tbL (fun _ l => partsO ok 1 l) (psV 1 (l.map mar) ++ inner) e = none := by
  rcases Int.lt_or_le e 0 with he | he
  · exact okG_neg he
  · cases hr : restB tbL inner e with
    | false => exact okG_mar_bad (all_ps (by omega) (by omega) e (by simpa using hl)) hde hi fun _ => hr
    | true =>
      obtain ⟨x, h1, h2⟩ := h he hr
      rw [okG_mar he (all_ps (by omega) (by omega) e (by simpa using hl)) (in_ps 1 _ rfl) hr]
      rw [show partsO ok 1 (psF 1 (l.map mar)) = none by rw [tell_ps]; exact mapO_none (List.mem_map.2 ⟨x, h1, rfl⟩) h2]; rfl
theorem all_false {α : Type} {p : α → Bool} {l : List α} (h : (l.all p) = false) : ∃ x ∈ l, p x = false := by
  induction l with
  | nil => simp at h
  | cons x l ih =>
    rw [List.all_cons] at h
    cases hx : p x with
    | false => exact ⟨x, List.mem_cons_self .., hx⟩
    | true =>
      rw [hx] at h
      obtain ⟨y, h1, h2⟩ := ih (by simpa using h)
      exact ⟨y, List.mem_cons_of_mem _ h1, h2⟩
theorem nest_eq {ll : List Vl} {lm : List Kv} {inner : List UInt8} (h : nestB ll.length lm.length inner = true) : ll = [] ∧ lm = [] ∧ inner = [] := by
  unfold nestB at h; simp at h; exact ⟨h.1.1, h.1.2, h.2⟩
theorem val_back (k : Nat) : ∀ d : Int, d < k →
    (∀ v : Vl, v.sz < big → v.wf → v.may d = true → okV v.mar d = some v ∧ ∀ e, e ≤ d → v.may e = false → okV v.mar e = none) ∧
    (∀ v : Kv, v.sz < big → v.wf → v.may d = true → okK v.mar d = some v ∧ ∀ e, e ≤ d → v.may e = false → okK v.mar e = none) := by
  induction k with
  | zero =>
    intro d hd
    constructor
    · rintro ⟨kind, s, b, n, l, m, inner, u⟩ _ _ h
      unfold Vl.may at h; rw [decide_eq_false (by omega)] at h; simp at h
    · rintro ⟨key, has, v, u⟩ _ _ h
      unfold Kv.may at h; rw [decide_eq_false (by omega)] at h; simp at h
  | succ k ih =>
    intro d hdk
    constructor
    · rintro ⟨kind, s, b, n, l, m, inner, u⟩ hsz hwf hmay
      unfold Vl.may at hmay
      simp only [Bool.and_eq_true, decide_eq_true_eq] at hmay
      obtain ⟨⟨⟨hd, hbare⟩, hu⟩, hif⟩ := hmay
      unfold Vl.wf at hwf
      obtain ⟨-, -, hn, hwl, hwm⟩ := hwf
      unfold Vl.sz big at hsz
      -- where nothing is nested
      have simple : ∀ {hb : List UInt8} {h : List Fld}, ¬ (kind = 5 ∨ kind = 6) → Vl.mar (.mk kind s b n l m inner u) = hb ++ u → (∀ d, all hb d = .ok h) → inT tbV h = true → (∀ oe ok d, tellV oe ok d h = some fun u => .mk kind s b n l m inner u) →
          okV (Vl.mar (.mk kind s b n l m inner u)) d = some (.mk kind s b n l m inner u) ∧ ∀ e, e ≤ d → Vl.may (.mk kind s b n l m inner u) e = false → okV (Vl.mar (.mk kind s b n l m inner u)) e = none := by
        intro hb h hk hm h1 h2 ht
        rw [hm]
        obtain ⟨a, c⟩ := V_simple h1 h2 ht hd hu
        refine ⟨a, fun e he hn => c e he fun h0 => ?_⟩
        unfold Vl.may at hn
        rw [if_neg hk, decide_eq_true h0, hbare] at hn
        simpa using hn
      have hs64 : s.length < 2 ^ 64 := by omega
      unfold bareV at hbare
      split at hbare
      · rename_i hk; subst hk
        simp only [Bool.and_eq_true, beq_iff_eq, Bool.not_eq_true'] at hbare
        obtain ⟨ht, ⟨rfl, rfl⟩, h4⟩ := hbare
        obtain ⟨rfl, rfl, rfl⟩ := nest_eq h4
        exact simple (by omega) rfl (fun d => all_pa (by omega) (by omega) d hs64) (in_pa 1 s rfl) (fun oe ok d => tellV_1 1 (.inl rfl) s (fun _ => ht) oe ok d)
      split at hbare
      · rename_i hk; subst hk
        simp only [Bool.and_eq_true, beq_iff_eq, Bool.not_eq_true'] at hbare
        obtain ⟨⟨rfl, rfl⟩, h4⟩ := hbare
        obtain ⟨rfl, rfl, rfl⟩ := nest_eq h4
        exact simple (by omega) rfl (fun d => all_pa (by omega) (by omega) d hs64) (in_pa 7 s rfl) (fun oe ok d => tellV_1 7 (.inr rfl) s (by omega) oe ok d)
      split at hbare
      · rename_i hk; subst hk
        simp only [Bool.and_eq_true, beq_iff_eq] at hbare
        obtain ⟨⟨rfl, rfl⟩, h4⟩ := hbare
        obtain ⟨rfl, rfl, rfl⟩ := nest_eq h4
        exact simple (by omega) rfl (fun d => all_few (by omega) (by omega) d (by split <;> omega)) (in_few 2 _ rfl) (fun oe ok d => tellV_2 b oe ok d)
      split at hbare
      · rename_i hk
        simp only [Bool.and_eq_true, beq_iff_eq, Bool.not_eq_true'] at hbare
        obtain ⟨⟨rfl, rfl⟩, h4⟩ := hbare
        obtain ⟨rfl, rfl, rfl⟩ := nest_eq h4
        rcases hk with rfl | rfl
        · exact simple (by omega) rfl (fun d => all_few (by omega) (by omega) d hn) (in_few 3 _ rfl) (fun oe ok d => tellV_3 n oe ok d)
        · exact simple (by omega) rfl (fun d => all_e8 (by omega) (by omega) d hn) (in_e8 4 _ rfl) (fun oe ok d => tellV_4 n oe ok d)
      split at hbare
      · rename_i hk; subst hk
        simp only [Bool.and_eq_true, beq_iff_eq, Bool.not_eq_true'] at hbare
        obtain ⟨⟨⟨rfl, rfl⟩, rfl⟩, h4⟩ := hbare
        obtain ⟨rfl, rfl, rfl⟩ := nest_eq h4
        exact simple (by omega) rfl (fun d => all_nil d) rfl (fun oe ok d => rfl)
      split at hbare
      · rename_i hk; subst hk
        simp only [Bool.and_eq_true, beq_iff_eq, Bool.not_eq_true', List.length_eq_zero_iff] at hbare
        obtain ⟨⟨⟨rfl, rfl⟩, rfl⟩, rfl⟩ := hbare
        rw [if_pos (.inl rfl)] at hif
        simp only [Bool.and_eq_true, decide_eq_true_eq] at hif
        obtain ⟨⟨⟨hd1, hin⟩, hml⟩, -⟩ := hif
        rw [Vl.mays_all] at hml
        have hml := List.all_eq_true.1 hml
        have hc := Vl.mars_len l
        have hmar : Vl.mar (.mk 5 [] false 0 l [] inner u) = paV 5 (psV 1 (l.map Vl.mar) ++ inner) ++ u := by rw [← Vl.mars_map]; rfl
        have hsm : ∀ x ∈ l, x.sz < big := fun x hx => by have := Vl.sz_mem hx; unfold big; omega
        have hlm : ∀ x ∈ l, x.mar.length < 2 ^ 64 := fun x hx => by have := Vl.mar_len x; have := hsm x hx; unfold big at this; omega
        have hlc : (psV 1 (l.map Vl.mar) ++ inner).length < 2 ^ 64 := by rw [← Vl.mars_map]; simp; omega
        rw [hmar]
        constructor
        · rw [okV_eq, okG_mar hd (all_pa (by omega) (by omega) d hlc) (in_pa 5 _ rfl) hu, tellV_5, list_back (ok := fun s => okV s (d - 2)) hlm (by omega) hin fun x hx => (((ih (d - 2) (by omega)).1 x (hsm x hx) (Vl.wf_mem hwl x hx) (hml x hx)).1)]
          rfl
        · intro e he hn
          rw [okV_eq]
          cases hr : restB tbV u e with
          | false => rw [okG_mar_bad (all_pa (by omega) (by omega) e hlc) he hu fun _ => hr]; rfl
          | true =>
            rcases Int.lt_or_le e 0 with h0 | h0
            · rw [okG_neg h0]; rfl
            · rw [okG_mar h0 (all_pa (by omega) (by omega) e hlc) (in_pa 5 _ rfl) hr, tellV_5, list_less (ok := fun s => okV s (e - 2)) hlm (by omega) hin fun h1 h2 => ?_]
              · rfl
              · unfold Vl.may at hn
                rw [if_pos (.inl rfl), decide_eq_true h0, hr, decide_eq_true (show 1 ≤ e by omega), h2, Vl.mays_all] at hn
                have hb : bareV 5 [] false 0 l.length ([] : List Kv).length inner = true := rfl
                rw [hb] at hn
                simp only [Bool.true_and, Kv.mays, Bool.and_true] at hn
                obtain ⟨x, g1, g2⟩ := all_false hn
                exact ⟨x, g1, ((ih (d - 2) (by omega)).1 x (hsm x g1) (Vl.wf_mem hwl x g1) (hml x g1)).2 (e - 2) (by omega) g2⟩
      split at hbare
      · rename_i hk; subst hk
        simp only [Bool.and_eq_true, beq_iff_eq, Bool.not_eq_true', List.length_eq_zero_iff] at hbare
        obtain ⟨⟨⟨rfl, rfl⟩, rfl⟩, rfl⟩ := hbare
        rw [if_pos (.inr rfl)] at hif
        simp only [Bool.and_eq_true, decide_eq_true_eq] at hif
        obtain ⟨⟨⟨hd1, hin⟩, -⟩, hml⟩ := hif
        rw [Kv.mays_all] at hml
        have hml := List.all_eq_true.1 hml
        have hc := Kv.mars_len m
        have hmar : Vl.mar (.mk 6 [] false 0 [] m inner u) = paV 6 (psV 1 (m.map Kv.mar) ++ inner) ++ u := by rw [← Kv.mars_map]; rfl
        have hsm : ∀ x ∈ m, x.sz < big := fun x hx => by have := Kv.sz_mem hx; unfold big; omega
        have hlm : ∀ x ∈ m, x.mar.length < 2 ^ 64 := fun x hx => by have := Kv.mar_len x; have := hsm x hx; unfold big at this; omega
        have hlc : (psV 1 (m.map Kv.mar) ++ inner).length < 2 ^ 64 := by rw [← Kv.mars_map]; simp; omega
        rw [hmar]
        constructor
        · rw [okV_eq, okG_mar hd (all_pa (by omega) (by omega) d hlc) (in_pa 6 _ rfl) hu, tellV_6, list_back (ok := fun s => okK s (d - 2)) hlm (by omega) hin fun x hx => (((ih (d - 2) (by omega)).2 x (hsm x hx) (Kv.wf_mem hwm x hx) (hml x hx)).1)]
          rfl
        · intro e he hn
          rw [okV_eq]
          cases hr : restB tbV u e with
          | false => rw [okG_mar_bad (all_pa (by omega) (by omega) e hlc) he hu fun _ => hr]; rfl
          | true =>
            rcases Int.lt_or_le e 0 with h0 | h0
            · rw [okG_neg h0]; rfl
            · rw [okG_mar h0 (all_pa (by omega) (by omega) e hlc) (in_pa 6 _ rfl) hr, tellV_6, list_less (ok := fun s => okK s (e - 2)) hlm (by omega) hin fun h1 h2 => ?_]
              · rfl
              · unfold Vl.may at hn
                rw [if_pos (.inr rfl), decide_eq_true h0, hr, decide_eq_true (show 1 ≤ e by omega), h2, Kv.mays_all] at hn
                have hb : bareV 6 [] false 0 ([] : List Vl).length m.length inner = true := rfl
                rw [hb] at hn
                simp only [Bool.true_and, Vl.mays] at hn
                obtain ⟨x, g1, g2⟩ := all_false hn
                exact ⟨x, g1, ((ih (d - 2) (by omega)).2 x (hsm x g1) (Kv.wf_mem hwm x g1) (hml x g1)).2 (e - 2) (by omega) g2⟩
      · simp at hbare
    · rintro ⟨key, has, v, u⟩ hsz hwf hmay
      unfold Kv.may at hmay
      simp only [Bool.and_eq_true, decide_eq_true_eq] at hmay
      obtain ⟨⟨⟨hd, htx⟩, hu⟩, hif⟩ := hmay
      unfold Kv.wf at hwf
      unfold Kv.sz big at hsz
      have hml := Vl.mar_len v
      have hk64 : key.length < 2 ^ 64 := by omega
      have hall : ∀ d, all (txV 1 key ++ (if has then paV 2 v.mar else [])) d = .ok (txF 1 key ++ (if has then paF 2 v.mar else [])) := fun d => by
        refine all_app_ok (all_tx (by omega) (by omega) d hk64) ?_
        cases has with
        | false => exact all_nil d
        | true => exact all_pa (by omega) (by omega) d (by omega)
      have hin : inT tbK (txF 1 key ++ (if has then paF 2 v.mar else [])) = true := by
        rw [inT_app, in_tx 1 key rfl]
        cases has with
        | false => rfl
        | true => exact in_pa 2 _ rfl
      have hmar : Kv.mar (.mk key has v u) = (txV 1 key ++ (if has then paV 2 v.mar else [])) ++ u := rfl
      have htell : ∀ ov d, tellK ov d (txF 1 key ++ (if has then paF 2 v.mar else [])) = (match (if has then (match ov v.mar with | none => none | some x => some (true, x)) else some (false, noVl)) with | none => none | some p => some fun u => .mk key p.1 p.2 u) := by
        intro ov d
        have e1 : sel 1 (txF 1 key ++ (if has then paF 2 v.mar else [])) = txF 1 key := by
          rw [sel_app, sel_tx, if_pos rfl]
          cases has with
          | false => simp [sel_nil]
          | true => simp [sel_pa]
        have e2 : sel 2 (txF 1 key ++ (if has then paF 2 v.mar else [])) = if has then paF 2 v.mar else [] := by
          rw [sel_app, sel_tx, if_neg (by omega)]
          cases has with
          | false => simp [sel_nil]
          | true => simp [sel_pa]
        have e3 : ((txF 1 key).all fun x => txt x.s) = true := by
          unfold txF; split
          · rfl
          · simp [paR, htx]
        unfold tellK partO
        rw [e1, if_neg (by rw [e3]; simp), anyL_sel, bytesL_sel, e2, ← sel_last 1, e1, tell_tx]
        cases has with
        | false => rfl
        | true =>
          simp only [paF, paR, if_true, List.isEmpty_cons, Bool.not_false, List.flatMap_cons, List.flatMap_nil, List.append_nil]
          cases ov v.mar <;> rfl
      rw [hmar]
      constructor
      · rw [okK_eq, okG_mar hd (hall d) hin hu, htell]
        cases has with
        | false =>
          have := Vl.isNo_eq (by simpa using hif)
          subst this; rfl
        | true =>
          have := ((ih (d - 1) (by omega)).1 v (by unfold big; omega) hwf (by simpa using hif)).1
          simp only [if_true, this]; rfl
      · intro e he hn
        rw [okK_eq]
        cases hr : restB tbK u e with
        | false => rw [okG_mar_bad (hall e) he hu fun _ => hr]; rfl
        | true =>
          rcases Int.lt_or_le e 0 with h0 | h0
          · rw [okG_neg h0]; rfl
          · rw [okG_mar h0 (hall e) hin hr, htell]
            unfold Kv.may at hn
            rw [decide_eq_true h0, htx, hr] at hn
            simp only [Bool.true_and] at hn
            cases has with
            | false =>
              simp only [Bool.false_eq_true, if_false] at hn hif
              rw [hif] at hn; simp at hn
            | true =>
              simp only [if_true] at hn hif
              have := ((ih (d - 1) (by omega)).1 v (by unfold big; omega) hwf hif).2 (e - 1) (by omega) hn
              simp only [if_true, this]; rfl
end Go.Proofs.YtaenjdichndafaaGreatDoor
