/- Values and attributes read: at any depth. -/
import Derived.Test.YtaenjdichndafaaGreatDoorW5
set_option linter.unusedSimpArgs false
set_option linter.unusedVariables false
set_option maxRecDepth 100000
namespace Go.Proofs.YtaenjdichndafaaGreatDoor
open Go Go.Abs
variable (B : Fr)
/-- What the one that counts tells of a value. -/
def tellO (oe : List UInt8 → Option Vl) (ok : List UInt8 → Option Kv) (d : Int) (o : OneS) : Option (List UInt8 → Vl) :=
  if o.num = 1 ∨ o.num = 7 then some fun u => .mk o.num o.s false 0 [] [] [] u
  else if o.num = 2 then some fun u => .mk 2 [] (decide (0 < o.n)) 0 [] [] [] u
  else if o.num = 3 ∨ o.num = 4 then some fun u => .mk o.num [] false o.n [] [] [] u
  else if o.num = 5 then (match okG tbL (fun _ l => partsO oe 1 l) o.all.flatten (d - 1) with
    | none => none
    | some p => some fun u => .mk 5 [] false 0 p.1 [] p.2 u)
  else if o.num = 6 then (match okG tbL (fun _ l => partsO ok 1 l) o.all.flatten (d - 1) with
    | none => none
    | some p => some fun u => .mk 6 [] false 0 [] p.1 p.2 u)
  else some fun u => .mk 0 [] false 0 [] [] [] u
theorem okV_rd (s : List UInt8) (d : Int) : okV s d = (match readE s d, textO 1 (knB tbV s d) with
    | none, some _ => (tellO (fun s => okV s (d - 2)) (fun s => okK s (d - 2)) d (oneF [1, 2, 3, 4, 5, 6, 7] (knB tbV s d))).map fun f => f (unB tbV s d)
    | _, _ => none) := by
  rw [okV_eq, okG_rd]
  have ht : ∀ oe ok l, tellV oe ok d l = (match textO 1 l with | some _ => tellO oe ok d (oneF [1, 2, 3, 4, 5, 6, 7] l) | none => none) := by
    intro oe ok l
    unfold tellV textO
    cases ((sel 1 l).all fun x => txt x.s) <;> rfl
  cases readE s d with
  | some e => rfl
  | none =>
    simp only
    rw [ht]
    cases textO 1 (knB tbV s d) with
    | none => rfl
    | some t =>
      simp only
      cases tellO (fun s => okV s (d - 2)) (fun s => okK s (d - 2)) d (oneF [1, 2, 3, 4, 5, 6, 7] (knB tbV s d)) <;> rfl
theorem okK_rd (s : List UInt8) (d : Int) : okK s d = (match readE s d, textO 1 (knB tbK s d), partO (fun s => okV s (d - 1)) noVl 2 (knB tbK s d) with
    | none, some t, some p => some (.mk t p.1 p.2 (unB tbK s d))
    | _, _, _ => none) := by
  rw [okK_eq, okG_rd]
  cases readE s d with
  | some e => rfl
  | none =>
    simp only
    unfold tellK textO
    cases ((sel 1 (knB tbK s d)).all fun x => txt x.s) with
    | false => rfl
    | true =>
      simp only [Bool.true_eq_false, if_false, if_true]
      cases partO (fun s => okV s (d - 1)) noVl 2 (knB tbK s d) <;> rfl
theorem UnmarshalKey_step (hB : BOk B) (s : List UInt8) (d : Int) (hl : s.length < big) (hd1 : -9223372036854775808 ≤ d) (hd2 : d < 9223372036854775808)
    (hV : 0 ≤ d → ∀ s', s'.length < big → RdAt B 84 [] VaS.d Vl.sh (okV s' (d - 1)) s' (d - 1)) : RdAt B 40 [] KVs.d Kv.sh (okK s d) s d := by
  have h1 := Read_calls B hB 81 tbK (tbK_calls B) s d hl hd1 hd2
  have hk : LOk (knB tbK s d) := known_lok tbK s d hl
  obtain ⟨t, e1, c1, t1, -⟩ := rText_tells B hB (readE s d) (unB tbK s d) d s.length (knB tbK s d) 1 hk
  obtain ⟨p, e2, c2, t2⟩ := Part_VaS_tells B hB (fun s => okV s (d - 1)) Vl.sh noVl rfl 84 [] e1 (unB tbK s d) d s.length (knB tbK s d) 2 hk (fun h => by have := kn_pos h; omega) hd2
    (fun h => hV (kn_pos h) _ (bytes_big hk 2))
  have hein : ∀ x, e2 = some x → EIn s.length x := t2.ein (t1.ein fun x hx => readE_err hx)
  rw [okK_rd]
  obtain ⟨ph, pv⟩ := p
  have main : CallsA (cx B) 40 [sT s, .d (.int .i64 d)] [] (.tup [.d (match e2 with | none => (⟨t, ph, pv.kind, pv.s, pv.b, pv.n, pv.l, pv.m, pv.inner, pv.u, unB tbK s d⟩ : KVs) | some _ => noKV).d, .d (eD e2)]) [] := by
    clear hein t1 t2
    dsimp only at c2
    refine l_body (X := cx B) (fn := Tryz.f40) Tryz.func40 rfl rfl rfl rfl rfl 0 [] rfl rfl ?_
    refine walk ?_
    refine l_call [] (h1) rfl rfl rfl rfl rfl rfl rfl (by decide) rfl rfl rfl rfl rfl ?_
    refine walk ?_
    refine x_tail (i0 := 7) (z := 8) (t0 := 7) rfl (by decide) rfl rfl rfl rfl rfl rfl rfl rfl rfl rfl ?_
    refine walk ?_
    refine x_call [1] (c1) rfl rfl rfl rfl rfl rfl (by decide) rfl rfl rfl rfl rfl rfl ?_
    refine walk ?_
    refine l_call [1] (c2) rfl rfl rfl rfl rfl rfl rfl (by decide) rfl rfl rfl rfl rfl ?_
    refine walk ?_
    cases e2 with
    | none =>
      refine walk ?_
      exact l_end trivial (by decide) rfl rfl rfl rfl rfl
    | some er =>
      cases er <;> (
      refine walk ?_
      exact l_end trivial (by decide) rfl rfl rfl rfl rfl)
  cases e2 with
  | none =>
    obtain ⟨rfl, a, g2, g3⟩ := t2.ok
    obtain ⟨g4, b, g5, rfl⟩ := t1.ok
    rw [g4, g5, g2]
    obtain ⟨ah, ⟨kind, vs, vb, vn, vl, vm, vi, vu⟩⟩ := a
    injection g3 with g6 g7
    subst g6; subst g7
    exact main
  | some er =>
    have hno : (match readE s d, textO 1 (knB tbK s d), partO (fun s => okV s (d - 1)) noVl 2 (knB tbK s d) with
      | none, some t, some p => some (Kv.mk t p.1 p.2 (unB tbK s d))
      | _, _, _ => none) = none := by
      cases hr : readE s d with
      | some x => rfl
      | none =>
        cases hx : textO 1 (knB tbK s d) with
        | none => rfl
        | some b =>
          cases hp : partO (fun s => okV s (d - 1)) noVl 2 (knB tbK s d) with
          | none => rfl
          | some a =>
            rw [hr, hx] at t1
            obtain ⟨-, rfl⟩ := t1.get
            rw [hp] at t2
            have := t2.get.2; simp at this
    rw [hno]
    exact ⟨_, er, hein er rfl, main⟩
theorem Unmarshal_step (hB : BOk B) (s : List UInt8) (d : Int) (hl : s.length < big) (hd1 : -9223372036854775808 ≤ d) (hd2 : d < 9223372036854775808)
    (hV : 1 ≤ d → ∀ s', s'.length < big → RdAt B 84 [] VaS.d Vl.sh (okV s' (d - 2)) s' (d - 2))
    (hK : 1 ≤ d → ∀ s', s'.length < big → RdAt B 40 [] KVs.d Kv.sh (okK s' (d - 2)) s' (d - 2)) : RdAt B 84 [] VaS.d Vl.sh (okV s d) s d := by
  have h1 := Read_calls B hB 112 tbV (tbV_calls B) s d hl hd1 hd2
  have hk : LOk (knB tbV s d) := known_lok tbV s d hl
  have h2 := rCheck_calls B hB (readE s d) (unB tbV s d) d s.length (knB tbV s d) 1 hk
  have t1 := chkF_tells s.length 1 (readE s d) (knB tbV s d)
  have h3 := fun e => rOne_calls B e (unB tbV s d) d s.length (knB tbV s d) false [1, 2, 3, 4, 5, 6, 7] (by decide) hk
  obtain ⟨o1, o2, o3, o4⟩ := oneF_ok (ns := [1, 2, 3, 4, 5, 6, 7]) hk.1
  have o5 := oneF_len [1, 2, 3, 4, 5, 6, 7] (knB tbV s d)
  have hkl := hk.lenb
  have hkw := hk.2
  have hpos : (oneF [1, 2, 3, 4, 5, 6, 7] (knB tbV s d)).num ≠ 0 → 0 ≤ d := by
    intro h
    rcases o4 with g | ⟨-, x, g1, g2, -⟩
    · exact absurd g h
    · exact kn_pos (num := x.num) (List.any_eq_true.2 ⟨x, g1, by simp⟩)
  have hnum : (oneF [1, 2, 3, 4, 5, 6, 7] (knB tbV s d)).num = 0 ∨ (oneF [1, 2, 3, 4, 5, 6, 7] (knB tbV s d)).num = 1 ∨ (oneF [1, 2, 3, 4, 5, 6, 7] (knB tbV s d)).num = 2 ∨ (oneF [1, 2, 3, 4, 5, 6, 7] (knB tbV s d)).num = 3 ∨ (oneF [1, 2, 3, 4, 5, 6, 7] (knB tbV s d)).num = 4 ∨ (oneF [1, 2, 3, 4, 5, 6, 7] (knB tbV s d)).num = 5 ∨ (oneF [1, 2, 3, 4, 5, 6, 7] (knB tbV s d)).num = 6 ∨ (oneF [1, 2, 3, 4, 5, 6, 7] (knB tbV s d)).num = 7 := by
    rcases o4 with g | ⟨g, -⟩
    · exact .inl g
    · exact .inr (by simpa using g)
  rw [okV_rd]
  clear o4
  generalize oneF [1, 2, 3, 4, 5, 6, 7] (knB tbV s d) = o at *
  obtain ⟨num, n, os, all⟩ := o
  dsimp only at *
  have hein1 : ∀ x, chkF s.length 1 (knB tbV s d) (readE s d) = some x → EIn s.length x := t1.ein fun x hx => readE_err hx
  generalize chkF s.length 1 (knB tbV s d) (readE s d) = e1 at *
  have h3 := h3 e1
  -- where nothing is nested
  have simple : ∀ (x : VaS) (f : List UInt8 → Vl), tellO (fun s => okV s (d - 2)) (fun s => okK s (d - 2)) d ⟨num, n, os, all⟩ = some f → (f (unB tbV s d)).sh = x → CallsA (cx B) 84 [sT s, .d (.int .i64 d)] [] (.tup [.d (match e1 with | none => x | some _ => noVaS).d, .d (eD e1)]) [] →
      RdAt B 84 [] VaS.d Vl.sh (match readE s d, textO 1 (knB tbV s d) with
        | none, some _ => (tellO (fun s => okV s (d - 2)) (fun s => okK s (d - 2)) d ⟨num, n, os, all⟩).map fun f => f (unB tbV s d)
        | _, _ => none) s d := by
    intro x f hf hx main
    cases e1 with
    | none =>
      obtain ⟨g1, b, g2, -⟩ := t1.ok
      rw [g1, g2, hf]
      subst hx
      exact main
    | some er =>
      have hno : (match readE s d, textO 1 (knB tbV s d) with
        | none, some _ => (tellO (fun s => okV s (d - 2)) (fun s => okK s (d - 2)) d ⟨num, n, os, all⟩).map fun f => f (unB tbV s d)
        | _, _ => none) = none := by
        cases hr : readE s d with
        | some x => rfl
        | none =>
          cases hx : textO 1 (knB tbV s d) with
          | none => rfl
          | some b =>
            rw [hr, hx] at t1
            have := t1.get.2; simp at this
      rw [hno]
      exact ⟨_, er, hein1 er rfl, main⟩
  rcases hnum with rfl | rfl | rfl | rfl | rfl | rfl | rfl | rfl
  · refine simple ⟨0, [], false, 0, [], [], [], unB tbV s d⟩ _ rfl rfl ?_
    clear simple hein1 t1
    refine l_body (X := cx B) (fn := Tryz.f84) Tryz.func84 rfl rfl rfl rfl rfl 0 [] rfl rfl ?_
    refine walk ?_
    refine l_call [] (h1) rfl rfl rfl rfl rfl rfl rfl (by decide) rfl rfl rfl rfl rfl ?_
    refine walk ?_
    refine l_call [1] (h2) rfl rfl rfl rfl rfl rfl rfl (by decide) rfl rfl rfl rfl rfl ?_
    refine walk ?_
    refine l_step (.buildSlice (es := [1, 2, 3, 4, 5, 6, 7].map iD) rfl rfl rfl rfl rfl rfl (by intro x hx; simp [iD] at hx; rcases hx with rfl | rfl | rfl | rfl | rfl | rfl | rfl <;> rfl) (by simp) (by decide) (by decide)) rfl rfl ?_
    refine l_call [1] (h3) rfl rfl rfl rfl rfl rfl rfl (by decide) rfl rfl rfl rfl rfl ?_
    refine walk ?_
    cases e1 with
    | none =>
      refine walk ?_
      exact l_end trivial (by decide) rfl rfl rfl rfl rfl
    | some er =>
      cases er <;> (
      refine walk ?_
      exact l_end trivial (by decide) rfl rfl rfl rfl rfl)
  · refine simple ⟨1, os, false, 0, [], [], [], unB tbV s d⟩ _ rfl rfl ?_
    clear simple hein1 t1
    refine l_body (X := cx B) (fn := Tryz.f84) Tryz.func84 rfl rfl rfl rfl rfl 0 [] rfl rfl ?_
    refine walk ?_
    refine l_call [] (h1) rfl rfl rfl rfl rfl rfl rfl (by decide) rfl rfl rfl rfl rfl ?_
    refine walk ?_
    refine l_call [1] (h2) rfl rfl rfl rfl rfl rfl rfl (by decide) rfl rfl rfl rfl rfl ?_
    refine walk ?_
    refine l_step (.buildSlice (es := [1, 2, 3, 4, 5, 6, 7].map iD) rfl rfl rfl rfl rfl rfl (by intro x hx; simp [iD] at hx; rcases hx with rfl | rfl | rfl | rfl | rfl | rfl | rfl <;> rfl) (by simp) (by decide) (by decide)) rfl rfl ?_
    refine l_call [1] (h3) rfl rfl rfl rfl rfl rfl rfl (by decide) rfl rfl rfl rfl rfl ?_
    refine walk ?_
    cases e1 with
    | none =>
      refine walk ?_
      exact l_end trivial (by decide) rfl rfl rfl rfl rfl
    | some er =>
      cases er <;> (
      refine walk ?_
      exact l_end trivial (by decide) rfl rfl rfl rfl rfl)
  · refine simple ⟨2, [], decide (0 < n), 0, [], [], [], unB tbV s d⟩ _ rfl rfl ?_
    clear simple hein1 t1
    refine l_body (X := cx B) (fn := Tryz.f84) Tryz.func84 rfl rfl rfl rfl rfl 0 [] rfl rfl ?_
    refine walk ?_
    refine l_call [] (h1) rfl rfl rfl rfl rfl rfl rfl (by decide) rfl rfl rfl rfl rfl ?_
    refine walk ?_
    refine l_call [1] (h2) rfl rfl rfl rfl rfl rfl rfl (by decide) rfl rfl rfl rfl rfl ?_
    refine walk ?_
    refine l_step (.buildSlice (es := [1, 2, 3, 4, 5, 6, 7].map iD) rfl rfl rfl rfl rfl rfl (by intro x hx; simp [iD] at hx; rcases hx with rfl | rfl | rfl | rfl | rfl | rfl | rfl <;> rfl) (by simp) (by decide) (by decide)) rfl rfl ?_
    refine l_call [1] (h3) rfl rfl rfl rfl rfl rfl rfl (by decide) rfl rfl rfl rfl rfl ?_
    refine walk ?_
    rw [show decide ((n : Int) > 0) = decide (0 < n) from decide_eq_decide.2 (by omega)]
    cases e1 with
    | none =>
      refine walk ?_
      exact l_end trivial (by decide) rfl rfl rfl rfl rfl
    | some er =>
      cases er <;> (
      refine walk ?_
      exact l_end trivial (by decide) rfl rfl rfl rfl rfl)
  · refine simple ⟨3, [], false, n, [], [], [], unB tbV s d⟩ _ rfl rfl ?_
    clear simple hein1 t1
    refine l_body (X := cx B) (fn := Tryz.f84) Tryz.func84 rfl rfl rfl rfl rfl 0 [] rfl rfl ?_
    refine walk ?_
    refine l_call [] (h1) rfl rfl rfl rfl rfl rfl rfl (by decide) rfl rfl rfl rfl rfl ?_
    refine walk ?_
    refine l_call [1] (h2) rfl rfl rfl rfl rfl rfl rfl (by decide) rfl rfl rfl rfl rfl ?_
    refine walk ?_
    refine l_step (.buildSlice (es := [1, 2, 3, 4, 5, 6, 7].map iD) rfl rfl rfl rfl rfl rfl (by intro x hx; simp [iD] at hx; rcases hx with rfl | rfl | rfl | rfl | rfl | rfl | rfl <;> rfl) (by simp) (by decide) (by decide)) rfl rfl ?_
    refine l_call [1] (h3) rfl rfl rfl rfl rfl rfl rfl (by decide) rfl rfl rfl rfl rfl ?_
    refine walk ?_
    cases e1 with
    | none =>
      refine walk ?_
      exact l_end trivial (by decide) rfl rfl rfl rfl rfl
    | some er =>
      cases er <;> (
      refine walk ?_
      exact l_end trivial (by decide) rfl rfl rfl rfl rfl)
  · refine simple ⟨4, [], false, n, [], [], [], unB tbV s d⟩ _ rfl rfl ?_
    clear simple hein1 t1
    refine l_body (X := cx B) (fn := Tryz.f84) Tryz.func84 rfl rfl rfl rfl rfl 0 [] rfl rfl ?_
    refine walk ?_
    refine l_call [] (h1) rfl rfl rfl rfl rfl rfl rfl (by decide) rfl rfl rfl rfl rfl ?_
    refine walk ?_
    refine l_call [1] (h2) rfl rfl rfl rfl rfl rfl rfl (by decide) rfl rfl rfl rfl rfl ?_
    refine walk ?_
    refine l_step (.buildSlice (es := [1, 2, 3, 4, 5, 6, 7].map iD) rfl rfl rfl rfl rfl rfl (by intro x hx; simp [iD] at hx; rcases hx with rfl | rfl | rfl | rfl | rfl | rfl | rfl <;> rfl) (by simp) (by decide) (by decide)) rfl rfl ?_
    refine l_call [1] (h3) rfl rfl rfl rfl rfl rfl rfl (by decide) rfl rfl rfl rfl rfl ?_
    refine walk ?_
    cases e1 with
    | none =>
      refine walk ?_
      exact l_end trivial (by decide) rfl rfl rfl rfl rfl
    | some er =>
      cases er <;> (
      refine walk ?_
      exact l_end trivial (by decide) rfl rfl rfl rfl rfl)
  · have hd0 := hpos (by omega)
    have hlen : all.flatten.length < big := by omega
    have h4 := listsV_calls B 84 []
    have hin : RdAt B 139 [.box [.fn 84 []]] SoV.d (fun p : List Vl × List UInt8 => ⟨p.1.map Vl.d, p.2⟩) (okG tbL (fun _ l => partsO (fun s => okV s (d - 2)) 1 l) all.flatten (d - 1)) all.flatten (d - 1) :=
      listsV1_rd B hB 84 [] (fun s => okV s (d - 2)) all.flatten (d - 1) hlen (by omega) (by omega) fun x hx hxn => by
        have h0 : 0 ≤ d - 1 := kn_pos (num := 1) (List.any_eq_true.2 ⟨x, hx, by simpa using hxn⟩)
        rw [show d - 1 - 1 = d - 2 by omega]
        have hfx := (known_lok tbL all.flatten (d - 1) hlen).1 x hx
        have hwx := (known_lok tbL all.flatten (d - 1) hlen).2
        have hxl : x.raw.length ≤ wt (knownL tbL (fldsE all.flatten (d - 1))) := by
          obtain ⟨i, hi⟩ := List.getElem?_of_mem hx
          exact (lok_get (known_lok tbL all.flatten (d - 1) hlen) hi).2
        exact hV (by omega) x.s (by have := hfx.s; omega)
    have hsub : ∃ (x : SoV) (er : Option Er), CallsA (cx B) 139 ([sT all.flatten, .d (.int .i64 (d - 1))] ++ [D.box [.fn 84 []]].map T.d) [] (.tup [.d x.d, .d (eD er)]) [] ∧
        (match okG tbL (fun _ l => partsO (fun s => okV s (d - 2)) 1 l) all.flatten (d - 1) with
          | some p => x = ⟨p.1.map Vl.d, p.2⟩ ∧ er = none
          | none => ∃ e, er = some e ∧ EIn all.flatten.length e) := by
      unfold RdAt at hin
      cases hg : okG tbL (fun _ l => partsO (fun s => okV s (d - 2)) 1 l) all.flatten (d - 1) with
      | some p => rw [hg] at hin; exact ⟨_, none, hin, rfl, rfl⟩
      | none => rw [hg] at hin; obtain ⟨y, e, g1, g2⟩ := hin; exact ⟨y, some e, g2, e, rfl, g1⟩
    obtain ⟨x, er, c5, hx⟩ := hsub
    have c6 := Inner_SoV_calls B hB ⟨5, n, os, all⟩ _ _ x er e1 (unB tbV s d) d s.length (knB tbV s d) (by omega) hd2 hlen (by show all.length < big; omega) c5
    have main : CallsA (cx B) 84 [sT s, .d (.int .i64 d)] [] (.tup [.d (match failE s.length 5 e1 er with | none => (⟨5, [], false, 0, x.l, [], x.rest, unB tbV s d⟩ : VaS) | some _ => noVaS).d, .d (eD (failE s.length 5 e1 er))]) [] := by
      clear hx c5 hin simple hein1 t1
      dsimp only at c6
      generalize failE s.length 5 e1 er = e2 at *
      refine l_body (X := cx B) (fn := Tryz.f84) Tryz.func84 rfl rfl rfl rfl rfl 0 [] rfl rfl ?_
      refine walk ?_
      refine l_call [] (h1) rfl rfl rfl rfl rfl rfl rfl (by decide) rfl rfl rfl rfl rfl ?_
      refine walk ?_
      refine l_call [1] (h2) rfl rfl rfl rfl rfl rfl rfl (by decide) rfl rfl rfl rfl rfl ?_
      refine walk ?_
      refine l_step (.buildSlice (es := [1, 2, 3, 4, 5, 6, 7].map iD) rfl rfl rfl rfl rfl rfl (by intro x hx; simp [iD] at hx; rcases hx with rfl | rfl | rfl | rfl | rfl | rfl | rfl <;> rfl) (by simp) (by decide) (by decide)) rfl rfl ?_
      refine l_call [1] (h3) rfl rfl rfl rfl rfl rfl rfl (by decide) rfl rfl rfl rfl rfl ?_
      refine walk ?_
      refine x_tail (i0 := 4) (z := 5) (t0 := 9) rfl (by decide) rfl rfl rfl rfl rfl rfl rfl rfl rfl rfl ?_
      refine walk ?_
      refine x_call [] (h4) rfl rfl rfl rfl rfl rfl (by decide) rfl rfl rfl rfl rfl rfl ?_
      refine walk ?_
      refine x_call [1] (c6) rfl rfl rfl rfl rfl rfl (by decide) rfl rfl rfl rfl rfl rfl ?_
      refine walk ?_
      cases e2 with
      | none =>
        refine walk ?_
        exact l_end trivial (by decide) rfl rfl rfl rfl rfl
      | some er =>
        cases er <;> (
        refine walk ?_
        exact l_end trivial (by decide) rfl rfl rfl rfl rfl)
    have htl : tellO (fun s => okV s (d - 2)) (fun s => okK s (d - 2)) d ⟨5, n, os, all⟩ = (match okG tbL (fun _ l => partsO (fun s => okV s (d - 2)) 1 l) all.flatten (d - 1) with
      | none => none
      | some p => some fun u => .mk 5 [] false 0 p.1 [] p.2 u) := rfl
    rw [htl]
    cases hg : okG tbL (fun _ l => partsO (fun s => okV s (d - 2)) 1 l) all.flatten (d - 1) with
    | some p =>
      rw [hg] at hx
      obtain ⟨rfl, rfl⟩ := hx
      rw [failE_nn] at main
      cases e1 with
      | none =>
        obtain ⟨g1, b, g2, -⟩ := t1.ok
        rw [g1, g2]
        show RdAt B _ _ _ _ (some (Vl.mk 5 [] false 0 p.1 [] p.2 (unB tbV s d))) s d
        unfold RdAt
        show CallsA _ _ _ _ (.tup [.d (VaS.d ⟨5, [], false, 0, Vl.ds p.1, [], p.2, unB tbV s d⟩), _]) _
        rw [Vl.ds_map]
        exact main
      | some er =>
        have hno : (match readE s d, textO 1 (knB tbV s d) with
          | none, some _ => (some fun u => Vl.mk 5 [] false 0 p.1 [] p.2 u).map fun f => f (unB tbV s d)
          | _, _ => none) = none := by
          cases hr : readE s d with
          | some x => rfl
          | none =>
            cases hx : textO 1 (knB tbV s d) with
            | none => rfl
            | some b => rw [hr, hx] at t1; have := t1.get.2; simp at this
        simp only at hno ⊢
        rw [hno]
        exact ⟨_, er, hein1 er rfl, main⟩
    | none =>
      rw [hg] at hx
      obtain ⟨e5, rfl, g5⟩ := hx
      have hno : (match readE s d, textO 1 (knB tbV s d) with
        | none, some _ => (none : Option (List UInt8 → Vl)).map fun f => f (unB tbV s d)
        | _, _ => none) = none := by
        cases readE s d with
        | some x => rfl
        | none => cases textO 1 (knB tbV s d) <;> rfl
      simp only at hno ⊢
      rw [hno]
      cases e1 with
      | some er => exact ⟨_, er, hein1 er rfl, main⟩
      | none =>
        obtain ⟨e6, g6, g7⟩ := fail_in s.length 5 e5 g5.2
        rw [g6] at main
        exact ⟨_, e6, g7, main⟩
  · have hd0 := hpos (by omega)
    have hlen : all.flatten.length < big := by omega
    have h4 := listsK_calls B 40 []
    have hin : RdAt B 143 [.box [.fn 40 []]] SoK.d (fun p : List Kv × List UInt8 => ⟨p.1.map Kv.d, p.2⟩) (okG tbL (fun _ l => partsO (fun s => okK s (d - 2)) 1 l) all.flatten (d - 1)) all.flatten (d - 1) :=
      listsK1_rd B hB 40 [] (fun s => okK s (d - 2)) all.flatten (d - 1) hlen (by omega) (by omega) fun x hx hxn => by
        have h0 : 0 ≤ d - 1 := kn_pos (num := 1) (List.any_eq_true.2 ⟨x, hx, by simpa using hxn⟩)
        rw [show d - 1 - 1 = d - 2 by omega]
        have hfx := (known_lok tbL all.flatten (d - 1) hlen).1 x hx
        have hwx := (known_lok tbL all.flatten (d - 1) hlen).2
        have hxl : x.raw.length ≤ wt (knownL tbL (fldsE all.flatten (d - 1))) := by
          obtain ⟨i, hi⟩ := List.getElem?_of_mem hx
          exact (lok_get (known_lok tbL all.flatten (d - 1) hlen) hi).2
        exact hK (by omega) x.s (by have := hfx.s; omega)
    have hsub : ∃ (x : SoK) (er : Option Er), CallsA (cx B) 143 ([sT all.flatten, .d (.int .i64 (d - 1))] ++ [D.box [.fn 40 []]].map T.d) [] (.tup [.d x.d, .d (eD er)]) [] ∧
        (match okG tbL (fun _ l => partsO (fun s => okK s (d - 2)) 1 l) all.flatten (d - 1) with
          | some p => x = ⟨p.1.map Kv.d, p.2⟩ ∧ er = none
          | none => ∃ e, er = some e ∧ EIn all.flatten.length e) := by
      unfold RdAt at hin
      cases hg : okG tbL (fun _ l => partsO (fun s => okK s (d - 2)) 1 l) all.flatten (d - 1) with
      | some p => rw [hg] at hin; exact ⟨_, none, hin, rfl, rfl⟩
      | none => rw [hg] at hin; obtain ⟨y, e, g1, g2⟩ := hin; exact ⟨y, some e, g2, e, rfl, g1⟩
    obtain ⟨x, er, c5, hx⟩ := hsub
    have c6 := Inner_SoK_calls B hB ⟨6, n, os, all⟩ _ _ x er e1 (unB tbV s d) d s.length (knB tbV s d) (by omega) hd2 hlen (by show all.length < big; omega) c5
    have main : CallsA (cx B) 84 [sT s, .d (.int .i64 d)] [] (.tup [.d (match failE s.length 6 e1 er with | none => (⟨6, [], false, 0, [], x.l, x.rest, unB tbV s d⟩ : VaS) | some _ => noVaS).d, .d (eD (failE s.length 6 e1 er))]) [] := by
      clear hx c5 hin simple hein1 t1
      dsimp only at c6
      generalize failE s.length 6 e1 er = e2 at *
      refine l_body (X := cx B) (fn := Tryz.f84) Tryz.func84 rfl rfl rfl rfl rfl 0 [] rfl rfl ?_
      refine walk ?_
      refine l_call [] (h1) rfl rfl rfl rfl rfl rfl rfl (by decide) rfl rfl rfl rfl rfl ?_
      refine walk ?_
      refine l_call [1] (h2) rfl rfl rfl rfl rfl rfl rfl (by decide) rfl rfl rfl rfl rfl ?_
      refine walk ?_
      refine l_step (.buildSlice (es := [1, 2, 3, 4, 5, 6, 7].map iD) rfl rfl rfl rfl rfl rfl (by intro x hx; simp [iD] at hx; rcases hx with rfl | rfl | rfl | rfl | rfl | rfl | rfl <;> rfl) (by simp) (by decide) (by decide)) rfl rfl ?_
      refine l_call [1] (h3) rfl rfl rfl rfl rfl rfl rfl (by decide) rfl rfl rfl rfl rfl ?_
      refine walk ?_
      refine x_tail (i0 := 4) (z := 5) (t0 := 10) rfl (by decide) rfl rfl rfl rfl rfl rfl rfl rfl rfl rfl ?_
      refine walk ?_
      refine x_call [] (h4) rfl rfl rfl rfl rfl rfl (by decide) rfl rfl rfl rfl rfl rfl ?_
      refine walk ?_
      refine x_call [1] (c6) rfl rfl rfl rfl rfl rfl (by decide) rfl rfl rfl rfl rfl rfl ?_
      refine walk ?_
      cases e2 with
      | none =>
        refine walk ?_
        exact l_end trivial (by decide) rfl rfl rfl rfl rfl
      | some er =>
        cases er <;> (
        refine walk ?_
        exact l_end trivial (by decide) rfl rfl rfl rfl rfl)
    have htl : tellO (fun s => okV s (d - 2)) (fun s => okK s (d - 2)) d ⟨6, n, os, all⟩ = (match okG tbL (fun _ l => partsO (fun s => okK s (d - 2)) 1 l) all.flatten (d - 1) with
      | none => none
      | some p => some fun u => .mk 6 [] false 0 [] p.1 p.2 u) := rfl
    rw [htl]
    cases hg : okG tbL (fun _ l => partsO (fun s => okK s (d - 2)) 1 l) all.flatten (d - 1) with
    | some p =>
      rw [hg] at hx
      obtain ⟨rfl, rfl⟩ := hx
      rw [failE_nn] at main
      cases e1 with
      | none =>
        obtain ⟨g1, b, g2, -⟩ := t1.ok
        rw [g1, g2]
        show RdAt B _ _ _ _ (some (Vl.mk 6 [] false 0 [] p.1 p.2 (unB tbV s d))) s d
        unfold RdAt
        show CallsA _ _ _ _ (.tup [.d (VaS.d ⟨6, [], false, 0, [], Kv.ds p.1, p.2, unB tbV s d⟩), _]) _
        rw [Kv.ds_map]
        exact main
      | some er =>
        have hno : (match readE s d, textO 1 (knB tbV s d) with
          | none, some _ => (some fun u => Vl.mk 6 [] false 0 [] p.1 p.2 u).map fun f => f (unB tbV s d)
          | _, _ => none) = none := by
          cases hr : readE s d with
          | some x => rfl
          | none =>
            cases hx : textO 1 (knB tbV s d) with
            | none => rfl
            | some b => rw [hr, hx] at t1; have := t1.get.2; simp at this
        simp only at hno ⊢
        rw [hno]
        exact ⟨_, er, hein1 er rfl, main⟩
    | none =>
      rw [hg] at hx
      obtain ⟨e5, rfl, g5⟩ := hx
      have hno : (match readE s d, textO 1 (knB tbV s d) with
        | none, some _ => (none : Option (List UInt8 → Vl)).map fun f => f (unB tbV s d)
        | _, _ => none) = none := by
        cases readE s d with
        | some x => rfl
        | none => cases textO 1 (knB tbV s d) <;> rfl
      simp only at hno ⊢
      rw [hno]
      cases e1 with
      | some er => exact ⟨_, er, hein1 er rfl, main⟩
      | none =>
        obtain ⟨e6, g6, g7⟩ := fail_in s.length 6 e5 g5.2
        rw [g6] at main
        exact ⟨_, e6, g7, main⟩
  · refine simple ⟨7, os, false, 0, [], [], [], unB tbV s d⟩ _ rfl rfl ?_
    clear simple hein1 t1
    refine l_body (X := cx B) (fn := Tryz.f84) Tryz.func84 rfl rfl rfl rfl rfl 0 [] rfl rfl ?_
    refine walk ?_
    refine l_call [] (h1) rfl rfl rfl rfl rfl rfl rfl (by decide) rfl rfl rfl rfl rfl ?_
    refine walk ?_
    refine l_call [1] (h2) rfl rfl rfl rfl rfl rfl rfl (by decide) rfl rfl rfl rfl rfl ?_
    refine walk ?_
    refine l_step (.buildSlice (es := [1, 2, 3, 4, 5, 6, 7].map iD) rfl rfl rfl rfl rfl rfl (by intro x hx; simp [iD] at hx; rcases hx with rfl | rfl | rfl | rfl | rfl | rfl | rfl <;> rfl) (by simp) (by decide) (by decide)) rfl rfl ?_
    refine l_call [1] (h3) rfl rfl rfl rfl rfl rfl rfl (by decide) rfl rfl rfl rfl rfl ?_
    refine walk ?_
    cases e1 with
    | none =>
      refine walk ?_
      exact l_end trivial (by decide) rfl rfl rfl rfl rfl
    | some er =>
      cases er <;> (
      refine walk ?_
      exact l_end trivial (by decide) rfl rfl rfl rfl rfl)
theorem val_read (hB : BOk B) (k : Nat) : ∀ d : Int, d < k → -9223372036854775808 ≤ d → d < 9223372036854775808 → ∀ s, s.length < big →
    RdAt B 84 [] VaS.d Vl.sh (okV s d) s d ∧ RdAt B 40 [] KVs.d Kv.sh (okK s d) s d := by
  induction k with
  | zero =>
    intro d hk hd1 hd2 s hs
    exact ⟨Unmarshal_step B hB s d hs hd1 hd2 (fun h => by omega) (fun h => by omega), UnmarshalKey_step B hB s d hs hd1 hd2 (fun h => by omega)⟩
  | succ k ih =>
    intro d hk hd1 hd2 s hs
    exact ⟨Unmarshal_step B hB s d hs hd1 hd2 (fun h s' hs' => (ih (d - 2) (by omega) (by omega) (by omega) s' hs').1) (fun h s' hs' => (ih (d - 2) (by omega) (by omega) (by omega) s' hs').2),
      UnmarshalKey_step B hB s d hs hd1 hd2 (fun h s' hs' => (ih (d - 1) (by omega) (by omega) (by omega) s' hs').1)⟩
theorem UnmarshalKey_rd (hB : BOk B) (s : List UInt8) (d : Int) (hs : s.length < big) (hd1 : -9223372036854775808 ≤ d) (hd2 : d < 9223372036854775808) : RdAt B 40 [] KVs.d Kv.sh (okK s d) s d :=
  (val_read B hB (d.toNat + 1) d (by omega) hd1 hd2 s hs).2
end Go.Proofs.YtaenjdichndafaaGreatDoor
