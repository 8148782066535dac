/- The reference: buckets read. -/
import Derived.Test.YtcinfkbdmjnjlaaGreatDoorRR
set_option linter.unusedSimpArgs false
set_option linter.unusedVariables false
set_option maxRecDepth 100000
namespace Go.Proofs.YtcinfkbdmjnjlaaGreatDoor
open Go Go.Abs
variable (B : Fr)
theorem buckets_calls : CallsA (cx B) 117 [] [] (.d (.sl false ([8, 16, 18].map iD))) [] := by
  refine l_body (X := cx B) (fn := Tryz.f117) Tryz.func117 rfl rfl rfl rfl rfl 0 [] rfl rfl ?_
  refine walk ?_
  (try refine l_open rfl ?_)
  refine l_step (.buildSlice (es := [8, 16, 18].map iD) rfl rfl rfl rfl rfl rfl (by intro x hx; simp [iD] at hx; rcases hx with rfl | rfl | rfl <;> rfl) (by decide) (by decide) (by decide)) rfl rfl ?_
  refine walk ?_
  exact l_end trivial (by decide) rfl rfl rfl rfl rfl
theorem tk_B (n k : Nat) (hk : k < 8) : tkB [8, 16, 18] n k = tbB n k := by
  unfold tkB tbB
  rw [Bool.eq_iff_iff]
  simp
  omega
theorem packO_none_app {rd : List UInt8 → Except Er (List Nat)} {num : Nat} : ∀ {a b : List Fld}, packO rd num a = none → packO rd num (a ++ b) = none
  | [], b, h => by simp [packO] at h
  | c :: a, b, h => by
    rw [List.cons_append]
    unfold packO at h ⊢
    split at h
    · rw [if_pos ‹_›]
      split at h
      · rw [if_pos ‹_›]
        split at h
        · cases hp : packO rd num a with
          | none => rw [packO_none_app hp]; rfl
          | some z => rw [hp] at h; simp at h
        · rfl
      · rw [if_neg ‹_›]
        cases hp : packO rd num a with
        | none => rw [packO_none_app hp]; rfl
        | some z => rw [hp] at h; simp at h
    · rw [if_neg ‹_›]; exact packO_none_app h
/-- What the first records tell. -/
def RB (l : List Fld) (b : Bk) : Prop := packO vars 2 (knownL tbB l) = some b.cs ∧ b.off = zag32 (lastF (knownL tbB l) 1).n ∧ b.u = unkL tbB l
def bkC (b : Bk) : List T := [.d (.int .i32 b.off), owT (b.cs.map uD), sT b.u]
def rbT (s : List UInt8) (d : Int) : T :=
  match okB s d with
  | some b => .tup [.d b.d, .d (.bool true)]
  | none => .tup [.d noBk.d, .d (.bool false)]
theorem ReadBuckets_calls (s : List UInt8) (d : Int) (hl : s.length < big) (hd1 : -9223372036854775808 ≤ d) (hd2 : d < 9223372036854775808) : CallsA (cx B) 44 [sT s, .d (.int .i64 d)] [] (rbT s d) [] := by
  have h1 := Fields_calls B s d hl hd1 hd2
  have hl' := hl
  unfold big at hl'
  unfold rbT okB
  unfold fieldsT at h1
  cases ho : okL s d with
  | none =>
    rw [ho] at h1
    dsimp only at h1 ⊢
    refine l_body (X := cx B) (fn := Tryz.f44) Tryz.func44 rfl rfl rfl rfl rfl 0 [] rfl rfl ?_
    refine walk ?_
    refine l_call [] (h1) rfl rfl rfl rfl rfl rfl rfl (by decide) rfl rfl rfl rfl rfl ?_
    refine walk ?_
    refine l_loopW (fun _ : Unit => 0) (fun _ => [(4, .ptr 0 0), (5, .d (.bool false)), (6, .d (.sl true [])), (7, .d (.bool false)), (8, .ptr 1 0), (9, iT 0)]) (fun _ => [.mu (noBk.d.cells.map T.d), .mu (noBk.d.cells.map T.d)]) (fun _ => True) () trivial ⟨rfl, rfl, rfl, rfl, rfl, rfl, trivial⟩ ⟨⟨.inr (.inl rfl), .inr (.inr (.inl ⟨_, _, rfl, rfl⟩)), .inr (.inl rfl), trivial⟩, WkC.refl _, trivial⟩ rfl 2 rfl (fun _ => rfl) (fun _ => rfl) (fun _ => rfl) ?_
    intro _ _
    refine walk ?_
    exact l_end trivial (by decide) rfl rfl rfl rfl rfl
  | some l =>
    rw [ho] at h1
    obtain ⟨w1, w2⟩ := okL_wt ho
    dsimp only at h1 ⊢
    have hlen : (l.map Fld.d).length = l.length := by simp
    have hlok : LOk l := ⟨w2, by unfold big; omega⟩
    have hlb := hlok.len
    refine l_body (X := cx B) (fn := Tryz.f44) Tryz.func44 rfl rfl rfl rfl rfl 0 [] rfl rfl ?_
    refine walk ?_
    refine l_call [] (h1) rfl rfl rfl rfl rfl rfl rfl (by decide) rfl rfl rfl rfl rfl ?_
    refine walk ?_
    refine l_loopW (fun y : Nat × Bool × Bk => l.length - y.1) (fun y => [(4, .ptr 0 0), (5, .d (.bool false)), (6, .d (slD (l.map Fld.d))), (7, .d (.bool y.2.1)), (8, .ptr 1 0), (9, iT y.1)])
      (fun y => [.mu (noBk.d.cells.map T.d), .mu (bkC y.2.2)])
      (fun y => y.1 ≤ l.length ∧ (y.2.1 = true → RB (l.take y.1) y.2.2) ∧ (y.2.1 = false → packO vars 2 (knownL tbB l) = none)) (0, true, noBk)
      ⟨by omega, fun _ => ⟨by rw [List.take_zero]; rfl, by rw [List.take_zero]; rfl, by rw [List.take_zero]; rfl⟩, fun h => by simp at h⟩ ⟨rfl, rfl, rfl, rfl, rfl, rfl, trivial⟩ ?_ rfl 2 rfl (fun _ => rfl) (fun _ => rfl) (fun _ => rfl) ?_
    · exact ⟨⟨.inr (.inl rfl), .inr (.inr (.inl ⟨_, _, rfl, rfl⟩)), .inr (.inl rfl), trivial⟩, ⟨.inr (.inl rfl), .inr (.inr (.inr ⟨rfl, rfl⟩)), .inr (.inl rfl), trivial⟩, trivial⟩
    rintro ⟨i, ok, b⟩ ⟨i1, i2, i3⟩
    dsimp only at i1 i2 i3 ⊢
    have hwi : i < l.length → IntKind.i64.wrap ((i : Int) + 1) = ((i + 1 : Nat) : Int) := fun h => by rw [wrapI (by omega) (by omega)]; omega
    by_cases hlt : i < l.length
    · cases ok with
      | false =>
        refine walk ?_
        rw [hlen, show decide ((i : Int) < l.length) = true from decide_eq_true (by omega)]
        refine walk ?_
        rw [i3 rfl]
        exact l_end trivial (by decide) rfl rfl rfl rfl rfl
      | true =>
        obtain ⟨r1, r2, r3⟩ := i2 rfl
        obtain ⟨x, hx⟩ : ∃ x, l[i]? = some x := ⟨_, List.getElem?_eq_getElem hlt⟩
        have hdx : (l.map Fld.d)[i]? = some x.d := by rw [List.getElem?_map, hx]; rfl
        have htk : l.take (i + 1) = l.take i ++ [x] := by rw [List.take_add_one, hx]; rfl
        obtain ⟨hfx, hwx⟩ := lok_get hlok hx
        have hwt := wt_take l i
        have hwt1 := wt_take l (i + 1)
        have hwn : wt (l.take (i + 1)) = wt (l.take i) + x.raw.length := by rw [htk, wt_snoc]
        have hpl : b.cs.length ≤ wt (l.take i) := Nat.le_trans (packO_len (fun s l h => vars_len h) (fun y hy => w2 y (List.mem_of_mem_take (List.mem_filter.1 hy).1)) r1) (wt_filter _ _)
        have hul : b.u.length ≤ wt (l.take i) := by rw [r3]; exact unkL_len _ _
        have ht := Takes_calls B [8, 16, 18] x (by decide) (by intro t ht; simp at ht; omega)
        rw [tk_B _ _ hfx.kind] at ht
        refine walk ?_
        rw [hlen, show decide ((i : Int) < l.length) = true from decide_eq_true (by omega)]
        refine walk ?_
        refine l_step (.indexAddr (k := .i64) (n := i) (es := l.map Fld.d) (u := x.d) rfl rfl rfl rfl (.inl ⟨_, rfl⟩) rfl (by omega) (by simpa using hdx) rfl (by decide)) rfl rfl ?_
        refine walk ?_
        refine x_call [] (buckets_calls B) rfl rfl rfl rfl rfl rfl (by decide) rfl rfl rfl rfl rfl rfl ?_
        refine walk ?_
        refine x_call [] (ht) rfl rfl rfl rfl rfl rfl (by decide) rfl rfl rfl rfl rfl rfl ?_
        refine walk ?_
        cases hb : tbB x.num x.kind with
        | false =>
          have hk : knownL tbB (l.take (i + 1)) = knownL tbB (l.take i) := by rw [htk, knownL_snoc, show isT tbB x = false from hb]; simp
          have hu : unkL tbB (l.take (i + 1)) = unkL tbB (l.take i) ++ x.raw := by rw [htk, unkL_snoc, show isT tbB x = false from hb]; rfl
          refine walk ?_
          refine l_step (.addStr (a := b.u) (b := x.raw) rfl rfl rfl (by omega)) rfl rfl ?_
          refine walk ?_
          rw [hwi hlt]
          exact ⟨(i + 1, true, ⟨b.off, b.cs, b.u ++ x.raw⟩), by show l.length - (i + 1) < _; omega, ⟨by show i + 1 ≤ _; omega, fun _ => ⟨by rw [hk]; exact r1, by rw [hk]; exact r2, by rw [hu, ← r3]⟩, fun h => by simp at h⟩, ⟨rfl, rfl, rfl, rfl, rfl, rfl, trivial⟩, rfl, wk_eq rfl⟩
        | true =>
          have hk : knownL tbB (l.take (i + 1)) = knownL tbB (l.take i) ++ [x] := by rw [htk, knownL_snoc, show isT tbB x = true from hb]; rfl
          have hu : unkL tbB (l.take (i + 1)) = unkL tbB (l.take i) := by rw [htk, unkL_snoc, show isT tbB x = true from hb]; simp
          have hcs : x.num = 1 ∨ x.num = 2 := by unfold tbB at hb; simp at hb; omega
          have hkd : x.num = 1 → x.kind = 0 := by unfold tbB at hb; simp at hb; omega
          have hkd2 : x.num = 2 → x.kind = 0 ∨ x.kind = 2 := by unfold tbB at hb; simp at hb; omega
          refine walk ?_
          by_cases hn : x.num = 1
          · rw [show ((x.num : Int) == 1) = true by rw [hn]; rfl]
            have hz := rZag32_calls B x.n hfx.n
            refine walk ?_
            refine l_call [] (hz) rfl rfl rfl rfl rfl rfl rfl (by decide) rfl rfl rfl rfl rfl ?_
            refine walk ?_
            rw [hwi hlt]
            exact ⟨(i + 1, true, ⟨zag32 x.n, b.cs, b.u⟩), by show l.length - (i + 1) < _; omega, ⟨by show i + 1 ≤ _; omega, fun _ => ⟨by rw [hk]; have := packO_app (b := [x]) (y := []) r1 (by unfold packO; rw [if_neg (by omega)]; rfl); rw [List.append_nil] at this; exact this, by rw [hk, lastF_app, show anyL [x] 1 = true by simp [anyL, hn], lastF_cons, show anyL [] 1 = false from rfl, if_pos hn]; rfl, by rw [hu]; exact r3⟩, fun h => by simp at h⟩, ⟨rfl, rfl, rfl, rfl, rfl, rfl, trivial⟩, rfl, wk_eq rfl⟩
          · have hn2 : x.num = 2 := by omega
            have hoff : zag32 (lastF (knownL tbB (l.take (i + 1))) 1).n = b.off := by rw [hk, lastF_app, show anyL [x] 1 = false by simp [anyL, hn], r2]; rfl
            rw [show ((x.num : Int) == 1) = false by simp; omega]
            refine walk ?_
            by_cases hk0 : x.kind = 0
            · rw [show ((x.kind : Int) == 0) = true by rw [hk0]; rfl]
              refine adm ?_
              (try refine l_open rfl ?_)
              refine l_part (fst := false) 1 rfl rfl rfl ?_
              refine l_step (.loadMov (q := owT (b.cs.map uD)) rfl rfl rfl rfl rfl rfl rfl) rfl rfl ?_
              refine walk ?_
              refine l_step (.buildSlice (es := [uD x.n]) rfl rfl rfl rfl rfl rfl (by intro x hx; simp at hx; subst hx; rfl) (by simp) (by decide) (by decide)) rfl rfl ?_
              have hm : (b.cs.map uD).length + [uD x.n].length ≤ most := by simp [most]; omega
              refine l_step (.append' rfl rfl rfl rfl ⟨_, _, rfl, rfl, by intro q; simp⟩ rfl rfl rfl rfl rfl (by rw [show [uD x.n] = [x.n].map uD from rfl, ← List.map_append]; exact u_fits _) (by decide) rfl hm rfl) rfl rfl ?_
              refine l_part (fst := false) 1 rfl rfl rfl ?_
              refine l_step (.storeMov rfl rfl rfl rfl rfl rfl rfl (Nat.le_of_ble_eq_true rfl) rfl) rfl rfl ?_
              refine walk ?_
              rw [hwi hlt]
              exact ⟨(i + 1, true, ⟨b.off, b.cs ++ [x.n], b.u⟩), by show l.length - (i + 1) < _; omega, ⟨by show i + 1 ≤ _; omega, fun _ => ⟨by rw [hk]; exact packO_app r1 (by unfold packO; rw [if_pos hn2, if_neg (by omega)]; rfl), hoff.symm, by rw [hu]; exact r3⟩, fun h => by simp at h⟩, ⟨rfl, rfl, rfl, rfl, rfl, rfl, trivial⟩, rfl, wk_eq (by show [_, Ob.mu [_, owT _, _]] = [_, Ob.mu [_, owT _, _]]; rw [List.map_append]; rfl)⟩
            · have hk2 : x.kind = 2 := by have := hkd2 hn2; omega
              rw [show ((x.kind : Int) == 0) = false by simp; omega]
              have hxs : x.s.length < big := by have := hfx.s; unfold big; omega
              have hv := rVarints_calls B x.s hxs
              unfold rvT at hv
              cases hr : vars x.s with
              | ok ns =>
                rw [hr] at hv
                dsimp only at hv
                have hnl := vars_len hr
                have := hfx.s
                refine walk ?_
                refine l_call [] (hv) rfl rfl rfl rfl rfl rfl rfl (by decide) rfl rfl rfl rfl rfl ?_
                refine l_o0 rfl ?_
                refine adm ?_
                (try refine l_open rfl ?_)
                refine l_part (fst := false) 1 rfl rfl rfl ?_
                refine l_step (.loadMov (q := owT (b.cs.map uD)) rfl rfl rfl rfl rfl rfl rfl) rfl rfl ?_
                refine walk ?_
                have hm : (b.cs.map uD).length + (ns.map uD).length ≤ most := by simp [most]; omega
                refine l_step (.append' rfl rfl rfl rfl ⟨_, _, rfl, rfl, by intro q; simp⟩ rfl rfl rfl rfl rfl (by rw [← List.map_append]; exact u_fits _) (by decide) rfl hm rfl) rfl rfl ?_
                refine l_part (fst := false) 3 rfl rfl rfl ?_
                refine l_step (.storeMov rfl rfl rfl rfl rfl rfl rfl (Nat.le_of_ble_eq_true rfl) rfl) rfl rfl ?_
                refine walk ?_
                rw [hwi hlt]
                exact ⟨(i + 1, true, ⟨b.off, b.cs ++ ns, b.u⟩), by show l.length - (i + 1) < _; omega, ⟨by show i + 1 ≤ _; omega, fun _ => ⟨by rw [hk]; exact packO_app r1 (by unfold packO; rw [if_pos hn2, if_pos hk2, hr]; simp [packO]), hoff.symm, by rw [hu]; exact r3⟩, fun h => by simp at h⟩, ⟨rfl, rfl, rfl, rfl, rfl, rfl, trivial⟩, rfl, wk_eq (by show [_, Ob.mu [_, owT _, _]] = [_, Ob.mu [_, owT _, _]]; rw [List.map_append]; rfl)⟩
              | error e =>
                rw [hr] at hv
                dsimp only at hv
                have hc : (codeOf e == 0) = false := by have := vars_code hr; simpa using this
                have hno : packO vars 2 (knownL tbB l) = none := by
                  have h4 : packO vars 2 (knownL tbB (l.take (i + 1))) = none := by rw [hk]; exact packO_app_none r1 (by unfold packO; rw [if_pos hn2, if_pos hk2, hr])
                  rw [← List.take_append_drop (i + 1) l, knownL_app]
                  exact packO_none_app h4
                refine walk ?_
                refine l_call [] (hv) rfl rfl rfl rfl rfl rfl rfl (by decide) rfl rfl rfl rfl rfl ?_
                refine l_o0 rfl ?_
                refine adm ?_
                (try refine l_open rfl ?_)
                refine l_part (fst := false) 1 rfl rfl rfl ?_
                refine l_step (.loadMov (q := owT (b.cs.map uD)) rfl rfl rfl rfl rfl rfl rfl) rfl rfl ?_
                refine walk ?_
                have hm : (b.cs.map uD).length + ([] : List D).length ≤ most := by simp [most]; omega
                refine l_step (.append' (xs := []) rfl rfl rfl rfl ⟨_, _, rfl, rfl, by intro q; simp⟩ rfl rfl rfl rfl rfl (by rw [List.append_nil]; exact u_fits _) (by decide) rfl hm rfl) rfl rfl ?_
                refine l_part (fst := false) 3 rfl rfl rfl ?_
                rw [hc]
                refine l_step (.storeMov rfl rfl rfl rfl rfl rfl rfl (Nat.le_of_ble_eq_true rfl) rfl) rfl rfl ?_
                refine walk ?_
                rw [hwi hlt]
                exact ⟨(i + 1, false, b), by show l.length - (i + 1) < _; omega, ⟨by show i + 1 ≤ _; omega, fun h => by simp at h, fun _ => hno⟩, ⟨rfl, rfl, rfl, rfl, rfl, rfl, trivial⟩, rfl, wk_eq (by rw [List.append_nil]; rfl)⟩
    · have he : i = l.length := by omega
      subst he
      refine walk ?_
      rw [hlen, show decide ((l.length : Int) < l.length) = false from decide_eq_false (by omega)]
      cases ok with
      | false =>
        refine walk ?_
        rw [i3 rfl]
        exact l_end trivial (by decide) rfl rfl rfl rfl rfl
      | true =>
        obtain ⟨r1, r2, r3⟩ := i2 rfl
        rw [List.take_length] at r1 r2 r3
        refine walk ?_
        rw [r1, ← r2, ← r3]
        exact l_end trivial (by decide) rfl rfl rfl rfl rfl
end Go.Proofs.YtcinfkbdmjnjlaaGreatDoor
