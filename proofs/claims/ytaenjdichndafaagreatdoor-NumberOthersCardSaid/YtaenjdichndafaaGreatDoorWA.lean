/- Values and attributes written. -/
import Derived.Test.YtaenjdichndafaaGreatDoorW9
set_option linter.unusedSimpArgs false
set_option linter.unusedVariables false
set_option maxRecDepth 100000
namespace Go.Proofs.YtaenjdichndafaaGreatDoor
open Go Go.Abs
variable (B : Fr)
theorem nw_ok : adOk (.nw 100 2) := .inr (.inr rfl)
/-- The last of a writer's calls. -/
theorem wr_end {a : T} {l s : List UInt8} (ha : adOk a) (hl : l.length + s.length < big) :
    CallsA (cx B) 56 [.ptr 0 0, sT s] [.mu [a, bT l]] (.tup []) [.mu [.me, bT (l ++ s)]] ∧ CallsA (cx B) 57 [.ptr 0 0] [.mu [.me, bT (l ++ s)]] (sT (l ++ s)) [.mu [.me, .undef]] :=
  ⟨Raw_calls B a l s ha (by unfold big at hl; unfold most; omega), WString_calls B .me (l ++ s) (.inl rfl) (by unfold big at hl; unfold most; simp; omega)⟩
theorem val_write (n : Nat) : (∀ (a : Vl) (xa : D), a.sz < n → a.sz < big → a.wf → a.R xa → CallsA (cx B) 130 [.d xa] [] (sT a.mar) []) ∧
    (∀ (a : Kv) (xa : D), a.sz < n → a.sz < big → a.wf → a.R xa → CallsA (cx B) 98 [.d xa] [] (sT a.mar) []) := by
  induction n with
  | zero => exact ⟨fun _ _ h => by omega, fun _ _ h => by omega⟩
  | succ n ih =>
    obtain ⟨ihV, ihK⟩ := ih
    have hV : ∀ (a : Vl) (xa : D), a.sz < n + 1 → a.sz < big → a.wf → a.R xa → CallsA (cx B) 130 [.d xa] [] (sT a.mar) [] := by
      rintro ⟨kind, s, bb, nn, l, m, inner, u⟩ xa hsz hbig hwf ⟨zl, ls, zm, ms, rfl, hl, hm⟩
      have hmar := Vl.mar_len (.mk kind s bb nn l m inner u)
      obtain ⟨-, -, hn, hwl, hwm⟩ := hwf
      have hlen : (Vl.mk kind s bb nn l m inner u).mar.length < big := by omega
      unfold Vl.sz at hsz hbig
      have hla : (Vl.mars l).length = ls.length := by rw [Vl.mars_map, List.length_map, Vl.Rs_len hl]
      have hlb : (Kv.mars m).length = ms.length := by rw [Kv.mars_map, List.length_map, Kv.Rs_len hm]
      have hf1 : ∀ (i : Nat) x s, ls[i]? = some x → (Vl.mars l)[i]? = some s → CallsA (cx B) 130 [.d x] [] (sT s) [] := fun i x s hx hs => by
        rw [Vl.mars_map, List.getElem?_map] at hs
        cases hv : l[i]? with
        | none => rw [hv] at hs; simp at hs
        | some v =>
          rw [hv] at hs
          injection hs with hs; subst hs
          obtain ⟨x', e1, r1⟩ := Vl.Rs_get hl hv
          rw [hx] at e1; injection e1 with e1; subst e1
          have hmem := List.mem_of_getElem? hv
          have := Vl.sz_mem hmem
          exact ihV v x (by omega) (by omega) (Vl.wf_mem hwl v hmem) r1
      have hf2 : ∀ (i : Nat) x s, ms[i]? = some x → (Kv.mars m)[i]? = some s → CallsA (cx B) 98 [.d x] [] (sT s) [] := fun i x s hx hs => by
        rw [Kv.mars_map, List.getElem?_map] at hs
        cases hv : m[i]? with
        | none => rw [hv] at hs; simp at hs
        | some v =>
          rw [hv] at hs
          injection hs with hs; subst hs
          obtain ⟨x', e1, r1⟩ := Kv.Rs_get hm hv
          rw [hx] at e1; injection e1 with e1; subst e1
          have hmem := List.mem_of_getElem? hv
          have := Kv.sz_mem hmem
          exact ihK v x (by omega) (by omega) (Kv.wf_mem hwm v hmem) r1
      by_cases k1 : kind = 1
      · subst k1
        have e : (Vl.mk 1 s bb nn l m inner u).mar = paV 1 s ++ u := rfl
        rw [e] at hlen ⊢
        obtain ⟨a1, ha1, c1⟩ := wr_part B 1 s (by omega) (by omega) (.nw 100 2) [] nw_ok (by simp at hlen ⊢; omega)
        rw [List.nil_append] at c1
        obtain ⟨c2, c3⟩ := wr_end B (s := u) ha1 (l := paV 1 s) (by simp at hlen ⊢; omega)
        generalize paV 1 s = o at c1 c2 c3 ⊢
        refine l_body (X := cx B) (fn := Tryz.f130) Tryz.func130 rfl rfl rfl rfl rfl 0 [] rfl rfl ?_
        refine walk ?_
        refine l_call [1] (c1) rfl rfl rfl rfl rfl rfl rfl (by decide) (by simp [bo_plain nw_ok]) (by simp [bo_plain ha1]) rfl rfl rfl ?_
        refine walk ?_
        refine l_call [1] (c2) rfl rfl rfl rfl rfl rfl rfl (by decide) (by simp [bo_plain ha1]) (by simp [bo_plain (.inl rfl)]) rfl rfl rfl ?_
        refine walk ?_
        refine l_call [1] (c3) rfl rfl rfl rfl rfl rfl rfl (by decide) (by simp [bo_plain (.inl rfl)]) rfl rfl rfl rfl ?_
        refine walk ?_
        exact l_end trivial (by decide) rfl rfl rfl rfl rfl
      by_cases k7 : kind = 7
      · subst k7
        have e : (Vl.mk 7 s bb nn l m inner u).mar = paV 7 s ++ u := rfl
        rw [e] at hlen ⊢
        obtain ⟨a1, ha1, c1⟩ := wr_part B 7 s (by omega) (by omega) (.nw 100 2) [] nw_ok (by simp at hlen ⊢; omega)
        rw [List.nil_append] at c1
        obtain ⟨c2, c3⟩ := wr_end B (s := u) ha1 (l := paV 7 s) (by simp at hlen ⊢; omega)
        generalize paV 7 s = o at c1 c2 c3 ⊢
        refine l_body (X := cx B) (fn := Tryz.f130) Tryz.func130 rfl rfl rfl rfl rfl 0 [] rfl rfl ?_
        refine walk ?_
        refine l_call [1] (c1) rfl rfl rfl rfl rfl rfl rfl (by decide) (by simp [bo_plain nw_ok]) (by simp [bo_plain ha1]) rfl rfl rfl ?_
        refine walk ?_
        refine l_call [1] (c2) rfl rfl rfl rfl rfl rfl rfl (by decide) (by simp [bo_plain ha1]) (by simp [bo_plain (.inl rfl)]) rfl rfl rfl ?_
        refine walk ?_
        refine l_call [1] (c3) rfl rfl rfl rfl rfl rfl rfl (by decide) (by simp [bo_plain (.inl rfl)]) rfl rfl rfl rfl ?_
        refine walk ?_
        exact l_end trivial (by decide) rfl rfl rfl rfl rfl
      by_cases k2 : kind = 2
      · subst k2
        cases bb with
        | true =>
          have e : (Vl.mk 2 s true nn l m inner u).mar = fewV 2 1 ++ u := rfl
          rw [e] at hlen ⊢
          obtain ⟨a1, ha1, c1⟩ := wr_few B 2 1 (by omega) (by omega) (by omega) (.nw 100 2) [] nw_ok (by simp at hlen ⊢; omega)
          rw [List.nil_append] at c1
          obtain ⟨c2, c3⟩ := wr_end B (s := u) ha1 (l := fewV 2 1) (by simp at hlen ⊢; omega)
          generalize fewV 2 1 = o at c1 c2 c3 ⊢
          refine l_body (X := cx B) (fn := Tryz.f130) Tryz.func130 rfl rfl rfl rfl rfl 0 [] rfl rfl ?_
          refine walk ?_
          refine l_call [1] (c1) rfl rfl rfl rfl rfl rfl rfl (by decide) (by simp [bo_plain nw_ok]) (by simp [bo_plain ha1]) rfl rfl rfl ?_
          refine walk ?_
          refine l_call [1] (c2) rfl rfl rfl rfl rfl rfl rfl (by decide) (by simp [bo_plain ha1]) (by simp [bo_plain (.inl rfl)]) rfl rfl rfl ?_
          refine walk ?_
          refine l_call [1] (c3) rfl rfl rfl rfl rfl rfl rfl (by decide) (by simp [bo_plain (.inl rfl)]) rfl rfl rfl rfl ?_
          refine walk ?_
          exact l_end trivial (by decide) rfl rfl rfl rfl rfl
        | false =>
          have e : (Vl.mk 2 s false nn l m inner u).mar = fewV 2 nn ++ u := rfl
          rw [e] at hlen ⊢
          obtain ⟨a1, ha1, c1⟩ := wr_few B 2 nn (by omega) (by omega) hn (.nw 100 2) [] nw_ok (by simp at hlen ⊢; omega)
          rw [List.nil_append] at c1
          obtain ⟨c2, c3⟩ := wr_end B (s := u) ha1 (l := fewV 2 nn) (by simp at hlen ⊢; omega)
          generalize fewV 2 nn = o at c1 c2 c3 ⊢
          refine l_body (X := cx B) (fn := Tryz.f130) Tryz.func130 rfl rfl rfl rfl rfl 0 [] rfl rfl ?_
          refine walk ?_
          refine l_call [1] (c1) rfl rfl rfl rfl rfl rfl rfl (by decide) (by simp [bo_plain nw_ok]) (by simp [bo_plain ha1]) rfl rfl rfl ?_
          refine walk ?_
          refine l_call [1] (c2) rfl rfl rfl rfl rfl rfl rfl (by decide) (by simp [bo_plain ha1]) (by simp [bo_plain (.inl rfl)]) rfl rfl rfl ?_
          refine walk ?_
          refine l_call [1] (c3) rfl rfl rfl rfl rfl rfl rfl (by decide) (by simp [bo_plain (.inl rfl)]) rfl rfl rfl rfl ?_
          refine walk ?_
          exact l_end trivial (by decide) rfl rfl rfl rfl rfl
      by_cases k3 : kind = 3
      · subst k3
        have e : (Vl.mk 3 s bb nn l m inner u).mar = fewV 3 nn ++ u := rfl
        rw [e] at hlen ⊢
        obtain ⟨a1, ha1, c1⟩ := wr_few B 3 nn (by omega) (by omega) hn (.nw 100 2) [] nw_ok (by simp at hlen ⊢; omega)
        rw [List.nil_append] at c1
        obtain ⟨c2, c3⟩ := wr_end B (s := u) ha1 (l := fewV 3 nn) (by simp at hlen ⊢; omega)
        generalize fewV 3 nn = o at c1 c2 c3 ⊢
        refine l_body (X := cx B) (fn := Tryz.f130) Tryz.func130 rfl rfl rfl rfl rfl 0 [] rfl rfl ?_
        refine walk ?_
        refine l_call [1] (c1) rfl rfl rfl rfl rfl rfl rfl (by decide) (by simp [bo_plain nw_ok]) (by simp [bo_plain ha1]) rfl rfl rfl ?_
        refine walk ?_
        refine l_call [1] (c2) rfl rfl rfl rfl rfl rfl rfl (by decide) (by simp [bo_plain ha1]) (by simp [bo_plain (.inl rfl)]) rfl rfl rfl ?_
        refine walk ?_
        refine l_call [1] (c3) rfl rfl rfl rfl rfl rfl rfl (by decide) (by simp [bo_plain (.inl rfl)]) rfl rfl rfl rfl ?_
        refine walk ?_
        exact l_end trivial (by decide) rfl rfl rfl rfl rfl
      by_cases k4 : kind = 4
      · subst k4
        have e : (Vl.mk 4 s bb nn l m inner u).mar = e8V 4 nn ++ u := rfl
        rw [e] at hlen ⊢
        obtain ⟨a1, ha1, c1⟩ := wr_eight B 4 nn (by omega) (by omega) (.nw 100 2) [] nw_ok (by simp at hlen ⊢; omega)
        rw [List.nil_append] at c1
        obtain ⟨c2, c3⟩ := wr_end B (s := u) ha1 (l := e8V 4 nn) (by simp at hlen ⊢; omega)
        generalize e8V 4 nn = o at c1 c2 c3 ⊢
        refine l_body (X := cx B) (fn := Tryz.f130) Tryz.func130 rfl rfl rfl rfl rfl 0 [] rfl rfl ?_
        refine walk ?_
        refine l_call [1] (c1) rfl rfl rfl rfl rfl rfl rfl (by decide) (by simp [bo_plain nw_ok]) (by simp [bo_plain ha1]) rfl rfl rfl ?_
        refine walk ?_
        refine l_call [1] (c2) rfl rfl rfl rfl rfl rfl rfl (by decide) (by simp [bo_plain ha1]) (by simp [bo_plain (.inl rfl)]) rfl rfl rfl ?_
        refine walk ?_
        refine l_call [1] (c3) rfl rfl rfl rfl rfl rfl rfl (by decide) (by simp [bo_plain (.inl rfl)]) rfl rfl rfl rfl ?_
        refine walk ?_
        exact l_end trivial (by decide) rfl rfl rfl rfl rfl
      by_cases k5 : kind = 5
      · subst k5
        have e : (Vl.mk 5 s bb nn l m inner u).mar = paV 5 (psV 1 (Vl.mars l) ++ inner) ++ u := rfl
        rw [e] at hlen ⊢
        obtain ⟨a1, ha1, c1⟩ := wr_part B 5 (psV 1 (Vl.mars l) ++ inner) (by omega) (by omega) (.nw 100 2) [] nw_ok (by simp at hlen ⊢; omega)
        rw [List.nil_append] at c1
        obtain ⟨c2, c3⟩ := wr_end B (s := u) ha1 (l := paV 5 (psV 1 (Vl.mars l) ++ inner)) (by simp at hlen ⊢; omega)
        have h4 := parts_Va_calls B 130 zl ls (Vl.mars l) inner hla (Vl.Rs_sh hl) (by simp [paV] at hlen ⊢; omega) hf1
        generalize paV 5 (psV 1 (Vl.mars l) ++ inner) = o at c1 c2 c3 ⊢
        refine l_body (X := cx B) (fn := Tryz.f130) Tryz.func130 rfl rfl rfl rfl rfl 0 [] rfl rfl ?_
        refine walk ?_
        refine l_call [] (h4) rfl rfl rfl rfl rfl rfl rfl (by decide) rfl rfl rfl rfl rfl ?_
        refine l_call [1] (c1) rfl rfl rfl rfl rfl rfl rfl (by decide) (by simp [bo_plain nw_ok]) (by simp [bo_plain ha1]) rfl rfl rfl ?_
        refine walk ?_
        refine l_call [1] (c2) rfl rfl rfl rfl rfl rfl rfl (by decide) (by simp [bo_plain ha1]) (by simp [bo_plain (.inl rfl)]) rfl rfl rfl ?_
        refine walk ?_
        refine l_call [1] (c3) rfl rfl rfl rfl rfl rfl rfl (by decide) (by simp [bo_plain (.inl rfl)]) rfl rfl rfl rfl ?_
        refine walk ?_
        exact l_end trivial (by decide) rfl rfl rfl rfl rfl
      by_cases k6 : kind = 6
      · subst k6
        have e : (Vl.mk 6 s bb nn l m inner u).mar = paV 6 (psV 1 (Kv.mars m) ++ inner) ++ u := rfl
        rw [e] at hlen ⊢
        obtain ⟨a1, ha1, c1⟩ := wr_part B 6 (psV 1 (Kv.mars m) ++ inner) (by omega) (by omega) (.nw 100 2) [] nw_ok (by simp at hlen ⊢; omega)
        rw [List.nil_append] at c1
        obtain ⟨c2, c3⟩ := wr_end B (s := u) ha1 (l := paV 6 (psV 1 (Kv.mars m) ++ inner)) (by simp at hlen ⊢; omega)
        have h4 := parts_Ke_calls B 98 zm ms (Kv.mars m) inner hlb (Kv.Rs_sh hm) (by simp [paV] at hlen ⊢; omega) hf2
        generalize paV 6 (psV 1 (Kv.mars m) ++ inner) = o at c1 c2 c3 ⊢
        refine l_body (X := cx B) (fn := Tryz.f130) Tryz.func130 rfl rfl rfl rfl rfl 0 [] rfl rfl ?_
        refine walk ?_
        refine l_call [] (h4) rfl rfl rfl rfl rfl rfl rfl (by decide) rfl rfl rfl rfl rfl ?_
        refine l_call [1] (c1) rfl rfl rfl rfl rfl rfl rfl (by decide) (by simp [bo_plain nw_ok]) (by simp [bo_plain ha1]) rfl rfl rfl ?_
        refine walk ?_
        refine l_call [1] (c2) rfl rfl rfl rfl rfl rfl rfl (by decide) (by simp [bo_plain ha1]) (by simp [bo_plain (.inl rfl)]) rfl rfl rfl ?_
        refine walk ?_
        refine l_call [1] (c3) rfl rfl rfl rfl rfl rfl rfl (by decide) (by simp [bo_plain (.inl rfl)]) rfl rfl rfl rfl ?_
        refine walk ?_
        exact l_end trivial (by decide) rfl rfl rfl rfl rfl
      have e : (Vl.mk kind s bb nn l m inner u).mar = u := by simp [Vl.mar, k1, k7, k2, k3, k4, k5, k6]
      rw [e] at hlen ⊢
      obtain ⟨c2, c3⟩ := wr_end B (s := u) nw_ok (l := []) (by simpa using hlen)
      rw [List.nil_append] at c2 c3
      have n1 : (kind == 1) = false := by simp [k1]
      have n2 : (kind == 2) = false := by simp [k2]
      have n3 : (kind == 3) = false := by simp [k3]
      have n4 : (kind == 4) = false := by simp [k4]
      have n5 : (kind == 5) = false := by simp [k5]
      have n6 : (kind == 6) = false := by simp [k6]
      have n7 : (kind == 7) = false := by simp [k7]
      refine l_body (X := cx B) (fn := Tryz.f130) Tryz.func130 rfl rfl rfl rfl rfl 0 [] rfl rfl ?_
      refine walk ?_
      rw [n1]
      refine walk ?_
      rw [n7]
      refine walk ?_
      rw [n2]
      refine walk ?_
      rw [n3]
      refine walk ?_
      rw [n4]
      refine walk ?_
      rw [n5]
      refine walk ?_
      rw [n6]
      refine walk ?_
      refine l_call [1] (c2) rfl rfl rfl rfl rfl rfl rfl (by decide) (by simp [bo_plain nw_ok]) (by simp [bo_plain (.inl rfl)]) rfl rfl rfl ?_
      refine walk ?_
      refine l_call [1] (c3) rfl rfl rfl rfl rfl rfl rfl (by decide) (by simp [bo_plain (.inl rfl)]) rfl rfl rfl rfl ?_
      refine walk ?_
      exact l_end trivial (by decide) rfl rfl rfl rfl rfl
    have hK : ∀ (a : Kv) (xa : D), a.sz < n + 1 → a.sz < big → a.wf → a.R xa → CallsA (cx B) 98 [.d xa] [] (sT a.mar) [] := by
      rintro ⟨key, has, ⟨kind, s, bb, nn, l, m, inner, vu⟩, u⟩ xa hsz hbig hwf ⟨zl, ls, zm, ms, rfl, hl, hm⟩
      have hmar := Kv.mar_len (.mk key has (.mk kind s bb nn l m inner vu) u)
      have hlen : (Kv.mk key has (.mk kind s bb nn l m inner vu) u).mar.length < big := by omega
      unfold Kv.sz at hsz hbig
      have hR : (Vl.mk kind s bb nn l m inner vu).R (.agg [.int .i64 kind, .str s, .bool bb, .int .u64 nn, .sl zl ls, .sl zm ms, .str inner, .str vu]) := ⟨zl, ls, zm, ms, rfl, hl, hm⟩
      have h4 := hV (.mk kind s bb nn l m inner vu) _ (by omega) (by omega) hwf hR
      cases has with
      | true =>
        have e : (Kv.mk key true (.mk kind s bb nn l m inner vu) u).mar = txV 1 key ++ paV 2 (Vl.mk kind s bb nn l m inner vu).mar ++ u := by simp [Kv.mar]
        rw [e] at hlen ⊢
        obtain ⟨a0, ha0, c0⟩ := wr_text B 1 key (by omega) (by omega) (.nw 100 2) [] nw_ok (by simp at hlen ⊢; omega)
        rw [List.nil_append] at c0
        obtain ⟨a1, ha1, c1⟩ := wr_part B 2 (Vl.mk kind s bb nn l m inner vu).mar (by omega) (by omega) a0 (txV 1 key) ha0 (by simp at hlen ⊢; omega)
        obtain ⟨c2, c3⟩ := wr_end B (s := u) ha1 (l := txV 1 key ++ paV 2 (Vl.mk kind s bb nn l m inner vu).mar) (by simp at hlen ⊢; omega)
        generalize txV 1 key ++ paV 2 (Vl.mk kind s bb nn l m inner vu).mar = o at c1 c2 c3 ⊢
        generalize txV 1 key = o0 at c0 c1 ⊢
        refine l_body (X := cx B) (fn := Tryz.f98) Tryz.func98 rfl rfl rfl rfl rfl 0 [] rfl rfl ?_
        refine walk ?_
        refine l_call [1] (c0) rfl rfl rfl rfl rfl rfl rfl (by decide) (by simp [bo_plain nw_ok]) (by simp [bo_plain ha0]) rfl rfl rfl ?_
        refine walk ?_
        refine l_call [] (h4) rfl rfl rfl rfl rfl rfl rfl (by decide) rfl rfl rfl rfl rfl ?_
        refine walk ?_
        refine l_call [1] (c1) rfl rfl rfl rfl rfl rfl rfl (by decide) (by simp [bo_plain ha0]) (by simp [bo_plain ha1]) rfl rfl rfl ?_
        refine walk ?_
        refine l_call [1] (c2) rfl rfl rfl rfl rfl rfl rfl (by decide) (by simp [bo_plain ha1]) (by simp [bo_plain (.inl rfl)]) rfl rfl rfl ?_
        refine walk ?_
        refine l_call [1] (c3) rfl rfl rfl rfl rfl rfl rfl (by decide) (by simp [bo_plain (.inl rfl)]) rfl rfl rfl rfl ?_
        refine walk ?_
        exact l_end trivial (by decide) rfl rfl rfl rfl rfl
      | false =>
        have e : (Kv.mk key false (.mk kind s bb nn l m inner vu) u).mar = txV 1 key ++ u := by simp [Kv.mar]
        rw [e] at hlen ⊢
        obtain ⟨a1, ha1, c0⟩ := wr_text B 1 key (by omega) (by omega) (.nw 100 2) [] nw_ok (by simp at hlen ⊢; omega)
        rw [List.nil_append] at c0
        obtain ⟨c2, c3⟩ := wr_end B (s := u) ha1 (l := txV 1 key) (by simp at hlen ⊢; omega)
        generalize txV 1 key = o at c0 c2 c3 ⊢
        refine l_body (X := cx B) (fn := Tryz.f98) Tryz.func98 rfl rfl rfl rfl rfl 0 [] rfl rfl ?_
        refine walk ?_
        refine l_call [1] (c0) rfl rfl rfl rfl rfl rfl rfl (by decide) (by simp [bo_plain nw_ok]) (by simp [bo_plain ha1]) rfl rfl rfl ?_
        refine walk ?_
        refine l_call [1] (c2) rfl rfl rfl rfl rfl rfl rfl (by decide) (by simp [bo_plain ha1]) (by simp [bo_plain (.inl rfl)]) rfl rfl rfl ?_
        refine walk ?_
        refine l_call [1] (c3) rfl rfl rfl rfl rfl rfl rfl (by decide) (by simp [bo_plain (.inl rfl)]) rfl rfl rfl rfl ?_
        refine walk ?_
        exact l_end trivial (by decide) rfl rfl rfl rfl rfl
    exact ⟨hV, hK⟩
theorem MarshalKey_calls (a : Kv) (xa : D) (d : Int) (hbig : a.sz < big) (hwf : a.wf) (hR : a.R xa) (hd1 : -9223372036854775000 ≤ d) (hd2 : d < 9223372036854775808) :
    CallsA (cx B) 55 [.d xa, .d (.int .i64 d)] [] (if a.may d then .tup [sT a.mar, .d .nili] else .tup [sT [], .d (Er.code 8).d]) [] := by
  have h1 := (val_may B (a.sz + 1)).2.1 a xa d (by omega) hbig hd1 hd2 hR
  have h2 := (val_write B (a.sz + 1)).2 a xa (by omega) hbig hwf hR
  obtain ⟨a0, a1, a2, a3, a4, a5, a6, a7, a8, a9, a10, a11, a12, rfl⟩ := Kv.R_sh hR
  cases hc : a.may d with
  | false =>
    rw [hc] at h1
    refine l_body (X := cx B) (fn := Tryz.f55) Tryz.func55 rfl rfl rfl rfl rfl 0 [] rfl rfl ?_
    refine walk ?_
    refine l_call [] (h1) rfl rfl rfl rfl rfl rfl rfl (by decide) rfl rfl rfl rfl rfl ?_
    refine walk ?_
    exact l_end trivial (by decide) rfl rfl rfl rfl rfl
  | true =>
    rw [hc] at h1
    refine l_body (X := cx B) (fn := Tryz.f55) Tryz.func55 rfl rfl rfl rfl rfl 0 [] rfl rfl ?_
    refine walk ?_
    refine l_call [] (h1) rfl rfl rfl rfl rfl rfl rfl (by decide) rfl rfl rfl rfl rfl ?_
    refine walk ?_
    refine l_call [] (h2) rfl rfl rfl rfl rfl rfl rfl (by decide) rfl rfl rfl rfl rfl ?_
    refine walk ?_
    exact l_end trivial (by decide) rfl rfl rfl rfl rfl
end Go.Proofs.YtaenjdichndafaaGreatDoor
