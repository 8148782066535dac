/- Records alone; deeper: what can be read can be read deeper. -/
import Derived.Test.YtfbckigcelmopaaGreatDoorP2
set_option linter.unusedSimpArgs false
set_option linter.unusedVariables false
set_option maxRecDepth 100000
namespace Go.Proofs.YtfbckigcelmopaaGreatDoor
open Go Go.Abs
theorem vrd_lt : ∀ {l : List UInt8} {i a n k : Nat}, vrd l i a = .ok (n, k) → i < k
  | [], i, a, n, k, h => by simp [vrd] at h
  | c :: l, i, a, n, k, h => by
    unfold vrd at h
    split at h
    · simp at h
    · split at h
      · simp at h
      · split at h
        · injection h with h; injection h with h1 h2; omega
        · have := vrd_lt h; omega
theorem vrd_cut (y : List UInt8) : ∀ (l : List UInt8) (i a n k : Nat), vrd (l ++ y) i a = .ok (n, k) → k ≤ i + l.length → vrd l i a = .ok (n, k)
  | [], i, a, n, k, h, hk => by have := vrd_lt h; simp at hk; omega
  | c :: l, i, a, n, k, h, hk => by
    rw [List.cons_append] at h
    unfold vrd at h ⊢
    split at h
    · simp at h
    · rw [if_neg ‹_›]
      split at h
      · simp at h
      · rw [if_neg ‹_›]
        split at h
        · rw [if_pos ‹_›]; exact h
        · rw [if_neg ‹_›]; exact vrd_cut y l _ _ n k h (by simp at hk; omega)
theorem vE_cut (s y : List UInt8) (p : Nat) (hp : p ≤ s.length) {n k : Nat} (h : vE (s ++ y) p = .ok (n, k)) (hk : k ≤ s.length) : vE s p = .ok (n, k) := by
  unfold vE at h ⊢
  rw [drop_post s y p hp] at h
  cases hv : vrd (s.drop p ++ y) 0 0 with
  | error c => rw [hv] at h; simp at h
  | ok q =>
    obtain ⟨m, j⟩ := q
    rw [hv] at h
    injection h with h; injection h with h1 h2
    subst h1; subst h2
    rw [vrd_cut y _ _ _ _ _ hv (by simp; omega)]
theorem takeE_cut (s y : List UInt8) (p n : Nat) (hp : p ≤ s.length) {t : List UInt8} {q : Nat} (h : takeE (s ++ y) p n = .ok (t, q)) (hq : q ≤ s.length) : takeE s p n = .ok (t, q) := by
  obtain ⟨-, -, -, e, -⟩ := takeE_ok h (by simp; omega)
  unfold takeE at h ⊢
  split at h
  · simp at h
  · rw [if_neg (by omega)]
    rw [drop_post s y p hp, List.take_append_of_le_length (by simp; omega)] at h
    exact h
theorem tagE_cut (s y : List UInt8) (p : Nat) (hp : p ≤ s.length) {n k q : Nat} (h : tagE (s ++ y) p = .ok (n, k, q)) (hq : q ≤ s.length) : tagE s p = .ok (n, k, q) := by
  unfold tagE at h ⊢
  cases hv : vE (s ++ y) p with
  | error c => rw [hv] at h; simp at h
  | ok r =>
    obtain ⟨m, r⟩ := r
    rw [hv] at h
    dsimp only at h
    split at h
    · simp at h
    · have e : r = q := by injection h with h; injection h with h1 h2; injection h2
      subst e
      rw [vE_cut s y p hp hv hq]
      dsimp only
      rw [if_neg ‹_›]; exact h
theorem restG_cut (s y : List UInt8) (g g' : Int → Nat → Nat → Except Er Nat) (d : Int) (num kind a p : Nat) (hp : p ≤ s.length) {N q : Nat} {t : List UInt8} (hg : ∀ q, g (d - 1) num p = .ok q → q ≤ s.length → g' (d - 1) num p = .ok q) (h : restG g (s ++ y) d num kind a p = .ok (N, t, q)) (hq : q ≤ s.length) : restG g' s d num kind a p = .ok (N, t, q) := by
  unfold restG at h ⊢
  split at h
  · rw [if_pos ‹_›]
    cases hv : vE (s ++ y) p with
    | error c => rw [hv] at h; simp at h
    | ok r =>
      obtain ⟨m, r⟩ := r
      rw [hv] at h
      have e : r = q := by injection h with h; injection h with h1 h2; injection h2
      subst e
      rw [vE_cut s y p hp hv hq]; exact h
  · rw [if_neg ‹_›]
    split at h
    · rw [if_pos ‹_›]
      cases hv : takeE (s ++ y) p 8 with
      | error c => rw [hv] at h; simp at h
      | ok r =>
        obtain ⟨m, r⟩ := r
        rw [hv] at h
        have e : r = q := by injection h with h; injection h with h1 h2; injection h2
        subst e
        rw [takeE_cut s y p 8 hp hv hq]; exact h
    · rw [if_neg ‹_›]
      split at h
      · rw [if_pos ‹_›]
        cases hv : takeE (s ++ y) p 4 with
        | error c => rw [hv] at h; simp at h
        | ok r =>
          obtain ⟨m, r⟩ := r
          rw [hv] at h
          have e : r = q := by injection h with h; injection h with h1 h2; injection h2
          subst e
          rw [takeE_cut s y p 4 hp hv hq]; exact h
      · rw [if_neg ‹_›]
        split at h
        · rw [if_pos ‹_›]
          cases hv : vE (s ++ y) p with
          | error c => rw [hv] at h; simp at h
          | ok r =>
            obtain ⟨n, r⟩ := r
            rw [hv] at h
            obtain ⟨a1, b1, -⟩ := vE_ok hv
            dsimp only at h
            cases hw : takeE (s ++ y) r n with
            | error c => rw [hw] at h; simp at h
            | ok z =>
              obtain ⟨m, z⟩ := z
              rw [hw] at h
              have e : z = q := by injection h with h; injection h with h1 h2; injection h2
              subst e
              obtain ⟨c1, -⟩ := takeE_ok hw b1
              rw [vE_cut s y p hp hv (by omega)]
              dsimp only
              rw [takeE_cut s y r n (by omega) hw hq]; exact h
        · rw [if_neg ‹_›]
          split at h
          · rw [if_pos ‹_›]
            split at h
            · rename_i r hr
              split at hr
              · simp at hr
              · have e : r = q := by injection h with h; injection h with h1 h2; injection h2
                subst e
                rw [if_neg ‹_›, hg r hr hq]; exact h
            · simp at h
          · simp at h
theorem grp_cut (s y : List UInt8) : ∀ (f : Nat) (d : Int) (num p q : Nat), p ≤ s.length → grp (s ++ y) f d num p = .ok q → q ≤ s.length → grp s f d num p = .ok q
  | 0, d, num, p, q, _, h, _ => by simp [grp] at h
  | f + 1, d, num, p, q, hp, h, hq => by
    rw [grp_succ] at h ⊢
    cases ht : tagE (s ++ y) p with
    | error e => rw [ht] at h; simp at h
    | ok r =>
      obtain ⟨n, k, q1⟩ := r
      rw [ht] at h
      obtain ⟨a, b, -⟩ := tagE_ok ht
      dsimp only at h
      split at h
      · rename_i hk
        split at h
        · rename_i hn
          injection h with h; subst h
          rw [tagE_cut s y p hp ht hq]
          dsimp only
          rw [if_pos hk, if_pos hn]
        · simp at h
      · rename_i hk
        cases hr : restG (grp (s ++ y) f) (s ++ y) d n k p q1 with
        | error e => rw [hr] at h; simp at h
        | ok r =>
          obtain ⟨N, t, q2⟩ := r
          rw [hr] at h
          dsimp only at h
          obtain ⟨a2, b2, -⟩ := restG_ok (fun d n p q => grp_ok f d n p q) hr b
          obtain ⟨a3, b3⟩ := grp_ok f d num q2 q h b2
          rw [tagE_cut s y p hp ht (by omega)]
          dsimp only
          rw [if_neg hk, restG_cut s y (grp (s ++ y) f) (grp s f) d n k p q1 (by omega) (fun q hq hq2 => grp_cut s y f _ _ _ _ (by omega) hq hq2) hr (by omega)]
          exact grp_cut s y f d num q2 q (by omega) h hq
theorem recE_cut (s y : List UInt8) (d : Int) (p : Nat) (hp : p ≤ s.length) {r : Fld} {q : Nat} (h : recE (s ++ y) d p = .ok (r, q)) (hq : q ≤ s.length) : recE s d p = .ok (r, q) := by
  unfold recE at h ⊢
  cases ht : tagE (s ++ y) p with
  | error e => rw [ht] at h; simp at h
  | ok z =>
    obtain ⟨n, k, q1⟩ := z
    rw [ht] at h
    obtain ⟨a, b, -⟩ := tagE_ok ht
    dsimp only at h
    cases hr : restG (grp (s ++ y) ((s ++ y).length + 1)) (s ++ y) d n k p q1 with
    | error e => rw [hr] at h; simp at h
    | ok z =>
      obtain ⟨N, t, q2⟩ := z
      rw [hr] at h
      dsimp only at h
      obtain ⟨a2, b2, -⟩ := restG_ok (fun d n p q => grp_ok _ d n p q) hr b
      have e2 : q2 = q := by injection h with h; injection h with h1 h2
      subst e2
      rw [tagE_cut s y p hp ht (by omega)]
      dsimp only
      rw [restG_cut s y _ (grp s (s.length + 1)) d n k p q1 (by omega) (fun q hq hq2 => by
        have := grp_cut s y _ _ _ _ _ (show q1 ≤ s.length by omega) hq hq2
        rw [grp_fuel s ((s ++ y).length + 1) (s.length + 1) (d - 1) n q1 (by omega) (by simp; omega) (by omega)]
        exact this) hr hq]
      dsimp only
      rw [drop_post s y p hp, List.take_append_of_le_length (by simp; omega)] at h
      exact h
/-- A record stands alone. -/
theorem rec_raw {s : List UInt8} {d : Int} {p q : Nat} {r : Fld} (h : recE s d p = .ok (r, q)) : all r.raw d = .ok [r] := by
  obtain ⟨h1, h2, -⟩ := recE_ok h
  have hr : r.raw = (s.drop p).take (q - p) := by
    unfold recE at h
    split at h <;> (try (simp at h; done))
    split at h <;> (try (simp at h; done))
    injection h with h; injection h with e3 e4
    subst e3; subst e4; rfl
  have hl : r.raw.length = q - p := by rw [hr]; simp; omega
  have hx : (s.take p).length = p := by simp; omega
  have hsh := recE_sh (s.take p) (s.drop p) d 0 (by omega)
  rw [List.take_append_drop, hx, Nat.add_zero, h] at hsh
  cases hd : recE (s.drop p) d 0 with
  | error e => rw [hd] at hsh; simp [shE] at hsh
  | ok z =>
    obtain ⟨r', q'⟩ := z
    rw [hd] at hsh
    simp only [shE] at hsh
    injection hsh with hsh; injection hsh with e1 e2
    subst e1
    rw [← List.take_append_drop (q - p) (s.drop p), ← hr] at hd
    have := recE_cut _ _ d 0 (by omega) hd (by omega)
    rw [show q' = r.raw.length by omega] at this
    exact rec_all this
theorem allE_raws {s : List UInt8} {d : Int} : ∀ {f p : Nat} {l : List Fld}, allE s d f p = .ok l → ∀ x ∈ l, all x.raw d = .ok [x]
  | 0, p, l, h => by simp [allE] at h; subst h; simp
  | f + 1, p, l, h => by
    unfold allE at h
    split at h
    · split at h <;> (try (simp at h; done))
      rename_i e
      split at h <;> (try (simp at h; done))
      rename_i e2
      injection h with h; subst h
      intro x hx
      rcases List.mem_cons.1 hx with rfl | hx
      · exact rec_raw e
      · exact allE_raws e2 x hx
    · injection h with h; subst h; simp
theorem raws_all (d : Int) : ∀ (l : List Fld), (∀ x ∈ l, all x.raw d = .ok [x]) → all (l.flatMap Fld.raw) d = .ok l
  | [], _ => all_nil d
  | x :: l, h => by
    rw [List.flatMap_cons]
    exact all_app_ok (h x (List.mem_cons_self ..)) (raws_all d l fun y hy => h y (List.mem_cons_of_mem _ hy))
theorem unk_all {s : List UInt8} {d : Int} {l : List Fld} (tb : Nat → Nat → Bool) (h : all s d = .ok l) : all (unkL tb l) d = .ok (l.filter fun x => !isT tb x) :=
  raws_all d _ fun x hx => allE_raws h x (List.mem_filter.1 hx).1
theorem unk_rest {s : List UInt8} {d : Int} {l : List Fld} (tb : Nat → Nat → Bool) (h : all s d = .ok l) : restB tb (unkL tb l) d = true := by
  unfold restB
  rw [unk_all tb h]
  simp only [Bool.not_eq_true']
  rw [List.any_eq_false]
  intro x hx
  have := (List.mem_filter.1 hx).2
  simpa [isT] using this
theorem okB_may {s : List UInt8} {d : Int} {b : Bk} (h : okB s d = some b) : mayB b.u d = true := by
  unfold okB at h
  cases ho : okL s d with
  | none => rw [ho] at h; simp at h
  | some l =>
    obtain ⟨-, -, h1, hd⟩ := okL_some ho
    rw [ho] at h
    simp only at h
    split at h
    · simp at h
    · injection h with h; subst h
      unfold mayB
      rw [unk_rest tbB h1, decide_eq_true hd]; rfl
theorem varsE_lt {s : List UInt8} : ∀ {f p : Nat} {l : List Nat}, varsE s f p = .ok l → ∀ n ∈ l, n < 2 ^ 64
  | 0, p, l, h => by simp [varsE] at h; subst h; simp
  | f + 1, p, l, h => by
    unfold varsE at h
    split at h
    · split at h <;> (try (simp at h; done))
      rename_i e
      split at h <;> (try (simp at h; done))
      rename_i e2
      injection h with h; subst h
      intro n hn
      rcases List.mem_cons.1 hn with rfl | hn
      · exact (vE_ok e).2.2
      · exact varsE_lt e2 n hn
    · injection h with h; subst h; simp
theorem packO_lt {num : Nat} : ∀ {l : List Fld} {ns : List Nat}, (∀ x ∈ l, FOk x) → packO vars num l = some ns → ∀ n ∈ ns, n < 2 ^ 64
  | [], ns, _, h => by simp [packO] at h; subst h; simp
  | x :: l, ns, hl, h => by
    have ih := fun {m} => packO_lt (num := num) (l := l) (ns := m) fun y hy => hl y (List.mem_cons_of_mem _ hy)
    unfold packO at h
    split at h
    · split at h
      · split at h
        · rename_i a e
          cases hp : packO vars num l with
          | none => rw [hp] at h; simp at h
          | some m =>
            rw [hp] at h; simp at h; subst h
            intro n hn
            rcases List.mem_append.1 hn with hn | hn
            · exact varsE_lt e n hn
            · exact ih hp n hn
        · simp at h
      · cases hp : packO vars num l with
        | none => rw [hp] at h; simp at h
        | some m =>
          rw [hp] at h; simp at h; subst h
          intro n hn
          rcases List.mem_cons.1 hn with rfl | hn
          · exact (hl x (List.mem_cons_self ..)).n
          · exact ih hp n hn
    · exact ih h
theorem okB_rng {s : List UInt8} {d : Int} {b : Bk} (h : okB s d = some b) : (-2147483648 ≤ b.off ∧ b.off < 2147483648) ∧ ∀ n ∈ b.cs, n < 2 ^ 64 := by
  unfold okB at h
  cases ho : okL s d with
  | none => rw [ho] at h; simp at h
  | some l =>
    obtain ⟨w1, w2⟩ := okL_wt ho
    rw [ho] at h
    simp only at h
    cases h2 : packO vars 2 (knownL tbB l) with
    | none => rw [h2] at h; simp at h
    | some ns =>
      rw [h2] at h
      simp only [Option.some.injEq] at h
      subst h
      exact ⟨zag32_lt _, packO_lt (fun x hx => w2 x (List.mem_filter.1 hx).1) h2⟩
/-! Deeper. -/
theorem restG_deep {g : Int → Nat → Nat → Except Er Nat} {s : List UInt8} {d e : Int} {num kind a p : Nat} {r : Nat × List UInt8 × Nat} (hde : d ≤ e) (hg : ∀ q, g (d - 1) num p = .ok q → g (e - 1) num p = .ok q) (h : restG g s d num kind a p = .ok r) : restG g s e num kind a p = .ok r := by
  unfold restG at h ⊢
  by_cases h3 : kind = 3
  · subst h3
    rw [if_neg (by omega), if_neg (by omega), if_neg (by omega), if_neg (by omega), if_pos rfl] at h ⊢
    split at h
    · rename_i q hq
      split at hq
      · simp at hq
      · rw [if_neg (by omega), hg q hq]; exact h
    · simp at h
  · rw [if_neg h3] at h ⊢; exact h
theorem grp_deep {s : List UInt8} : ∀ (f : Nat) {d e : Int} {num p q : Nat}, d ≤ e → grp s f d num p = .ok q → grp s f e num p = .ok q
  | 0, d, e, num, p, q, _, h => by simp [grp] at h
  | f + 1, d, e, num, p, q, hde, h => by
    rw [grp_succ] at h ⊢
    split at h
    · simp at h
    · rename_i n k q1 ht
      try dsimp only
      split at h
      · rw [if_pos ‹_›]; exact h
      · rw [if_neg ‹_›]
        split at h
        · simp at h
        · rename_i N t q2 hr
          rw [restG_deep hde (fun q hq => grp_deep f (by omega) hq) hr]
          exact grp_deep f hde h
theorem recE_deep {s : List UInt8} {d e : Int} {p : Nat} {r : Fld × Nat} (hde : d ≤ e) (h : recE s d p = .ok r) : recE s e p = .ok r := by
  unfold recE at h ⊢
  split at h
  · simp at h
  · rename_i n k q ht
    try dsimp only
    split at h
    · simp at h
    · rename_i N t q2 hr
      rw [restG_deep hde (fun q hq => grp_deep _ (by omega) hq) hr]; exact h
theorem allE_deep {s : List UInt8} {d e : Int} (hde : d ≤ e) : ∀ {f p : Nat} {l : List Fld}, allE s d f p = .ok l → allE s e f p = .ok l
  | 0, p, l, h => by simpa [allE] using h
  | f + 1, p, l, h => by
    unfold allE at h ⊢
    split at h
    · rw [if_pos ‹_›]
      split at h
      · simp at h
      · rename_i r q hr
        rw [recE_deep hde hr]
        dsimp only
        split at h
        · simp at h
        · rename_i l' h2
          rw [allE_deep hde h2]; exact h
    · rw [if_neg ‹_›]; exact h
theorem all_deep {s : List UInt8} {d e : Int} {l : List Fld} (hde : d ≤ e) (h : all s d = .ok l) : all s e = .ok l := allE_deep hde h
theorem mayB_deep {u : List UInt8} {d e : Int} (hde : d ≤ e) (h : mayB u d = true) : mayB u e = true := by
  unfold mayB restB at h ⊢
  rw [Bool.and_eq_true] at h
  obtain ⟨h1, h2⟩ := h
  have h1 := of_decide_eq_true h1
  cases ha : all u d with
  | error e => rw [ha] at h2; simp at h2
  | ok l => rw [ha] at h2; rw [all_deep hde ha, decide_eq_true (by omega)]; simpa using h2
/-! As deep as it is long is deep enough. -/
theorem restG_far {g : Int → Nat → Nat → Except Er Nat} {s : List UInt8} {d e : Int} {num kind a p : Nat} {r : Nat × List UInt8 × Nat} (he : 1 ≤ e) (hg : ∀ q, g (d - 1) num p = .ok q → g (e - 1) num p = .ok q) (h : restG g s d num kind a p = .ok r) : restG g s e num kind a p = .ok r := by
  unfold restG at h ⊢
  by_cases h3 : kind = 3
  · subst h3
    rw [if_neg (by omega), if_neg (by omega), if_neg (by omega), if_neg (by omega), if_pos rfl] at h ⊢
    split at h
    · rename_i q hq
      split at hq
      · simp at hq
      · rw [if_neg (by omega), hg q hq]; exact h
    · simp at h
  · rw [if_neg h3] at h ⊢; exact h
theorem grp_far {s : List UInt8} : ∀ (f : Nat) {d e : Int} {num p q : Nat}, ((s.length - p : Nat) : Int) ≤ e → grp s f d num p = .ok q → grp s f e num p = .ok q
  | 0, d, e, num, p, q, _, h => by simp [grp] at h
  | f + 1, d, e, num, p, q, hde, h => by
    rw [grp_succ] at h ⊢
    split at h
    · simp at h
    · rename_i n k q1 ht
      obtain ⟨a, b, -⟩ := tagE_ok ht
      try dsimp only
      split at h
      · rw [if_pos ‹_›]; exact h
      · rw [if_neg ‹_›]
        split at h
        · simp at h
        · rename_i N t q2 hr
          obtain ⟨a2, b2, -⟩ := restG_ok (fun d n p q => grp_ok f d n p q) hr b
          rw [restG_far (by omega) (fun q hq => grp_far f (by omega) hq) hr]
          exact grp_far f (by omega) h
theorem recE_far {s : List UInt8} {d e : Int} {p : Nat} {r : Fld × Nat} (hde : (s.length : Int) ≤ e) (h : recE s d p = .ok r) : recE s e p = .ok r := by
  unfold recE at h ⊢
  split at h
  · simp at h
  · rename_i n k q ht
    obtain ⟨a, b, -⟩ := tagE_ok ht
    try dsimp only
    split at h
    · simp at h
    · rename_i N t q2 hr
      rw [restG_far (by omega) (fun q hq => grp_far _ (by omega) hq) hr]; exact h
theorem allE_far {s : List UInt8} {d e : Int} (hde : (s.length : Int) ≤ e) : ∀ {f p : Nat} {l : List Fld}, allE s d f p = .ok l → allE s e f p = .ok l
  | 0, p, l, h => by simpa [allE] using h
  | f + 1, p, l, h => by
    unfold allE at h ⊢
    split at h
    · rw [if_pos ‹_›]
      split at h
      · simp at h
      · rename_i r q hr
        rw [recE_far hde hr]
        try dsimp only
        split at h
        · simp at h
        · rename_i l' h2
          rw [allE_far hde h2]; exact h
    · rw [if_neg ‹_›]; exact h
theorem mayB_far {u : List UInt8} {d e : Int} (hde : (u.length : Int) ≤ e) (h : mayB u d = true) : mayB u e = true := by
  unfold mayB restB at h ⊢
  rw [Bool.and_eq_true] at h
  obtain ⟨h1, h2⟩ := h
  cases ha : all u d with
  | error e => rw [ha] at h2; simp at h2
  | ok l =>
    have hb : all u e = .ok l := allE_far hde ha
    rw [ha] at h2; rw [hb, decide_eq_true (by omega)]; simpa using h2
/-- Less deep: the same, or nothing. -/
theorem okB_less {o : Int} {cs : List Nat} {u : List UInt8} {d e : Int} (hm : mayB u d = true) (hde : e ≤ d) (h1 : -2147483648 ≤ o) (h2 : o < 2147483648) (hl : (packV cs).length < 2 ^ 64) (h : mayB u e = false) : okB (marB o cs u) e = none := by
  unfold okB
  cases ho : okL (marB o cs u) e with
  | none => rfl
  | some l =>
    exfalso
    obtain ⟨-, -, h3, he⟩ := okL_some ho
    unfold marB at h3
    have h4 := head_all o cs e h1 h2 hl
    cases hu : all u e with
    | error x => rw [all_app_err h4 hu] at h3; simp at h3
    | ok l1 =>
      have h5 := all_deep hde hu
      unfold mayB restB at hm h
      rw [h5, Bool.and_eq_true] at hm
      rw [hu, decide_eq_true he] at h
      simp only [Bool.true_and] at h
      have hm2 := hm.2
      simp only at hm2
      rw [hm2] at h
      simp at h
end Go.Proofs.YtfbckigcelmopaaGreatDoor
