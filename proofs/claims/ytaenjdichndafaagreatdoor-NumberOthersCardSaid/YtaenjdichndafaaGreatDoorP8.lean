/- Values and attributes: what is read may be, and is not long; deep enough is deep enough; alike. -/
import Derived.Test.YtaenjdichndafaaGreatDoorP7
set_option linter.unusedSimpArgs false
set_option linter.unusedVariables false
set_option maxRecDepth 100000
namespace Go.Proofs.YtaenjdichndafaaGreatDoor
open Go Go.Abs
theorem wt_cons (x : Fld) (l : List Fld) : wt (x :: l) = x.raw.length + wt l := by simp [wt]
theorem wt_sel (m : Nat) (l : List Fld) : wt (sel m l) ≤ wt l := wt_filter _ l
theorem lastF_s {l : List Fld} (h : ∀ x ∈ l, FOk x) (num : Nat) : (lastF l num).s.length ≤ wt l := by
  rcases lastF_mem num l with g | g
  · have h1 := (h _ g).s
    have h2 : (lastF l num).raw.length ≤ wt l := by
      generalize lastF l num = y at *
      clear h h1
      induction l with
      | nil => simp at g
      | cons x l ih =>
        rw [wt_cons]
        rcases List.mem_cons.1 g with rfl | g
        · omega
        · have := ih g; omega
    omega
  · rw [g]; show 0 ≤ _; omega
theorem lastF_nn {l : List Fld} (h : ∀ x ∈ l, FOk x) (num : Nat) : (lastF l num).n < 2 ^ 64 := by
  rcases lastF_mem num l with g | g
  · exact (h _ g).n
  · rw [g]; show 0 < 2 ^ 64; omega
theorem bytesL_wt {l : List Fld} (h : ∀ x ∈ l, FOk x) (num : Nat) : (bytesL l num).length ≤ wt l := bytesL_len num l h
/-- What is told of the one that counts. -/
theorem oneF_ok {ns : List Nat} {l : List Fld} (h : ∀ x ∈ l, FOk x) : (oneF ns l).n < 2 ^ 64 ∧ (oneF ns l).s.length ≤ wt l ∧ (oneF ns l).all.flatten.length ≤ wt l ∧ ((oneF ns l).num = 0 ∨ (ns.contains (oneF ns l).num = true ∧ ∃ x ∈ l, x.num = (oneF ns l).num ∧ x.s = (oneF ns l).s)) := by
  have key : ∀ (l l0 : List Fld) (o : OneS) (W : Nat), (∀ x ∈ l, FOk x) → (∀ x ∈ l, x ∈ l0) → o.n < 2 ^ 64 → o.s.length ≤ W → o.all.flatten.length ≤ W → (o.num = 0 ∨ (ns.contains o.num = true ∧ ∃ x ∈ l0, x.num = o.num ∧ x.s = o.s)) →
      (l.foldl (oneStep ns) o).n < 2 ^ 64 ∧ (l.foldl (oneStep ns) o).s.length ≤ W + wt l ∧ (l.foldl (oneStep ns) o).all.flatten.length ≤ W + wt l ∧ ((l.foldl (oneStep ns) o).num = 0 ∨ (ns.contains (l.foldl (oneStep ns) o).num = true ∧ ∃ x ∈ l0, x.num = (l.foldl (oneStep ns) o).num ∧ x.s = (l.foldl (oneStep ns) o).s)) := by
    intro l l0
    induction l with
    | nil => intro o W _ _ h1 h2 h3 h4; exact ⟨h1, by simp [wt]; omega, by simpa [wt] using h3, h4⟩
    | cons x l ih =>
      intro o W hf hm h1 h2 h3 h4
      have hx := hf x (List.mem_cons_self ..)
      have hxs := hx.s
      rw [List.foldl_cons, wt_cons]
      have step : (oneStep ns o x).n < 2 ^ 64 ∧ (oneStep ns o x).s.length ≤ W + x.raw.length ∧ (oneStep ns o x).all.flatten.length ≤ W + x.raw.length ∧ ((oneStep ns o x).num = 0 ∨ (ns.contains (oneStep ns o x).num = true ∧ ∃ y ∈ l0, y.num = (oneStep ns o x).num ∧ y.s = (oneStep ns o x).s)) := by
        unfold oneStep
        split
        · rename_i hc
          split
          · refine ⟨hx.n, by show x.s.length ≤ _; omega, ?_, .inr ⟨hc, x, hm x (List.mem_cons_self ..), rfl, rfl⟩⟩
            simp only [List.flatten_append, List.flatten_cons, List.flatten_nil, List.append_nil, List.length_append]; omega
          · refine ⟨hx.n, by show x.s.length ≤ _; omega, ?_, .inr ⟨hc, x, hm x (List.mem_cons_self ..), rfl, rfl⟩⟩
            simp only [List.flatten_cons, List.flatten_nil, List.append_nil]; omega
        · exact ⟨h1, by omega, by omega, h4⟩
      obtain ⟨s1, s2, s3, s4⟩ := step
      obtain ⟨a, b, c, d⟩ := ih (oneStep ns o x) (W + x.raw.length) (fun y hy => hf y (List.mem_cons_of_mem _ hy)) (fun y hy => hm y (List.mem_cons_of_mem _ hy)) s1 s2 s3 s4
      exact ⟨a, by omega, by omega, d⟩
  have := key l l noOne 0 h (fun x hx => hx) (by show 0 < 2 ^ 64; omega) (by simp [noOne]) (by simp [noOne]) (.inl rfl)
  simpa [oneF] using this
theorem parts_told {α : Type} {ok : List UInt8 → Option α} {sz : α → Nat} {szs : List α → Nat} (h0 : szs [] = 0) (h1 : ∀ x l, szs (x :: l) = sz x + szs l) (hs : ∀ s v, ok s = some v → sz v ≤ 100 + 100 * s.length) :
    ∀ {l : List Fld} {r : List α}, (∀ x ∈ l, FOk x) → mapO (fun x => ok x.s) l = some r → szs r ≤ 100 * wt l
  | [], r, _, h => by simp [mapO] at h; subst h; rw [h0]; omega
  | x :: l, r, hf, h => by
    have hx := (hf x (List.mem_cons_self ..)).s
    unfold mapO at h
    split at h
    · simp at h
    · rename_i y hy
      split at h
      · simp at h
      · rename_i r' hr
        injection h with h; subst h
        have := parts_told h0 h1 hs (fun y hy => hf y (List.mem_cons_of_mem _ hy)) hr
        have := hs _ _ hy
        rw [h1, wt_cons]; omega
theorem all_txt {l : List Fld} {m : Nat} {s : List UInt8} (h : ((sel m l).all fun x => txt x.s) = true) {x : Fld} (hx : x ∈ l) (hn : x.num = m) : txt x.s = true := List.all_eq_true.1 h x (sel_mem.2 ⟨hx, hn⟩)
theorem last_txt {l : List Fld} {m : Nat} (h : ((sel m l).all fun x => txt x.s) = true) : txt (lastF l m).s = true := by
  cases ha : anyL l m with
  | false => rw [lastF_no ha]; rfl
  | true => obtain ⟨h1, h2⟩ := lastF_num ha; exact all_txt (s := []) h h2 h1
theorem val_told (k : Nat) : ∀ d : Int, d < k →
    (∀ s v, okV s d = some v → v.may d = true ∧ v.wf ∧ v.sz ≤ 60 + 100 * s.length) ∧ (∀ s v, okK s d = some v → v.may d = true ∧ v.wf ∧ v.sz ≤ 100 + 100 * s.length) := by
  induction k with
  | zero =>
    intro d hd
    constructor
    · intro s v h; rw [okV_eq, okG_neg (by omega)] at h; simp [apO] at h
    · intro s v h; rw [okK_eq, okG_neg (by omega)] at h; simp [apO] at h
  | succ k ih =>
    intro d hdk
    constructor
    · intro s v h
      rw [okV_eq] at h
      obtain ⟨f, u, h1, rfl⟩ := apO_some h
      obtain ⟨l, -, h2, -, h4, hd, hf, hw⟩ := okG_inv h1
      dsimp only at h2 h4 hw
      obtain ⟨o1, o2, o3, o4⟩ := oneF_ok (ns := [1, 2, 3, 4, 5, 6, 7]) hf
      unfold tellV at h2
      split at h2
      · simp at h2
      rename_i htx
      have htx : ((sel 1 (knownL tbV l)).all fun x => txt x.s) = true := by simpa using htx
      dsimp only at h2
      generalize oneF [1, 2, 3, 4, 5, 6, 7] (knownL tbV l) = o at *
      split at h2
      · rename_i hk
        injection h2 with h2; subst h2
        have ht : o.num = 1 → txt o.s = true := fun h => by
          rcases o4 with g | ⟨-, x, g1, g2, g3⟩
          · omega
          · rw [← g3]; exact all_txt (s := []) htx g1 (by omega)
        refine ⟨?_, ⟨by omega, by rcases hk with h | h <;> rw [h] <;> omega, by omega, trivial, trivial⟩, by unfold Vl.sz; simp [Vl.szs, Kv.szs]; omega⟩
        unfold Vl.may
        rw [decide_eq_true hd, h4]
        rcases hk with h | h <;> rw [h]
        · have := ht h
          simp [bareV, nestB, this]
        · simp [bareV, nestB]
      split at h2
      · rename_i hk
        injection h2 with h2; subst h2
        refine ⟨?_, ⟨by omega, by omega, by omega, trivial, trivial⟩, by unfold Vl.sz; simp [Vl.szs, Kv.szs]; omega⟩
        unfold Vl.may
        rw [decide_eq_true hd, h4]
        simp [bareV, nestB]
      split at h2
      · rename_i hk
        injection h2 with h2; subst h2
        refine ⟨?_, ⟨by omega, by rcases hk with h | h <;> rw [h] <;> omega, o1, trivial, trivial⟩, by unfold Vl.sz; simp [Vl.szs, Kv.szs]; omega⟩
        unfold Vl.may
        rw [decide_eq_true hd, h4]
        rcases hk with h | h <;> rw [h] <;> simp [bareV, nestB]
      split at h2
      · rename_i hk
        split at h2
        · simp at h2
        rename_i p hp
        injection h2 with h2; subst h2
        obtain ⟨l2, -, g2, -, g4, gd, gf, gw⟩ := okG_inv hp
        unfold partsO at g2
        have hsz := parts_told (sz := Vl.sz) (szs := Vl.szs) rfl (fun _ _ => rfl) (fun s v h => by have := ((ih (d - 2) (by omega)).1 s v h).2.2; omega) (fok_sel gf 1) g2
        have hws := wt_sel 1 (knownL tbL l2)
        have hel : ∀ y ∈ p.1, y.may (d - 2) = true ∧ y.wf := fun y hy => by
          obtain ⟨x, -, hx⟩ := mapO_mem g2 y hy
          have := (ih (d - 2) (by omega)).1 x.s y hx
          exact ⟨this.1, this.2.1⟩
        refine ⟨?_, ⟨by omega, by omega, by omega, Vl.wf_of fun y hy => (hel y hy).2, trivial⟩, by unfold Vl.sz; simp [Kv.szs]; omega⟩
        unfold Vl.may
        rw [decide_eq_true hd, h4, if_pos (.inl rfl), decide_eq_true (show 1 ≤ d by omega), g4, Vl.mays_all, List.all_eq_true.2 fun y hy => (hel y hy).1]
        simp [bareV, Kv.mays]
      split at h2
      · rename_i hk
        split at h2
        · simp at h2
        rename_i p hp
        injection h2 with h2; subst h2
        obtain ⟨l2, -, g2, -, g4, gd, gf, gw⟩ := okG_inv hp
        unfold partsO at g2
        have hsz := parts_told (sz := Kv.sz) (szs := Kv.szs) rfl (fun _ _ => rfl) (fun s v h => ((ih (d - 2) (by omega)).2 s v h).2.2) (fok_sel gf 1) g2
        have hws := wt_sel 1 (knownL tbL l2)
        have hel : ∀ y ∈ p.1, y.may (d - 2) = true ∧ y.wf := fun y hy => by
          obtain ⟨x, -, hx⟩ := mapO_mem g2 y hy
          have := (ih (d - 2) (by omega)).2 x.s y hx
          exact ⟨this.1, this.2.1⟩
        refine ⟨?_, ⟨by omega, by omega, by omega, trivial, Kv.wf_of fun y hy => (hel y hy).2⟩, by unfold Vl.sz; simp [Vl.szs]; omega⟩
        unfold Vl.may
        rw [decide_eq_true hd, h4, if_pos (.inr rfl), decide_eq_true (show 1 ≤ d by omega), g4, Kv.mays_all, List.all_eq_true.2 fun y hy => (hel y hy).1]
        simp [bareV, Vl.mays]
      · injection h2 with h2; subst h2
        refine ⟨?_, ⟨by omega, by omega, by omega, trivial, trivial⟩, by unfold Vl.sz; simp [Vl.szs, Kv.szs]; omega⟩
        unfold Vl.may
        rw [decide_eq_true hd, h4]
        simp [bareV, nestB]
    · intro s v h
      rw [okK_eq] at h
      obtain ⟨f, u, h1, rfl⟩ := apO_some h
      obtain ⟨l, -, h2, -, h4, hd, hf, hw⟩ := okG_inv h1
      dsimp only at h2 h4 hw
      unfold tellK at h2
      split at h2
      · simp at h2
      rename_i htx
      have htx : ((sel 1 (knownL tbK l)).all fun x => txt x.s) = true := by simpa using htx
      have hks := lastF_s hf 1
      have hbs := bytesL_wt hf 2
      have hlt := last_txt htx
      split at h2
      · simp at h2
      rename_i p hp
      injection h2 with h2; subst h2
      unfold partO at hp
      split at hp
      · split at hp
        · simp at hp
        rename_i x hx
        injection hp with hp; subst hp
        obtain ⟨i1, i2, i3⟩ := (ih (d - 1) (by omega)).1 _ x hx
        -- a text and a part stand in other records
        have hsum : (lastF (knownL tbK l) 1).s.length + (bytesL (knownL tbK l) 2).length ≤ wt (knownL tbK l) := by
          generalize knownL tbK l = q at *
          have e1 : (lastF q 1).s.length ≤ wt (sel 1 q) := by rw [← sel_last]; exact lastF_s (fok_sel hf 1) 1
          have e2 : (bytesL q 2).length ≤ wt (sel 2 q) := by
            have : bytesL q 2 = bytesL (sel 2 q) 2 := by rw [bytesL_sel, bytesL_sel, sel_of (n := 2) (fun x hx => (sel_mem.1 hx).2) 2, if_pos rfl]
            rw [this]; exact bytesL_wt (fok_sel hf 2) 2
          have e3 : ∀ q : List Fld, wt (sel 1 q) + wt (sel 2 q) ≤ wt q := by
            intro q
            induction q with
            | nil => simp [sel_nil, wt]
            | cons x q ih =>
              rw [sel_cons, sel_cons, wt_cons]
              by_cases h1 : x.num = 1
              · rw [if_pos h1, if_neg (by omega), wt_cons]; omega
              · rw [if_neg h1]
                split
                · rw [wt_cons]; omega
                · omega
          have := e3 q; omega
        refine ⟨?_, i2, by unfold Kv.sz; simp only; omega⟩
        unfold Kv.may
        rw [decide_eq_true hd, hlt, h4]
        simpa using i1
      · injection hp with hp; subst hp
        refine ⟨?_, ⟨by omega, by omega, by omega, trivial, trivial⟩, by unfold Kv.sz noVl Vl.sz; simp [Vl.szs, Kv.szs]; omega⟩
        unfold Kv.may
        rw [decide_eq_true hd, hlt, h4]; rfl
/-! Deep enough. -/
theorem rest_far {tb : Nat → Nat → Bool} {u : List UInt8} {d e : Int} (hde : (u.length : Int) ≤ e) (h : restB tb u d = true) : restB tb u e = true := by
  unfold restB at h ⊢
  cases ha : all u d with
  | error e => rw [ha] at h; simp at h
  | ok l =>
    have hb : all u e = .ok l := allE_far hde ha
    rw [ha] at h; rw [hb]; exact h
mutual
theorem Vl.far : ∀ (v : Vl) (d e : Int), (v.sz : Int) ≤ e → v.may d = true → v.may e = true
  | .mk kind s b n l m inner u, d, e, hs, h => by
    unfold Vl.sz at hs
    unfold Vl.may at h ⊢
    simp only [Bool.and_eq_true, decide_eq_true_eq] at h ⊢
    obtain ⟨⟨⟨h1, h2⟩, h3⟩, h4⟩ := h
    refine ⟨⟨⟨by omega, h2⟩, rest_far (by omega) h3⟩, ?_⟩
    split
    · rw [if_pos ‹_›] at h4
      simp only [Bool.and_eq_true, decide_eq_true_eq] at h4 ⊢
      obtain ⟨⟨⟨g1, g2⟩, g3⟩, g4⟩ := h4
      exact ⟨⟨⟨by omega, rest_far (by omega) g2⟩, Vl.fars l (d - 2) (e - 2) (by omega) g3⟩, Kv.fars m (d - 2) (e - 2) (by omega) g4⟩
    · rfl
theorem Vl.fars : ∀ (l : List Vl) (d e : Int), (Vl.szs l : Int) ≤ e → Vl.mays l d = true → Vl.mays l e = true
  | [], _, _, _, _ => rfl
  | v :: l, d, e, hs, h => by
    unfold Vl.szs at hs
    unfold Vl.mays at h ⊢
    rw [Bool.and_eq_true] at h ⊢
    exact ⟨Vl.far v d e (by omega) h.1, Vl.fars l d e (by omega) h.2⟩
theorem Kv.far : ∀ (v : Kv) (d e : Int), (v.sz : Int) ≤ e → v.may d = true → v.may e = true
  | .mk key has v u, d, e, hs, h => by
    unfold Kv.sz at hs
    unfold Kv.may at h ⊢
    simp only [Bool.and_eq_true, decide_eq_true_eq] at h ⊢
    obtain ⟨⟨⟨h1, h2⟩, h3⟩, h4⟩ := h
    refine ⟨⟨⟨by omega, h2⟩, rest_far (by omega) h3⟩, ?_⟩
    split
    · rw [if_pos ‹_›] at h4
      exact Vl.far v (d - 1) (e - 1) (by omega) h4
    · rw [if_neg ‹_›] at h4; exact h4
theorem Kv.fars : ∀ (l : List Kv) (d e : Int), (Kv.szs l : Int) ≤ e → Kv.mays l d = true → Kv.mays l e = true
  | [], _, _, _, _ => rfl
  | v :: l, d, e, hs, h => by
    unfold Kv.szs at hs
    unfold Kv.mays at h ⊢
    rw [Bool.and_eq_true] at h ⊢
    exact ⟨Kv.far v d e (by omega) h.1, Kv.fars l d e (by omega) h.2⟩
end
/-! Alike. -/
mutual
def Vl.eq : Vl → Vl → Bool
  | .mk kind s b n l m inner u, .mk kind' s' b' n' l' m' inner' u' => kind == kind' && s == s' && b == b' && n == n' && inner == inner' && u == u' && Vl.eqs l l' && Kv.eqs m m'
def Vl.eqs : List Vl → List Vl → Bool
  | [], [] => true
  | v :: l, w :: r => v.eq w && Vl.eqs l r
  | [], _ :: _ => false
  | _ :: _, [] => false
def Kv.eq : Kv → Kv → Bool
  | .mk key has v u, .mk key' has' v' u' => key == key' && has == has' && u == u' && v.eq v'
def Kv.eqs : List Kv → List Kv → Bool
  | [], [] => true
  | v :: l, w :: r => v.eq w && Kv.eqs l r
  | [], _ :: _ => false
  | _ :: _, [] => false
end
mutual
theorem Vl.eq_self : ∀ v : Vl, v.eq v = true
  | .mk kind s b n l m inner u => by unfold Vl.eq; simp [Vl.eqs_self l, Kv.eqs_self m]
theorem Vl.eqs_self : ∀ l : List Vl, Vl.eqs l l = true
  | [] => by simp [Vl.eqs]
  | v :: l => by unfold Vl.eqs; simp [Vl.eq_self v, Vl.eqs_self l]
theorem Kv.eq_self : ∀ v : Kv, v.eq v = true
  | .mk key has v u => by unfold Kv.eq; simp [Vl.eq_self v]
theorem Kv.eqs_self : ∀ l : List Kv, Kv.eqs l l = true
  | [] => by simp [Kv.eqs]
  | v :: l => by unfold Kv.eqs; simp [Kv.eq_self v, Kv.eqs_self l]
end
end Go.Proofs.YtaenjdichndafaaGreatDoor
