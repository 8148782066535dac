/- msg.Reader: packed numbers; a number that may lack; numbers unfolded. -/
import Derived.Test.YtfbckigcelmopaaGreatDoorX21
set_option linter.unusedSimpArgs false
set_option linter.unusedVariables false
set_option maxRecDepth 100000
namespace Go.Proofs.YtfbckigcelmopaaGreatDoor
open Go Go.Abs
variable (B : Fr)
/-- A record as they are read. -/
structure FOk (x : Fld) : Prop where
  s : x.s.length < x.raw.length
  n : x.n < 2 ^ 64
  num : x.num ≤ 536870911
  one : 1 ≤ x.num
  kind : x.kind < 8
def wt (l : List Fld) : Nat := (l.map fun x => x.raw.length).sum
def LOk (l : List Fld) : Prop := (∀ x ∈ l, FOk x) ∧ wt l < big
theorem restG_len {g : Int → Nat → Nat → Except Er Nat} {s : List UInt8} {d : Int} {num kind a p n q : Nat} {t : List UInt8} (hg : ∀ d num p q, g d num p = .ok q → p ≤ s.length → p ≤ q ∧ q ≤ s.length) (h : restG g s d num kind a p = .ok (n, t, q)) (hp : p ≤ s.length) : t.length ≤ q - p := by
  have h0 := restG_ok hg h hp
  unfold restG at h
  split at h
  · split at h <;> (try (simp at h; done))
    injection h with h; injection h with h1 h2; injection h2 with h2 h3
    subst h2; simp
  split at h
  · split at h <;> (try (simp at h; done))
    injection h with h; injection h with h1 h2; injection h2 with h2 h3
    subst h2; simp
  split at h
  · split at h <;> (try (simp at h; done))
    injection h with h; injection h with h1 h2; injection h2 with h2 h3
    subst h2; simp
  split at h
  · split at h <;> (try (simp at h; done))
    rename_i e1
    split at h <;> (try (simp at h; done))
    rename_i e; injection h with h; injection h with h1 h2; injection h2 with h2 h3
    subst h2; subst h3
    obtain ⟨a1, b1, c1⟩ := vE_ok e1
    obtain ⟨a, b, c, d, -⟩ := takeE_ok e b1; omega
  split at h
  · split at h <;> (try (simp at h; done))
    injection h with h; injection h with h1 h2; injection h2 with h2 h3
    subst h2; simp
  · simp at h
theorem recE_fok {s : List UInt8} {d : Int} {p q : Nat} {r : Fld} (h : recE s d p = .ok (r, q)) : FOk r := by
  have h0 := recE_ok h
  unfold recE at h
  split at h <;> (try (simp at h; done))
  rename_i e
  obtain ⟨a, b, c, d1, e1⟩ := tagE_ok e
  split at h <;> (try (simp at h; done))
  rename_i e2
  have h3 := restG_len (fun d n p q => grp_ok _ d n p q) e2 b
  obtain ⟨a2, b2, c2⟩ := restG_ok (fun d n p q => grp_ok _ d n p q) e2 b
  injection h with h; injection h with h1 h2
  subst h1; subst h2
  refine ⟨?_, c2, c, d1, e1⟩
  simp; omega
theorem allE_fok {s : List UInt8} {d : Int} : ∀ {f p : Nat} {l : List Fld}, allE s d f p = .ok l → ∀ x ∈ l, FOk x
  | 0, p, l, h => by simp [allE] at h; subst h; simp
  | f + 1, p, l, h => by
    unfold allE at h
    split at h
    · split at h <;> (try (simp at h; done))
      rename_i e
      split at h <;> (try (simp at h; done))
      rename_i e2
      injection h with h; subst h
      intro x hx
      rcases List.mem_cons.1 hx with rfl | hx
      · exact recE_fok e
      · exact allE_fok e2 x hx
    · injection h with h; subst h; simp
theorem all_lok {s : List UInt8} {d : Int} {l : List Fld} (h : all s d = .ok l) (hl : s.length < big) : LOk l := ⟨allE_fok h, by have := allE_raw h; unfold wt; omega⟩
theorem flds_lok (s : List UInt8) (d : Int) (hl : s.length < big) : LOk (fldsE s d) := by
  unfold fldsE
  split
  · exact ⟨by simp, by simp [wt, big]⟩
  · split
    · exact all_lok ‹_› hl
    · exact ⟨by simp, by simp [wt, big]⟩
theorem wt_filter (p : Fld → Bool) (l : List Fld) : wt (l.filter p) ≤ wt l := by
  induction l with
  | nil => simp [wt]
  | cons x l ih => unfold wt at *; cases h : p x <;> simp [h] <;> omega
theorem LOk.filter {l : List Fld} (h : LOk l) (p : Fld → Bool) : LOk (l.filter p) := ⟨fun x hx => h.1 x (List.mem_filter.1 hx).1, Nat.lt_of_le_of_lt (wt_filter p l) h.2⟩
theorem known_lok (tb : Nat → Nat → Bool) (s : List UInt8) (d : Int) (hl : s.length < big) : LOk (knownL tb (fldsE s d)) := (flds_lok s d hl).filter _
theorem LOk.len {l : List Fld} (h : LOk l) : l.length ≤ wt l := by
  obtain ⟨h, -⟩ := h
  induction l with
  | nil => simp [wt]
  | cons x l ih =>
    have h1 := (h x (List.mem_cons_self ..)).s
    have := ih fun y hy => h y (List.mem_cons_of_mem _ hy)
    unfold wt at *; simp; omega
theorem LOk.lenb {l : List Fld} (h : LOk l) : l.length < big := Nat.lt_of_le_of_lt h.len h.2
theorem lok_get {l : List Fld} (h : LOk l) {i : Nat} {x : Fld} (hx : l[i]? = some x) : FOk x ∧ x.raw.length ≤ wt l := by
  have hm := List.mem_of_getElem? hx
  refine ⟨h.1 x hm, ?_⟩
  clear h hx
  induction l with
  | nil => simp at hm
  | cons y l ih =>
    unfold wt at *
    rcases List.mem_cons.1 hm with rfl | hm
    · simp
    · have := ih hm; simp; omega
theorem wt_take (l : List Fld) (i : Nat) : wt (l.take i) ≤ wt l := sum_take l i
theorem wt_snoc (l : List Fld) (x : Fld) : wt (l ++ [x]) = wt l + x.raw.length := by simp [wt]

/-- A function reads numbers. -/
def NumsRd (f : Nat) (rd : List UInt8 → Except Er (List Nat)) : Prop := (∀ s, s.length < big → CallsA (cx B) f [sT s] [] (numsT (rd s)) []) ∧ ∀ s l, rd s = .ok l → l.length ≤ s.length
def packStep (rd : List UInt8 → Except Er (List Nat)) (n : Int) (num : Nat) (st : List Nat × Option Er) (x : Fld) : List Nat × Option Er :=
  if x.num = num then (if x.kind = 2 then (match rd x.s with | .ok l => (st.1 ++ l, failE n num st.2 none) | .error e => (st.1, failE n num st.2 (some e))) else (st.1 ++ [x.n], st.2)) else st
def packF (rd : List UInt8 → Except Er (List Nat)) (n : Int) (num : Nat) (l : List Fld) (e : Option Er) : List Nat × Option Er := l.foldl (packStep rd n num) ([], e)
theorem packF_len {rd : List UInt8 → Except Er (List Nat)} (hr : ∀ s l, rd s = .ok l → l.length ≤ s.length) (n : Int) (num : Nat) (e : Option Er) (l : List Fld) (h : ∀ x ∈ l, FOk x) : (packF rd n num l e).1.length ≤ wt l := by
  have key : ∀ (l : List Fld) (st : List Nat × Option Er), (∀ x ∈ l, FOk x) → (l.foldl (packStep rd n num) st).1.length ≤ st.1.length + wt l := by
    intro l
    induction l with
    | nil => intro st _; simp [wt]
    | cons x l ih =>
      intro st h
      have h1 := (h x (List.mem_cons_self ..)).s
      have h2 := ih (packStep rd n num st x) fun y hy => h y (List.mem_cons_of_mem _ hy)
      have h3 : (packStep rd n num st x).1.length ≤ st.1.length + x.raw.length := by
        unfold packStep
        split
        · split
          · split
            · have := hr _ _ ‹_›; simp; omega
            · simp
          · simp; omega
        · simp
      unfold wt at *; simp at *; omega
  have := key l ([], e) h
  simpa [packF] using this
theorem packF_snoc (rd : List UInt8 → Except Er (List Nat)) (n : Int) (num : Nat) (l : List Fld) (x : Fld) (e : Option Er) : packF rd n num (l ++ [x]) e = packStep rd n num (packF rd n num l e) x := by
  unfold packF; rw [List.foldl_append]; rfl
theorem packed_calls (hB : BOk B) (f : Nat) (rd : List UInt8 → Except Er (List Nat)) (hf : NumsRd B f rd) (e : Option Er) (u : List UInt8) (d n : Int) (l : List Fld) (num : Nat) (hl : LOk l) :
    CallsA (cx B) 67 [.ptr 0 0, iT num, .d (.fn f [])] [rO e u d n l] (.d (slD ((packF rd n num l e).1.map uD))) [rO (packF rd n num l e).2 u d n l] := by
  have hlen : (l.map Fld.d).length = l.length := by simp
  have hlb := hl.lenb
  unfold big at hlb
  refine l_body (X := cx B) (fn := Tryz.f67) Tryz.func67 rfl rfl rfl rfl rfl 1 [] rfl rfl ?_
  refine walk ?_
  rw [hlen]
  refine l_loop (fun i : Nat => l.length - i) (fun i => [(0, .ptr 0 0), (1, iT num), (2, .d (.fn f [])), (7, owT ((packF rd n num (l.take i) e).1.map uD)), (15, .d (slD (l.map Fld.d))), (16, iT l.length), (17, iT i)])
    (fun i => [rO (packF rd n num (l.take i) e).2 u d n l]) (fun i => i ≤ l.length) 0 (by omega) ⟨rfl, rfl, rfl, rfl, rfl, rfl, rfl, trivial⟩ rfl 1 rfl (fun _ => rfl) (fun _ => rfl) (fun _ => rfl) ?_
  intro i i1
  refine walk ?_
  refine r_cond rfl (fun hc => ?_) (fun hc => ?_)
  · have hlt : i < l.length := by have := of_decide_eq_true hc; omega
    obtain ⟨x, hx⟩ : ∃ x, l[i]? = some x := ⟨_, List.getElem?_eq_getElem hlt⟩
    have hdx : (l.map Fld.d)[i]? = some x.d := by rw [List.getElem?_map, hx]; rfl
    have htk : l.take (i + 1) = l.take i ++ [x] := by rw [List.take_add_one, hx]; rfl
    obtain ⟨hfx, hwx⟩ := lok_get hl hx
    have hxs : x.s.length < big := by have := hfx.s; have := hl.2; omega
    have hpl := packF_len hf.2 n num e (l.take i) fun y hy => hl.1 y (List.mem_of_mem_take hy)
    have hwt := wt_take l i
    have hwb := hl.2
    have hwi : IntKind.i64.wrap ((i : Int) + 1) = ((i + 1 : Nat) : Int) := by rw [wrapI (by omega) (by omega)]; omega
    have hst : packF rd n num (l.take (i + 1)) e = packStep rd n num (packF rd n num (l.take i) e) x := by rw [htk, packF_snoc]
    refine walk ?_
    refine l_step (.indexAddr (k := .i64) (n := i) (es := l.map Fld.d) (u := x.d) rfl rfl rfl rfl (.inl ⟨_, rfl⟩) rfl (by omega) (by simpa using hdx) rfl (by decide)) rfl rfl ?_
    refine walk ?_
    generalize hP : packF rd n num (l.take i) e = st at *
    obtain ⟨a, e'⟩ := st
    dsimp only at *
    by_cases hn : x.num = num
    · rw [show ((x.num : Int) != num) = false by subst hn; simp]
      refine walk ?_
      by_cases hk : x.kind = 2
      · rw [show ((x.kind : Int) == 2) = true by rw [hk]; rfl]
        have hr := hf.1 x.s hxs
        have hrl := hf.2 x.s
        cases hrd : rd x.s with
        | ok ns =>
          rw [hrd] at hr
          have hs2 : packStep rd n num (a, e') x = (a ++ ns, failE n num e' none) := by unfold packStep; rw [if_pos hn, if_pos hk, hrd]
          rw [hs2] at hst
          have hnl := hrl ns hrd
          have h3 := msgfails_calls B hB e' u d n l num none
          refine walk ?_
          refine l_call [] (hr) rfl rfl rfl rfl rfl rfl rfl (by decide) rfl rfl rfl rfl rfl ?_
          refine walk ?_
          refine l_call [0] (h3) rfl rfl rfl rfl rfl rfl rfl (by decide) rfl rfl rfl rfl rfl ?_
          refine adm ?_
          (try refine l_open rfl ?_)
          refine l_step (.assignOwn (.inr rfl) rfl) rfl rfl ?_
          refine walk ?_
          have hfx2 := hfx.s
          have hm : (a.map uD).length + (ns.map uD).length ≤ most := by unfold big at *; simp [most]; omega
          refine l_step (.append' rfl rfl rfl rfl ⟨_, _, rfl, rfl, by intro q; simp⟩ rfl rfl rfl rfl rfl (by rw [← List.map_append]; exact u_fits _) (by decide) rfl hm rfl) rfl rfl ?_
          refine l_step (.assignOwn (.inl rfl) rfl) rfl rfl ?_
          refine walk ?_
          rw [hwi]
          refine ⟨i + 1, by omega, by omega, ?_, rfl, ?_⟩
          · rw [hst]; exact ⟨rfl, rfl, rfl, by show T.own _ _ = owT _; rw [List.map_append]; rfl, rfl, rfl, rfl, trivial⟩
          · rw [hst]; exact wk_eq rfl
        | error er =>
          rw [hrd] at hr
          have hs2 : packStep rd n num (a, e') x = (a, failE n num e' (some er)) := by unfold packStep; rw [if_pos hn, if_pos hk, hrd]
          rw [hs2] at hst
          have h3 := msgfails_calls B hB e' u d n l num (some er)
          refine walk ?_
          refine l_call [] (hr) rfl rfl rfl rfl rfl rfl rfl (by decide) rfl rfl rfl rfl rfl ?_
          refine walk ?_
          refine l_call [0] (h3) rfl rfl rfl rfl rfl rfl rfl (by decide) rfl rfl rfl rfl rfl ?_
          refine adm ?_
          (try refine l_open rfl ?_)
          refine l_step (.assignOwn (.inr rfl) rfl) rfl rfl ?_
          refine walk ?_
          have hm : (a.map uD).length + ([] : List D).length ≤ most := by unfold big at *; simp [most]; omega
          refine l_step (.append' (xs := []) rfl rfl rfl rfl ⟨_, _, rfl, rfl, by intro q; simp⟩ rfl rfl rfl rfl rfl (by rw [List.append_nil]; exact u_fits _) (by decide) rfl hm rfl) rfl rfl ?_
          refine l_step (.assignOwn (.inl rfl) rfl) rfl rfl ?_
          refine walk ?_
          rw [hwi]
          refine ⟨i + 1, by omega, by omega, ?_, rfl, ?_⟩
          · rw [hst]; exact ⟨rfl, rfl, rfl, by show T.own _ _ = owT _; rw [List.append_nil]; rfl, rfl, rfl, rfl, trivial⟩
          · rw [hst]; exact wk_eq rfl
      · rw [show ((x.kind : Int) == 2) = false by simp; omega]
        have hs2 : packStep rd n num (a, e') x = (a ++ [x.n], e') := by unfold packStep; rw [if_pos hn, if_neg hk]
        rw [hs2] at hst
        refine adm ?_
        (try refine l_open rfl ?_)
        refine l_step (.assignOwn (.inr rfl) rfl) rfl rfl ?_
        refine walk ?_
        refine l_step (.buildSlice (es := [uD x.n]) rfl rfl rfl rfl rfl rfl (by intro x hx; simp at hx; subst hx; rfl) (by simp) (by decide) (by decide)) rfl rfl ?_
        have hm : (a.map uD).length + [uD x.n].length ≤ most := by unfold big at *; simp [most]; omega
        refine l_step (.append' rfl rfl rfl rfl ⟨_, _, rfl, rfl, by intro q; simp⟩ rfl rfl rfl rfl rfl (by rw [show [uD x.n] = [x.n].map uD from rfl, ← List.map_append]; exact u_fits _) (by decide) rfl hm rfl) rfl rfl ?_
        refine l_step (.assignOwn (.inl rfl) rfl) rfl rfl ?_
        refine walk ?_
        rw [hwi]
        refine ⟨i + 1, by omega, by omega, ?_, rfl, ?_⟩
        · rw [hst]; exact ⟨rfl, rfl, rfl, by show T.own _ _ = owT _; rw [List.map_append]; rfl, rfl, rfl, rfl, trivial⟩
        · rw [hst]; exact wk_eq rfl
    · rw [show ((x.num : Int) != num) = true by simp; omega]
      have hs2 : packStep rd n num (a, e') x = (a, e') := by unfold packStep; rw [if_neg hn]
      rw [hs2] at hst
      refine walk ?_
      rw [hwi]
      refine ⟨i + 1, by omega, by omega, ?_, rfl, ?_⟩
      · rw [hst]; exact ⟨rfl, rfl, rfl, rfl, rfl, rfl, rfl, trivial⟩
      · rw [hst]; exact wk_eq rfl
  · have hge : i = l.length := by have := of_decide_eq_false hc; omega
    subst hge
    rw [List.take_length]
    refine adm ?_
    (try refine l_open rfl ?_)
    refine l_step (.moveShare rfl rfl) rfl rfl ?_
    refine walk ?_
    exact l_end trivial (by decide) rfl rfl rfl rfl rfl
end Go.Proofs.YtfbckigcelmopaaGreatDoor
