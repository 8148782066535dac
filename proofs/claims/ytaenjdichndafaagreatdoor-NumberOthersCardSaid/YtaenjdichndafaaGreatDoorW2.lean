/- msg.Reader: bytes, texts, a yes, the one of several. -/
import Derived.Test.YtaenjdichndafaaGreatDoorW1
set_option linter.unusedSimpArgs false
set_option linter.unusedVariables false
set_option maxRecDepth 100000
namespace Go.Proofs.YtaenjdichndafaaGreatDoor
open Go Go.Abs
variable (B : Fr)
theorem rBytes0_calls (e : Option Er) (u : List UInt8) (d n : Int) (l : List Fld) (num : Nat) (hl : l.length ≤ most) : CallsA (cx B) 38 [.ptr 0 0, iT num] [rO e u d n l] (sT (lastF l num).s) [rO e u d n l] := by
  refine l_body (X := cx B) (fn := Tryz.f38) Tryz.func38 rfl rfl rfl rfl rfl 1 [] rfl rfl ?_
  refine walk ?_
  refine l_call [0] (last_calls B e u d n l num hl) rfl rfl rfl rfl rfl rfl rfl (by decide) rfl rfl rfl rfl rfl ?_
  refine walk ?_
  exact l_end trivial (by decide) rfl rfl rfl rfl rfl
/-- What is wrong with a text. -/
def chkE (s : List UInt8) : Option Er := if txt s then none else some (.loc (whU s) (.code 5))
def chkF (n : Int) (num : Nat) (l : List Fld) (e : Option Er) : Option Er := l.foldl (fun e x => if x.num = num then failE n num e (chkE x.s) else e) e
theorem chkF_snoc (n : Int) (num : Nat) (l : List Fld) (x : Fld) (e : Option Er) : chkF n num (l ++ [x]) e = if x.num = num then failE n num (chkF n num l e) (chkE x.s) else chkF n num l e := by
  unfold chkF; rw [List.foldl_append]; rfl
theorem rCheck_calls (hB : BOk B) (e : Option Er) (u : List UInt8) (d n : Int) (l : List Fld) (num : Nat) (hl : LOk l) : CallsA (cx B) 110 [.ptr 0 0, iT num] [rO e u d n l] (.tup []) [rO (chkF n num l e) u d n l] := by
  have hlen : (l.map Fld.d).length = l.length := by simp
  have hlb := hl.lenb
  unfold big at hlb
  refine l_body (X := cx B) (fn := Tryz.f110) Tryz.func110 rfl rfl rfl rfl rfl 1 [] rfl rfl ?_
  refine walk ?_
  rw [hlen]
  refine l_loop (fun i : Nat => l.length - i) (fun i => [(0, .ptr 0 0), (1, iT num), (9, .d (slD (l.map Fld.d))), (10, iT l.length), (11, iT i)])
    (fun i => [rO (chkF n num (l.take i) e) u d n l]) (fun i => i ≤ l.length) 0 (by omega) ⟨rfl, rfl, rfl, rfl, rfl, trivial⟩ rfl 1 rfl (fun _ => rfl) (fun _ => rfl) (fun _ => rfl) ?_
  intro i i1
  refine walk ?_
  refine r_cond rfl (fun hc => ?_) (fun hc => ?_)
  · have hlt : i < l.length := by have := of_decide_eq_true hc; omega
    obtain ⟨x, hx⟩ : ∃ x, l[i]? = some x := ⟨_, List.getElem?_eq_getElem hlt⟩
    have hdx : (l.map Fld.d)[i]? = some x.d := by rw [List.getElem?_map, hx]; rfl
    have htk : l.take (i + 1) = l.take i ++ [x] := by rw [List.take_add_one, hx]; rfl
    have hst := chkF_snoc n num (l.take i) x e
    rw [← htk] at hst
    obtain ⟨hfx, hwx⟩ := lok_get hl hx
    have hxs : x.s.length < big := by have := hfx.s; have := hl.2; omega
    have hwi : IntKind.i64.wrap ((i : Int) + 1) = ((i + 1 : Nat) : Int) := by rw [wrapI (by omega) (by omega)]; omega
    refine walk ?_
    refine l_step (.indexAddr (k := .i64) (n := i) (es := l.map Fld.d) (u := x.d) rfl rfl rfl rfl (.inl ⟨_, rfl⟩) rfl (by omega) (by simpa using hdx) rfl (by decide)) rfl rfl ?_
    refine walk ?_
    by_cases hn : x.num = num
    · rw [show ((x.num : Int) == num) = true by rw [hn]; simp]
      rw [if_pos hn] at hst
      have h1 := utfCheck_calls B x.s hxs
      have h2 := msgfails_calls B hB (chkF n num (l.take i) e) u d n l num (chkE x.s)
      unfold chkE at h1
      refine walk ?_
      refine l_call [] (h1) rfl rfl rfl rfl rfl rfl rfl (by decide) rfl rfl rfl rfl rfl ?_
      refine l_call [0] (h2) rfl rfl rfl rfl rfl rfl rfl (by decide) rfl rfl rfl rfl rfl ?_
      refine walk ?_
      rw [hwi]
      exact ⟨i + 1, by omega, by omega, ⟨rfl, rfl, rfl, rfl, rfl, trivial⟩, rfl, wk_eq (by rw [hst]; rfl)⟩
    · rw [show ((x.num : Int) == num) = false by simp; omega]
      rw [if_neg hn] at hst
      refine walk ?_
      rw [hwi]
      exact ⟨i + 1, by omega, by omega, ⟨rfl, rfl, rfl, rfl, rfl, trivial⟩, rfl, wk_eq (by rw [hst]; rfl)⟩
  · have hge : i = l.length := by have := of_decide_eq_false hc; omega
    subst hge
    rw [List.take_length]
    refine walk ?_
    exact l_end trivial (by decide) rfl rfl rfl rfl rfl
theorem rText_calls (hB : BOk B) (e : Option Er) (u : List UInt8) (d n : Int) (l : List Fld) (num : Nat) (hl : LOk l) : CallsA (cx B) 82 [.ptr 0 0, iT num] [rO e u d n l] (sT (lastF l num).s) [rO (chkF n num l e) u d n l] := by
  have h1 := rCheck_calls B hB e u d n l num hl
  have h2 := last_calls B (chkF n num l e) u d n l num (lok_most hl)
  generalize chkF n num l e = e' at *
  refine l_body (X := cx B) (fn := Tryz.f82) Tryz.func82 rfl rfl rfl rfl rfl 1 [] rfl rfl ?_
  refine walk ?_
  refine l_call [0] (h1) rfl rfl rfl rfl rfl rfl rfl (by decide) rfl rfl rfl rfl rfl ?_
  refine walk ?_
  refine l_call [0] (h2) rfl rfl rfl rfl rfl rfl rfl (by decide) rfl rfl rfl rfl rfl ?_
  refine walk ?_
  exact l_end trivial (by decide) rfl rfl rfl rfl rfl
/-! The one of several that counts. -/
def iD (n : Nat) : D := .int .i64 n
structure OneS where
  num : Nat
  n : Nat
  s : List UInt8
  all : List (List UInt8)
def OneS.d (o : OneS) : D := .agg [.int .i64 o.num, .int .u64 o.n, .str o.s, slD (o.all.map D.str)]
def noOne : OneS := ⟨0, 0, [], []⟩
def oneStep (ns : List Nat) (o : OneS) (x : Fld) : OneS :=
  if ns.contains x.num then (if x.num = o.num then ⟨x.num, x.n, x.s, o.all ++ [x.s]⟩ else ⟨x.num, x.n, x.s, [x.s]⟩) else o
def oneF (ns : List Nat) (l : List Fld) : OneS := l.foldl (oneStep ns) noOne
theorem oneF_snoc (ns : List Nat) (l : List Fld) (x : Fld) : oneF ns (l ++ [x]) = oneStep ns (oneF ns l) x := by unfold oneF; rw [List.foldl_append]; rfl
theorem oneF_len (ns : List Nat) (l : List Fld) : (oneF ns l).all.length ≤ l.length := by
  have key : ∀ (l : List Fld) (o : OneS), (l.foldl (oneStep ns) o).all.length ≤ o.all.length + l.length := by
    intro l
    induction l with
    | nil => intro o; simp
    | cons x l ih =>
      intro o
      have h2 := ih (oneStep ns o x)
      have h3 : (oneStep ns o x).all.length ≤ o.all.length + 1 := by unfold oneStep; split; split <;> simp; omega
      simp at *; omega
  have := key l noOne
  simpa [oneF, noOne] using this
theorem Index_calls (z : Bool) (ns : List Nat) (x : Nat) (hl : ns.length < 1000) : CallsA (cx B) 144 [.d (.sl z (ns.map iD)), iT x] [] (.d (.int .i64 (match ns.findIdx? (· == x) with | some i => i | none => -1))) [] := by
  have hlen : (ns.map iD).length = ns.length := by simp
  refine l_body (X := cx B) (fn := Tryz.f144) Tryz.func144 rfl rfl rfl rfl rfl 0 [] rfl rfl ?_
  refine walk ?_
  rw [hlen]
  refine l_loop (fun i : Nat => ns.length - i) (fun i => [(0, .d (.sl z (ns.map iD))), (1, iT x), (7, iT ns.length), (8, iT i)]) (fun _ => []) (fun i => i ≤ ns.length ∧ ns.findIdx? (· == x) = ((ns.drop i).findIdx? (· == x)).map (· + i)) 0 ⟨by omega, by simp⟩ ⟨rfl, rfl, rfl, rfl, trivial⟩ rfl 0 rfl (fun _ => rfl) (fun _ => rfl) (fun _ => rfl) ?_
  rintro i ⟨i1, i2⟩
  refine walk ?_
  refine r_cond rfl (fun hd => ?_) (fun hd => ?_)
  · have hlt : i < ns.length := by have := of_decide_eq_true hd; omega
    obtain ⟨y, hy⟩ : ∃ y, ns[i]? = some y := ⟨_, List.getElem?_eq_getElem hlt⟩
    have hdy : (ns.map iD)[i]? = some (iD y) := by rw [List.getElem?_map, hy]; rfl
    have hdr : ns.drop i = y :: ns.drop (i + 1) := by
      rw [List.drop_eq_getElem_cons hlt]; rw [List.getElem?_eq_getElem hlt] at hy; injection hy with hy; rw [hy]
    rw [hdr, List.findIdx?_cons] at i2
    refine walk ?_
    refine l_step (.indexAddr (k := .i64) (n := i) (es := ns.map iD) (u := iD y) rfl rfl rfl rfl (.inl ⟨_, rfl⟩) rfl (by omega) (by simpa using hdy) rfl (by decide)) rfl rfl ?_
    refine walk ?_
    by_cases he : x = y
    · subst he
      rw [show ((x : Int) == x) = true by simp]
      refine walk ?_
      rw [i2]
      simp only [beq_self_eq_true, cond_true, if_true, Option.map_some, Nat.zero_add]
      exact l_end trivial (by decide) rfl rfl rfl rfl rfl
    · rw [show ((x : Int) == y) = false by simp; omega]
      refine walk ?_
      rw [show IntKind.i64.wrap ((i : Int) + 1) = ((i + 1 : Nat) : Int) by rw [wrapI (by omega) (by omega)]; omega]
      refine ⟨i + 1, by omega, ⟨by omega, ?_⟩, ⟨rfl, rfl, rfl, rfl, trivial⟩, rfl, wk_eq rfl⟩
      rw [i2, show (y == x) = false by simp; omega]
      simp only [Bool.false_eq_true, if_false, Option.map_map]
      congr 1
      funext k; simp; omega
  · have hge : i = ns.length := by have := of_decide_eq_false hd; omega
    subst hge
    rw [List.drop_length] at i2
    rw [i2]
    refine walk ?_
    exact l_end trivial (by decide) rfl rfl rfl rfl rfl
theorem Contains_calls (z : Bool) (ns : List Nat) (x : Nat) (hl : ns.length < 1000) : CallsA (cx B) 117 [.d (.sl z (ns.map iD)), iT x] [] (.d (.bool (ns.contains x))) [] := by
  have h1 := Index_calls B z ns x hl
  have hc : decide ((match ns.findIdx? (· == x) with | some i => (i : Int) | none => -1) ≥ 0) = ns.contains x := by
    cases h : ns.findIdx? (· == x) with
    | none =>
      have : ns.contains x = false := by
        rw [List.findIdx?_eq_none_iff] at h
        cases hc : ns.contains x with
        | false => rfl
        | true => have := h x (by simpa using hc); simp at this
      rw [this]; rfl
    | some i =>
      have : ns.contains x = true := by
        have h2 := List.findIdx?_isSome (xs := ns) (p := (· == x))
        rw [h] at h2
        simp at h2
        simpa using h2
      rw [this]
      exact decide_eq_true (by show (i : Int) ≥ 0; omega)
  generalize (match ns.findIdx? (· == x) with | some i => (i : Int) | none => -1) = k at *
  refine l_body (X := cx B) (fn := Tryz.f117) Tryz.func117 rfl rfl rfl rfl rfl 0 [] rfl rfl ?_
  refine walk ?_
  refine l_call [] (h1) rfl rfl rfl rfl rfl rfl rfl (by decide) rfl rfl rfl rfl rfl ?_
  refine walk ?_
  rw [hc]
  exact l_end trivial (by decide) rfl rfl rfl rfl rfl
def OneS.cells (o : OneS) : List T := [iT o.num, uT o.n, sT o.s, owT (o.all.map D.str)]
theorem str_fits (l : List (List UInt8)) : ∀ a ∈ l.map D.str, a.fits 1 = true := by
  intro a ha
  obtain ⟨c, -, rfl⟩ := List.mem_map.1 ha
  rfl
theorem _root_.Go.Abs.StepE.append0 {X : Ctx} {o : Oper} {v : Operand → T} {H : List Ob} {c : Call} {t e : TypeId} {i j : Ti} {x : Tmp} {y : Operand} {xs : List D} (ho : o.op = .call c) (hcb : c.callee = .builtin .append) (hca : c.args = #[.tmp x, y]) (h0 : c.argTypes[0]? = some t) (hex : ∃ u k, c.argTypes[1]? = some u ∧ X.tab u = some k ∧ ∀ q, k.ty ≠ .int q)
    (hi : X.tab t = some i) (hty : i.ty = .sl e) (hj : X.tab e = some j) (hg : v (.tmp x) = .d (.sl true [])) (hy : (v y).elems = some xs) (hf : ∀ a ∈ xs, a.fits j.size = true) (hsz : j.size ≠ 0) (hby : Nat.ble j.bytes 1024 = true)
    (hmost : xs.length ≤ most) (hdst0 : o.dst.isSome = true) : StepE X o v H ⟨owT xs, some x, H⟩ := by
  obtain ⟨u, k, h1, h2, h3⟩ := hex
  have hni : ∀ u k, c.argTypes[1]? = some u → X.tab u = some k → ∀ q, k.ty ≠ .int q := fun u' k' e1 e2 => by
    rw [h1] at e1; injection e1 with e1; subst e1
    rw [h2] at e2; injection e2 with e2; subst e2; exact h3
  have := StepE.append (H := H) (es := []) ho hcb hca h0 hni ⟨u, k, h1, h2⟩ hi hty hj (by rw [hg]; rfl) hy (by simpa using hf) hsz (Nat.le_of_ble_eq_true hby) (by simpa using hmost) hdst0
  unfold owT
  rw [List.nil_append] at this
  cases xs with
  | nil => exact this
  | cons a r => exact this
theorem rOne_calls (e : Option Er) (u : List UInt8) (d n : Int) (l : List Fld) (z : Bool) (ns : List Nat) (hn : ns.length < 1000) (hl : LOk l) : CallsA (cx B) 85 [.ptr 0 0, .d (.sl z (ns.map iD))] [rO e u d n l] (.d (oneF ns l).d) [rO e u d n l] := by
  have hlen : (l.map Fld.d).length = l.length := by simp
  have hlb := hl.lenb
  unfold big at hlb
  refine l_body (X := cx B) (fn := Tryz.f85) Tryz.func85 rfl rfl rfl rfl rfl 1 [] rfl rfl ?_
  refine walk ?_
  rw [hlen]
  refine l_loop (fun i : Nat => l.length - i) (fun i => [(0, .ptr 0 0), (1, .d (.sl z (ns.map iD))), (4, .ptr 1 0), (5, .ptr 2 0), (11, .d (slD (l.map Fld.d))), (12, iT l.length), (13, iT i)])
    (fun i => [rO e u d n l, .mu noOne.cells, .mu (oneF ns (l.take i)).cells]) (fun i => i ≤ l.length) 0 (by omega) ⟨rfl, rfl, rfl, rfl, rfl, rfl, rfl, trivial⟩ rfl 3 rfl (fun _ => rfl) (fun _ => rfl) (fun _ => rfl) ?_
  intro i i1
  refine walk ?_
  refine r_cond rfl (fun hc => ?_) (fun hc => ?_)
  · have hlt : i < l.length := by have := of_decide_eq_true hc; omega
    obtain ⟨x, hx⟩ : ∃ x, l[i]? = some x := ⟨_, List.getElem?_eq_getElem hlt⟩
    have hdx : (l.map Fld.d)[i]? = some x.d := by rw [List.getElem?_map, hx]; rfl
    have htk : l.take (i + 1) = l.take i ++ [x] := by rw [List.take_add_one, hx]; rfl
    have hst : oneF ns (l.take (i + 1)) = oneStep ns (oneF ns (l.take i)) x := by rw [htk]; exact oneF_snoc ..
    have hol := oneF_len ns (l.take i)
    have hwi : IntKind.i64.wrap ((i : Int) + 1) = ((i + 1 : Nat) : Int) := by rw [wrapI (by omega) (by omega)]; omega
    have h1 := Contains_calls B z ns x.num hn
    generalize oneF ns (l.take i) = o at *
    simp only [List.length_take] at hol
    refine walk ?_
    refine l_step (.indexAddr (k := .i64) (n := i) (es := l.map Fld.d) (u := x.d) rfl rfl rfl rfl (.inl ⟨_, rfl⟩) rfl (by omega) (by simpa using hdx) rfl (by decide)) rfl rfl ?_
    refine walk ?_
    refine l_call [] (h1) rfl rfl rfl rfl rfl rfl rfl (by decide) rfl rfl rfl rfl rfl ?_
    refine walk ?_
    cases hcn : ns.contains x.num with
    | false =>
      unfold oneStep at hst
      rw [hcn, if_neg (by simp)] at hst
      refine walk ?_
      rw [hwi]
      exact ⟨i + 1, by omega, by omega, ⟨rfl, rfl, rfl, rfl, rfl, rfl, rfl, trivial⟩, rfl, wk_eq (by rw [hst]; rfl)⟩
    | true =>
      unfold oneStep at hst
      rw [hcn, if_pos rfl] at hst
      refine walk ?_
      by_cases he : x.num = o.num
      · rw [show ((x.num : Int) != (o.num : Int)) = false by rw [he]; simp]
        rw [if_pos he] at hst
        refine adm ?_
        refine x_open rfl rfl ?_
        refine x_go rfl ?_
        refine x_nil rfl ?_
        refine adm ?_
        (try refine l_open rfl ?_)
        refine l_part (fst := false) 1 rfl rfl rfl ?_
        refine l_step (.loadMov (q := owT (o.all.map D.str)) rfl rfl rfl rfl rfl rfl rfl) rfl rfl ?_
        refine walk ?_
        refine l_step (.buildSlice (es := [D.str x.s]) rfl rfl rfl rfl rfl rfl (by intro x hx; simp at hx; subst hx; rfl) (by simp) (by decide) (by decide)) rfl rfl ?_
        have hm : (o.all.map D.str).length + [D.str x.s].length ≤ most := by simp [most]; omega
        refine l_step (.append' rfl rfl rfl rfl ⟨_, _, rfl, rfl, by intro q; simp⟩ rfl rfl rfl rfl rfl (by rw [show [D.str x.s] = [x.s].map D.str from rfl, ← List.map_append]; exact str_fits _) (by decide) rfl hm rfl) rfl rfl ?_
        refine l_part (fst := false) 1 rfl rfl rfl ?_
        refine l_step (.storeMov rfl rfl rfl rfl rfl rfl rfl (Nat.le_of_ble_eq_true rfl) rfl) rfl rfl ?_
        refine walk ?_
        rw [hwi]
        exact ⟨i + 1, by omega, by omega, ⟨rfl, rfl, rfl, rfl, rfl, rfl, rfl, trivial⟩, rfl, wk_eq (by rw [hst]; show [_, _, Ob.mu [_, _, _, owT _]] = [_, _, Ob.mu [_, _, _, owT _]]; rw [List.map_append, he]; rfl)⟩
      · rw [show ((x.num : Int) != (o.num : Int)) = true by simp; omega]
        rw [if_neg he] at hst
        refine walk ?_
        refine l_step (.buildSlice (es := [D.str x.s]) rfl rfl rfl rfl rfl rfl (by intro x hx; simp at hx; subst hx; rfl) (by simp) (by decide) (by decide)) rfl rfl ?_
        refine l_step (.append0 rfl rfl rfl rfl ⟨_, _, rfl, rfl, by intro q; simp⟩ rfl rfl rfl rfl rfl (by exact str_fits [x.s]) (by decide) rfl (by simp [most]) rfl) rfl rfl ?_
        refine l_part (fst := false) 1 rfl rfl rfl ?_
        refine l_step (.storeMov rfl rfl rfl rfl rfl rfl rfl (Nat.le_of_ble_eq_true rfl) rfl) rfl rfl ?_
        refine walk ?_
        rw [hwi]
        exact ⟨i + 1, by omega, by omega, ⟨rfl, rfl, rfl, rfl, rfl, rfl, rfl, trivial⟩, rfl, wk_eq (by rw [hst]; rfl)⟩
  · have hge : i = l.length := by have := of_decide_eq_false hc; omega
    subst hge
    rw [List.take_length]
    refine walk ?_
    exact l_end trivial (by decide) rfl rfl rfl rfl rfl
def numKN (a b : Nat) (o : OneS) : Nat × Nat := if o.num = a then (1, o.n) else if o.num = b then (2, o.n) else (0, 0)
theorem rNumber_calls (e : Option Er) (u : List UInt8) (d n : Int) (l : List Fld) (a b : Nat) (hl : LOk l) :
    CallsA (cx B) 41 [.ptr 0 0, iT a, iT b] [rO e u d n l] (.tup [iT (numKN a b (oneF [a, b] l)).1, uT (numKN a b (oneF [a, b] l)).2]) [rO e u d n l] := by
  have h1 := rOne_calls B e u d n l false [a, b] (by simp) hl
  unfold numKN
  generalize oneF [a, b] l = o at *
  refine l_body (X := cx B) (fn := Tryz.f41) Tryz.func41 rfl rfl rfl rfl rfl 1 [] rfl rfl ?_
  refine walk ?_
  refine l_step (.buildSlice (es := [iD a, iD b]) rfl rfl rfl rfl rfl rfl (by intro x hx; simp at hx; rcases hx with rfl | rfl <;> rfl) (by simp) (by decide) (by decide)) rfl rfl ?_
  refine walk ?_
  refine l_call [0] (h1) rfl rfl rfl rfl rfl rfl rfl (by decide) rfl rfl rfl rfl rfl ?_
  refine walk ?_
  by_cases ha : o.num = a
  · rw [show ((o.num : Int) == (a : Int)) = true by rw [ha]; simp, if_pos ha]
    refine walk ?_
    exact l_end trivial (by decide) rfl rfl rfl rfl rfl
  rw [show ((o.num : Int) == (a : Int)) = false by simp; omega, if_neg ha]
  refine walk ?_
  by_cases hb : o.num = b
  · rw [show ((o.num : Int) == (b : Int)) = true by rw [hb]; simp, if_pos hb]
    refine walk ?_
    exact l_end trivial (by decide) rfl rfl rfl rfl rfl
  rw [show ((o.num : Int) == (b : Int)) = false by simp; omega, if_neg hb]
  refine walk ?_
  exact l_end trivial (by decide) rfl rfl rfl rfl rfl
end Go.Proofs.YtaenjdichndafaaGreatDoor
