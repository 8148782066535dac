/- What a function does, computed where its arguments are told: calls, loops and open regions with it. -/
import Derived.Test.YtcfkbpddmdfbaaaGreatDoorAb
set_option linter.unusedSimpArgs false
set_option linter.unusedVariables false
namespace Go.Abs
open Go
abbrev Cf := FuncId → List T → List Ob → Option (T × List Ob)
def CfOk (X : Ctx) (cf : Cf) : Prop := ∀ f args H r H', cf f args H = some (r, H') → k'0 X f args H r H'
def grown : Tmp → List Oper → Bool
 | _, [] => false
 | x, o :: r => (match o.op with
   | .call c => (match c.callee, c.args.toList with
    | .builtin .append, .tmp y :: _ => Nat.beq x y
    | _, _ => false)
   | .move (.tmp y) => Nat.beq x y && (match o.dst with | some d => grown d r | none => false)
   | _ => false) || grown x r
def usedL (x : Tmp) : List Oper → Bool
 | [] => false
 | o :: r => (o.op.operands.toList.any fun | .tmp y => Nat.beq x y | _ => false) || usedL x r
def isGrown (o : Oper) (nx : List Oper) : Bool := match o.dst with | some d => grown d nx | none => false
def freezes (v : Operand → T) : List Operand → List Ob → Option (List D × List Ob)
 | [], H => some ([], H)
 | x :: r, H => match v x with
  | .ptr j 0 => (match H[j]? with
   | some (.mu cs) => (match shares cs with
    | some ds => (match freezes v r (H.set j (.fro ds)) with
     | some (bs, J) => some (.box ds :: bs, J)
     | none => none)
    | none => none)
   | some (.fro ds) => (match freezes v r H with
    | some (bs, J) => some (.box ds :: bs, J)
    | none => none)
   | none => none)
  | .d (.box cs) => (match freezes v r H with
   | some (bs, J) => some (.box cs :: bs, J)
   | none => none)
  | _ => none
theorem freezes_ok {N : Nat} {ρ : Nat → Role} {a : Act} {w : World} {v : Operand → T} : ∀ {l : List Operand} {F : Fr} {s : S} {bs : List D} {J : List Ob}, (∀ x ∈ l, s.val x = v x) → SR N F ρ s a w → freezes v l s.H = some (bs, J) →
  ∃ F', SR N F' ρ { s with H := J } a w ∧ Ext F ρ w F' ρ w ∧ DRs F' bs (l.map a.eval)
 | [], F, s, bs, J, _, h, e => by
  simp [freezes] at e; obtain ⟨rfl, rfl⟩ := e
  exact ⟨F, h, Ext.refl F ρ w, .nil⟩
 | x :: r, F, s, bs, J, hv, h, e => by
  have hx := hv x (List.mem_cons_self ..)
  obtain ⟨lx, hxv⟩ := h.val x
  rw [hx] at hxv
  unfold freezes at e
  have val2 : ∀ H', ∀ y ∈ r, (S.mk s.env H').val y = v y := fun H' y hy => by
   rw [← hv y (List.mem_cons_of_mem _ hy)]; cases y <;> rfl
  split at e
  ·rename_i j hxj
   rw [hxj] at hxv
   obtain ⟨b, hb, ex⟩ := hxv.inv_ptr
   split at e
   ·rename_i cs hj
    split at e <;> (try (simp at e; done))
    rename_i ds hc
    split at e <;> simp at e
    rename_i bs' J' he
    obtain ⟨rfl, rfl⟩ := e
    obtain ⟨F1, g1, g2, g3⟩ := h.freeze hb hj hc
    obtain ⟨F2, q1, q2, q3⟩ := freezes_ok (val2 _) g1 he
    refine ⟨F2, q1, g2.trans q2, ?_⟩
    rw [List.map_cons, ex]
    exact .cons (g3.mono q2.sub) q3
   ·rename_i ds hj
    split at e <;> simp at e
    rename_i bs' J' he
    obtain ⟨rfl, rfl⟩ := e
    obtain ⟨ob, k1, k2⟩ := h.wr.obj b j hb
    rw [hj] at k1; injection k1 with k1; subst k1
    obtain ⟨us, k3, k4⟩ := k2
    obtain ⟨F2, q1, q2, q3⟩ := freezes_ok (val2 s.H) (s := s) h he
    refine ⟨F2, q1, q2, ?_⟩
    rw [List.map_cons, ex]
    exact .cons ((DR.box k3 k4).mono q2.sub) q3
   ·simp at e
  ·rename_i cs hxj
   rw [hxj] at hxv
   split at e <;> simp at e
   rename_i bs' J' he
   obtain ⟨rfl, rfl⟩ := e
   obtain ⟨F2, q1, q2, q3⟩ := freezes_ok (val2 s.H) (s := s) h he
   refine ⟨F2, q1, q2, ?_⟩
   rw [List.map_cons]
   exact .cons (hxv.inv_d.mono q2.sub) q3
  ·simp at e
theorem k'g.closN {X : Ctx} {o : Oper} {v : Operand → T} {H J : List Ob} {f : FuncId} {l : Array Operand} {bs : List D} (ho : o.op = .makeFunc (.func f) #[] l) (hf : freezes v l.toList H = some (bs, J)) : k'g X o v H ⟨.d (.fn f bs), none, J⟩ :=
 .hsem (k'26 ho (by simp)) (by rw [ho]; rfl) fun s hs hH N F ρ a w next Q hd h kk => by
  subst hH
  obtain ⟨F2, q1, q2, q3⟩ := freezes_ok (fun x hx => hs x (by rw [ho]; simpa [Op.operands] using hx)) h hf
  refine k'm (v := .func (.func f) #[] (l.toList.map a.eval).toArray) (by
   have e : l.map a.eval = (l.toList.map a.eval).toArray := by apply Array.ext'; simp
   simp [execOp, ho, Instr.makeFunc, e]) (kk F2 ρ _ w ?_ q2)
  exact q1.put hd fun d _ => .d (.fn q3)
def stepO (tab : TypeId → Option Ti) (o : Oper) (nx : List Oper) (v : Operand → T) (H : List Ob) : Option Eff :=
 match o.op with
 | .load t x => bif isGrown o nx then (match tab t, v x with
   | some i, .ptr j off => bif i.ty.isAgg then none else (match H[j]? with
    | some (.mu cs) => (match cs[off]? with
     | some q => bif q.mov then some ⟨q, none, H.set j (.mu (cs.set off .undef))⟩ else none
     | none => none)
    | _ => none)
   | _, _ => none) else none
 | .move (.tmp x) => bif isGrown o nx then (match v (.tmp x) with | .own z es => some ⟨.own z es, some x, H⟩ | _ => none) else none
 | .store t x (.tmp y) => match tab t, v x, o.dst with
   | some i, .ptr j off, none => bif (v (.tmp y)).mov && Nat.beq i.size 1 && !usedL y nx then (match H[j]? with
    | some (.mu cs) => bif Nat.blt off cs.length then some ⟨.undef, some y, H.set j (.mu (cs.set off (v (.tmp y))))⟩ else none
    | _ => none) else none
   | _, _, _ => none
 | .call c => match c.callee, c.args.toList with
  | .builtin .append, [.tmp x, y] => (match c.argTypes.toList with
   | t :: u :: _ => (match tab t, tab u with
    | some i, some k => (match i.ty with
     | .sl e => (match tab e with
      | some j => (match (v (.tmp x)).grows, (v y).elems with
       | some (z, es), some xs => bif (es ++ xs).all (·.fits j.size) && !(Nat.beq j.size 0) && Nat.ble j.bytes 1024 && Nat.ble (es.length + xs.length) most && o.dst.isSome && (match k.ty with | .int _ => false | _ => true) then
         some ⟨bif (es ++ xs).isEmpty then .own true [] else .own false (es ++ xs), some x, H⟩ else none
       | _, _ => none)
      | none => none)
     | _ => none)
    | _, _ => none)
   | _ => none)
  | _, _ => none
 | .makeFunc (.func f) ⟨[]⟩ l => match freezes v l.toList H with
  | some (bs, J) => some ⟨.d (.fn f bs), none, J⟩
  | none => none
 | _ => none
theorem stepO_ok {X : Ctx} {o : Oper} {nx : List Oper} {v : Operand → T} {H : List Ob} {e : Eff} (h : stepO X.tab o nx v H = some e) : k'g X o v H e := by
 unfold stepO at h
 split at h
 ·rename_i t x ho
  cases hg : isGrown o nx with
  | false => rw [hg] at h; simp at h
  | true =>
   rw [hg] at h; simp only [cond_true] at h
   split at h <;> (try (simp at h; done))
   rename_i i j off hi hx
   cases ha : i.ty.isAgg with
   | true => rw [ha] at h; simp at h
   | false =>
    rw [ha] at h; simp only [cond_false] at h
    split at h <;> (try (simp at h; done))
    rename_i cs hj
    split at h <;> (try (simp at h; done))
    rename_i q hq
    cases hm : q.mov with
    | false => rw [hm] at h; simp at h
    | true =>
     rw [hm] at h; simp only [cond_true, Option.some.injEq] at h; subst h
     exact .loadMov hm ho hi ha hx hj hq
 ·rename_i x ho
  cases hg : isGrown o nx with
  | false => rw [hg] at h; simp at h
  | true =>
   rw [hg] at h; simp only [cond_true] at h
   split at h <;> simp at h
   subst h
   exact .assignOwn (.inr ho) ‹_›
 ·rename_i t x y ho
  split at h <;> (try (simp at h; done))
  rename_i i j off hi hx hd
  cases hc : ((v (.tmp y)).mov && Nat.beq i.size 1 && !usedL y nx) with
  | false => rw [hc] at h; simp at h
  | true =>
   rw [hc] at h; simp only [cond_true] at h
   simp only [Bool.and_eq_true] at hc
   split at h <;> (try (simp at h; done))
   rename_i cs hj
   cases hl : Nat.blt off cs.length with
   | false => rw [hl] at h; simp at h
   | true =>
    rw [hl] at h; simp only [cond_true, Option.some.injEq] at h; subst h
    exact .storeMov hc.1.1 ho hi hx hj rfl (Nat.eq_of_beq_eq_true hc.1.2) (by simpa [Nat.blt_eq] using hl) hd
 ·rename_i c ho
  split at h <;> (try (simp at h; done))
  rename_i x y hcb hca
  split at h <;> (try (simp at h; done))
  rename_i t u r hct
  split at h <;> (try (simp at h; done))
  rename_i i k hi hk
  split at h <;> (try (simp at h; done))
  rename_i e hty
  split at h <;> (try (simp at h; done))
  rename_i j hj
  split at h <;> (try (simp at h; done))
  rename_i z es xs hg hy
  have ha0 : c.argTypes[0]? = some t := by rw [← Array.getElem?_toList, hct]; rfl
  have ha1 : c.argTypes[1]? = some u := by rw [← Array.getElem?_toList, hct]; rfl
  have hargs : c.args = #[.tmp x, y] := by apply Array.ext'; rw [hca]
  cases hc : ((es ++ xs).all (·.fits j.size) && !(Nat.beq j.size 0) && Nat.ble j.bytes 1024 && Nat.ble (es.length + xs.length) most && o.dst.isSome && (match k.ty with | .int _ => false | _ => true)) with
  | false => rw [hc] at h; simp at h
  | true =>
   rw [hc] at h; simp only [cond_true, Option.some.injEq] at h; subst h
   simp only [Bool.and_eq_true] at hc
   obtain ⟨⟨⟨⟨⟨c1, c2⟩, c3⟩, c4⟩, c5⟩, c6⟩ := hc
   have hint : ∀ q, k.ty ≠ .int q := fun q e => by rw [e] at c6; simp at c6
   have := k'g.append (X := X) (H := H) ho hcb hargs ha0 (fun u' k' e1 e2 q => by
    rw [ha1] at e1; injection e1 with e1; subst e1
    rw [hk] at e2; injection e2 with e2; subst e2
    exact hint q) ⟨u, k, ha1, hk⟩ hi hty hj hg hy (fun a ha => List.all_eq_true.1 c1 a ha) (fun e => by rw [e] at c2; simp at c2) (Nat.le_of_ble_eq_true c3) (Nat.le_of_ble_eq_true c4) c5
   cases he : (es ++ xs).isEmpty with
   | true => rw [he] at this; exact this
   | false => rw [he] at this; exact this
 ·rename_i f l ho
  split at h <;> simp at h
  rename_i bs J hb
  subst h
  exact .closN ho hb
 ·simp at h
def slE : T → Option (List D)
 | .d (.sl _ es) => some es
 | .own _ es => some es
 | _ => none
theorem slE_ok {t : T} {es : List D} (h : slE t = some es) : (∃ z, t = .d (.sl z es)) ∨ ∃ z, t = .own z es := by
 unfold slE at h
 split at h <;> simp at h
 ·subst h; exact .inl ⟨_, rfl⟩
 ·subst h; exact .inr ⟨_, rfl⟩
def bnd (v : Operand → T) (dflt : Nat) : Option Operand → Option Nat
 | none => some dflt
 | some y => match v y with | .d (.int _ (.ofNat n)) => some n | _ => none
theorem bnd_ok {v : Operand → T} {d l : Nat} {o : Option Operand} (h : bnd v d o = some l) : Bnd v d l o := by
 unfold bnd at h
 split at h
 ·injection h with h; exact h.symm
 ·split at h <;> simp at h
  subst h; exact ⟨_, ‹_›⟩
def toBytesO : List D → Option (List UInt8)
 | [] => some []
 | .int .u8 (.ofNat n) :: r => match toBytesO r with | some l => bif Nat.blt n 256 then some (UInt8.ofNat n :: l) else none | none => none
 | _ :: _ => none
theorem toBytesO_ok : ∀ {es : List D} {l : List UInt8}, toBytesO es = some l → es = l.map fun c => .int .u8 c.toNat
 | [], l, h => by simp [toBytesO] at h; subst h; rfl
 | d :: r, l, h => by
  unfold toBytesO at h
  split at h
  ·simp at *
  ·rename_i n r' heq
   injection heq with h1 h2; subst h1; subst h2
   split at h <;> (try (simp at h; done))
   rename_i l' hl
   cases hb : Nat.blt n 256 with
   | false => rw [hb] at h; simp at h
   | true =>
    rw [hb] at h; simp only [cond_true, Option.some.injEq] at h; subst h
    have hn : n < 256 := by simpa [Nat.blt_eq] using hb
    rw [List.map_cons, ← toBytesO_ok hl]
    congr 2
    show (Int.ofNat n) = (((UInt8.ofNat n).toNat : Nat) : Int)
    rw [show (UInt8.ofNat n).toNat = n % 256 from UInt8.toNat_ofNat', Nat.mod_eq_of_lt hn]; rfl
  ·simp at h
def stepM (tab : TypeId → Option Ti) (o : Oper) (v : Operand → T) : Option T :=
 match o.op with
 | .indexAddr t x y => match tab t with
  | some i => (match i.ty with
   | .sl e => (match tab e, slE (v x), v y with
    | some j, some es, .d (.int _ (.ofNat n)) => (match es[n]? with
     | some u => bif Nat.beq u.cells.length j.size && !(Nat.beq j.size 0) then some (.d (.box u.cells)) else none
     | none => none)
    | _, _, _ => none)
   | _ => none)
  | none => none
 | .index t x y => match tab t with
  | some i => (match i.ty, v x, v y with
   | .str, .d (.str s), .d (.int _ (.ofNat n)) => (match s[n]? with
    | some c => some (.d (.int .u8 c.toNat))
    | none => none)
   | _, _, _ => none)
  | none => none
 | .slice t x lo hi none => match tab t with
  | some i => (match i.ty, v x with
   | .str, .d (.str s) => (match bnd v 0 lo, bnd v s.length hi with
    | some l, some h => bif Nat.ble l h && Nat.ble h s.length then some (.d (.str ((s.drop l).take (h - l)))) else none
    | _, _ => none)
   | _, _ => none)
  | none => none
 | .binOp .quo _ x y _ => match v x, v y with
  | .d (.int k a), .d (.int k' b) => bif decide (k = k') && !(decide (b = 0)) then some (.d (.int k (k.wrap (a.tdiv b)))) else none
  | _, _ => none
 | .binOp .rem _ x y _ => match v x, v y with
  | .d (.int k a), .d (.int k' b) => bif decide (k = k') && !(decide (b = 0)) then some (.d (.int k (a.tmod b))) else none
  | _, _ => none
 | .binOp .shl _ x y _ => match v x, v y with
  | .d (.int k a), .d (.int _ (.ofNat b)) => some (.d (.int k (k.wrap (a * 2 ^ min b k.bits))))
  | _, _ => none
 | .binOp .shr _ x y _ => match v x, v y with
  | .d (.int k a), .d (.int _ (.ofNat b)) => some (.d (.int k (a.fdiv (2 ^ min b k.bits))))
  | _, _ => none
 | .binOp .add _ x y _ => match v x, v y with
  | .d (.str a), .d (.str b) => bif Nat.ble (a.length + b.length) 9223372036854775807 then some (.d (.str (a ++ b))) else none
  | _, _ => none
 | .convert s t x => match tab s, tab t with
  | some i, some j => (match i.ty, j.ty with
   | .sl e, .str => (match tab e, slE (v x) with
    | some k, some es => (match k.ty, toBytesO es with
     | .int .u8, some l => some (.d (.str l))
     | _, _ => none)
    | _, _ => none)
   | _, _ => none)
  | _, _ => none
 | _ => none
theorem stepM_ok {X : Ctx} {o : Oper} {v : Operand → T} {H : List Ob} {t : T} (h : stepM X.tab o v = some t) : k'g X o v H ⟨t, none, H⟩ := by
 unfold stepM at h
 split at h
 ·rename_i ty x y ho
  split at h <;> (try (simp at h; done))
  rename_i i hi
  split at h <;> (try (simp at h; done))
  rename_i e hty
  split at h <;> (try (simp at h; done))
  rename_i j es k n hj hx hy
  split at h <;> (try (simp at h; done))
  rename_i u hu
  cases hc : (Nat.beq u.cells.length j.size && !(Nat.beq j.size 0)) with
  | false => rw [hc] at h; simp at h
  | true =>
   rw [hc] at h; simp only [cond_true, Option.some.injEq] at h; subst h
   simp only [Bool.and_eq_true] at hc
   exact .indexAddr (n := .ofNat n) ho hi hty hj (slE_ok hx) hy (Int.natCast_nonneg n) hu (Nat.eq_of_beq_eq_true hc.1) (fun e => by rw [e] at hc; simp at hc)
 ·rename_i ty x y ho
  split at h <;> (try (simp at h; done))
  rename_i i hi
  split at h <;> (try (simp at h; done))
  rename_i s k n hty hx hy
  split at h <;> simp at h
  subst h
  exact .index (n := .ofNat n) ho hi hty hx hy (Int.natCast_nonneg n) ‹_›
 ·rename_i ty x lo hi' ho
  split at h <;> (try (simp at h; done))
  rename_i i hi
  split at h <;> (try (simp at h; done))
  rename_i s hty hx
  split at h <;> (try (simp at h; done))
  rename_i l hh hl hhh
  cases hc : (Nat.ble l hh && Nat.ble hh s.length) with
  | false => rw [hc] at h; simp at h
  | true =>
   rw [hc] at h; simp only [cond_true, Option.some.injEq] at h; subst h
   simp only [Bool.and_eq_true] at hc
   exact .sliceStr ho hi hty hx (bnd_ok hl) (bnd_ok hhh) (Nat.le_of_ble_eq_true hc.1) (Nat.le_of_ble_eq_true hc.2)
 ·rename_i ho
  split at h <;> (try (simp at h; done))
  rename_i k a k' b hx hy
  cases hc : (decide (k = k') && !(decide (b = 0))) with
  | false => rw [hc] at h; simp at h
  | true =>
   rw [hc] at h; simp only [cond_true, Option.some.injEq] at h; subst h
   simp only [Bool.and_eq_true, decide_eq_true_eq, Bool.not_eq_true', decide_eq_false_iff_not] at hc
   obtain ⟨rfl, hb⟩ := hc
   exact .quo ho hx hy hb
 ·rename_i ho
  split at h <;> (try (simp at h; done))
  rename_i k a k' b hx hy
  cases hc : (decide (k = k') && !(decide (b = 0))) with
  | false => rw [hc] at h; simp at h
  | true =>
   rw [hc] at h; simp only [cond_true, Option.some.injEq] at h; subst h
   simp only [Bool.and_eq_true, decide_eq_true_eq, Bool.not_eq_true', decide_eq_false_iff_not] at hc
   obtain ⟨rfl, hb⟩ := hc
   exact .rem ho hx hy hb
 ·rename_i ho
  split at h <;> simp at h
  rename_i k a j b hx hy
  subst h
  exact .shl (b := .ofNat b) ho hx hy (Int.natCast_nonneg b)
 ·rename_i ho
  split at h <;> simp at h
  rename_i k a j b hx hy
  subst h
  exact .shr (b := .ofNat b) ho hx hy (Int.natCast_nonneg b)
 ·rename_i ho
  split at h <;> (try (simp at h; done))
  rename_i a b hx hy
  cases hc : Nat.ble (a.length + b.length) 9223372036854775807 with
  | false => rw [hc] at h; simp at h
  | true =>
   rw [hc] at h; simp only [cond_true, Option.some.injEq] at h; subst h
   exact .addStr ho hx hy (Nat.le_of_ble_eq_true hc)
 ·rename_i s ty x ho
  split at h <;> (try (simp at h; done))
  rename_i i j hi hj
  split at h <;> (try (simp at h; done))
  rename_i e hti htj
  split at h <;> (try (simp at h; done))
  rename_i k es hk hx
  split at h <;> simp at h
  rename_i l htk hl
  subst h
  refine .toStr ho hi hti hk htk hj htj ?_ ?_
  ·rcases slE_ok hx with ⟨z, e⟩ | ⟨z, e⟩ <;> rw [e, ← toBytesO_ok hl] <;> rfl
  ·rcases slE_ok hx with ⟨z, e⟩ | ⟨z, e⟩ <;> rw [e] <;> simp
 ·simp at h
def partsO' (v : Operand → T) : List (Nat × Operand) → Option (List D)
 | [] => some []
 | (_, x) :: r => match (v x).share, partsO' v r with
  | some y, some ys => some (y :: ys)
  | _, _ => none
theorem partsO'_ok {v : Operand → T} : ∀ {l : List (Nat × Operand)} {es : List D}, partsO' v l = some es → l.map (fun p => (v p.2).share) = es.map some
 | [], es, h => by simp [partsO'] at h; subst h; rfl
 | (n, x) :: r, es, h => by
  unfold partsO' at h
  split at h <;> simp at h
  subst h; rename_i y ys e1 e2
  rw [List.map_cons, List.map_cons, partsO'_ok e2, e1]
def seqB : Nat → List (Nat × Operand) → Bool
 | _, [] => true
 | n, (k, _) :: r => Nat.beq n k && seqB (n + 1) r
theorem seqB_ok : ∀ {l : List (Nat × Operand)} {n : Nat}, seqB n l = true → l.map (·.1) = List.range' n l.length
 | [], _, _ => rfl
 | (k, x) :: r, n, h => by
  simp only [seqB, Bool.and_eq_true] at h
  rw [List.map_cons, List.length_cons, List.range'_succ, seqB_ok h.2, Nat.eq_of_beq_eq_true h.1]
def stepB (tab : TypeId → Option Ti) (o : Oper) (v : Operand → T) : Option T :=
 match o.op with
 | .buildSlice t n ps => match tab t with
  | some i => (match i.ty with
   | .sl e => (match tab e, partsO' v ps.toList with
    | some j, some es => bif seqB 0 ps.toList && Nat.beq n ps.toList.length && es.all (·.fits j.size) && !es.isEmpty && !(Nat.beq j.size 0) && Nat.ble (n * j.size) 16777216 then some (.own false es) else none
    | _, _ => none)
   | _ => none)
  | none => none
 | _ => none
theorem stepB_ok {X : Ctx} {o : Oper} {v : Operand → T} {H : List Ob} {t : T} (h : stepB X.tab o v = some t) : k'g X o v H ⟨t, none, H⟩ := by
 unfold stepB at h
 split at h <;> (try (simp at h; done))
 rename_i ty n ps ho
 split at h <;> (try (simp at h; done))
 rename_i i hi
 split at h <;> (try (simp at h; done))
 rename_i e hty
 split at h <;> (try (simp at h; done))
 rename_i j es hj hes
 cases hc : (seqB 0 ps.toList && Nat.beq n ps.toList.length && es.all (·.fits j.size) && !es.isEmpty && !(Nat.beq j.size 0) && Nat.ble (n * j.size) 16777216) with
 | false => rw [hc] at h; simp at h
 | true =>
  rw [hc] at h; simp only [cond_true, Option.some.injEq] at h; subst h
  simp only [Bool.and_eq_true] at hc
  obtain ⟨⟨⟨⟨⟨c1, c2⟩, c3⟩, c4⟩, c5⟩, c6⟩ := hc
  refine .buildSlice ho hi hty hj ?_ (partsO'_ok hes) (fun x hx => List.all_eq_true.1 c3 x hx) (fun e => by rw [e] at c4; simp at c4) (fun e => by rw [e] at c5; simp at c5) (Nat.le_of_ble_eq_true c6)
  rw [seqB_ok c1, Nat.eq_of_beq_eq_true c2, List.range_eq_range']
def ptrsL : List T → List Nat → List Nat
 | [], acc => acc
 | .ptr i _ :: r, acc => bif acc.contains i then ptrsL r acc else ptrsL r (acc ++ [i])
 | _ :: r, acc => ptrsL r acc
def callI (cf : Cf) (o : Oper) (v : Operand → T) (H : List Ob) : Option (T × List Ob) :=
 match o.op with
 | .call c => match c.callee with
  | .value g => match v g with
   | .d (.fn f cap) => match rens (ptrsL (c.args.toList.map v) []) (c.args.toList.map v), gets H (ptrsL (c.args.toList.map v) []) with
    | some args, some Hs => bif nodB (ptrsL (c.args.toList.map v) []) && Hs.all Ob.plain then (match cf f (args ++ cap.map .d) Hs with
     | some (t, Hs') => bif Hs'.all Ob.plain && Nat.ble (ptrsL (c.args.toList.map v) []).length Hs'.length then (match t.backT (ptrsL (c.args.toList.map v) []) H.length with
      | some t' => some (t', sets H (ptrsL (c.args.toList.map v) []) Hs')
      | none => none) else none
     | none => none) else none
    | _, _ => none
   | _ => none
  | _ => none
 | _ => none
theorem callI_ok {X : Ctx} {cf : Cf} (hcf : CfOk X cf) {o : Oper} {v : Operand → T} {H H' : List Ob} {t : T} (h : callI cf o v H = some (t, H')) : k'g X o v H ⟨t, none, H'⟩ := by
 unfold callI at h
 split at h <;> (try (simp at h; done))
 rename_i c ho
 split at h <;> (try (simp at h; done))
 rename_i g hg
 split at h <;> (try (simp at h; done))
 rename_i f cap hv
 split at h <;> (try (simp at h; done))
 rename_i args Hs ha hs
 generalize ptrsL (c.args.toList.map v) [] = sel at *
 cases hc : (nodB sel && Hs.all Ob.plain) with
 | false => rw [hc] at h; simp at h
 | true =>
  rw [hc] at h; simp only [cond_true] at h
  simp only [Bool.and_eq_true] at hc
  split at h <;> (try (simp at h; done))
  rename_i t1 Hs' hcall
  cases hd : (Hs'.all Ob.plain && Nat.ble sel.length Hs'.length) with
  | false => rw [hd] at h; simp at h
  | true =>
   rw [hd] at h; simp only [cond_true] at h
   simp only [Bool.and_eq_true] at hd
   split at h <;> simp at h
   rename_i t' ht
   obtain ⟨rfl, rfl⟩ := h
   exact .call ho ⟨g, hg, hv⟩ (nodB_ok hc.1) ha hs hc.2 hd.1 (hcf _ _ _ _ _ hcall) (Nat.le_of_ble_eq_true hd.2) ht
def stepI {α : Type} (cf : Cf) (tab : TypeId → Option Ti) (o : Oper) (nx : List Oper) (v : Operand → T) (H : List Ob) (k : T → Option Tmp → List Ob → Option α) : Option α :=
 match stepO tab o nx v H with
 | some e => e.res.force fun t => k'2h e.H fun H' => k t e.pz H'
 | none => match stepM tab o v with
  | some t => t.force fun t => k t none H
  | none => match stepB tab o v with
   | some t => t.force fun t => k t none H
   | none => match exec tab o v H with
    | some e => e.res.force fun t => k'2h e.H fun H' => k t e.pz H'
    | none => match callI cf o v H with
     | some (t, H') => t.force fun t => k'2h H' fun H' => k t none H'
     | none => none
theorem stepI_ok {X : Ctx} {α : Type} {cf : Cf} (hcf : CfOk X cf) {o : Oper} {nx : List Oper} {v : Operand → T} (hc : ∀ k n, v (.const (.int k n)) = .d (.int k n)) {H : List Ob} {k : T → Option Tmp → List Ob → Option α} {a : α} (h : stepI cf X.tab o nx v H k = some a) : ∃ e, k'g X o v H e ∧ k e.res e.pz e.H = some a := by
 unfold stepI at h
 split at h
 ·rename_i e he
  rw [k'w, k'y] at h; exact ⟨e, stepO_ok he, h⟩
 ·split at h
  ·rename_i t ht
   rw [k'w] at h; exact ⟨_, stepM_ok ht, h⟩
  ·split at h
   ·rename_i t ht
    rw [k'w] at h; exact ⟨_, stepB_ok ht, h⟩
   ·split at h
    ·rename_i e he
     rw [k'w, k'y] at h; exact ⟨e, exec_ok hc he, h⟩
    ·split at h
     ·rename_i t H' hcl
      rw [k'w, k'y] at h; exact ⟨_, callI_ok hcf hcl, h⟩
     ·simp at h
def evO (cf : Cf) (tab : TypeId → Option Ti) (ops : Array Oper) (e0 : Nat → T) : List Oper → Sl → List Ob → Option (Sl × List Ob)
 | [], L, H => some (L, H)
 | o :: r, L, H => match gdB ops o (putL L e0) with
  | none => none
  | some false => putK L o.dst .skip fun L => evO cf tab ops e0 r L H
  | some true => stepI cf tab o r (S.mk (putL L e0) H).val H fun t pz H' => putK L pz .undef fun L => putK L o.dst t fun L => evO cf tab ops e0 r L H'
section
variable {X : Ctx} {ops : Array Oper} {K : S → Prop} {Q : Ex → S → Prop} {e0 : Nat → T} {cf : Cf}
theorem evO_ok (hcf : CfOk X cf) : ∀ {l : List Oper} {L L' : Sl} {H H' : List Ob}, evO cf X.tab ops e0 l L H = some (L', H') → K ⟨putL L' e0, H'⟩ → wpO X ops l ⟨putL L e0, H⟩ K
 | [], L, L', H, H', h, k => by simp [evO] at h; obtain ⟨rfl, rfl⟩ := h; exact k
 | o :: r, L, L', H, H', h, k => by
  unfold evO at h
  split at h
  ·simp at h
  ·rename_i hg
   rw [k'f] at h
   rcases gd_cases hg with ⟨-, g⟩ | ⟨g, want, d, v, g1, g2, g3, -, g4⟩
   ·simp at g
   ·unfold wpO; rw [g1]
    exact ⟨d, v, g2, g3, fun e => absurd e (g4 rfl), fun _ => by rw [put_putL]; exact evO_ok hcf h k⟩
  ·rename_i hg
   obtain ⟨e, he, hk⟩ := stepI_ok hcf (fun _ _ => rfl) h
   rw [k'f, k'f] at hk
   rcases gd_cases hg with ⟨g1, -⟩ | ⟨g, want, d, v, g1, g2, g3, g4, -⟩
   ·unfold wpO; rw [g1]
    exact .inl ⟨e, he, by rw [k'14]; exact evO_ok hcf hk k⟩
   ·unfold wpO; rw [g1]
    exact ⟨d, v, g2, g3, fun _ => ⟨e, he, by rw [k'14]; exact evO_ok hcf hk k⟩, fun hne => absurd (g4 rfl) hne⟩
end
/-! Equality of data, told. -/
mutual
def D.eqB : D → D → Bool
 | .bool a, .bool b => a == b
 | .int k a, .int j b => decide (k = j) && decide (a = b)
 | .str a, .str b => a == b
 | .nilp, .nilp => true
 | .box a, .box b => D.eqsB a b
 | .sl z a, .sl w b => (z == w) && D.eqsB a b
 | .iface t a, .iface u b => decide (t = u) && D.eqB a b
 | .nili, .nili => true
 | .agg a, .agg b => D.eqsB a b
 | .fn f a, .fn g b => decide (f = g) && D.eqsB a b
 | .nilf, .nilf => true
 | _, _ => false
def D.eqsB : List D → List D → Bool
 | [], [] => true
 | a :: r, b :: q => D.eqB a b && D.eqsB r q
 | _, _ => false
end
mutual
theorem D.eqB_ok : ∀ {a b : D}, D.eqB a b = true → a = b
 | .bool a, b, h => by cases b <;> simp [D.eqB] at h; rw [h]
 | .int k a, b, h => by cases b <;> simp [D.eqB] at h; rw [h.1, h.2]
 | .str a, b, h => by cases b <;> simp [D.eqB] at h; rw [h]
 | .nilp, b, h => by cases b <;> simp [D.eqB] at h; rfl
 | .box a, b, h => by cases b <;> simp [D.eqB] at h; rw [D.eqsB_ok h]
 | .sl z a, b, h => by cases b <;> simp [D.eqB] at h; rw [h.1, D.eqsB_ok h.2]
 | .iface t a, b, h => by cases b <;> simp [D.eqB] at h; rw [h.1, D.eqB_ok h.2]
 | .nili, b, h => by cases b <;> simp [D.eqB] at h; rfl
 | .agg a, b, h => by cases b <;> simp [D.eqB] at h; rw [D.eqsB_ok h]
 | .fn f a, b, h => by cases b <;> simp [D.eqB] at h; rw [h.1, D.eqsB_ok h.2]
 | .nilf, b, h => by cases b <;> simp [D.eqB] at h; rfl
theorem D.eqsB_ok : ∀ {a b : List D}, D.eqsB a b = true → a = b
 | [], [], _ => rfl
 | a :: r, b :: q, h => by
  simp only [D.eqsB, Bool.and_eq_true] at h
  rw [D.eqB_ok h.1, D.eqsB_ok h.2]
 | [], _ :: _, h => by simp [D.eqsB] at h
 | _ :: _, [], h => by simp [D.eqsB] at h
end
def sameO : Option D → D → Bool
 | some a, b => D.eqB a b
 | none, _ => false
theorem sameO_ok {a : Option D} {b : D} (h : sameO a b = true) : a = some b := by
 cases a with
 | none => simp [sameO] at h
 | some a => rw [D.eqB_ok h]
def oblB : List (Ld × Hd) → Bool
 | [] => true
 | (d, h) :: r => sameO (loadV d.2.1 h.2.1 d.2.2.1) d.2.2.2 && sameO (loadV d.2.1 h.2.2 d.2.2.1) d.2.2.2 && oblB r
theorem oblB_ok : ∀ {l : List (Ld × Hd)}, oblB l = true → Obl l
 | [], _ => trivial
 | (d, h) :: r, k => by
  simp only [oblB, Bool.and_eq_true] at k
  exact ⟨⟨sameO_ok k.1.1, sameO_ok k.1.2⟩, oblB_ok k.2⟩
def dynB (ms : List Nat) (W : List Ld) (Hs : List Hd) : Bool := needK ms W Hs [] oblB
theorem dynB_ok {ms : List Nat} {W : List Ld} {Hs : List Hd} (h : dynB ms W Hs = true) : dynLs ms W Hs := by
 unfold dynB at h
 obtain ⟨l, h1, -, -⟩ := needK_eq (ms := ms) W Hs [] oblB
 obtain ⟨l2, h2, -, -⟩ := needK_eq (ms := ms) W Hs [] some
 have key : ∀ (W : List Ld) (acc : List (Ld × Hd)), ∃ l, needK ms W Hs acc oblB = oblB l ∧ needK ms W Hs acc some = some l := by
  have kr : ∀ (Hs : List Hd) (i : Nat) (d : Ti × T × D) (acc : List (Ld × Hd)), ∃ l, (needR ms i d Hs acc fun a => a) = l ∧ ∀ (β : Type) (k : List (Ld × Hd) → β), needR ms i d Hs acc k = k l := by
   intro Hs
   induction Hs with
   | nil => intro i d acc; exact ⟨acc, rfl, fun _ _ => rfl⟩
   | cons x r ih =>
    obtain ⟨j, hh⟩ := x
    intro i d acc
    unfold needR
    cases ordB ms i j with
    | true => exact ih i d acc
    | false => exact ih i d _
  intro W
  induction W with
  | nil => intro acc; exact ⟨acc, rfl, rfl⟩
  | cons x r ih =>
   obtain ⟨i, d⟩ := x
   intro acc
   unfold needK
   obtain ⟨l, -, hl⟩ := kr Hs i d acc
   rw [hl, hl]
   exact ih l
 obtain ⟨l, k1, k2⟩ := key W []
 exact ⟨l, k2, oblB_ok (by rw [← k1]; exact h)⟩
def evX {α : Type} (cf : Cf) (tab : TypeId → Option Ti) (ops : Array Oper) (e0 : Nat → T) (k : Sl → List Ob → List Lt → List Ld → List Hd → Option α) : List (Nat × Oper) → Sl → List Ob → List Lt → List Ld → List Hd → Option α
 | [], L, H, R, W, Hs => k L H R W Hs
 | (i, o) :: r, L, H, R, W, Hs => match gdB ops o (putL L e0) with
  | none => none
  | some false => putK L o.dst .skip fun L => evX cf tab ops e0 k r L H (R ++ [⟨i, o, none, true, true⟩]) W Hs
  | some true => match stepO tab o (r.map (·.2)) (S.mk (putL L e0) H).val H with
   | some e => pzK e.pz fun pz => e.res.force fun t => putK L pz .undef fun L => putK L o.dst t fun L => k'2h e.H fun J => evX cf tab ops e0 k r L J (R ++ [⟨i, o, pz, false, false⟩]) W (Hs ++ [(i, H, J)])
   | none => match o.op with
    | .load t a => match tab t with
     | some ti => match loadV ti H ((S.mk (putL L e0) H).val a) with
      | some y => ((S.mk (putL L e0) H).val a).force fun w => putK L o.dst (.d y) fun L => evX cf tab ops e0 k r L H (R ++ [⟨i, o, none, true, false⟩]) (W ++ [(i, ti, w, y)]) Hs
      | none => none
     | none => none
    | _ => match pureV tab o.op (S.mk (putL L e0) H).val with
     | some t => t.force fun t => putK L o.dst t fun L => evX cf tab ops e0 k r L H (R ++ [⟨i, o, none, true, false⟩]) W Hs
     | none => match stepM tab o (S.mk (putL L e0) H).val with
      | some t => t.force fun t => putK L o.dst t fun L => evX cf tab ops e0 k r L H (R ++ [⟨i, o, none, true, false⟩]) W Hs
      | none => match stepB tab o (S.mk (putL L e0) H).val with
       | some t => t.force fun t => putK L o.dst t fun L => evX cf tab ops e0 k r L H (R ++ [⟨i, o, none, true, false⟩]) W Hs
       | none => match exec tab o (S.mk (putL L e0) H).val H with
        | some e => pzK e.pz fun pz => e.res.force fun t => putK L pz .undef fun L => putK L o.dst t fun L => k'2h e.H fun J => evX cf tab ops e0 k r L J (R ++ [⟨i, o, pz, false, false⟩]) W (Hs ++ [(i, H, J)])
        | none => match callI cf o (S.mk (putL L e0) H).val H with
         | some (t, J) => t.force fun t => putK L o.dst t fun L => k'2h J fun J => evX cf tab ops e0 k r L J (R ++ [⟨i, o, none, false, false⟩]) W (Hs ++ [(i, H, J)])
         | none => none
section
variable {X : Ctx} {ops : Array Oper} {e0 : Nat → T} {cf : Cf} {α : Type}
theorem evX_ok (hcf : CfOk X cf) {a : α} {k : Sl → List Ob → List Lt → List Ld → List Hd → Option α} {KL : List Lt → List Ld → List Hd → S → Prop} (hk : ∀ L H R W Hs, k L H R W Hs = some a → KL R W Hs ⟨putL L e0, H⟩) :
  ∀ {l : List (Nat × Oper)} {L : Sl} {H : List Ob} {R : List Lt} {W : List Ld} {Hs : List Hd}, evX cf X.tab ops e0 k l L H R W Hs = some a → runX X ops l ⟨putL L e0, H⟩ R W Hs KL
 | [], L, H, R, W, Hs, h => hk L H R W Hs h
 | (i, o) :: r, L, H, R, W, Hs, h => by
  have hcc : ∀ k n, (S.mk (putL L e0) H).val (.const (.int k n)) = .d (.int k n) := fun _ _ => rfl
  have mob : ∀ t, isLoad o.op = false → gdB ops o (putL L e0) = some true → k'g X o (S.mk (putL L e0) H).val H ⟨t, none, H⟩ → (t.force fun t => putK L o.dst t fun L => evX cf X.tab ops e0 k r L H (R ++ [⟨i, o, none, true, false⟩]) W Hs) = some a → runX X ops ((i, o) :: r) ⟨putL L e0, H⟩ R W Hs KL := fun t hl hg he h => by
   rw [k'w, k'f] at h
   exact k'12 he hl hg (by rw [k'w, k'f]) (evX_ok hcf hk h)
  have eff : ∀ e : Eff, gdB ops o (putL L e0) = some true → k'g X o (S.mk (putL L e0) H).val H e → (pzK e.pz fun pz => e.res.force fun t => putK L pz .undef fun L => putK L o.dst t fun L => k'2h e.H fun J => evX cf X.tab ops e0 k r L J (R ++ [⟨i, o, pz, false, false⟩]) W (Hs ++ [(i, H, J)])) = some a → runX X ops ((i, o) :: r) ⟨putL L e0, H⟩ R W Hs KL := fun e hg he h => by
   rw [pzK_eq, k'w, k'f, k'f, k'y] at h
   exact x_step he hg (by rw [k'w, k'f, k'f, k'y]) (evX_ok hcf hk h)
  unfold evX at h
  split at h
  ·simp at h
  ·rename_i hg
   rw [k'f] at h
   exact x_skip hg (k'f ..) (evX_ok hcf hk h)
  ·rename_i hg
   split at h
   ·rename_i e he
    exact eff e hg (stepO_ok he) h
   ·split at h
    ·rename_i t b ho
     split at h <;> (try (simp at h; done))
     rename_i ti hi
     split at h <;> (try (simp at h; done))
     rename_i y hy
     rw [k'w, k'f] at h
     exact x_load ho hi rfl hy hg (k'f ..) (evX_ok hcf hk h)
    ·rename_i hnl
     have hl : isLoad o.op = false := by
      cases hop : o.op with
      | load t b => exact absurd hop (hnl t b)
      | _ => rfl
     split at h
     ·rename_i t ht; exact mob t hl hg (.pure ht) h
     ·split at h
      ·rename_i t ht; exact mob t hl hg (stepM_ok ht) h
      ·split at h
       ·rename_i t ht; exact mob t hl hg (stepB_ok ht) h
       ·split at h
        ·rename_i e he; exact eff e hg (exec_ok hcc he) h
        ·split at h <;> (try (simp at h; done))
         rename_i t J hcl
         exact eff ⟨t, none, J⟩ hg (callI_ok hcf hcl) h
end
def cleanL (n : Nat) : Sl → Sl
 | [] => []
 | (t, v) :: r => bif v.clean n then (t, v) :: (cleanL n r).filter (fun p => !(Nat.beq p.1 t)) else (cleanL n r).filter (fun p => !(Nat.beq p.1 t))
theorem cleanL_ok (n : Nat) (e0 : Nat → T) : ∀ L : Sl, (∀ p ∈ cleanL n L, putL L e0 p.1 = p.2 ∧ p.2.clean n = true)
 | [], p, h => by simp [cleanL] at h
 | (t, v) :: r, p, h => by
  have rest : p ∈ (cleanL n r).filter (fun p => !(Nat.beq p.1 t)) → putL ((t, v) :: r) e0 p.1 = p.2 ∧ p.2.clean n = true := fun h => by
   obtain ⟨h1, h2⟩ := List.mem_filter.1 h
   obtain ⟨h3, h4⟩ := cleanL_ok n e0 r p h1
   refine ⟨?_, h4⟩
   show (bif Nat.beq p.1 t then v else putL r e0 p.1) = p.2
   have : Nat.beq p.1 t = false := by simpa using h2
   rw [this]; exact h3
  unfold cleanL at h
  cases hc : v.clean n with
  | false => rw [hc] at h; exact rest h
  | true =>
   rw [hc] at h
   rcases List.mem_cons.1 h with rfl | h
   ·refine ⟨?_, hc⟩
    show (bif Nat.beq t t then v else putL r e0 t) = v
    rw [Nat.beq_refl]; rfl
   ·exact rest h
theorem holds_of : ∀ {M : Sl} {e : Nat → T}, (∀ p ∈ M, e p.1 = p.2) → Holds M e
 | [], _, _ => trivial
 | (t, v) :: r, e, h => ⟨h (t, v) (List.mem_cons_self ..), holds_of fun p hp => h p (List.mem_cons_of_mem _ hp)⟩
abbrev noE : Nat → T := fun _ => .undef
def forceS {α : Type} : Sl → (Sl → α) → α
 | [], k => k []
 | (t, v) :: r, k => forceS r fun r => k ((t, v) :: r)
theorem forceS_eq {α : Type} : ∀ (l : Sl) (k : Sl → α), forceS l k = k l
 | [], _ => rfl
 | (t, v) :: r, k => by unfold forceS; rw [forceS_eq r]
def evL (w : Sl → List Ob → Option (Ex × Sl × List Ob)) (n : Nat) : Nat → Sl → List Ob → Option (Ex × Sl × List Ob)
 | 0, _, _ => none
 | k + 1, L, H => forceS (cleanL n L) fun M => k'2h (H.take n) fun J => bif J.all Ob.plain then (match w M J with
   | some (.normal, L', H') => evL w n k L' H'
   | r => r) else none
def allocOf (t0 : Tmp) : List (Nat × Oper) → Option Nat
 | [] => none
 | (i, o) :: r => match o.op, o.dst with
  | .alloc _, some t => bif Nat.beq t t0 then some i else allocOf t0 r
  | _, _ => allocOf t0 r
def tailOf (l : List (Nat × Oper)) : Option (Nat × Nat) :=
 match l.getLast? with
 | some (z, oz) => match oz.op with
  | .store _ (.tmp t0) _ => match allocOf t0 l with
   | some i => some (i, z)
   | none => none
  | _ => none
 | none => none
def isUn : T → Bool
 | .undef => true
 | _ => false
theorem isUn_ok {t : T} (h : isUn t = true) : t = .undef := by cases t <;> simp [isUn] at h; rfl
def evT (cf : Cf) (tab : TypeId → Option Ti) (ops : Array Oper) (i0 z : Nat) (L : Sl) (H : List Ob) : Option (Ex × Sl × List Ob) :=
 match ops[i0]?, ops[z]? with
 | some o0, some oz => match o0.op, o0.dst with
  | .alloc t, some t0 => match tab t with
   | some ti => bif k'2j 0 ops.toList && !(Nat.beq i0 z) && o0.guard.isNone && oz.guard.isNone && oz.dst.isNone && lastOk (masks ops.toList []) ops.size z && nameless ops t0 ((number 0 ops.toList).filter fun p => !(p.1 == i0 || p.1 == z)) then
     evX cf tab ops noE (fun L' H' R W Hs => bif statLs ops (masks ops.toList []) R && dynB (masks ops.toList []) W Hs && isUn (putL L' noE t0) && pzlessL t0 R then
      (match exec tab oz ((S.mk (putL L' noE) H').app (some t0) ⟨.ptr H'.length 0, none, H' ++ [.mu (ti.zero.cells.map T.ofD)]⟩).val (H' ++ [.mu (ti.zero.cells.map T.ofD)]) with
       | some ez => bif ez.pz.isNone then k'2h ez.H fun J => some (.normal, (t0, .ptr H'.length 0) :: L', J) else none
       | none => none) else none) ((number 0 ops.toList).filter fun p => !(p.1 == i0 || p.1 == z)) ((t0, .undef) :: L) H [] [] []
     else none
   | none => none
  | _, _ => none
 | _, _ => none
def evC (cf : Cf) (tab : TypeId → Option Ti) : Code → Sl → List Ob → Option (Ex × Sl × List Ob)
 | .skip, L, H => some (.normal, L, H)
 | .ret, L, H => some (.ret, L, H)
 | .exit i, L, H => some (.exit i, L, H)
 | .seq a b, L, H => match evC cf tab a L H with
  | some (.normal, L', H') => evC cf tab b L' H'
  | r => r
 | .cond c x y, L, H => match (S.mk (putL L noE) H).val c with
  | .d (.bool true) => evC cf tab x L H
  | .d (.bool false) => evC cf tab y L H
  | _ => none
 | .block id c, L, H => match evC cf tab c L H with
  | some (.exit i, L', H') => bif Nat.beq i id then some (.normal, L', H') else some (.exit i, L', H')
  | r => r
 | .loop c, L, H => evL (evC cf tab c) H.length 100000 L H
 | .region _ ops false, L, H => match evO cf tab ops noE ops.toList L H with
  | some (L', H') => some (.normal, L', H')
  | none => none
 | .region _ ops true, L, H => match tailOf (number 0 ops.toList) with
  | some (i0, z) => evT cf tab ops i0 z L H
  | none => bif k'2j 0 ops.toList then evX cf tab ops noE (fun L' H' R W Hs => bif statLs ops (masks ops.toList []) R && dynB (masks ops.toList []) W Hs then some (.normal, L', H') else none) (number 0 ops.toList) L H [] [] [] else none
 | _, _, _ => none
section
variable {X : Ctx} {cf : Cf}
theorem evT_ok (hcf : CfOk X cf) {id : Nat} {ops : Array Oper} {i0 z : Nat} {L L' : Sl} {H H' : List Ob} {ex : Ex} {Q : Ex → S → Prop} (h : evT cf X.tab ops i0 z L H = some (ex, L', H')) (k : Q ex ⟨putL L' noE, H'⟩) : wpC X (.region id ops true) ⟨putL L noE, H⟩ Q := by
 unfold evT at h
 split at h <;> (try (simp at h; done))
 rename_i o0 oz h0 hz
 split at h <;> (try (simp at h; done))
 rename_i t t0 h1 h2
 split at h <;> (try (simp at h; done))
 rename_i ti hti
 cases hc : (k'2j 0 ops.toList && !(Nat.beq i0 z) && o0.guard.isNone && oz.guard.isNone && oz.dst.isNone && lastOk (masks ops.toList []) ops.size z && nameless ops t0 ((number 0 ops.toList).filter fun p => !(p.1 == i0 || p.1 == z))) with
 | false => rw [hc] at h; simp at h
 | true =>
  rw [hc] at h
  simp only [cond_true] at h
  simp only [Bool.and_eq_true, Bool.not_eq_true', Option.isNone_iff_eq_none] at hc
  obtain ⟨⟨⟨⟨⟨⟨c1, c2⟩, c3⟩, c4⟩, c5⟩, c6⟩, c7⟩ := hc
  refine x_tail c1 (fun e => by subst e; simp at c2) h0 h1 h2 c3 hti hz c4 c6 c7 rfl (evX_ok hcf (fun L1 H1 R W Hs hk => ?_) h)
  cases hd : (statLs ops (masks ops.toList []) R && dynB (masks ops.toList []) W Hs && isUn (putL L1 noE t0) && pzlessL t0 R) with
  | false => rw [hd] at hk; simp at hk
  | true =>
   rw [hd] at hk
   simp only [cond_true] at hk
   simp only [Bool.and_eq_true] at hd
   obtain ⟨⟨⟨d1, d2⟩, d3⟩, d4⟩ := hd
   split at hk <;> (try (simp at hk; done))
   rename_i ez hez
   cases hp : ez.pz.isNone with
   | false => rw [hp] at hk; simp at hk
   | true =>
    rw [hp] at hk
    simp only [cond_true] at hk
    rw [k'y] at hk
    simp only [Option.some.injEq, Prod.mk.injEq] at hk
    obtain ⟨rfl, rfl, rfl⟩ := hk
    refine ⟨d1, dynB_ok d2, isUn_ok d3, d4, ez, exec_ok (fun _ _ => rfl) hez, ?_⟩
    rw [c5]
    have : ((S.mk (putL L1 noE) H1).app (some t0) ⟨.ptr H1.length 0, none, H1 ++ [.mu (ti.zero.cells.map T.ofD)]⟩).app none ez = ⟨putL ((t0, .ptr H1.length 0) :: L1) noE, ez.H⟩ := by
     rw [k'14, k'14, Option.isNone_iff_eq_none.1 hp]; rfl
    rw [this]; exact k
theorem evC_ok (hcf : CfOk X cf) : ∀ (c : Code) (L L' : Sl) (H H' : List Ob) (ex : Ex) (Q : Ex → S → Prop), evC cf X.tab c L H = some (ex, L', H') → Q ex ⟨putL L' noE, H'⟩ → wpC X c ⟨putL L noE, H⟩ Q
 | .skip, L, L', H, H', ex, Q, h, k => by simp [evC] at h; obtain ⟨rfl, rfl, rfl⟩ := h; exact k
 | .ret, L, L', H, H', ex, Q, h, k => by simp [evC] at h; obtain ⟨rfl, rfl, rfl⟩ := h; exact k
 | .exit i, L, L', H, H', ex, Q, h, k => by simp [evC] at h; obtain ⟨rfl, rfl, rfl⟩ := h; exact k
 | .seq a b, L, L', H, H', ex, Q, h, k => by
  unfold evC at h
  cases ha : evC cf X.tab a L H with
  | none => rw [ha] at h; simp at h
  | some r =>
   obtain ⟨e1, L1, H1⟩ := r
   rw [ha] at h
   refine evC_ok hcf a L L1 H H1 e1 _ ha ?_
   cases e1 with
   | normal => exact evC_ok hcf b L1 L' H1 H' ex Q h k
   | exit i => simp at h; obtain ⟨rfl, rfl, rfl⟩ := h; exact k
   | ret => simp at h; obtain ⟨rfl, rfl, rfl⟩ := h; exact k
 | .cond c x y, L, L', H, H', ex, Q, h, k => by
  unfold evC at h
  split at h
  ·rename_i hc
   exact ⟨true, hc, fun _ => evC_ok hcf x L L' H H' ex Q h k, fun e => by simp at e⟩
  ·rename_i hc
   exact ⟨false, hc, fun e => by simp at e, fun _ => evC_ok hcf y L L' H H' ex Q h k⟩
  ·simp at h
 | .block id c, L, L', H, H', ex, Q, h, k => by
  unfold evC at h
  cases ha : evC cf X.tab c L H with
  | none => rw [ha] at h; simp at h
  | some r =>
   obtain ⟨e1, L1, H1⟩ := r
   rw [ha] at h
   refine evC_ok hcf c L L1 H H1 e1 _ ha ?_
   cases e1 with
   | normal => simp at h; obtain ⟨rfl, rfl, rfl⟩ := h; exact k
   | ret => simp at h; obtain ⟨rfl, rfl, rfl⟩ := h; exact k
   | exit i =>
    show (bif Nat.beq i id then Q .normal _ else Q (.exit i) _)
    dsimp only at h
    cases hb : Nat.beq i id with
    | true => rw [hb] at h; simp at h; obtain ⟨rfl, rfl, rfl⟩ := h; exact k
    | false => rw [hb] at h; simp at h; obtain ⟨rfl, rfl, rfl⟩ := h; exact k
 | .loop c, L, L', H, H', ex, Q, h, k => by
  unfold evC at h
  refine ⟨100000, ?_⟩
  show loopW (wpC X c) H.length 100000 ⟨putL L noE, H⟩ Q
  generalize H.length = n at h ⊢
  generalize 100000 = m at h ⊢
  induction m generalizing L H with
  | zero => simp [evL] at h
  | succ m ih =>
   unfold evL at h
   rw [forceS_eq, k'y] at h
   cases hp : (H.take n).all Ob.plain with
   | false => rw [hp] at h; simp at h
   | true =>
    rw [hp] at h
    simp only [cond_true] at h
    have hcl := cleanL_ok n noE L
    refine ⟨_, drop_putL (s := ⟨putL L noE, H⟩) (L := cleanL n L) (J := H.take n) (holds_of fun p hp => (hcl p hp).1) (WkH.refl _) hp (List.all_eq_true.2 fun p hp => (hcl p hp).2), ?_⟩
    cases hw : evC cf X.tab c (cleanL n L) (H.take n) with
    | none => rw [hw] at h; simp at h
    | some r =>
     obtain ⟨e1, L1, H1⟩ := r
     rw [hw] at h
     refine evC_ok hcf c _ L1 _ H1 e1 _ hw ?_
     cases e1 with
     | normal => exact ih L1 H1 h
     | exit i => simp at h; obtain ⟨rfl, rfl, rfl⟩ := h; exact k
     | ret => simp at h; obtain ⟨rfl, rfl, rfl⟩ := h; exact k
 | .region id ops false, L, L', H, H', ex, Q, h, k => by
  unfold evC at h
  split at h <;> simp at h
  rename_i L1 H1 hr
  obtain ⟨rfl, rfl, rfl⟩ := h
  exact evO_ok hcf hr k
 | .region id ops true, L, L', H, H', ex, Q, h, k => by
  unfold evC at h
  split at h
  ·exact evT_ok hcf h k
  cases he : k'2j 0 ops.toList with
  | false => rw [he] at h; simp at h
  | true =>
   rw [he] at h
   simp only [cond_true] at h
   refine x_open he rfl (evX_ok hcf (fun L1 H1 R W Hs hk => ?_) h)
   cases hc : (statLs ops (masks ops.toList []) R && dynB (masks ops.toList []) W Hs) with
   | false => rw [hc] at hk; simp at hk
   | true =>
    rw [hc] at hk
    simp only [cond_true, Option.some.injEq, Prod.mk.injEq] at hk
    obtain ⟨rfl, rfl, rfl⟩ := hk
    simp only [Bool.and_eq_true] at hc
    exact ⟨hc.1, dynB_ok hc.2, k⟩
 | .rangeFunc .., L, L', H, H', ex, Q, h, k => by simp [evC] at h
 | .scope _, L, L', H, H', ex, Q, h, k => by simp [evC] at h
 | .label _, L, L', H, H', ex, Q, h, k => by simp [evC] at h
 | .goto _, L, L', H, H', ex, Q, h, k => by simp [evC] at h
 | .refuse _, L, L', H, H', ex, Q, h, k => by simp [evC] at h
def extraL (n : Nat) : List T → List Nat → List Nat
 | [], acc => acc
 | .ptr i _ :: r, acc => bif Nat.blt i n || acc.contains i then extraL n r acc else extraL n r (acc ++ [i])
 | _ :: r, acc => extraL n r acc
def endI (X : Ctx) (fn : Func) (n : Nat) (ex : Ex) (s : S) : Option (T × List Ob) :=
 match resVs X s fn.results.toList with
 | some ts => endE X fn n (extraL n ts []) ex s
 | none => none
def evF (X : Ctx) (or : Cf) : Nat → Cf
 | 0, f, args, H => or f args H
 | n + 1, f, args, H => match or f args H with
  | some r => some r
  | none => match X.P.funcs.toList[f]? with
   | none => none
   | some fn => match fn.body with
    | none => none
    | some c => bif args.all argOk && codeOk fn.ntmps c && Nat.ble args.length fn.ntmps && !(fn.name == "runtime.NumGoroutine") then
      numK 0 args fun L => match evC (evF X or n) X.tab c L H with
      | some (ex, L', H') => endI X fn H.length ex ⟨putL L' noE, H'⟩
      | none => none
     else none
theorem evF_ok {or : Cf} (hor : CfOk X or) : ∀ n, CfOk X (evF X or n)
 | 0, f, args, H, r, H', h => hor f args H r H' h
 | n + 1, f, args, H, r, H', h => by
  unfold evF at h
  split at h
  ·rename_i q hq
   injection h with h; subst h
   exact hor f args H _ _ hq
  ·split at h <;> (try (simp at h; done))
   rename_i fn hf
   split at h <;> (try (simp at h; done))
   rename_i c hb
   cases hc : (args.all argOk && codeOk fn.ntmps c && Nat.ble args.length fn.ntmps && !(fn.name == "runtime.NumGoroutine")) with
   | false => rw [hc] at h; simp at h
   | true =>
    rw [hc] at h
    simp only [cond_true] at h
    simp only [Bool.and_eq_true, Bool.not_eq_true'] at hc
    obtain ⟨⟨⟨c1, c2⟩, c3⟩, c4⟩ := hc
    obtain ⟨M, m1, m2⟩ := numK_eq args 0 (fun L => match evC (evF X or n) X.tab c L H with
      | some (ex, L', H') => endI X fn H.length ex ⟨putL L' noE, H'⟩
      | none => none)
    rw [m1] at h
    split at h <;> (try (simp at h; done))
    rename_i ex L' J hev
    unfold endI at h
    split at h <;> (try (simp at h; done))
    rename_i ts hts
    have hfun : X.P.funcs[f]? = some fn := by rw [← Array.getElem?_toList]; exact hf
    have henv : argEnv args = putL M noE := by
     funext t; exact (m2 t (Nat.zero_le _)).symm
    refine calls_of_body hfun hb c4 c2 c3 c1 H.length (extraL H.length ts []) rfl ?_
    rw [henv]
    exact evC_ok (evF_ok hor n) c M L' H J ex _ hev (k'i h)
end
