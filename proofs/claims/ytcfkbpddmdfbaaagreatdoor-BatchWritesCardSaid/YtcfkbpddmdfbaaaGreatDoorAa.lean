/- An abstract semantics of the functions of the program: what they do to data, memory left out; sound against the machine. Part a. -/
import Derived.Below
import Derived.Orders
import Derived.Laws.Cells
import Derived.Laws.Entries
import Derived.ChangeKeysEq
import Derived.Laws.IdiomCopy
import Derived.Laws.BytesString
set_option linter.unusedSimpArgs false
set_option linter.unusedVariables false
namespace Go.Abs
open Go
inductive D where
 | bool (b : Bool) | int (k : IntKind) (n : Int) | str (s : List UInt8)
 | nilp | box (cs : List D) | sl (z : Bool) (es : List D)
 | iface (t : TypeId) (v : D) | nili | agg (cs : List D)
 | fn (f : FuncId) (cap : List D) | nilf
 deriving Inhabited
def k'27 (c : UInt8) : D := .int .u8 c.toNat
def D.cells : D → List D
 | .agg cs => cs
 | d => [d]
inductive T where
 | d (x : D) | ptr (i off : Nat) | own (z : Bool) (es : List D) | tup (ts : List T) | undef
 | me | nw (t : TypeId) (n : Nat) | buf (t : TypeId) (s : List UInt8) | skip
 | slo (i n : Nat)
 deriving Inhabited
inductive Ob where
 | mu (cs : List T)
 | fro (cs : List D)
 deriving Inhabited
structure S where
 env : Nat → T
 H : List Ob
abbrev Fr := Nat → Nat → Option Value
def At (F : Fr) (b off : Nat) (vs : List Value) : Prop := ∀ j v, vs[j]? = some v → F b (off + j) = some v
mutual
inductive DR (F : Fr) : D → Value → Prop
 | bool (b : Bool) : DR F (.bool b) (.bool b)
 | int (k : IntKind) (n : Int) : DR F (.int k n) (.int k n)
 | str (s : List UInt8) : DR F (.str s) (.string ⟨s.toArray⟩)
 | nilp : DR F .nilp (.pointer none)
 | box {cs : List D} {vs : List Value} {b off : Nat} : DRs F cs vs → At F b off vs → DR F (.box cs) (.pointer (some ⟨b, off, none⟩))
 | nils : DR F (.sl true []) (.slice none 0 0)
 | sl {es : List D} {vs : List Value} {b off cap sz : Nat} : DRe F sz es vs → At F b off vs → es.length ≤ cap →
   DR F (.sl false es) (.slice (some ⟨b, off, none⟩) es.length cap)
 | void {a : Addr} {cap : Nat} : DR F (.sl false []) (.slice (some a) 0 cap)
 | iface {t : TypeId} {x : D} {v : Value} : DR F x v → DR F (.iface t x) (.iface t v)
 | nili : DR F .nili .nilIface
 | agg {cs : List D} {vs : List Value} : DRs F cs vs → DR F (.agg cs) (.agg vs.toArray)
 | fn {f : FuncId} {cs : List D} {vs : List Value} : DRs F cs vs → DR F (.fn f cs) (.func (.func f) #[] vs.toArray)
 | nilf : DR F .nilf .nilFunc
inductive DRs (F : Fr) : List D → List Value → Prop
 | nil : DRs F [] []
 | cons {d : D} {v : Value} {ds : List D} {vs : List Value} : DR F d v → DRs F ds vs → DRs F (d :: ds) (v :: vs)
inductive DRe (F : Fr) : Nat → List D → List Value → Prop
 | nil {sz : Nat} : DRe F sz [] []
 | cons {sz : Nat} {e : D} {vs : List Value} {es : List D} {ws : List Value} : DRs F e.cells vs → vs.length = sz → DRe F sz es ws → DRe F sz (e :: es) (vs ++ ws)
end
def Sub (F F' : Fr) : Prop := ∀ b off v, F b off = some v → F' b off = some v
theorem Sub.refl (F : Fr) : Sub F F := fun _ _ _ h => h
theorem Sub.trans {F G K : Fr} (h : Sub F G) (k : Sub G K) : Sub F K := fun b o v e => k b o v (h b o v e)
theorem At.mono {F F' : Fr} (hs : Sub F F') {b off : Nat} {vs : List Value} (h : At F b off vs) : At F' b off vs := fun j v e => hs _ _ _ (h j v e)
mutual
theorem DR.mono {F F' : Fr} (hs : Sub F F') : ∀ {x : D} {v : Value}, DR F x v → DR F' x v
 | _, _, .bool b => .bool b
 | _, _, .int k n => .int k n
 | _, _, .str s => .str s
 | _, _, .nilp => .nilp
 | _, _, .box h a => .box (DRs.mono hs h) (a.mono hs)
 | _, _, .nils => .nils
 | _, _, .sl h a l => .sl (DRe.mono hs h) (a.mono hs) l
 | _, _, .void => .void
 | _, _, .iface h => .iface (DR.mono hs h)
 | _, _, .nili => .nili
 | _, _, .agg h => .agg (DRs.mono hs h)
 | _, _, .fn h => .fn (DRs.mono hs h)
 | _, _, .nilf => .nilf
theorem DRs.mono {F F' : Fr} (hs : Sub F F') : ∀ {x : List D} {v : List Value}, DRs F x v → DRs F' x v
 | _, _, .nil => .nil
 | _, _, .cons h t => .cons (DR.mono hs h) (DRs.mono hs t)
theorem DRe.mono {F F' : Fr} (hs : Sub F F') : ∀ {n : Nat} {x : List D} {v : List Value}, DRe F n x v → DRe F' n x v
 | _, _, _, .nil => .nil
 | _, _, _, .cons h e t => .cons (DRs.mono hs h) e (DRe.mono hs t)
end
theorem DRs.length {F : Fr} : ∀ {x : List D} {v : List Value}, DRs F x v → x.length = v.length
 | _, _, .nil => rfl
 | _, _, .cons _ t => by simp [t.length]
theorem DRs.get {F : Fr} : ∀ {x : List D} {v : List Value}, DRs F x v → ∀ {i : Nat} {d : D}, x[i]? = some d → ∃ u, v[i]? = some u ∧ DR F d u
 | _, _, .nil, i, d, h => by simp at h
 | _, _, .cons hd t, 0, d, h => by simp at h; subst h; exact ⟨_, rfl, hd⟩
 | _, _, .cons hd t, i + 1, d, h => by simp at h ⊢; exact t.get h
theorem DRs.append {F : Fr} : ∀ {x : List D} {v : List Value} {y : List D} {u : List Value}, DRs F x v → DRs F y u → DRs F (x ++ y) (v ++ u)
 | _, _, _, _, .nil, k => k
 | _, _, _, _, .cons h t, k => .cons h (t.append k)
theorem DRs.take {F : Fr} : ∀ (n : Nat) {x : List D} {v : List Value}, DRs F x v → DRs F (x.take n) (v.take n)
 | 0, _, _, _ => by simpa using DRs.nil
 | n + 1, _, _, .nil => .nil
 | n + 1, _, _, .cons h t => .cons h (DRs.take n t)
theorem DRs.drop {F : Fr} : ∀ (n : Nat) {x : List D} {v : List Value}, DRs F x v → DRs F (x.drop n) (v.drop n)
 | 0, _, _, h => by simpa using h
 | n + 1, _, _, .nil => by simpa using DRs.nil
 | n + 1, _, _, .cons h t => by simpa using DRs.drop n t
theorem DRs.of_get {F : Fr} : ∀ (x : List D) (v : List Value), x.length = v.length → (∀ (i : Nat) (d : D) (u : Value), x[i]? = some d → v[i]? = some u → DR F d u) → DRs F x v
 | [], [], _, _ => .nil
 | [], _ :: _, h, _ => by simp at h
 | _ :: _, [], h, _ => by simp at h
 | d :: x, u :: v, h, k => .cons (k 0 d u rfl rfl) (DRs.of_get x v (by simpa using h) fun i d u a b => k (i + 1) d u (by simpa using a) (by simpa using b))
theorem DR.cells {F : Fr} {x : D} {v : Value} (h : DR F x v) : DRs F x.cells v.cells.toList := by
 cases h <;> first
  | exact .cons (by constructor <;> assumption) .nil
  | (simpa [D.cells, Value.cells] using ‹DRs F _ _›)
  | skip
inductive Lc where
 | tmp (t : Nat) | cell (i off : Nat)
 deriving DecidableEq
inductive Role where
 | free | obj (i : Nat) | own (l : Lc)
 deriving DecidableEq
def Spare (F : Fr) (w : World) (b lo hi : Nat) : Prop :=
 ∀ off, lo ≤ off → off < hi → F b off = none ∧ w.frozen? ⟨b, off, none⟩ = false ∧ ∃ v, w.cell? ⟨b, off, none⟩ = some v
mutual
inductive TR (F : Fr) (ρ : Nat → Role) (w : World) : Lc → T → Value → Prop
 | d {l : Lc} {x : D} {v : Value} : DR F x v → TR F ρ w l (.d x) v
 | ptr {l : Lc} {i off b : Nat} : ρ b = .obj i → TR F ρ w l (.ptr i off) (.pointer (some ⟨b, off, none⟩))
 | nilo {l : Lc} : TR F ρ w l (.own true []) (.slice none 0 0)
 | own {l : Lc} {es : List D} {vs : List Value} {b cap sz : Nat} : ρ b = .own l → es ≠ [] → DRe F sz es vs → At F b 0 vs → es.length ≤ cap →
   Spare F w b (es.length * sz) (cap * sz) → TR F ρ w l (.own false es) (.slice (some ⟨b, 0, none⟩) es.length cap)
 | tup {l : Lc} {ts : List T} {vs : List Value} : TRs F ρ w l ts vs → TR F ρ w l (.tup ts) (.tuple vs.toArray)
 | undef {l : Lc} {v : Value} : TR F ρ w l .undef v
 | skip {l : Lc} : TR F ρ w l .skip Go.undef
 | me {i off b : Nat} : ρ b = .obj i → TR F ρ w (.cell i off) .me (.pointer (some ⟨b, 0, none⟩))
 | nw {i off b n : Nat} {t : TypeId} : ρ b = .obj i → w.shape? b = some (t, n) → TR F ρ w (.cell i off) (.nw t n) (.pointer none)
 | slo {l : Lc} {i n cap b : Nat} : ρ b = .obj i → n ≤ cap → TR F ρ w l (.slo i n) (.slice (some ⟨b, 0, none⟩) n cap)
 | buf {l : Lc} {t : TypeId} {s : List UInt8} {v : Value} : TR F ρ w l (.own false (s.map k'27)) v → (∃ b off n c k, v = .slice (some ⟨b, off, none⟩) n c ∧ w.shape? b = some (t, k)) → TR F ρ w l (.buf t s) v
inductive TRs (F : Fr) (ρ : Nat → Role) (w : World) : Lc → List T → List Value → Prop
 | nil {l : Lc} : TRs F ρ w l [] []
 | cons {l : Lc} {t : T} {v : Value} {ts : List T} {vs : List Value} : TR F ρ w l t v → TRs F ρ w l ts vs → TRs F ρ w l (t :: ts) (v :: vs)
end
structure Keeps (F : Fr) (ρ : Nat → Role) (w : World) (F' : Fr) (ρ' : Nat → Role) (w' : World) (l : Lc) : Prop where
 sub : Sub F F'
 obj : ∀ b i, ρ b = .obj i → ρ' b = .obj i
 own : ∀ b, ρ b = .own l → ρ' b = .own l ∧ ∀ off, (F b off = none → w.frozen? ⟨b, off, none⟩ = false → (∃ v, w.cell? ⟨b, off, none⟩ = some v) →
  F' b off = none ∧ w'.frozen? ⟨b, off, none⟩ = false ∧ ∃ v, w'.cell? ⟨b, off, none⟩ = some v)
 shp : ∀ b x, w.shape? b = some x → w'.shape? b = some x
mutual
theorem TR.keep {F : Fr} {ρ : Nat → Role} {w : World} {F' : Fr} {ρ' : Nat → Role} {w' : World} {l : Lc} (k : Keeps F ρ w F' ρ' w' l) :
  ∀ {t : T} {v : Value}, TR F ρ w l t v → TR F' ρ' w' l t v
 | _, _, .d h => .d (h.mono k.sub)
 | _, _, .ptr h => .ptr (k.obj _ _ h)
 | _, _, .nilo => .nilo
 | _, _, .own hr hn he ha hc hs => .own (k.own _ hr).1 hn (he.mono k.sub) (ha.mono k.sub) hc
   (fun off lo hi => let ⟨a, b, c⟩ := hs off lo hi; (k.own _ hr).2 off a b c)
 | _, _, .tup h => .tup (TRs.keep k h)
 | _, _, .undef => .undef
 | _, _, .skip => .skip
 | _, _, .me h => .me (k.obj _ _ h)
 | _, _, .slo h e => .slo (k.obj _ _ h) e
 | _, _, .nw h e => .nw (k.obj _ _ h) (k.shp _ _ e)
 | _, _, .buf h e => .buf (TR.keep k h) (let ⟨b, off, n, c, m, e1, e2⟩ := e; ⟨b, off, n, c, m, e1, k.shp _ _ e2⟩)
theorem TRs.keep {F : Fr} {ρ : Nat → Role} {w : World} {F' : Fr} {ρ' : Nat → Role} {w' : World} {l : Lc} (k : Keeps F ρ w F' ρ' w' l) :
  ∀ {t : List T} {v : List Value}, TRs F ρ w l t v → TRs F' ρ' w' l t v
 | _, _, .nil => .nil
 | _, _, .cons h t => .cons (TR.keep k h) (TRs.keep k t)
end
def T.still : T → Bool
 | .own .. => false
 | .me | .nw .. | .buf .. => false
 | .tup ts => ts.all fun t => match t with | .own .. => false | .tup _ => false | .me => false | .nw .. => false | .buf .. => false | _ => true
 | _ => true
theorem TRs.still {F : Fr} {ρ : Nat → Role} {w : World} {l l' : Lc} : ∀ {ts : List T} {vs : List Value}, TRs F ρ w l ts vs → (ts.all fun t => match t with | .own .. => false | .tup _ => false | .me => false | .nw .. => false | .buf .. => false | _ => true) = true → TRs F ρ w l' ts vs
 | _, _, .nil, _ => .nil
 | _, _, .cons h t, e => by
  simp only [List.all_cons, Bool.and_eq_true] at e
  refine .cons ?_ (t.still e.2)
  cases h <;> first | exact .d ‹_› | exact .ptr ‹_› | exact .undef | exact .skip | exact .slo ‹_› ‹_› | simp at e
theorem TR.still {F : Fr} {ρ : Nat → Role} {w : World} {l l' : Lc} {t : T} {v : Value} (h : TR F ρ w l t v) (e : t.still = true) : TR F ρ w l' t v := by
 cases h with
 | d h => exact .d h
 | ptr h => exact .ptr h
 | slo h e' => exact .slo h e'
 | tup h => exact .tup (h.still e)
 | undef => exact .undef
 | skip => exact .skip
 | nilo => simp [T.still] at e
 | own => simp [T.still] at e
 | me => simp [T.still] at e
 | nw => simp [T.still] at e
 | buf => simp [T.still] at e
def T.gv : T → Option (Option Bool)
 | .d (.bool b) => some (some b)
 | .skip => some none
 | _ => none
def ObR (F : Fr) (ρ : Nat → Role) (w : World) (i b : Nat) : Ob → Prop
 | .mu cs => ∀ off t, cs[off]? = some t → F b off = none ∧ w.frozen? ⟨b, off, none⟩ = false ∧ ∃ v, w.cell? ⟨b, off, none⟩ = some v ∧ TR F ρ w (.cell i off) t v
 | .fro cs => ∃ vs, DRs F cs vs ∧ At F b 0 vs
structure WR (F : Fr) (ρ : Nat → Role) (w : World) (H : List Ob) : Prop where
 fix : ∀ b off v, F b off = some v → w.cell? ⟨b, off, none⟩ = some v
 lt : ∀ b, ρ b ≠ .free → b < w.heap.size
 obj : ∀ b i, ρ b = .obj i → ∃ o, H[i]? = some o ∧ ObR F ρ w i b o
 uniq : ∀ b c i, ρ b = .obj i → ρ c = .obj i → b = c
structure Ext (F : Fr) (ρ : Nat → Role) (w : World) (F' : Fr) (ρ' : Nat → Role) (w' : World) : Prop where
 sub : Sub F F'
 size : w.heap.size ≤ w'.heap.size
 os : w'.os = w.os
 tape : w'.tape = w.tape
 output : w'.output = w.output
 free : ∀ b, b < w.heap.size → ρ b = .free → ρ' b = .free ∧ w'.heap[b]? = w.heap[b]? ∧ ∀ off, F' b off = F b off
 obj : ∀ b i, ρ b = .obj i → ρ' b = .obj i
 shp : ∀ b x, w.shape? b = some x → w'.shape? b = some x
theorem Ext.refl (F : Fr) (ρ : Nat → Role) (w : World) : Ext F ρ w F ρ w :=
 ⟨Sub.refl F, Nat.le_refl _, rfl, rfl, rfl, fun _ _ h => ⟨h, rfl, fun _ => rfl⟩, fun _ _ h => h, fun _ _ h => h⟩
theorem Ext.trans {F F' F'' : Fr} {ρ ρ' ρ'' : Nat → Role} {w w' w'' : World} (h : Ext F ρ w F' ρ' w') (k : Ext F' ρ' w' F'' ρ'' w'') : Ext F ρ w F'' ρ'' w'' :=
  ⟨h.sub.trans k.sub, Nat.le_trans h.size k.size, k.os.trans h.os, k.tape.trans h.tape, k.output.trans h.output,
   fun b hb hf => let ⟨a, c, d⟩ := h.free b hb hf; let ⟨a', c', d'⟩ := k.free b (Nat.lt_of_lt_of_le hb h.size) a; ⟨a', c'.trans c, fun off => (d' off).trans (d off)⟩,
   fun b i e => k.obj b i (h.obj b i e), fun b x e => k.shp b x (h.shp b x e)⟩
structure SR (N : Nat) (F : Fr) (ρ : Nat → Role) (s : S) (a : Act) (w : World) : Prop where
 wr : WR F ρ w s.H
 size : a.tmps.size = N
 defers : a.defers = []
 tmp : ∀ t, TR F ρ w (.tmp t) (s.env t) (a.tmps.getD t undef)
def S.put (s : S) (dst : Option Tmp) (v : T) : S :=
 match dst with
 | some d => { s with env := fun t => bif Nat.beq t d then v else s.env t }
 | none => s
theorem tmps_put (a : Act) (dst : Option Tmp) (v : Value) (t : Nat) (N : Nat) (hN : a.tmps.size = N) (hd : ∀ d, dst = some d → d < N) :
  (a.put dst v).tmps.getD t undef = if dst = some t then v else a.tmps.getD t undef := by
 cases dst with
 | none => simp [Act.put]
 | some d =>
  have := hd d rfl
  by_cases e : d = t
  ·subst e
   simp [Act.put, Array.getD, hN, this]
  ·have e2 : ¬ (some d = some t) := fun h => e (Option.some.inj h)
   rw [if_neg e2]
   simp only [Act.put, Array.getD_eq_getD_getElem?, Array.getElem?_setIfInBounds_ne e]
theorem SR.put {N : Nat} {F : Fr} {ρ : Nat → Role} {s : S} {a : Act} {w : World} (h : SR N F ρ s a w) {dst : Option Tmp} {x : T} {v : Value} (hd : ∀ d, dst = some d → d < N)
  (hx : ∀ d, dst = some d → TR F ρ w (.tmp d) x v) : SR N F ρ (s.put dst x) (a.put dst v) w := by
 refine ⟨?_, ?_, ?_, ?_⟩
 ·cases dst <;> exact h.wr
 ·cases dst <;> simp [Act.put, h.size]
 ·cases dst <;> exact h.defers
 ·intro t
  rw [tmps_put a dst v t N h.size hd]
  cases dst with
  | none => simpa [S.put] using h.tmp t
  | some d =>
   by_cases e : t = d
   ·subst e; simpa [S.put] using hx t rfl
   ·have e1 : Nat.beq t d = false := by cases hb : Nat.beq t d with | false => rfl | true => exact absurd (Nat.eq_of_beq_eq_true hb) e
    have e2 : ¬ (some d = some t) := fun h => e (Option.some.inj h).symm
    simp only [S.put, e1, if_neg e2, cond_false]; exact h.tmp t
open Go
inductive Ty where
 | bool | int (k : IntKind) | str | ptr | sl (e : TypeId) | struct (fs : List (Nat × TypeId)) | iface | func
 deriving Inhabited
structure Ti where
 ty : Ty
 size : Nat
 bytes : Nat
 zero : D
 deriving Inhabited
def Ty.fits : Ty → TypeDesc → Bool
 | .bool, .bool => true
 | .int k, .int j => k == j
 | .str, .string => true
 | .ptr, .pointer _ => true
 | .sl e, .slice f => e == f
 | .struct fs, .struct gs => gs.toList.map (fun f => (f.offset, f.type)) == fs
 | .iface, .interface _ => true
 | .func, .func .. => true
 | _, _ => false
def Ty.isAgg : Ty → Bool
 | .struct _ => true
 | _ => false
def zc : D → Value
 | .bool b => .bool b
 | .int k n => .int k n
 | .str s => .string ⟨s.toArray⟩
 | .nilp => .pointer none
 | .sl _ _ => .slice none 0 0
 | .nili => .nilIface
 | .nilf => .nilFunc
 | _ => undef
def zv : D → Value
 | .agg cs => .agg (cs.map zc).toArray
 | d => zc d
def zcOk : D → Bool
 | .bool _ | .int _ _ | .str _ | .nilp | .nili | .nilf => true
 | .sl true [] => true
 | _ => false
def zvOk (i : Ti) : Bool :=
 match i.zero with
 | .agg cs => i.ty.isAgg && cs.all zcOk && cs.length == i.size
 | d => !i.ty.isAgg && zcOk d && i.size == 1
def RowOk (P : Program) (t : TypeId) (i : Ti) : Prop :=
 (P.info? t).map (fun j => (j.size, j.bytes, j.zero)) = some (i.size, i.bytes, some (zv i.zero)) ∧ (P.underlying t).map i.ty.fits = some true ∧ zvOk i = true ∧
  (match i.ty with | .struct fs => fs.all fun p => (P.info? p.2).isSome | _ => true) = true
structure Ctx where
 P : Program
 tab : TypeId → Option Ti
 base : Fr
 ok : ∀ t i, tab t = some i → RowOk P t i
 mixed : P.follows .mixedOrders = true
def T.ofD : D → T
 | .sl true [] => .own true []
 | x => .d x
def T.share : T → Option D
 | .d x => some x
 | .nw _ _ => some .nilp
 | .buf _ s => some (.sl false (s.map k'27))
 | .own z es => some (.sl z es)
 | _ => none
def shares : List T → Option (List D)
 | [] => some []
 | t :: ts => match t.share, shares ts with
  | some x, some xs => some (x :: xs)
  | _, _ => none
def constT : Value → T
 | .bool b => .d (.bool b)
 | .int k n => .d (.int k n)
 | .string s => .d (.str s.data.toList)
 | .pointer none => .d .nilp
 | .slice none 0 0 => .own true []
 | .nilIface => .d .nili
 | .nilFunc => .d .nilf
 | _ => .undef
def S.val (s : S) : Operand → T
 | .tmp t => s.env t
 | .const v => constT v
 | .global _ => .undef
 | .func f => .d (.fn f [])
def isC : Operand → Bool
 | .const _ => true
 | _ => false
def intV (op : BinOp) (k : IntKind) (x y : Int) : Option D :=
 match op with
 | .add => some (.int k (k.wrap (x + y)))
 | .sub => some (.int k (k.wrap (x - y)))
 | .mul => some (.int k (k.wrap (x * y)))
 | .and => some (.int k (k.wrap (BitVec.ofInt k.bits x &&& BitVec.ofInt k.bits y).toNat))
 | .or => some (.int k (k.wrap (BitVec.ofInt k.bits x ||| BitVec.ofInt k.bits y).toNat))
 | .xor => some (.int k (k.wrap (BitVec.ofInt k.bits x ^^^ BitVec.ofInt k.bits y).toNat))
 | .andNot => some (.int k (k.wrap (BitVec.ofInt k.bits x &&& ~~~BitVec.ofInt k.bits y).toNat))
 | .eql => some (.bool (x == y))
 | .neq => some (.bool (x != y))
 | .lss => some (.bool (decide (x < y)))
 | .leq => some (.bool (decide (x ≤ y)))
 | .gtr => some (.bool (decide (x > y)))
 | .geq => some (.bool (decide (x ≥ y)))
 | _ => none
def strV (op : BinOp) (x y : List UInt8) : Option D :=
 match op with
 | .eql => some (.bool (x == y))
 | .neq => some (.bool (!(x == y)))
 | _ => none
def boolV (op : BinOp) (b : Bool) : Option D :=
 match op with
 | .eql => some (.bool b)
 | .neq => some (.bool (!b))
 | _ => none
def eqV (ty : Ty) (cx : Bool) (x y : T) : Option Bool :=
 match ty, x, y with
 | .bool, .d (.bool a), .d (.bool b) => some (a == b)
 | .iface, .d .nili, .d .nili => if cx then some true else none
 | .iface, .d (.iface _ _), .d .nili => some false
 | .iface, .d .nili, .d (.iface _ _) => some false
 | .ptr, .d .nilp, .d .nilp => some true
 | .ptr, .d (.box _), .d .nilp => some false
 | .ptr, .ptr _ _, .d .nilp => some false
 | _, _, _ => none
def binV (tab : TypeId → Option Ti) (op : BinOp) (t : TypeId) (cx : Bool) (x y : T) : Option D :=
 match x, y with
 | .d (.int k a), .d (.int j b) => if k = j then intV op k a b else none
 | .d (.str a), .d (.str b) => strV op a b
 | x, y => match tab t with
  | some i => match eqV i.ty cx x y with
   | some b => boolV op b
   | none => none
  | none => none
def lenV (tab : TypeId → Option Ti) (t : TypeId) (x : T) : Option D :=
 match tab t with
 | some i => match i.ty, x with
  | .str, .d (.str s) => some (.int .i64 s.length)
  | .sl _, .d (.sl _ es) => some (.int .i64 es.length)
  | .sl _, .own _ es => some (.int .i64 es.length)
  | _, _ => none
 | none => none
def fieldV (tab : TypeId → Option Ti) (s : TypeId) (f : Nat) : Option (Nat × Ti) :=
 match tab s with
 | some i => match i.ty with
  | .struct fs => match fs[f]? with
   | some (off, t) => match tab t with
    | some j => if j.size = 0 then none else some (off, j)
    | none => none
   | none => none
  | _ => none
 | none => none
def partV (i : Ti) (cs : List D) (off : Nat) : Option D :=
 if i.ty.isAgg then (if off + i.size ≤ cs.length then some (.agg ((cs.drop off).take i.size)) else none) else cs[off]?
def lay {α : Type} (cs : List α) (off : Nat) (xs : List α) : List α := cs.take off ++ (xs ++ cs.drop (off + xs.length))
def forceL {α β : Type} : List β → (List β → α) → α
 | [], k => k []
 | x :: r, k => forceL r fun r => k (x :: r)
theorem forceL_eq {α β : Type} : ∀ (l : List β) (k : List β → α), forceL l k = k l
 | [], _ => rfl
 | x :: r, k => by unfold forceL; rw [forceL_eq r]
def fillV (tab : TypeId → Option Ti) (s : TypeId) (v : Operand → T) : List (Nat × Operand) → List D → Option (List D)
 | [], cs => some cs
 | (f, x) :: r, cs => match fieldV tab s f, (v x).share with
  | some (off, j), some y => if y.cells.length = j.size then (if off + j.size ≤ cs.length then forceL (lay cs off y.cells) (fun cs => fillV tab s v r cs) else none) else none
  | _, _ => none
def callV (tab : TypeId → Option Ti) (c : Call) (v : Operand → T) : Option T :=
 match c with
 | ⟨.builtin .len, ⟨[x]⟩, ⟨[t]⟩⟩ => match lenV tab t (v x) with | some y => some (.d y) | none => none
 | ⟨.builtin .min, ⟨[x, y]⟩, _⟩ => match v x, v y with | .d (.int k a), .d (.int _ b) => some (.d (.int k (if b < a then b else a))) | _, _ => none
 | ⟨.builtin .max, ⟨[x, y]⟩, _⟩ => match v x, v y with | .d (.int k a), .d (.int _ b) => some (.d (.int k (if b > a then b else a))) | _, _ => none
 | _ => none
def pureV (tab : TypeId → Option Ti) (op : Op) (v : Operand → T) : Option T :=
 match op with
 | .move x | .assign x => match v x with
  | .own true [] => some (.own true [])
  | .own _ _ => none
  | .tup ts => if (T.tup ts).still then some (.tup ts) else none
  | .me => none
  | .nw _ _ => none
  | .buf _ _ => none
  | .slo _ _ => none
  | t => some t
 | .pick c a b => match v c with
  | .d (.bool true) => match v a with | .d x => some (.d x) | _ => none
  | .d (.bool false) => match v b with | .d x => some (.d x) | _ => none
  | _ => none
 | .nilCheck x => match v x with
  | .ptr i o => some (.ptr i o)
  | .d (.box cs) => some (.d (.box cs))
  | .d (.fn f cs) => some (.d (.fn f cs))
  | .d (.iface t x) => some (.d (.iface t x))
  | _ => none
 | .binOp op t x y _ => match binV tab op t (isC x || isC y) (v x) (v y) with
  | some r => some (.d r)
  | none => none
 | .unOp .not _ x => match v x with | .d (.bool b) => some (.d (.bool (!b))) | _ => none
 | .unOp .neg _ x => match v x with | .d (.int k n) => some (.d (.int k (k.wrap (0 - n)))) | _ => none
 | .convert src dst x => match tab src, tab dst, v x with
  | some _, some i, .d (.int _ n) => match i.ty with | .int k => some (.d (.int k (k.wrap n))) | _ => none
  | some _, some i, .d (.str s) => match i.ty with | .str => some (.d (.str s)) | _ => none
  | _, _, _ => none
 | .makeInterface t x => match tab t, (v x).share with
  | some i, some y => match i.ty with | .iface => none | _ => some (.d (.iface t y))
  | _, _ => none
 | .fieldAddr s x f => match fieldV tab s f, v x with
  | some (off, _), .ptr i o => some (.ptr i (o + off))
  | some (off, _), .d (.box cs) => some (.d (.box (cs.drop off)))
  | _, _ => none
 | .field s x f => match fieldV tab s f, v x with
  | some (off, j), .d (.agg cs) => match partV j cs off with | some y => some (.d y) | none => none
  | _, _ => none
 | .extract x i => match v x with
  | .tup ts => match ts[i]? with | some (.d y) => some (.d y) | some (.ptr j o) => some (.ptr j o) | _ => none
  | _ => none
 | .build t parts => match tab t with
  | some i => match i.ty, i.zero with
   | .struct _, .agg z => match fillV tab t v parts.toList z with | some cs => some (.d (.agg cs)) | none => none
   | _, _ => none
  | none => none
 | .call c => callV tab c v
 | _ => none
def loadV (i : Ti) (H : List Ob) : T → Option D
 | .ptr j off => match H[j]? with
  | some (.mu cs) => if i.ty.isAgg then (match shares ((cs.drop off).take i.size) with | some ds => if ds.length = i.size then some (.agg ds) else none | none => none)
    else (match cs[off]? with | some t => t.share | none => none)
  | some (.fro cs) => partV i cs off
  | none => none
 | .d (.box cs) => partV i cs 0
 | _ => none
def T.elems : T → Option (List D)
 | .d (.sl _ es) => some es
 | .own _ es => some es
 | .d (.str s) => some (s.map fun c => .int .u8 c.toNat)
 | _ => none
def T.grows : T → Option (Bool × List D)
 | .own z es => some (z, es)
 | .d (.sl true []) => some (true, [])
 | _ => none
def D.flat : D → Bool
 | .agg _ => false
 | _ => true
def D.fits (n : Nat) (a : D) : Bool := a.cells.length == n && a.cells.all D.flat
def most : Nat := 68719476736
def idx : List Nat → Nat → Option Nat
 | [], _ => none
 | j :: r, i => bif Nat.beq j i then some 0 else match idx r i with | some k => some (k + 1) | none => none
def T.ren (sel : List Nat) : T → Option T
 | .d x => some (.d x)
 | .own z es => some (.d (.sl z es))
 | .ptr i off => match idx sel i with | some k => some (.ptr k off) | none => none
 | _ => none
def rens (sel : List Nat) : List T → Option (List T)
 | [] => some []
 | t :: ts => match t.ren sel, rens sel ts with
  | some x, some xs => some (x :: xs)
  | _, _ => none
def gets (H : List Ob) : List Nat → Option (List Ob)
 | [] => some []
 | i :: r => match H[i]?, gets H r with
  | some o, some os => some (o :: os)
  | _, _ => none
def sets (H : List Ob) : List Nat → List Ob → List Ob
 | [], news => H ++ news
 | _ :: _, [] => H
 | i :: r, o :: os => sets (H.set i o) r os
def T.back (sel : List Nat) (n : Nat) : T → Option T
 | .d x => some (.d x)
 | .ptr k off => match sel[k]? with | some i => some (.ptr i off) | none => some (.ptr (n + (k - sel.length)) off)
 | _ => none
def backs (sel : List Nat) (n : Nat) : List T → Option (List T)
 | [] => some []
 | t :: ts => match t.back sel n, backs sel n ts with
  | some x, some xs => some (x :: xs)
  | _, _ => none
def T.backT (sel : List Nat) (n : Nat) : T → Option T
 | .tup ts => (backs sel n ts).map .tup
 | t => t.back sel n
def T.plain : T → Bool
 | .ptr .. | .tup _ | .slo .. => false
 | _ => true
def Ob.plain : Ob → Bool
 | .mu cs => cs.all T.plain
 | .fro _ => true
def Post (F : Fr) (ρ : Nat → Role) (w : World) (r : T) (H' : List Ob) (e : Ending) (w' : World) : Prop :=
 ∃ v F' ρ', e = .returned v ∧ WR F' ρ' w' H' ∧ TR F' ρ' w' (.tmp 0) r v ∧ Ext F ρ w F' ρ' w' ∧ ∀ b t, ρ' b ≠ .own (.tmp t)
def k'0 (X : Ctx) (f : FuncId) (args : List T) (H : List Ob) (r : T) (H' : List Ob) : Prop :=
 (∃ fn, X.P.funcs[f]? = some fn ∧ fn.body.isSome = true ∧ (fn.name == "runtime.NumGoroutine") = false) ∧
 ∀ F ρ w vs, WR F ρ w H → TRs F ρ w (.tmp 0) args vs → (∀ b t, ρ b ≠ .own (.tmp t)) → Sub X.base F → Calls X.P f vs.toArray w (Post F ρ w r H')
def Bnd (v : Operand → T) (dflt l : Nat) : Option Operand → Prop
 | none => l = dflt
 | some y => ∃ k, v y = .d (.int k l)
def k'3l : Op → Bool
 | .move _ | .assign _ | .pick .. | .nilCheck _ | .binOp .. | .unOp .. | .convert .. | .makeInterface .. | .fieldAddr .. | .field .. | .extract .. | .build .. | .index .. | .indexAddr .. | .slice .. | .buildSlice .. => true
 | .call c => match c.callee with | .builtin .len => true | .builtin .min => true | .builtin .max => true | _ => false
 | _ => false
def isCall (o : Oper) : Prop := ∃ c g, o.op = .call c ∧ c.callee = .value g
structure Eff where
 res : T
 pz : Option Tmp
 H : List Ob
def S.app (s : S) (dst : Option Tmp) (e : Eff) : S := S.put { (s.put e.pz .undef) with H := e.H } dst e.res
def Then (X : Ctx) (N : Nat) (F : Fr) (ρ : Nat → Role) (w : World) (a : Act) (dst : Option Tmp) (s' : S) (next : Act → World → Prop) : Prop :=
 ∀ F' ρ' v w', SR N F' ρ' s' (a.put dst v) w' → Ext F ρ w F' ρ' w' → next (a.put dst v) w'
def Sound (X : Ctx) (o : Oper) (s : S) (e : Eff) : Prop := ∀ N F ρ a w (next : Act → World → Prop) (Q : Exit → Act → World → Prop), (∀ d, o.dst = some d → d < N) → SR N F ρ s a w → Then X N F ρ w a o.dst (s.app o.dst e) next → o.wp X.P a w next Q
inductive k'g (X : Ctx) (o : Oper) (v : Operand → T) (H : List Ob) : Eff → Prop
 | psem {t : T} : ¬ isCall o → (∀ s : S, (∀ x ∈ o.op.operands, s.val x = v x) → Sound X o s ⟨t, none, s.H⟩) → k'g X o v H ⟨t, none, H⟩
 | hsem {e : Eff} : ¬ isCall o → k'3l o.op = false → (∀ s : S, (∀ x ∈ o.op.operands, s.val x = v x) → s.H = H → Sound X o s e) → k'g X o v H e
 | gsem {e : Eff} : ¬ isCall o → e.H ≠ H → (∀ s : S, (∀ x ∈ o.op.operands, s.val x = v x) → s.H = H → Sound X o s e) → k'g X o v H e
 | pure {t : T} : pureV X.tab o.op v = some t → k'g X o v H ⟨t, none, H⟩
 | assignOwn {x : Tmp} {z : Bool} {es : List D} : (o.op = .assign (.tmp x) ∨ o.op = .move (.tmp x)) → v (.tmp x) = .own z es → k'g X o v H ⟨.own z es, some x, H⟩
 | moveShare {x : Operand} {z : Bool} {es : List D} : o.op = .move x → v x = .own z es → k'g X o v H ⟨.d (.sl z es), none, H⟩
 | alloc {t : TypeId} {i : Ti} : o.op = .alloc t → X.tab t = some i → k'g X o v H ⟨.ptr H.length 0, none, H ++ [.mu (i.zero.cells.map T.ofD)]⟩
 | box {t : TypeId} {x : Operand} {y : D} : o.op = .box t x → (v x).share = some y → k'g X o v H ⟨.ptr H.length 0, none, H ++ [.mu (y.cells.map T.ofD)]⟩
 | load {t : TypeId} {i : Ti} {x : Operand} {y : D} : o.op = .load t x → X.tab t = some i → loadV i H (v x) = some y → k'g X o v H ⟨.d y, none, H⟩
 | loadOwn {t : TypeId} {i : Ti} {x : Operand} {j off : Nat} {cs : List T} {z : Bool} {es : List D} : o.op = .load t x → X.tab t = some i → i.ty.isAgg = false → v x = .ptr j off → H[j]? = some (.mu cs) → cs[off]? = some (.own z es) →
   k'g X o v H ⟨.own z es, none, H.set j (.mu (cs.set off .undef))⟩
 | store {t : TypeId} {i : Ti} {x y : Operand} {j off : Nat} {cs : List T} {u : D} : o.op = .store t x y → X.tab t = some i → v x = .ptr j off → H[j]? = some (.mu cs) → (v y).share = some u →
   u.fits i.size = true → off + i.size ≤ cs.length → o.dst = none → k'g X o v H ⟨.undef, none, H.set j (.mu (lay cs off (u.cells.map T.ofD)))⟩
 | storeOwn {t : TypeId} {i : Ti} {x : Operand} {y : Tmp} {j off : Nat} {cs : List T} {z : Bool} {es : List D} : o.op = .store t x (.tmp y) → X.tab t = some i → v x = .ptr j off → H[j]? = some (.mu cs) → v (.tmp y) = .own z es →
   i.size = 1 → off < cs.length → o.dst = none → k'g X o v H ⟨.undef, some y, H.set j (.mu (cs.set off (.own z es)))⟩
 | freeze {t : TypeId} {i : Ti} {x : Operand} {j : Nat} {cs : List T} {ds : List D} : o.op = .makeInterface t x → X.tab t = some i → i.ty = .ptr → v x = .ptr j 0 → H[j]? = some (.mu cs) → shares cs = some ds →
   k'g X o v H ⟨.d (.iface t (.box ds)), none, H.set j (.fro ds)⟩
 | closure {f : FuncId} {x : Operand} {j : Nat} {cs : List T} {ds : List D} : o.op = .makeFunc (.func f) #[] #[x] → v x = .ptr j 0 → H[j]? = some (.mu cs) → shares cs = some ds →
   k'g X o v H ⟨.d (.fn f [.box ds]), none, H.set j (.fro ds)⟩
 | buildSlice {t e : TypeId} {i j : Ti} {n : Nat} {ps : Array (Nat × Operand)} {es : List D} : o.op = .buildSlice t n ps → X.tab t = some i → i.ty = .sl e → X.tab e = some j → ps.toList.map (·.1) = List.range n →
   ps.toList.map (fun p => (v p.2).share) = es.map some → (∀ x ∈ es, x.fits j.size = true) → es ≠ [] → j.size ≠ 0 → n * j.size ≤ 16777216 → k'g X o v H ⟨.own false es, none, H⟩
 | append {c : Call} {t e : TypeId} {i j : Ti} {x : Tmp} {y : Operand} {z : Bool} {es xs : List D} : o.op = .call c → c.callee = .builtin .append → c.args = #[.tmp x, y] → c.argTypes[0]? = some t → (∀ u k, c.argTypes[1]? = some u → X.tab u = some k → ∀ q, k.ty ≠ .int q) →
   (∃ u k, c.argTypes[1]? = some u ∧ X.tab u = some k) → X.tab t = some i → i.ty = .sl e → X.tab e = some j → (v (.tmp x)).grows = some (z, es) → (v y).elems = some xs → (∀ a ∈ es ++ xs, a.fits j.size = true) → j.size ≠ 0 → j.bytes ≤ 1024 →
   es.length + xs.length ≤ most → o.dst.isSome = true → k'g X o v H ⟨if (es ++ xs).isEmpty then .own true [] else .own false (es ++ xs), some x, H⟩
 | index {t : TypeId} {i : Ti} {x y : Operand} {s : List UInt8} {k : IntKind} {n : Int} {c : UInt8} : o.op = .index t x y → X.tab t = some i → i.ty = .str → v x = .d (.str s) → v y = .d (.int k n) → 0 ≤ n → s[n.toNat]? = some c → k'g X o v H ⟨.d (.int .u8 c.toNat), none, H⟩
 | indexAddr {t e : TypeId} {i j : Ti} {x y : Operand} {es : List D} {k : IntKind} {n : Int} {u : D} : o.op = .indexAddr t x y → X.tab t = some i → i.ty = .sl e → X.tab e = some j → ((∃ z, v x = .d (.sl z es)) ∨ ∃ z, v x = .own z es) → v y = .d (.int k n) → 0 ≤ n → es[n.toNat]? = some u →
   u.cells.length = j.size → j.size ≠ 0 → k'g X o v H ⟨.d (.box u.cells), none, H⟩
 | sliceStr {t : TypeId} {i : Ti} {x : Operand} {lo hi : Option Operand} {s : List UInt8} {l h : Nat} : o.op = .slice t x lo hi none → X.tab t = some i → i.ty = .str → v x = .d (.str s) →
   Bnd v 0 l lo → Bnd v s.length h hi → l ≤ h → h ≤ s.length → k'g X o v H ⟨.d (.str ((s.drop l).take (h - l))), none, H⟩
 | quo {t t' : TypeId} {x y : Operand} {k : IntKind} {a b : Int} : o.op = .binOp .quo t x y t' → v x = .d (.int k a) → v y = .d (.int k b) → b ≠ 0 → k'g X o v H ⟨.d (.int k (k.wrap (a.tdiv b))), none, H⟩
 | rem {t t' : TypeId} {x y : Operand} {k : IntKind} {a b : Int} : o.op = .binOp .rem t x y t' → v x = .d (.int k a) → v y = .d (.int k b) → b ≠ 0 → k'g X o v H ⟨.d (.int k (a.tmod b)), none, H⟩
 | shl {t t' : TypeId} {x y : Operand} {k j : IntKind} {a b : Int} : o.op = .binOp .shl t x y t' → v x = .d (.int k a) → v y = .d (.int j b) → 0 ≤ b → k'g X o v H ⟨.d (.int k (k.wrap (a * 2 ^ min b.toNat k.bits))), none, H⟩
 | shr {t t' : TypeId} {x y : Operand} {k j : IntKind} {a b : Int} : o.op = .binOp .shr t x y t' → v x = .d (.int k a) → v y = .d (.int j b) → 0 ≤ b → k'g X o v H ⟨.d (.int k (a.fdiv (2 ^ min b.toNat k.bits))), none, H⟩
 | addStr {t t' : TypeId} {x y : Operand} {a b : List UInt8} : o.op = .binOp .add t x y t' → v x = .d (.str a) → v y = .d (.str b) → a.length + b.length ≤ 9223372036854775807 → k'g X o v H ⟨.d (.str (a ++ b)), none, H⟩
 | toStr {s t e : TypeId} {i j k : Ti} {x : Operand} {l : List UInt8} : o.op = .convert s t x → X.tab s = some i → i.ty = .sl e → X.tab e = some k → k.ty = .int .u8 → X.tab t = some j → j.ty = .str → (v x).elems = some (l.map fun c => .int .u8 c.toNat) → (∀ s, v x ≠ .d (.str s)) → k'g X o v H ⟨.d (.str l), none, H⟩
 | call {c : Call} {f : FuncId} {cap : List D} {sel : List Nat} {args : List T} {r r' : T} {Hs Hs' : List Ob} : o.op = .call c →
   (∃ g, c.callee = .value g ∧ v g = .d (.fn f cap)) → sel.Nodup → rens sel (c.args.toList.map v) = some args → gets H sel = some Hs → Hs.all Ob.plain = true → Hs'.all Ob.plain = true → k'0 X f (args ++ cap.map .d) Hs r Hs' → sel.length ≤ Hs'.length → r.backT sel H.length = some r' →
   k'g X o v H ⟨r', none, sets H sel Hs'⟩
inductive Ex where
 | normal | exit (id : Nat) | ret
def Free (X : Ctx) (o : Oper) (s s' : S) : Prop := ∀ N F ρ a w (next : Act → World → Prop) (Q : Exit → Act → World → Prop), (∀ d, o.dst = some d → d < N) → SR N F ρ s a w → Sub X.base F → Then X N F ρ w a o.dst s' next → o.wp X.P a w next Q
def wpO (X : Ctx) (ops : Array Oper) : List Oper → S → (S → Prop) → Prop
 | [], s, K => K s
 | o :: r, s, K => match o.guard with
  | none => (∃ e, k'g X o s.val s.H e ∧ wpO X ops r (s.app o.dst e) K) ∨ ∃ s', Free X o s s' ∧ wpO X ops r s' K
  | some (g, want) => ∃ d b, (ops[g]?).bind (·.dst) = some d ∧ (s.env d).gv = some b ∧
    (b = some want → ∃ e, k'g X o s.val s.H e ∧ wpO X ops r (s.app o.dst e) K) ∧ (b ≠ some want → wpO X ops r (s.put o.dst .skip) K)
open Go
section tab
variable {X : Ctx} {t : TypeId} {i : Ti} (h : X.tab t = some i)
include h
theorem tab_info : ∃ j, X.P.info? t = some j ∧ j.size = i.size ∧ j.bytes = i.bytes ∧ j.zero = some (zv i.zero) := by
 have := (X.ok t i h).1
 cases hj : X.P.info? t with
 | none => simp [hj] at this
 | some j => simp [hj] at this; exact ⟨j, rfl, this.1, this.2.1, this.2.2⟩
theorem k'r : ∃ d, X.P.underlying t = some d ∧ i.ty.fits d = true := by
 have := (X.ok t i h).2.1
 cases hj : X.P.underlying t with
 | none => simp [hj] at this
 | some d => simp [hj] at this; exact ⟨d, rfl, this⟩
theorem tab_zok : zvOk i = true := (X.ok t i h).2.2.1
theorem tab_fields {fs : Array Field} (hs : X.P.underlying t = some (.struct fs)) : ∀ (f : Nat) (fd : Field), fs[f]? = some fd → ∃ j : TypeInfo, X.P.info? fd.type = some j := by
 intro f fd hf
 obtain ⟨d, hd, hfit⟩ := k'r h
 rw [hs] at hd; injection hd with hd; subst hd
 have h4 := (X.ok t i h).2.2.2
 cases hi : i.ty <;> rw [hi] at hfit <;> simp [Ty.fits] at hfit
 rw [hi] at h4
 simp only [List.all_eq_true] at h4
 have := h4 (fd.offset, fd.type) (by rw [← hfit]; exact List.mem_map.2 ⟨fd, by have := Array.mem_of_getElem? hf; simpa using this, rfl⟩)
 exact Option.isSome_iff_exists.1 this
theorem run_info (w : World) : ∃ j, (typeInfo t).run X.P w = .ok j w ∧ j.size = i.size ∧ j.bytes = i.bytes ∧ j.zero = some (zv i.zero) := by
 obtain ⟨j, hj, r⟩ := tab_info h
 exact ⟨j, by simp [typeInfo, hj], r⟩
theorem run_under (w : World) : ∃ d, (underlying t).run X.P w = .ok d w ∧ i.ty.fits d = true := by
 obtain ⟨d, hd, r⟩ := k'r h
 exact ⟨d, run_underlying hd w, r⟩
theorem k'30 (w : World) : (sizeOf t).run X.P w = .ok i.size w := by
 obtain ⟨j, hj, a, -, -⟩ := run_info h w
 simp [sizeOf, hj, a]
theorem k'4k (w : World) : (zeroValue t).run X.P w = .ok (zv i.zero) w := by
 obtain ⟨j, hj, -, -, a⟩ := run_info h w
 simp [zeroValue, hj, a]
theorem run_agg (w : World) : (isAgg t).run X.P w = .ok i.ty.isAgg w := by
 obtain ⟨d, hd, r⟩ := run_under h w
 simp only [isAgg, Sem.run_bind, hd, Result.andThen_ok]
 cases hi : i.ty <;> cases d <;> simp [hi, Ty.fits, Ty.isAgg] at r ⊢
end tab
section inv
variable {F : Fr} {ρ : Nat → Role} {w : World} {l : Lc} {v : Value}
theorem TR.inv_d {x : D} (h : TR F ρ w l (.d x) v) : DR F x v := by cases h; assumption
theorem DR.inv_int {k : IntKind} {n : Int} (h : DR F (.int k n) v) : v = .int k n := by cases h; rfl
theorem DR.inv_bool {b : Bool} (h : DR F (.bool b) v) : v = .bool b := by cases h; rfl
theorem DR.inv_str {s : List UInt8} (h : DR F (.str s) v) : v = .string ⟨s.toArray⟩ := by cases h; rfl
theorem DR.inv_nilp (h : DR F .nilp v) : v = .pointer none := by cases h; rfl
theorem DR.inv_nili (h : DR F .nili v) : v = .nilIface := by cases h; rfl
theorem DR.inv_iface {t : TypeId} {x : D} (h : DR F (.iface t x) v) : ∃ u, v = .iface t u ∧ DR F x u := by cases h; exact ⟨_, rfl, ‹_›⟩
theorem DR.inv_box {cs : List D} (h : DR F (.box cs) v) : ∃ b off vs, v = .pointer (some ⟨b, off, none⟩) ∧ DRs F cs vs ∧ At F b off vs := by cases h; exact ⟨_, _, _, rfl, ‹_›, ‹_›⟩
theorem DR.inv_agg {cs : List D} (h : DR F (.agg cs) v) : ∃ vs : List Value, v = .agg vs.toArray ∧ DRs F cs vs := by cases h; exact ⟨_, rfl, ‹_›⟩
theorem DR.inv_fn {f : FuncId} {cs : List D} (h : DR F (.fn f cs) v) : ∃ vs : List Value, v = .func (.func f) #[] vs.toArray ∧ DRs F cs vs := by cases h; exact ⟨_, rfl, ‹_›⟩
theorem DR.inv_sl {z : Bool} {es : List D} (h : DR F (.sl z es) v) : ∃ a cap, v = .slice a es.length cap := by cases h <;> exact ⟨_, _, rfl⟩
theorem TR.inv_int {k : IntKind} {n : Int} (h : TR F ρ w l (.d (.int k n)) v) : v = .int k n := h.inv_d.inv_int
theorem TR.inv_bool {b : Bool} (h : TR F ρ w l (.d (.bool b)) v) : v = .bool b := h.inv_d.inv_bool
theorem TR.inv_str {s : List UInt8} (h : TR F ρ w l (.d (.str s)) v) : v = .string ⟨s.toArray⟩ := h.inv_d.inv_str
theorem TR.inv_ptr {i off : Nat} (h : TR F ρ w l (.ptr i off) v) : ∃ b, ρ b = .obj i ∧ v = .pointer (some ⟨b, off, none⟩) := by cases h; exact ⟨_, ‹_›, rfl⟩
theorem TR.inv_own {z : Bool} {es : List D} (h : TR F ρ w l (.own z es) v) : ∃ a cap, v = .slice a es.length cap := by cases h <;> exact ⟨_, _, rfl⟩
theorem TR.share {t : T} {x : D} (h : TR F ρ w l t v) (e : t.share = some x) : DR F x v := by
 cases h <;> simp [T.share] at e
 ·subst e; assumption
 ·subst e; exact .nils
 ·subst e; exact .sl ‹_› ‹_› ‹_›
 ·subst e; exact .nilp
 ·subst e
  rename_i hh
  cases hh; exact .sl ‹_› ‹_› ‹_›
theorem TRs.get : ∀ {ts : List T} {vs : List Value}, TRs F ρ w l ts vs → ∀ {i : Nat} {t : T}, ts[i]? = some t → ∃ u, vs[i]? = some u ∧ TR F ρ w l t u
 | _, _, .nil, i, t, h => by simp at h
 | _, _, .cons hd tl, 0, t, h => by simp at h; subst h; exact ⟨_, rfl, hd⟩
 | _, _, .cons hd tl, i + 1, t, h => by simp at h ⊢; exact tl.get h
end inv
theorem constT_TR {F : Fr} {ρ : Nat → Role} {w : World} {l : Lc} (v : Value) : TR F ρ w l (constT v) v := by
 unfold constT
 split <;> first
  | exact .undef
  | exact .nilo
  | (refine .d ?_; constructor)
  | (rename_i s; refine .d ?_; have := DR.str (F := F) s.data.toList; simpa using this)
theorem SR.val {N : Nat} {F : Fr} {ρ : Nat → Role} {s : S} {a : Act} {w : World} (h : SR N F ρ s a w) (x : Operand) : ∃ l, TR F ρ w l (s.val x) (a.eval x) := by
 cases x with
 | tmp t => exact ⟨_, h.tmp t⟩
 | const v => exact ⟨.tmp 0, constT_TR v⟩
 | global g => exact ⟨.tmp 0, .undef⟩
 | func f => exact ⟨.tmp 0, .d (by simpa [Act.eval] using DR.fn (F := F) (f := f) .nil)⟩
def Gives (P : Program) (ρv : Operand → Value) (o : Oper) (v : Value) : Prop := ∀ w, (execOp ρv o).run P w = .ok (.value v) w
theorem size_str (s : List UInt8) : (ByteArray.mk s.toArray).size = s.length := by simp [ByteArray.size]
theorem toList_loop (a : ByteArray) : ∀ (n i : Nat) (r : List UInt8), a.size - i = n → ByteArray.toList.loop a i r = r.reverse ++ a.data.toList.drop i := by
 intro n
 induction n with
 | zero =>
  intro i r h
  rw [ByteArray.toList.loop, if_neg (by omega)]
  rw [List.drop_eq_nil_of_le (by simp; show a.data.size ≤ i; have : a.data.size = a.size := rfl; omega)]
  simp
 | succ n ih =>
  intro i r h
  have hi : i < a.size := by omega
  rw [ByteArray.toList.loop, if_pos hi, ih (i + 1) _ (by omega)]
  have hi' : i < a.data.toList.length := by simpa using hi
  rw [List.drop_eq_getElem_cons hi']
  simp [ByteArray.get!, getElem!_pos, hi, Array.get!Internal]
theorem toList_str (s : List UInt8) : (ByteArray.mk s.toArray).toList = s := by
 unfold ByteArray.toList
 rw [toList_loop _ _ 0 [] rfl]
 simp
section
variable {X : Ctx} {F : Fr} {ρ : Nat → Role} {w : World} {l l' : Lc}
theorem intV_ok {op : BinOp} {k : IntKind} {a b : Int} {d : D} (h : intV op k a b = some d) : ∃ v, DR F d v ∧ ∀ t w, (binOp op t (.int k a) (.int k b)).run X.P w = .ok v w := by
 cases op <;> simp [intV] at h <;> subst h <;>
  exact ⟨_, by constructor, fun t w => by simp [binOp, Op.intArith, Op.intBits, Op.intCmp]⟩
theorem strV_ok {op : BinOp} {a b : List UInt8} {d : D} (h : strV op a b = some d) : ∃ v, DR F d v ∧ ∀ t w, (binOp op t (.string ⟨a.toArray⟩) (.string ⟨b.toArray⟩)).run X.P w = .ok v w := by
 cases op <;> simp [strV] at h <;> subst h <;>
  exact ⟨_, by constructor, fun t w => by simp [binOp, Op.stringOp, toList_str]⟩
theorem eqV_ok {t : TypeId} {i : Ti} (hi : X.tab t = some i) {cx : Bool} {x y : T} {u v : Value} {b : Bool} (hx : TR F ρ w l x u) (hy : TR F ρ w l' y v) (h : eqV i.ty cx x y = some b) :
  (∀ w, (Op.equal t u v).run X.P w = .ok b w) ∧ ((u = .nilIface ∧ v = .nilIface) → cx = true) ∧ (∀ p, u ≠ .agg p) ∧ (∀ k n, u ≠ .int k n) ∧ (∀ s, u ≠ .string s) ∧ (∀ k n, u ≠ .float k n) ∧ (∀ k m n, u ≠ .complex k m n) := by
 obtain ⟨d, hd, hf⟩ := k'r hi
 have hu : ∀ w, (underlying t).run X.P w = .ok d w := fun w => run_underlying hd w
 unfold eqV at h
 split at h <;> (try (simp at h; done))
 ·rename_i a c hty
  have e1 := hx.inv_bool; have e2 := hy.inv_bool; subst e1; subst e2
  cases h
  rw [hty] at hf
  cases d <;> simp [Ty.fits] at hf
  refine ⟨fun w => (fun n => (by simp only [Op.equalIn, Sem.run_bind, hu, Result.andThen_ok]; rfl) : ∀ n, (Op.equalIn (n + 1) t _ _).run X.P w = _) 9999, by simp, by simp, by simp, by simp, by simp, by simp⟩
 ·rename_i hty
  have e1 := hx.inv_d.inv_nili; have e2 := hy.inv_d.inv_nili; subst e1; subst e2
  split at h <;> simp at h
  rename_i hc
  subst h
  rw [hty] at hf
  cases d <;> simp [Ty.fits] at hf
  refine ⟨fun w => (fun n => (by simp only [Op.equalIn, Sem.run_bind, hu, Result.andThen_ok]; rfl) : ∀ n, (Op.equalIn (n + 1) t _ _).run X.P w = _) 9999, fun _ => hc, by simp, by simp, by simp, by simp, by simp⟩
 ·rename_i hty
  obtain ⟨q, e1, -⟩ := hx.inv_d.inv_iface; have e2 := hy.inv_d.inv_nili; subst e1; subst e2
  cases h
  rw [hty] at hf
  cases d <;> simp [Ty.fits] at hf
  refine ⟨fun w => (fun n => (by simp only [Op.equalIn, Sem.run_bind, hu, Result.andThen_ok]; rfl) : ∀ n, (Op.equalIn (n + 1) t _ _).run X.P w = _) 9999, by simp, by simp, by simp, by simp, by simp, by simp⟩
 ·rename_i hty
  have e1 := hx.inv_d.inv_nili; obtain ⟨q, e2, -⟩ := hy.inv_d.inv_iface; subst e1; subst e2
  cases h
  rw [hty] at hf
  cases d <;> simp [Ty.fits] at hf
  refine ⟨fun w => (fun n => (by simp only [Op.equalIn, Sem.run_bind, hu, Result.andThen_ok]; rfl) : ∀ n, (Op.equalIn (n + 1) t _ _).run X.P w = _) 9999, by simp, by simp, by simp, by simp, by simp, by simp⟩
 ·rename_i hty
  have e1 := hx.inv_d.inv_nilp; have e2 := hy.inv_d.inv_nilp; subst e1; subst e2
  cases h
  rw [hty] at hf
  cases d <;> simp [Ty.fits] at hf
  refine ⟨fun w => (fun n => (by simp only [Op.equalIn, Sem.run_bind, hu, Result.andThen_ok]; rfl) : ∀ n, (Op.equalIn (n + 1) t _ _).run X.P w = _) 9999, by simp, by simp, by simp, by simp, by simp, by simp⟩
 ·rename_i hty
  obtain ⟨_, _, _, e1, -⟩ := hx.inv_d.inv_box; have e2 := hy.inv_d.inv_nilp; subst e1; subst e2
  cases h
  rw [hty] at hf
  cases d <;> simp [Ty.fits] at hf
  refine ⟨fun w => (fun n => (by simp only [Op.equalIn, Sem.run_bind, hu, Result.andThen_ok]; rfl) : ∀ n, (Op.equalIn (n + 1) t _ _).run X.P w = _) 9999, by simp, by simp, by simp, by simp, by simp, by simp⟩
 ·rename_i hty
  obtain ⟨_, _, e1⟩ := hx.inv_ptr; have e2 := hy.inv_d.inv_nilp; subst e1; subst e2
  cases h
  rw [hty] at hf
  cases d <;> simp [Ty.fits] at hf
  refine ⟨fun w => (fun n => (by simp only [Op.equalIn, Sem.run_bind, hu, Result.andThen_ok]; rfl) : ∀ n, (Op.equalIn (n + 1) t _ _).run X.P w = _) 9999, by simp, by simp, by simp, by simp, by simp, by simp⟩
end
open Go
def T.light : T → Bool
 | .own true [] => true
 | .own .. => false
 | .me | .nw .. | .buf .. => false
 | _ => true
theorem TR.light {F : Fr} {ρ : Nat → Role} {w : World} {l l' : Lc} {t : T} {v : Value} (h : TR F ρ w l t v) (e : t.light = true) (e2 : ∀ ts, t ≠ .tup ts) : TR F ρ w l' t v := by
 cases h with
 | d h => exact .d h
 | ptr h => exact .ptr h
 | slo h e' => exact .slo h e'
 | tup h => exact absurd rfl (e2 _)
 | undef => exact .undef
 | skip => exact .skip
 | nilo => exact .nilo
 | own a b => exact absurd e (by cases ‹List D› with | nil => exact absurd rfl b | cons _ _ => simp [T.light])
 | me h => simp [T.light] at e
 | nw h k => simp [T.light] at e
 | buf h k => simp [T.light] at e
theorem k'28 (b off n : Nat) : (Addr.mk b off none).add n = ⟨b, off + n, none⟩ := by
 unfold Addr.add; split <;> simp_all
section
variable {X : Ctx} {F : Fr} {ρ : Nat → Role} {w : World} {l l' : Lc}
theorem eqGuard_int (op : BinOp) (t : TypeId) (xo yo : Operand) (k : IntKind) (n : Int) (v : Value) (w : World) : (eqGuard op t xo yo (.int k n) v).run X.P w = .ok () w := by
 cases op <;> simp [eqGuard]
theorem eqGuard_str (op : BinOp) (t : TypeId) (xo yo : Operand) (s : ByteArray) (v : Value) (w : World) : (eqGuard op t xo yo (.string s) v).run X.P w = .ok () w := by
 cases op <;> simp [eqGuard]
theorem binV_ok {op : BinOp} {t : TypeId} {x y : T} {u v : Value} {r : D} {xo yo : Operand} {ρv : Operand → Value} (hu : ρv xo = u) (hv : ρv yo = v)
    (hx : TR F ρ w l x u) (hy : TR F ρ w l' y v) (h : binV X.tab op t (isC xo || isC yo) x y = some r) :
    ∃ q, DR F r q ∧ ∀ w, (eqGuard op t xo yo u v >>= fun _ => binOp op t u v).run X.P w = .ok q w := by
  have eqcase : ∀ i, X.tab t = some i → ∀ b, eqV i.ty (isC xo || isC yo) x y = some b → boolV op b = some r → ∃ q, DR F r q ∧ ∀ w, (eqGuard op t xo yo u v >>= fun _ => binOp op t u v).run X.P w = .ok q w := by
    intro i hi b hb hr
    obtain ⟨e1, e2, e3, e4, e5, e6, e7⟩ := eqV_ok hi hx hy hb
    have hg : ∀ w, (eqGuard op t xo yo u v).run X.P w = .ok () w := by
      intro w
      unfold eqGuard
      cases op <;> simp [boolV] at hr <;>
        (cases u <;> cases v <;> simp at e3 ⊢
         have := e2 ⟨rfl, rfl⟩
         cases xo <;> cases yo <;> simp [isC] at this ⊢)
    cases op <;> simp [boolV] at hr <;> subst hr
    · refine ⟨.bool b, .bool _, fun w => ?_⟩
      simp only [Sem.run_bind, hg, Result.andThen_ok]
      cases u <;> cases v <;> simp at e3 e4 e5 e6 e7 <;> simp [binOp, e1]
    · refine ⟨.bool (!b), .bool _, fun w => ?_⟩
      simp only [Sem.run_bind, hg, Result.andThen_ok]
      cases u <;> cases v <;> simp at e3 e4 e5 e6 e7 <;> simp [binOp, e1]
  unfold binV at h
  split at h
  · have e1 := hx.inv_int; have e2 := hy.inv_int
    split at h
    · rename_i hk; subst hk
      obtain ⟨q, hq, hr⟩ := intV_ok (F := F) (X := X) h
      exact ⟨q, hq, fun w => by simp [eqGuard_int, e1, e2, hr]⟩
    · simp at h
  · have e1 := hx.inv_str; have e2 := hy.inv_str
    obtain ⟨q, hq, hr⟩ := strV_ok (F := F) (X := X) h
    exact ⟨q, hq, fun w => by simp [eqGuard_str, e1, e2, hr]⟩
  · split at h
    · rename_i i hi
      split at h
      · exact eqcase i hi _ ‹_› h
      · simp at h
    · simp at h
theorem lenV_ok {t ty : TypeId} {x : T} {u : Value} {r : D} (hx : TR F ρ w l x u) (h : lenV X.tab t x = some r) : ∃ q, DR F r q ∧ ∀ w, (Builtin.len_ #[t] ty #[u]).run X.P w = .ok q w := by
 unfold lenV at h
 split at h
 ·rename_i i hi
  obtain ⟨d, hd, hf⟩ := k'r hi
  have hu : ∀ w, (underlying t).run X.P w = .ok d w := fun w => run_underlying hd w
  split at h <;> simp at h <;> subst h
  ·rename_i hty; rw [hty] at hf; have e := hx.inv_str; subst e
   cases d <;> simp [Ty.fits] at hf
   exact ⟨_, .int _ _, fun w => by simp [Builtin.len_, hu, goInt, size_str]⟩
  ·rename_i hty; rw [hty] at hf; obtain ⟨a, c, e⟩ := hx.inv_d.inv_sl; subst e
   cases d <;> simp [Ty.fits] at hf
   exact ⟨_, .int _ _, fun w => by simp [Builtin.len_, hu, goInt]⟩
  ·rename_i hty; rw [hty] at hf; obtain ⟨a, c, e⟩ := hx.inv_own; subst e
   cases d <;> simp [Ty.fits] at hf
   exact ⟨_, .int _ _, fun w => by simp [Builtin.len_, hu, goInt]⟩
 ·simp at h
theorem fieldV_ok {s : TypeId} {f off : Nat} {j : Ti} (h : fieldV X.tab s f = some (off, j)) :
  ∃ fs fd t, X.P.underlying s = some (.struct fs) ∧ fs[f]? = some fd ∧ fd.offset = off ∧ fd.type = t ∧ X.tab t = some j ∧ j.size ≠ 0 := by
 unfold fieldV at h
 split at h
 ·rename_i i hi
  split at h
  ·rename_i fs hty
   split at h
   ·rename_i o t hf
    split at h
    ·rename_i k hk
     split at h
     ·simp at h
     ·rename_i hz
      simp at h; obtain ⟨rfl, rfl⟩ := h
      obtain ⟨d, hd, hfit⟩ := k'r hi
      rw [hty] at hfit
      cases d <;> simp [Ty.fits] at hfit
      rename_i gs
      rw [← hfit] at hf
      simp at hf
      obtain ⟨fd, h1, h2, h3⟩ := hf
      exact ⟨gs, fd, t, hd, by simpa using h1, h2, h3, hk, hz⟩
    ·simp at h
   ·simp at h
  ·simp at h
 ·simp at h
theorem run_fieldPlace {fd : Field} {j : Ti} (hj : X.tab fd.type = some j) (hz : j.size ≠ 0) (b o : Nat) (w : World) : (fieldPlace ⟨b, o, none⟩ fd).run X.P w = .ok ⟨b, o + fd.offset, none⟩ w := by
 simp [fieldPlace, k'30 hj, hz, k'28]
theorem At.drop {b off n : Nat} {vs : List Value} (h : At F b off vs) : At F b (off + n) (vs.drop n) := by
 intro j v e
 rw [List.getElem?_drop] at e
 have := h _ _ e
 rwa [← Nat.add_assoc] at this
theorem partV_ok {t : TypeId} {j : Ti} (hj : X.tab t = some j) {cs : List D} {vs : List Value} {off : Nat} {y : D} (h : DRs F cs vs) (e : partV j cs off = some y) :
  ∃ q, DR F y q ∧ ∀ w, (part t vs.toArray off).run X.P w = .ok q w := by
 unfold partV at e
 split at e
 ·rename_i ha
  split at e <;> simp at e
  subst e
  refine ⟨_, .agg ((h.drop off).take j.size), fun w => ?_⟩
  simp [part, run_agg hj, k'30 hj, ha, List.extract_eq_take_drop]
 ·rename_i ha
  obtain ⟨u, hu, hr⟩ := h.get e
  refine ⟨u, hr, fun w => ?_⟩
  simp [part, run_agg hj, ha, hu]
end
open Go
section
variable {X : Ctx} {F : Fr} {ρ : Nat → Role} {w : World} {l l' : Lc}
theorem DRs.lay {cs xs : List D} {vs ws : List Value} (h : DRs F cs vs) (k : DRs F xs ws) (off : Nat) : DRs F (lay cs off xs) (lay vs off ws) := by
 unfold Go.Abs.lay
 exact (h.take off).append (k.append (by rw [k.length]; exact h.drop _))
theorem foldl_lay (ws : List Value) : ∀ (n : Nat) (cs : List Value) (off : Nat), off + n + ws.length ≤ cs.length →
  (ws.zipIdx n).foldl (fun (cs : Array Value) (p : Value × Nat) => cs.setIfInBounds (off + p.2) p.1) cs.toArray = (lay cs (off + n) ws).toArray := by
 induction ws with
 | nil => intro n cs off h; simp [lay]
 | cons a ws ih =>
  intro n cs off h
  simp only [List.zipIdx_cons, List.foldl_cons, List.setIfInBounds_toArray]
  rw [ih (n + 1) (cs.set (off + n) a) off (by simp at h ⊢; omega)]
  congr 1
  unfold lay
  simp only [List.length_cons] at h ⊢
  rw [show off + (n + 1) = off + n + 1 from by omega]
  rw [List.take_set, List.drop_set]
  have h1 : off + n < cs.length := by omega
  rw [if_pos (by omega)]
  rw [show off + n + (ws.length + 1) = off + n + 1 + ws.length from by omega]
  rw [List.take_succ_eq_append_getElem (by omega)]
  rw [List.set_append]
  simp only [List.length_take, Nat.min_eq_left (Nat.le_of_lt h1), Nat.lt_irrefl, if_false, Nat.sub_self, List.set_cons_zero, List.append_assoc, List.singleton_append, List.cons_append, List.nil_append]
theorem fillV_ok {s : TypeId} {fs : Array Field} (hs : X.P.underlying s = some (.struct fs)) {val : Operand → T} {ρv : Operand → Value} (hv : ∀ x, ∃ l, TR F ρ w l (val x) (ρv x))
  (places : Array (Nat × Nat)) (hp : ∀ (f : Nat) (fd : Field) (j : Ti), fs[f]? = some fd → X.tab fd.type = some j → places[f]? = some (fd.offset, j.size)) :
  ∀ (ps : List (Nat × Operand)) (cs ds : List D) (vs : List Value), DRs F cs vs → fillV X.tab s val ps cs = some ds →
   ∃ us : List Value, DRs F ds us ∧ Instr.fill (places[·]?) vs.toArray (ps.map fun (p : Nat × Operand) => (p.1, ρv p.2)) = some us.toArray
 | [], cs, ds, vs, h, e => by
  simp [fillV] at e; subst e
  exact ⟨vs, h, by simp [Instr.fill]⟩
 | (f, x) :: r, cs, ds, vs, h, e => by
  unfold fillV at e
  split at e
  ·rename_i off j y hf hy
   split at e
   ·rename_i hl
    split at e
    ·rename_i hb
     rw [forceL_eq] at e
     obtain ⟨gs, fd, t, hu, hfd, ho, ht, hj, hz⟩ := fieldV_ok hf
     rw [hs] at hu; injection hu with hu; injection hu with hu; subst hu
     obtain ⟨lx, hx⟩ := hv x
     have hd := hx.share hy
     have hdc := hd.cells
     have hlen := hdc.length
     have hcl := h.length
     obtain ⟨us, h1, h2⟩ := fillV_ok hs hv places hp r (lay cs off y.cells) ds (lay vs off (ρv x).cells.toList) (h.lay hdc off) e
     refine ⟨us, h1, ?_⟩
     have hpl := hp f fd j hfd (by rw [ht]; exact hj)
     simp only [List.map_cons, Instr.fill, hpl, ho]
     have hsz : (ρv x).cells.size = j.size := by rw [← hl, hlen]; simp
     rw [if_neg (by simp [hsz]; omega)]
     have := foldl_lay (ρv x).cells.toList 0 vs off (by simp [hsz]; omega)
     simp only [Nat.add_zero] at this
     rw [← h2]
     congr 1
     rw [← this]
     rw [← Array.foldl_toList, Array.toList_zipIdx]
    ·simp at e
   ·simp at e
  ·simp at e
theorem k'3o {fs : Array Field} (w : World) (hall : ∀ (f : Nat) (fd : Field), fs[f]? = some fd → ∃ j : TypeInfo, X.P.info? fd.type = some j) :
  ∃ places : Array (Nat × Nat), (fs.mapM (m := Sem) fun f => do pure (f.offset, ← sizeOf f.type)).run X.P w = .ok places w ∧
   ∀ (f : Nat) (fd : Field) (j : Ti), fs[f]? = some fd → X.tab fd.type = some j → places[f]? = some (fd.offset, j.size) := by
 refine ⟨fs.map fun f => (f.offset, ((X.P.info? f.type).map (·.size)).getD 0), ?_, ?_⟩
 ·rw [Array.mapM_eq_mapM_toList]
  have key : ∀ l : List Field, (∀ fd ∈ l, ∃ j : TypeInfo, X.P.info? fd.type = some j) → (l.mapM (m := Sem) fun f => do pure (f.offset, ← sizeOf f.type)).run X.P w = .ok (l.map fun f => (f.offset, ((X.P.info? f.type).map (·.size)).getD 0)) w := by
   intro l
   induction l with
   | nil => intro _; simp
   | cons a l ih =>
    intro h
    obtain ⟨j, hj⟩ := h a (by simp)
    have hs : (sizeOf a.type).run X.P w = .ok j.size w := by simp [sizeOf, typeInfo, hj]
    have ih' := ih (fun fd hm => h fd (by simp [hm]))
    simp only [List.mapM_cons, Sem.run_bind, hs, Result.andThen_ok, Sem.run_pure, ih', List.map_cons, hj, Option.map_some, Option.getD_some]
  have := key fs.toList (fun fd hm => by
   obtain ⟨i, hi, he⟩ := List.getElem_of_mem hm
   exact hall i fd (by rw [← he]; simp))
  simp only [Sem.run_map, this, Result.andThen_ok]
  congr 1
  apply Array.ext'
  simp
 ·intro f fd j hf hj
  obtain ⟨k, hk, a, -, -⟩ := tab_info hj
  simp [hf, hk, a]
end
open Go
section
variable {X : Ctx} {F : Fr} {ρ : Nat → Role} {w : World} {l l' : Lc}
theorem build_ok {t : TypeId} {i : Ti} {fs : List (Nat × TypeId)} {z cs : List D} {parts : Array (Nat × Operand)} {val : Operand → T} {ρv : Operand → Value} (hi : X.tab t = some i) (hty : i.ty = .struct fs) (hz : i.zero = .agg z)
  (hv : ∀ x, ∃ l, TR F ρ w l (val x) (ρv x)) (e : fillV X.tab t val parts.toList z = some cs) :
  ∃ q, DR F (.agg cs) q ∧ ∀ w, (Instr.build t (parts.map fun (p : Nat × Operand) => (p.1, ρv p.2))).run X.P w = .ok q w := by
 obtain ⟨d, hd, hfit⟩ := k'r hi
 rw [hty] at hfit
 cases d <;> simp [Ty.fits] at hfit
 rename_i gs
 have hu : ∀ w, (underlying t).run X.P w = .ok (.struct gs) w := fun w => run_underlying hd w
 have hzo := tab_zok hi
 rw [zvOk, hz] at hzo
 simp at hzo
 have hzz : DRs F z (z.map zc) := by
  have h1 := hzo.1.2
  clear hzo e hz
  induction z with
  | nil => exact .nil
  | cons a z ih =>
   refine .cons ?_ (ih fun x hx => h1 x (by simp [hx]))
   have := h1 a (by simp)
   unfold zcOk at this
   split at this <;> first | (simp at this; done) | constructor
 obtain ⟨places, hpl, hpl2⟩ := k'3o (X := X) (fs := gs) w (tab_fields hi hd)
 obtain ⟨us, h1, h2⟩ := fillV_ok hd hv places hpl2 parts.toList z cs (z.map zc) hzz e
 refine ⟨_, .agg h1, fun w' => ?_⟩
 obtain ⟨places', hp', hpl2'⟩ := k'3o (X := X) (fs := gs) w' (tab_fields hi hd)
 obtain ⟨us', h1', h2'⟩ := fillV_ok hd hv places' hpl2' parts.toList z cs (z.map zc) hzz e
 have hzv : zv i.zero = .agg (z.map zc).toArray := by rw [hz]; rfl
 have hpp : places = places' := by
  have a := hpl; have b := hp'
  have key : ∀ w, (gs.mapM (m := Sem) fun f => do pure (f.offset, ← sizeOf f.type)).run X.P w = .ok (gs.map fun f => (f.offset, ((X.P.info? f.type).map (·.size)).getD 0)) w := by
   intro w
   obtain ⟨p, hp, -⟩ := k'3o (X := X) (fs := gs) w (tab_fields hi hd)
   rw [hp]
   rw [Array.mapM_eq_mapM_toList] at hp
   have k2 : ∀ l : List Field, (∀ fd ∈ l, ∃ j : TypeInfo, X.P.info? fd.type = some j) → (l.mapM (m := Sem) fun f => do pure (f.offset, ← sizeOf f.type)).run X.P w = .ok (l.map fun f => (f.offset, ((X.P.info? f.type).map (·.size)).getD 0)) w := by
    intro l
    induction l with
    | nil => intro _; simp
    | cons a l ih =>
     intro h
     obtain ⟨j, hj⟩ := h a (by simp)
     have hs : (sizeOf a.type).run X.P w = .ok j.size w := by simp [sizeOf, typeInfo, hj]
     have ih' := ih (fun fd hm => h fd (by simp [hm]))
     simp only [List.mapM_cons, Sem.run_bind, hs, Result.andThen_ok, Sem.run_pure, ih', List.map_cons, hj, Option.map_some, Option.getD_some]
   have := k2 gs.toList (fun fd hm => by
    obtain ⟨i, hi', he⟩ := List.getElem_of_mem hm
    exact tab_fields hi hd i fd (by rw [← he]; simp))
   simp only [Sem.run_map, this, Result.andThen_ok] at hp
   injection hp with hp
   rw [← hp]
   congr 1
   apply Array.ext'
   simp
  rw [key] at a b
  injection a with a; injection b with b
  exact a.symm.trans b
 subst hpp
 unfold Instr.build
 simp only [Sem.run_bind, k'4k hi, Result.andThen_ok, hu, hp', hzv, Value.cells]
 have : (parts.map fun (p : Nat × Operand) => (p.1, ρv p.2)).toList = parts.toList.map fun (p : Nat × Operand) => (p.1, ρv p.2) := by simp
 rw [this, h2]
 rfl
theorem pure_ok {o : Oper} {val : Operand → T} {ρv : Operand → Value} {t : T} (hv : ∀ x, ∃ l, TR F ρ w l (val x) (ρv x)) (h : pureV X.tab o.op val = some t) :
  ∃ q, (∀ l, TR F ρ w l t q) ∧ Gives X.P ρv o q := by
 obtain ⟨dst, op, type, pos, after, guard⟩ := o
 have mv : ∀ x : Operand, (match val x with
  | .own true [] => some (.own true [])
  | .own _ _ => none
  | .tup ts => if (T.tup ts).still then some (.tup ts) else none
  | .me => none
  | .nw _ _ => none
  | .buf _ _ => none
  | .slo _ _ => none
  | t => some t) = some t → ∃ q, (∀ l, TR F ρ w l t q) ∧ q = ρv x := by
  intro x hx
  obtain ⟨lx, hx'⟩ := hv x
  refine ⟨_, fun l => ?_, rfl⟩
  split at hx <;> (try (simp at hx; done))
  ·cases hx; rename_i e; rw [e] at hx'; exact hx'.light rfl (by simp)
  ·rename_i e; split at hx
   ·cases hx; rw [e] at hx'; exact hx'.still ‹_›
   ·simp at hx
  ·cases hx
   rename_i a b c d1 d2 d3 d4
   refine hx'.light ?_ c
   generalize val x = y at *
   cases y <;> first | rfl | (rename_i z es; exact absurd rfl (b _ _)) | exact absurd rfl d1 | exact absurd rfl (d2 _ _) | exact absurd rfl (d3 _ _) | exact absurd rfl (d4 _ _)
 cases op <;> simp only [pureV] at h <;> (try (simp at h; done))
 case move x => obtain ⟨q, h1, h2⟩ := mv x h; exact ⟨q, h1, fun w => by simp [execOp, h2]⟩
 case assign x => obtain ⟨q, h1, h2⟩ := mv x h; exact ⟨q, h1, fun w => by simp [execOp, h2]⟩
 case pick c a b =>
  obtain ⟨lc, hc⟩ := hv c
  split at h
  ·rename_i e; rw [e] at hc; have ec := hc.inv_bool
   split at h <;> simp at h
   subst h; rename_i e2; obtain ⟨la, ha⟩ := hv a; rw [e2] at ha
   exact ⟨_, fun l => .d ha.inv_d, fun w => by simp [execOp, ec, asBool]⟩
  ·rename_i e; rw [e] at hc; have ec := hc.inv_bool
   split at h <;> simp at h
   subst h; rename_i e2; obtain ⟨la, ha⟩ := hv b; rw [e2] at ha
   exact ⟨_, fun l => .d ha.inv_d, fun w => by simp [execOp, ec, asBool]⟩
  ·simp at h
 case nilCheck x =>
  obtain ⟨lx, hx⟩ := hv x
  split at h <;> simp at h <;> subst h <;> rename_i e <;> rw [e] at hx
  ·obtain ⟨b, hb, ev⟩ := hx.inv_ptr
   exact ⟨ρv x, fun l => by rw [ev]; exact .ptr hb, fun w => by simp [execOp, ev]⟩
  ·obtain ⟨b, off, vs, ev, h1, h2⟩ := hx.inv_d.inv_box
   exact ⟨ρv x, fun l => by rw [ev]; exact .d (.box h1 h2), fun w => by simp [execOp, ev]⟩
  ·obtain ⟨vs, ev, h1⟩ := hx.inv_d.inv_fn
   exact ⟨ρv x, fun l => by rw [ev]; exact .d (.fn h1), fun w => by simp [execOp, ev]⟩
  ·obtain ⟨u, ev, h1⟩ := hx.inv_d.inv_iface
   exact ⟨ρv x, fun l => by rw [ev]; exact .d (.iface h1), fun w => by simp [execOp, ev]⟩
 case binOp op t x y t' =>
  split at h <;> simp at h
  subst h
  obtain ⟨lx, hx⟩ := hv x; obtain ⟨ly, hy⟩ := hv y
  obtain ⟨q, h1, h2⟩ := binV_ok (xo := x) (yo := y) (ρv := ρv) rfl rfl hx hy ‹_›
  exact ⟨q, fun l => .d h1, fun w => by have := h2 w; simp only [execOp, Sem.run_bind] at this ⊢; rw [this]; rfl⟩
 case unOp op t x =>
  obtain ⟨lx, hx⟩ := hv x
  cases op <;> simp at h
  ·split at h <;> simp at h
   subst h; rename_i e; rw [e] at hx; have ev := hx.inv_int
   exact ⟨_, fun l => .d (.int _ _), fun w => by simp [execOp, ev, Op.unary, Op.intArith]⟩
  ·split at h <;> simp at h
   subst h; rename_i e; rw [e] at hx; have ev := hx.inv_bool
   exact ⟨_, fun l => .d (.bool _), fun w => by simp [execOp, ev, Op.unary]⟩
 case convert src dst' x =>
  obtain ⟨lx, hx⟩ := hv x
  split at h <;> (try (simp at h; done))
  ·rename_i i0 i k n h0 hi e; rw [e] at hx; have ev := hx.inv_int
   split at h <;> simp at h
   subst h; rename_i k' hty
   obtain ⟨d, hd, hfit⟩ := k'r hi
   obtain ⟨d0, hd0, -⟩ := k'r h0
   rw [hty] at hfit
   cases d <;> simp [Ty.fits] at hfit
   subst hfit
   exact ⟨_, fun l => .d (.int _ _), fun w => by cases d0 <;> simp [execOp, convert, run_underlying hd, run_underlying hd0, ev, Conv.intToInt]⟩
  ·rename_i i0 i s h0 hi e; rw [e] at hx; have ev := hx.inv_str
   split at h <;> simp at h
   subst h; rename_i hty
   obtain ⟨d, hd, hfit⟩ := k'r hi
   obtain ⟨d0, hd0, -⟩ := k'r h0
   rw [hty] at hfit
   cases d <;> simp [Ty.fits] at hfit
   exact ⟨_, fun l => .d (.str s), fun w => by cases d0 <;> simp [execOp, convert, run_underlying hd, run_underlying hd0, ev]⟩
 case makeInterface t' x =>
  obtain ⟨lx, hx⟩ := hv x
  split at h <;> (try (simp at h; done))
  rename_i i y hi hy
  obtain ⟨d, hd, hfit⟩ := k'r hi
  have hu : ∀ w, (underlying t').run X.P w = .ok d w := fun w => run_underlying hd w
  have hn : i.ty ≠ .iface ∧ t = .d (.iface t' y) := by split at h <;> simp at h; exact ⟨by simpa using ‹_›, h.symm⟩
  obtain ⟨hn, rfl⟩ := hn
  refine ⟨.iface t' (ρv x), fun l => .d (.iface (hx.share hy)), fun w => ?_⟩
  simp only [execOp, Instr.makeInterface, Sem.run_bind, hu, Result.andThen_ok]
  cases d <;> first | rfl | (cases hi' : i.ty <;> rw [hi'] at hfit hn <;> simp [Ty.fits] at hfit hn)
 case fieldAddr s x f =>
  obtain ⟨lx, hx⟩ := hv x
  split at h <;> simp at h <;> subst h
  ·rename_i off j i o hf e; rw [e] at hx
   obtain ⟨b, hb, ev⟩ := hx.inv_ptr
   obtain ⟨fs, fd, t, hu, hfd, rfl, rfl, hj, hz⟩ := fieldV_ok hf
   exact ⟨.pointer (some ⟨b, o + fd.offset, none⟩), fun l => .ptr hb, fun w => by simp [execOp, Instr.fieldAt, run_underlying hu, hfd, ev, Instr.sureAddr, run_fieldPlace hj hz]⟩
  ·rename_i off j cs hf e; rw [e] at hx
   obtain ⟨b, o, vs, ev, h1, h2⟩ := hx.inv_d.inv_box
   obtain ⟨fs, fd, t, hu, hfd, rfl, rfl, hj, hz⟩ := fieldV_ok hf
   exact ⟨.pointer (some ⟨b, o + fd.offset, none⟩), fun l => .d (.box (h1.drop _) h2.drop), fun w => by simp [execOp, Instr.fieldAt, run_underlying hu, hfd, ev, Instr.sureAddr, run_fieldPlace hj hz]⟩
 case field s x f =>
  obtain ⟨lx, hx⟩ := hv x
  split at h <;> (try (simp at h; done))
  rename_i off j cs hf e; rw [e] at hx
  split at h <;> simp at h
  subst h
  obtain ⟨vs, ev, h1⟩ := hx.inv_d.inv_agg
  obtain ⟨fs, fd, t, hu, hfd, rfl, rfl, hj, hz⟩ := fieldV_ok hf
  obtain ⟨q, h2, h3⟩ := partV_ok hj h1 ‹_›
  exact ⟨q, fun l => .d h2, fun w => by simp [execOp, Instr.field, run_underlying hu, hfd, ev, asAgg, h3]⟩
 case extract x i =>
  obtain ⟨lx, hx⟩ := hv x
  split at h <;> (try (simp at h; done))
  rename_i ts e; rw [e] at hx
  have ⟨vs, ev, hs⟩ : ∃ vs : List Value, ρv x = .tuple vs.toArray ∧ TRs F ρ w lx ts vs := by generalize ρv x = u at hx; cases hx; exact ⟨_, rfl, ‹_›⟩
  split at h <;> simp at h <;> subst h <;> rename_i e2 <;> obtain ⟨u, hu, hr⟩ := hs.get e2
  ·exact ⟨u, fun l => .d hr.inv_d, fun w => by simp [execOp, Instr.extract, ev, hu]⟩
  ·exact ⟨u, fun l => hr.still rfl, fun w => by simp [execOp, Instr.extract, ev, hu]⟩
 case build t' parts =>
  split at h <;> (try (simp at h; done))
  rename_i i hi
  split at h <;> (try (simp at h; done))
  rename_i fs z hty hz
  split at h <;> simp at h
  subst h; rename_i cs hf
  obtain ⟨q, h1, h2⟩ := build_ok (F := F) (ρ := ρ) (w := w) hi hty hz hv hf
  exact ⟨q, fun l => .d h1, fun w => by simp [execOp, h2]⟩
 case call c =>
  unfold callV at h
  split at h <;> (try (simp at h; done))
  ·rename_i x t'
   split at h <;> simp at h
   subst h
   obtain ⟨lx, hx⟩ := hv x
   obtain ⟨q, h1, h2⟩ := lenV_ok (ty := type) hx ‹_›
   exact ⟨q, fun l => .d h1, fun w => by simp [execOp, resolve, invoke, builtin, h2]⟩
  ·rename_i x y ts
   obtain ⟨lx, hx⟩ := hv x
   obtain ⟨ly, hy⟩ := hv y
   split at h <;> simp at h
   subst h; rename_i e1 e2; rw [e1] at hx; rw [e2] at hy
   have ex := hx.inv_int; have ey := hy.inv_int
   exact ⟨_, fun l => .d (.int _ _), fun w => by simp [execOp, resolve, invoke, builtin, ex, ey, Builtin.min_, Builtin.min2]⟩
  ·rename_i x y ts
   obtain ⟨lx, hx⟩ := hv x
   obtain ⟨ly, hy⟩ := hv y
   split at h <;> simp at h
   subst h; rename_i e1 e2; rw [e1] at hx; rw [e2] at hy
   have ex := hx.inv_int; have ey := hy.inv_int
   exact ⟨_, fun l => .d (.int _ _), fun w => by simp [execOp, resolve, invoke, builtin, ex, ey, Builtin.max_, Builtin.max2]⟩
end
open Go
theorem cell_heap {w w' : World} {b off : Nat} (h : w'.heap[b]? = w.heap[b]?) : w'.cell? ⟨b, off, none⟩ = w.cell? ⟨b, off, none⟩ := by simp [World.cell?, h]
theorem k'34 {w w' : World} {b off : Nat} (h : w'.heap[b]? = w.heap[b]?) : w'.frozen? ⟨b, off, none⟩ = w.frozen? ⟨b, off, none⟩ := by simp [World.frozen?, h]
theorem k'1c {w : World} {b off : Nat} {v : Value} (h : w.cell? ⟨b, off, none⟩ = some v) : b < w.heap.size := World.block_lt_of_cell? w ⟨b, off, none⟩ h
structure More (w w' : World) : Prop where
 size : w.heap.size ≤ w'.heap.size
 os : w'.os = w.os
 tape : w'.tape = w.tape
 output : w'.output = w.output
 heap : ∀ b, b < w.heap.size → w'.heap[b]? = w.heap[b]?
theorem shape_heap {w w' : World} {b : Nat} (h : w'.heap[b]? = w.heap[b]?) : w'.shape? b = w.shape? b := by simp [World.shape?, h]
theorem lt_of_shape {w : World} {b : Nat} {x : TypeId × Nat} (h : w.shape? b = some x) : b < w.heap.size := by
 rcases Nat.lt_or_ge b w.heap.size with g | g
 ·exact g
 ·unfold World.shape? at h; rw [Array.getElem?_eq_none g] at h; simp at h
theorem More.alloc (w : World) (o : Obj) : More w (w.alloc o) :=
 ⟨by simp, rfl, rfl, rfl, fun b hb => RowKit.Below.heap_alloc _ _ _ hb⟩
theorem More.drew (w : World) : More w w.drew := ⟨Nat.le_refl _, rfl, rfl, rfl, fun _ _ => rfl⟩
theorem More.trans {a b c : World} (h : More a b) (k : More b c) : More a c :=
 ⟨Nat.le_trans h.size k.size, k.os.trans h.os, k.tape.trans h.tape, k.output.trans h.output, fun i hi => (k.heap i (Nat.lt_of_lt_of_le hi h.size)).trans (h.heap i hi)⟩
section grow
variable {N : Nat} {F F' : Fr} {ρ ρ' : Nat → Role} {s : S} {a : Act} {w w' : World} {H X : List Ob}
theorem WR.keeps_more (h : WR F ρ w H) (m : More w w') (hs : Sub F F') (hF : ∀ b off, b < w.heap.size → F' b off = F b off) (hρ : ∀ b, b < w.heap.size → ρ' b = ρ b) (l : Lc) : Keeps F ρ w F' ρ' w' l :=
  ⟨hs, fun b i e => by rw [hρ b (h.lt b (by rw [e]; simp))]; exact e,
   fun b e => by
    have hb := h.lt b (by rw [e]; simp)
    refine ⟨by rw [hρ b hb]; exact e, fun off h1 h2 h3 => ?_⟩
    rw [hF b off hb, k'34 (m.heap b hb), cell_heap (m.heap b hb)]
    exact ⟨h1, h2, h3⟩, fun b x e => by rw [shape_heap (m.heap b (lt_of_shape e))]; exact e⟩
theorem WR.more (h : WR F ρ w H) (m : More w w') (hs : Sub F F') (hF : ∀ b off, b < w.heap.size → F' b off = F b off) (hρ : ∀ b, b < w.heap.size → ρ' b = ρ b)
  (fix : ∀ b off v, w.heap.size ≤ b → F' b off = some v → w'.cell? ⟨b, off, none⟩ = some v) (lt : ∀ b, ρ' b ≠ .free → b < w'.heap.size)
  (obj : ∀ b i, w.heap.size ≤ b → ρ' b = .obj i → (∃ o, (H ++ X)[i]? = some o ∧ ObR F' ρ' w' i b o) ∧ H.length ≤ i ∧ ∀ c, ρ' c = .obj i → w.heap.size ≤ c → b = c) : WR F' ρ' w' (H ++ X) := by
 have hk := h.keeps_more m hs hF hρ
 have old : ∀ b i, b < w.heap.size → ρ' b = .obj i → ∃ o, H[i]? = some o ∧ ObR F ρ w i b o := fun b i hb e => h.obj b i (by rw [← hρ b hb]; exact e)
 refine ⟨fun b off v e => ?_, lt, fun b i e => ?_, fun b c i e1 e2 => ?_⟩
 ·by_cases hb : b < w.heap.size
  ·rw [hF b off hb] at e
   rw [cell_heap (m.heap b hb)]
   exact h.fix b off v e
  ·exact fix b off v (by omega) e
 ·by_cases hb : b < w.heap.size
  ·obtain ⟨o, ho, hr⟩ := old b i hb e
   refine ⟨o, ?_, ?_⟩
   ·rw [List.getElem?_append_left (by rcases Nat.lt_or_ge i H.length with g | g; exact g; rw [List.getElem?_eq_none g] at ho; simp at ho)]
    exact ho
   ·cases o with
    | mu cs =>
     intro off t ht
     obtain ⟨h1, h2, v, h3, h4⟩ := hr off t ht
     exact ⟨by rw [hF b off hb]; exact h1, by rw [k'34 (m.heap b hb)]; exact h2, v, by rw [cell_heap (m.heap b hb)]; exact h3, h4.keep (hk _)⟩
    | fro cs =>
     obtain ⟨vs, h1, h2⟩ := hr
     exact ⟨vs, h1.mono hs, h2.mono hs⟩
  ·exact (obj b i (by omega) e).1
 ·by_cases hb : b < w.heap.size <;> by_cases hc : c < w.heap.size
  ·exact h.uniq b c i (by rw [← hρ b hb]; exact e1) (by rw [← hρ c hc]; exact e2)
  ·obtain ⟨o, ho, -⟩ := old b i hb e1
   have := (obj c i (by omega) e2).2.1
   rw [List.getElem?_eq_none this] at ho; simp at ho
  ·obtain ⟨o, ho, -⟩ := old c i hc e2
   have := (obj b i (by omega) e1).2.1
   rw [List.getElem?_eq_none this] at ho; simp at ho
  ·exact (obj b i (by omega) e1).2.2 c e2 (by omega)
theorem SR.more (h : SR N F ρ s a w) (m : More w w') (hs : Sub F F') (hF : ∀ b off, b < w.heap.size → F' b off = F b off) (hρ : ∀ b, b < w.heap.size → ρ' b = ρ b)
  (hw : WR F' ρ' w' (s.H ++ X)) : SR N F' ρ' { s with H := s.H ++ X } a w' :=
 ⟨hw, h.size, h.defers, fun t => (h.tmp t).keep (h.wr.keeps_more m hs hF hρ _)⟩
theorem Ext.more (h : WR F ρ w H) (m : More w w') (hs : Sub F F') (hF : ∀ b off, b < w.heap.size → F' b off = F b off) (hρ : ∀ b, b < w.heap.size → ρ' b = ρ b) : Ext F ρ w F' ρ' w' :=
 ⟨hs, m.size, m.os, m.tape, m.output, fun b hb e => ⟨by rw [hρ b hb]; exact e, m.heap b hb, fun off => hF b off hb⟩, fun b i e => by rw [hρ b (h.lt b (by rw [e]; simp))]; exact e, fun b x e => by rw [shape_heap (m.heap b (lt_of_shape e))]; exact e⟩
theorem ofD_TR {l : Lc} {d : D} {v : Value} (h : DR F d v) : TR F ρ w l (T.ofD d) v := by
 unfold T.ofD
 split
 ·cases h; exact .nilo
 ·exact .d h
theorem SR.new (h : SR N F ρ s a w) {ds : List D} {cs : List Value} (T0 : TypeId) (hd : DRs F ds cs) :
  let b := w.heap.size
  let ρ' := fun c => if c = b then Role.obj s.H.length else ρ c
  SR N F ρ' { s with H := s.H ++ [.mu (ds.map T.ofD)] } a (w.alloc (.cells cs.toArray T0)) ∧ Ext F ρ w F ρ' (w.alloc (.cells cs.toArray T0)) ∧ ρ' b = .obj s.H.length := by
 intro b ρ'
 have hFb : ∀ off, F b off = none := by
  intro off
  cases e : F b off with
  | none => rfl
  | some v => exact absurd (k'1c (h.wr.fix b off v e)) (Nat.lt_irrefl _)
 have hρ : ∀ c, c < w.heap.size → ρ' c = ρ c := fun c hc => if_neg (Nat.ne_of_lt hc)
 have m := More.alloc w (.cells cs.toArray T0)
 have hw : WR F ρ' (w.alloc (.cells cs.toArray T0)) (s.H ++ [.mu (ds.map T.ofD)]) := by
  refine h.wr.more m (Sub.refl F) (fun _ _ _ => rfl) hρ ?_ ?_ ?_
  ·intro c off v hc e
   exact absurd (k'1c (h.wr.fix c off v e)) (by omega)
  ·intro c hc
   by_cases e : c = b
   ·subst e; simp [b]
   ·simp only [ρ', if_neg e] at hc
    have := h.wr.lt c hc
    simp; omega
  ·intro c i hc e
   by_cases ec : c = b
   ·subst ec
    simp only [ρ', if_true] at e
    injection e with e; subst e
    refine ⟨⟨.mu (ds.map T.ofD), by simp, ?_⟩, Nat.le_refl _, ?_⟩
    ·intro off t ht
     simp at ht
     obtain ⟨d, h1, rfl⟩ := ht
     obtain ⟨u, h2, h3⟩ := hd.get h1
     refine ⟨hFb off, by simp [b], u, by simp [b, h2], ofD_TR h3⟩
    ·intro c' e' hc'
     by_cases e2 : c' = b
     ·exact e2.symm
     ·simp only [ρ', if_neg e2] at e'
      obtain ⟨o, ho, -⟩ := h.wr.obj c' _ e'
      simp at ho
   ·simp only [ρ', if_neg ec] at e
    exact absurd (h.wr.lt c (by rw [e]; simp)) (by omega)
 exact ⟨h.more m (Sub.refl F) (fun _ _ _ => rfl) hρ hw, Ext.more h.wr m (Sub.refl F) (fun _ _ _ => rfl) hρ, if_pos rfl⟩
end grow
open Go
section
variable {X : Ctx} {N : Nat} {F F' : Fr} {ρ ρ' : Nat → Role} {s : S} {a : Act} {w w' : World} {o : Oper}
theorem k'm {v : Value} {next : Act → World → Prop} {Q : Exit → Act → World → Prop} (hrun : (execOp a.eval o).run X.P w = .ok (.value v) w') (hk : next (a.put o.dst v) w') : o.wp X.P a w next Q := by
 unfold Oper.wp; rw [hrun]; exact hk
theorem wp_skip' {next : Act → World → Prop} {Q : Exit → Act → World → Prop} (hrun : (execOp a.eval o).run X.P w = .ok .skip w') (hk : next (a.put o.dst undef) w') : o.wp X.P a w next Q := by
 unfold Oper.wp; rw [hrun]; exact hk
theorem SR.pz (h : SR N F ρ s a w) (t : Option Tmp) : SR N F ρ (s.put t .undef) a w := by
 cases t with
 | none => exact h
 | some d =>
  refine ⟨h.wr, h.size, h.defers, fun t => ?_⟩
  simp only [S.put]
  cases Nat.beq t d with
  | true => exact .undef
  | false => exact h.tmp t
theorem pure_sound {t : T} (hp : pureV X.tab o.op s.val = some t) (hd : ∀ d, o.dst = some d → d < N) (h : SR N F ρ s a w) {next : Act → World → Prop} {Q : Exit → Act → World → Prop}
  (k : Then X N F ρ w a o.dst (s.app o.dst ⟨t, none, s.H⟩) next) : o.wp X.P a w next Q := by
 obtain ⟨q, h1, h2⟩ := pure_ok (X := X) (fun x => h.val x) hp
 exact k'm (h2 w) (k F ρ _ w (h.put hd fun d _ => h1 _) (Ext.refl F ρ w))
theorem k'2d {b : Nat} {l0 l' l : Lc} (hb : ρ b = .own l0) (hl : l ≠ l0) : Keeps F ρ w F (fun c => if c = b then .own l' else ρ c) w l := by
 refine ⟨Sub.refl F, fun c i e => ?_, fun c e => ⟨?_, fun off h1 h2 h3 => ⟨h1, h2, h3⟩⟩, fun _ _ e => e⟩
 ·rw [if_neg (by rintro rfl; rw [hb] at e; simp at e)]; exact e
 ·rw [if_neg (by rintro rfl; rw [hb] at e; injection e with e; exact hl e.symm)]; exact e
theorem WR.role {H : List Ob} {b : Nat} {l0 l' : Lc} (h : WR F ρ w H) (hb : ρ b = .own l0) (H' : List Ob)
  (hH : ∀ i o, H[i]? = some o → ∃ o', H'[i]? = some o' ∧ ∀ c, ObR F ρ w i c o → ObR F (fun c => if c = b then .own l' else ρ c) w i c o') : WR F (fun c => if c = b then .own l' else ρ c) w H' := by
 refine ⟨h.fix, fun c e => ?_, fun c i e => ?_, fun c d i e1 e2 => ?_⟩
 ·by_cases ec : c = b
  ·exact h.lt c (by rw [ec, hb]; simp)
  ·rw [if_neg ec] at e; exact h.lt c e
 ·by_cases ec : c = b
  ·rw [if_pos ec] at e; simp at e
  ·rw [if_neg ec] at e
   obtain ⟨o, ho, hr⟩ := h.obj c i e
   obtain ⟨o', h1, h2⟩ := hH i o ho
   exact ⟨o', h1, h2 c hr⟩
 ·by_cases ec : c = b
  ·rw [if_pos ec] at e1; simp at e1
  ·by_cases ed : d = b
   ·rw [if_pos ed] at e2; simp at e2
   ·rw [if_neg ec] at e1; rw [if_neg ed] at e2; exact h.uniq c d i e1 e2
theorem Ext.role {b : Nat} {l0 l' : Lc} (hb : ρ b = .own l0) : Ext F ρ w F (fun c => if c = b then .own l' else ρ c) w :=
  ⟨Sub.refl F, Nat.le_refl _, rfl, rfl, rfl, fun c hc e => ⟨by rw [if_neg (by rintro rfl; rw [hb] at e; simp at e)]; exact e, rfl, fun _ => rfl⟩,
   fun c i e => by rw [if_neg (by rintro rfl; rw [hb] at e; simp at e)]; exact e, fun _ _ e => e⟩
theorem ObR.keep {i b : Nat} {o : Ob} (h : ObR F ρ w i b o) (hk : ∀ off, Keeps F ρ w F ρ' w (.cell i off)) : ObR F ρ' w i b o := by
 cases o with
 | mu cs => exact fun off t e => let ⟨h1, h2, v, h3, h4⟩ := h off t e; ⟨h1, h2, v, h3, h4.keep (hk off)⟩
 | fro cs => exact h
def T.mov : T → Bool
 | .own .. => true
 | .buf .. => true
 | _ => false
theorem mov_inv {q : T} {l : Lc} {v : Value} (h : TR F ρ w l q v) (hq : q.mov = true) : (∀ ρ' l', TR F ρ' w l' q v) ∨ ∃ b, ρ b = .own l ∧ ∀ ρ' l', ρ' b = .own l' → TR F ρ' w l' q v := by
 cases h with
 | nilo => exact .inl fun _ _ => .nilo
 | own hr hn he ha hc hs => exact .inr ⟨_, hr, fun _ _ e => .own e hn he ha hc hs⟩
 | buf h e =>
  cases h with
  | own hr hn he ha hc hs => exact .inr ⟨_, hr, fun _ _ e' => .buf (.own e' hn he ha hc hs) e⟩
 | _ => simp [T.mov] at hq
theorem mov_one {q : T} {l : Lc} {v : Value} (h : TR F ρ w l q v) (hq : q.mov = true) : v.oneCell' = true ∧ v.cells.toList = [v] := by
 cases h with
 | nilo => exact ⟨rfl, rfl⟩
 | own => exact ⟨rfl, rfl⟩
 | buf h e => cases h; exact ⟨rfl, rfl⟩
 | _ => simp [T.mov] at hq
theorem mov_pass {x : Tmp} {q : T} (h : SR N F ρ s a w) (e : s.env x = q) (hq : q.mov = true) (l' : Lc) :
  ∃ ρ', SR N F ρ' (s.put (some x) .undef) a w ∧ Ext F ρ w F ρ' w ∧ TR F ρ' w l' q (a.tmps.getD x undef) := by
 have hx := h.tmp x
 rw [e] at hx
 rcases mov_inv hx hq with g | ⟨b, hr, g⟩
 ·exact ⟨ρ, h.pz _, Ext.refl F ρ w, g _ _⟩
 ·refine ⟨fun c => if c = b then .own l' else ρ c, ⟨?_, h.size, h.defers, fun t => ?_⟩, Ext.role hr, g _ _ (if_pos rfl)⟩
  ·exact h.wr.role hr _ fun i o ho => ⟨o, ho, fun c hc => hc.keep fun off => k'2d hr (by simp)⟩
  ·simp only [S.put]
   cases ht : Nat.beq t x with
   | true => exact .undef
   | false => exact (h.tmp t).keep (k'2d hr (by rintro ⟨⟩; simp at ht))
theorem own_pass {x : Tmp} {z : Bool} {es : List D} (h : SR N F ρ s a w) (e : s.env x = .own z es) (l' : Lc) :
  ∃ ρ', SR N F ρ' (s.put (some x) .undef) a w ∧ Ext F ρ w F ρ' w ∧ TR F ρ' w l' (.own z es) (a.tmps.getD x undef) := mov_pass h e rfl l'
theorem assignOwn_sound {x : Tmp} {z : Bool} {es : List D} (ho : o.op = .assign (.tmp x) ∨ o.op = .move (.tmp x)) (e : s.val (.tmp x) = .own z es) (hd : ∀ d, o.dst = some d → d < N) (h : SR N F ρ s a w)
  {next : Act → World → Prop} {Q : Exit → Act → World → Prop} (k : Then X N F ρ w a o.dst (s.app o.dst ⟨.own z es, some x, s.H⟩) next) : o.wp X.P a w next Q := by
 have hrun : (execOp a.eval o).run X.P w = .ok (.value (a.tmps.getD x undef)) w := by rcases ho with ho | ho <;> simp [execOp, ho, Act.eval]
 cases hdst : o.dst with
 | none =>
  refine k'm hrun (k F ρ _ w ?_ (Ext.refl F ρ w))
  rw [hdst]; exact h.pz (some x)
 | some d =>
  obtain ⟨ρ', h1, h2, h3⟩ := own_pass h e (.tmp d)
  refine k'm hrun (k F ρ' _ w ?_ h2)
  rw [hdst]
  exact h1.put (fun d' e' => by injection e' with e'; subst e'; exact hd d hdst) (fun d' e' => by injection e' with e'; subst e'; exact h3)
theorem share_own {l : Lc} {z : Bool} {es : List D} {v : Value} (h : TR F ρ w l (.own z es) v) : DR F (.sl z es) v := by
 cases h
 ·exact .nils
 ·exact .sl ‹_› ‹_› ‹_›
theorem moveShare_sound {x : Operand} {z : Bool} {es : List D} (ho : o.op = .move x) (e : s.val x = .own z es) (hd : ∀ d, o.dst = some d → d < N) (h : SR N F ρ s a w)
  {next : Act → World → Prop} {Q : Exit → Act → World → Prop} (k : Then X N F ρ w a o.dst (s.app o.dst ⟨.d (.sl z es), none, s.H⟩) next) : o.wp X.P a w next Q := by
 obtain ⟨l, hx⟩ := h.val x
 rw [e] at hx
 exact k'm (v := a.eval x) (by simp [execOp, ho]) (k F ρ _ w (h.put hd fun d _ => .d (share_own hx)) (Ext.refl F ρ w))
theorem put_obj {d : Option Tmp} {n : Nat} {b : Nat} {s' : S} (h : SR N F ρ s' a w) (hb : ρ b = .obj n) (hd : ∀ e, d = some e → e < N) : SR N F ρ (s'.put d (.ptr n 0)) (a.put d (.pointer (some ⟨b, 0, none⟩))) w :=
 h.put hd fun _ _ => .ptr hb
theorem zc_DR {d : D} (h : zcOk d = true) : DR F d (zc d) := by
 unfold zcOk at h
 split at h <;> first | (simp at h; done) | constructor
theorem zv_DR {i : Ti} (h : zvOk i = true) : DR F i.zero (zv i.zero) := by
 unfold zvOk at h
 split at h
 ·rename_i cs e
  simp at h
  rw [e]
  have : DRs F cs (cs.map zc) := by
   have h1 := h.1.2
   clear h e
   induction cs with
   | nil => exact .nil
   | cons a z ih => exact .cons (zc_DR (h1 a (by simp))) (ih fun x hx => h1 x (by simp [hx]))
  exact .agg this
 ·rename_i e
  simp at h
  generalize i.zero = d at *
  have := zc_DR (F := F) h.1.2
  cases d <;> first | exact this | exact absurd rfl (e _)
theorem alloc_sound {t : TypeId} {i : Ti} (ho : o.op = .alloc t) (hi : X.tab t = some i) (hd : ∀ d, o.dst = some d → d < N) (h : SR N F ρ s a w)
  {next : Act → World → Prop} {Q : Exit → Act → World → Prop} (k : Then X N F ρ w a o.dst (s.app o.dst ⟨.ptr s.H.length 0, none, s.H ++ [.mu (i.zero.cells.map T.ofD)]⟩) next) : o.wp X.P a w next Q := by
 have hz := (zv_DR (F := F) (tab_zok hi)).cells
 obtain ⟨h1, h2, h3⟩ := h.new t hz
 refine k'm (v := .pointer (some ⟨w.heap.size, 0, none⟩)) (w' := w.alloc (.cells (zv i.zero).cells t)) ?_ (k F _ _ _ ?_ (by simpa using h2))
 ·simp only [execOp, ho, Instr.alloc, Sem.run_bind, k'4k hi, Result.andThen_ok, newVar, newRow, run_newObj, Sem.run_pure]; rfl
 ·have := put_obj h1 h3 hd; simpa [S.app, S.put] using this
theorem box_sound {t : TypeId} {x : Operand} {y : D} (ho : o.op = .box t x) (hy : (s.val x).share = some y) (hd : ∀ d, o.dst = some d → d < N) (h : SR N F ρ s a w)
  {next : Act → World → Prop} {Q : Exit → Act → World → Prop} (k : Then X N F ρ w a o.dst (s.app o.dst ⟨.ptr s.H.length 0, none, s.H ++ [.mu (y.cells.map T.ofD)]⟩) next) : o.wp X.P a w next Q := by
 obtain ⟨l, hx⟩ := h.val x
 have hz := (hx.share hy).cells
 obtain ⟨h1, h2, h3⟩ := h.new t hz
 refine k'm (v := .pointer (some ⟨w.heap.size, 0, none⟩)) (w' := w.alloc (.cells (a.eval x).cells t)) ?_ (k F _ _ _ ?_ (by simpa using h2))
 ·simp only [execOp, ho, Instr.box, Sem.run_bind, Result.andThen_ok, newVar, newRow, run_newObj, Sem.run_pure]; rfl
 ·have := put_obj h1 h3 hd; simpa [S.app, S.put] using this
theorem shares_get {cs : List T} {ds : List D} (h : shares cs = some ds) : cs.length = ds.length ∧ ∀ (i : Nat) (t : T), cs[i]? = some t → ∃ d, ds[i]? = some d ∧ t.share = some d := by
 induction cs generalizing ds with
 | nil => simp [shares] at h; subst h; simp
 | cons t ts ih =>
  unfold shares at h
  split at h <;> simp at h
  subst h; rename_i x xs e1 e2
  obtain ⟨h1, h2⟩ := ih e2
  refine ⟨by simp [h1], fun i u hu => ?_⟩
  cases i with
  | zero => simp at hu; subst hu; exact ⟨x, rfl, e1⟩
  | succ i => simp at hu ⊢; exact h2 i u hu
theorem obj_cells {i b : Nat} {cs : List T} {ds : List D} (hr : ObR F ρ w i b (.mu cs)) (off : Nat) (h : shares (cs.drop off) = some ds) :
  ∃ vs : List Value, DRs F ds vs ∧ ∀ j v, vs[j]? = some v → w.cell? ⟨b, off + j, none⟩ = some v := by
 obtain ⟨hl, hg⟩ := shares_get h
 have key : ∀ j, j < ds.length → ∃ v, w.cell? ⟨b, off + j, none⟩ = some v ∧ ∀ d, ds[j]? = some d → DR F d v := by
  intro j hj
  have hj' : j < (cs.drop off).length := by omega
  obtain ⟨d, h1, h2⟩ := hg j _ (List.getElem?_eq_getElem hj')
  have h3 : cs[off + j]? = some (cs.drop off)[j] := by rw [← List.getElem?_drop]; exact List.getElem?_eq_getElem hj'
  obtain ⟨-, -, v, h4, h5⟩ := hr _ _ h3
  exact ⟨v, h4, fun d' e => by rw [h1] at e; injection e with e; subst e; exact h5.share h2⟩
 refine ⟨(List.range ds.length).map fun j => (w.cell? ⟨b, off + j, none⟩).getD undef, ?_, ?_⟩
 ·refine DRs.of_get _ _ (by simp) fun j d u e1 e2 => ?_
  have hj : j < ds.length := by rcases Nat.lt_or_ge j ds.length with g | g; exact g; rw [List.getElem?_eq_none g] at e1; simp at e1
  obtain ⟨v, h1, h2⟩ := key j hj
  simp [hj, h1] at e2
  subst e2
  exact h2 d e1
 ·intro j v e
  have hj : j < ds.length := by rcases Nat.lt_or_ge j ds.length with g | g; exact g; (rw [List.getElem?_eq_none (by simpa using g)] at e; simp at e)
  obtain ⟨u, h1, h2⟩ := key j hj
  simp [hj, h1] at e
  rw [h1, e]
theorem k'3e {t : TypeId} {i : Ti} (hi : X.tab t = some i) (ha : i.ty.isAgg = true) {b off : Nat} {vs : List Value} (hl : vs.length = i.size) (h : ∀ j v, vs[j]? = some v → w.cell? ⟨b, off + j, none⟩ = some v) :
  (loadVar t ⟨b, off, none⟩).run X.P w = .ok (.agg vs.toArray) w := by
 have := run_loadCells_list (P := X.P) w ⟨b, off, none⟩ vs (fun j v e => by rw [k'28]; exact h j v e)
 rw [hl] at this
 simp [loadVar, run_agg hi, ha, k'30 hi, this]
theorem k'31 {t : TypeId} {i : Ti} (hi : X.tab t = some i) (ha : i.ty.isAgg = false) {b off : Nat} {v : Value} (h : w.cell? ⟨b, off, none⟩ = some v) :
  (loadVar t ⟨b, off, none⟩).run X.P w = .ok v w := by
 simp [loadVar, run_agg hi, ha, h]
theorem obj_cells_take {i b : Nat} {cs : List T} {ds : List D} (hr : ObR F ρ w i b (.mu cs)) (off n : Nat) (h : shares ((cs.drop off).take n) = some ds) :
  ∃ vs : List Value, DRs F ds vs ∧ ∀ j v, vs[j]? = some v → w.cell? ⟨b, off + j, none⟩ = some v := by
 have hr' : ObR F ρ w i b (.mu (cs.take (off + n))) := fun k t e => hr k t (by
  rw [List.getElem?_take] at e; split at e <;> simp_all)
 refine obj_cells hr' off ?_
 rw [List.drop_take, Nat.add_sub_cancel_left]; exact h
theorem part_of {t : TypeId} {i : Ti} (hi : X.tab t = some i) {cs : List D} {off b o : Nat} {vs : List Value} {y : D} (h : DRs F cs vs) (hA : ∀ j v, vs[j]? = some v → w.cell? ⟨b, o + j, none⟩ = some v) (e : partV i cs off = some y) :
  ∃ q, DR F y q ∧ (loadVar t ⟨b, o + off, none⟩).run X.P w = .ok q w := by
 unfold partV at e
 split at e
 ·rename_i ha
  split at e <;> simp at e
  subst e; rename_i hle
  refine ⟨_, .agg ((h.drop off).take i.size), k'3e hi ha ?_ ?_⟩
  ·have := h.length
   simp; omega
  ·intro j v e
   rw [List.getElem?_take] at e
   split at e <;> simp at e
   rw [Nat.add_assoc]
   exact hA _ _ e
 ·rename_i ha
  obtain ⟨u, h1, h2⟩ := h.get e
  exact ⟨u, h2, k'31 hi (by simpa using ha) (hA _ _ h1)⟩
theorem loadV_ok {t : TypeId} {i : Ti} {x : T} {u : Value} {y : D} {l : Lc} {H : List Ob} (hi : X.tab t = some i) (hw : WR F ρ w H) (hx : TR F ρ w l x u) (h : loadV i H x = some y) :
  ∃ q, DR F y q ∧ (Instr.loadAt t u).run X.P w = .ok q w := by
 unfold loadV at h
 split at h
 ·rename_i j off
  obtain ⟨b, hb, rfl⟩ := hx.inv_ptr
  obtain ⟨ob, h1, h2⟩ := hw.obj b j hb
  rw [h1] at h
  cases ob with
  | mu cs =>
   simp only at h
   split at h
   ·rename_i ha
    split at h
    ·rename_i ds hds
     split at h <;> simp at h
     subst h; rename_i hl
     obtain ⟨vs, h3, h4⟩ := obj_cells_take h2 off i.size hds
     exact ⟨_, .agg h3, by simp [Instr.loadAt, Instr.sureAddr, k'3e hi ha (by rw [← h3.length]; exact hl) h4]⟩
    ·simp at h
   ·rename_i ha
    split at h
    ·rename_i tt ht
     obtain ⟨-, -, v, h3, h4⟩ := h2 off tt ht
     exact ⟨v, h4.share h, by simp [Instr.loadAt, Instr.sureAddr, k'31 hi (by simpa using ha) h3]⟩
    ·simp at h
  | fro cs =>
   obtain ⟨vs, h3, h4⟩ := h2
   obtain ⟨q, h5, h6⟩ := part_of (w := w) (b := b) (o := 0) hi h3 (fun j v e => hw.fix _ _ _ (h4 j v e)) h
   exact ⟨q, h5, by rw [Nat.zero_add] at h6; simp [Instr.loadAt, Instr.sureAddr, h6]⟩
 ·rename_i cs
  obtain ⟨b, off, vs, rfl, h3, h4⟩ := hx.inv_d.inv_box
  obtain ⟨q, h5, h6⟩ := part_of (w := w) (b := b) (o := off) hi h3 (fun j v e => hw.fix _ _ _ (h4 j v e)) h
  exact ⟨q, h5, by rw [Nat.add_zero] at h6; simp [Instr.loadAt, Instr.sureAddr, h6]⟩
 ·simp at h
theorem load_sound {t : TypeId} {i : Ti} {x : Operand} {y : D} (ho : o.op = .load t x) (hi : X.tab t = some i) (hl : loadV i s.H (s.val x) = some y) (hd : ∀ d, o.dst = some d → d < N) (h : SR N F ρ s a w)
  {next : Act → World → Prop} {Q : Exit → Act → World → Prop} (k : Then X N F ρ w a o.dst (s.app o.dst ⟨.d y, none, s.H⟩) next) : o.wp X.P a w next Q := by
 obtain ⟨l, hx⟩ := h.val x
 obtain ⟨q, h1, h2⟩ := loadV_ok hi h.wr hx hl
 exact k'm (v := q) (by simp [execOp, ho, h2]) (k F ρ _ w (h.put hd fun d _ => .d h1) (Ext.refl F ρ w))
end
open Go
theorem D.flat_one {F : Fr} {d : D} {v : Value} (h : DR F d v) (e : d.flat = true) : v.oneCell' = true := by
 cases h <;> first | rfl | simp [D.flat] at e
theorem fits_cells {F : Fr} {n : Nat} {d : D} {v : Value} (h : DR F d v) (e : d.fits n = true) : DRs F d.cells v.cells.toList ∧ v.cells.toList.length = n ∧ ∀ u ∈ v.cells.toList, u.oneCell' = true := by
 simp [D.fits] at e
 have hc := h.cells
 refine ⟨hc, by rw [← hc.length]; exact e.1, fun u hu => ?_⟩
 obtain ⟨j, hj, rfl⟩ := List.getElem_of_mem hu
 have hj' : j < d.cells.length := by rw [hc.length]; exact hj
 obtain ⟨u', h1, h2⟩ := hc.get (List.getElem?_eq_getElem hj')
 rw [List.getElem?_eq_getElem hj] at h1
 injection h1 with h1
 rw [h1]
 exact D.flat_one h2 (e.2 _ (List.getElem_mem hj'))
section
variable {X : Ctx} {N : Nat} {F F' : Fr} {ρ ρ' : Nat → Role} {s : S} {a : Act} {w w' : World} {o : Oper}
theorem shape_setCell (w : World) (p : Addr) (v : Value) (c : Nat) : (w.setCell p v).shape? c = w.shape? c := by
 simp only [World.shape?, World.setCell, Array.getElem?_modify]
 by_cases e : p.block = c
 ·subst e
  rw [if_pos rfl]
  cases w.heap[p.block]? with
  | none => rfl
  | some o =>
   cases o with
   | cells a b d => simp only [Option.map_some]; split <;> simp
   | _ => rfl
 ·rw [if_neg e]
theorem shape_setCells (b : Nat) : ∀ (vs : List Value) (o : Nat) (w : World) (c : Nat), (w.setCells b o vs).shape? c = w.shape? c
 | [], _, _, _ => rfl
 | v :: r, o, w, c => by rw [World.setCells, shape_setCells b r _ _ _, shape_setCell]
structure Same (w w' : World) (b lo hi : Nat) : Prop where
 size : w'.heap.size = w.heap.size
 os : w'.os = w.os
 tape : w'.tape = w.tape
 output : w'.output = w.output
 heap : ∀ c, c ≠ b → w'.heap[c]? = w.heap[c]?
 frozen : ∀ c off, w'.frozen? ⟨c, off, none⟩ = w.frozen? ⟨c, off, none⟩
 cell : ∀ c off, (c = b → off < lo ∨ hi ≤ off) → w'.cell? ⟨c, off, none⟩ = w.cell? ⟨c, off, none⟩
 some : ∀ c off v, w.cell? ⟨c, off, none⟩ = some v → ∃ u, w'.cell? ⟨c, off, none⟩ = some u
 shp : ∀ c x, w.shape? c = .some x → w'.shape? c = .some x
theorem setCells_heap (b : Nat) : ∀ (vs : List Value) (o : Nat) (w : World) (c : Nat), c ≠ b → (w.setCells b o vs).heap[c]? = w.heap[c]?
 | [], _, _, _, _ => rfl
 | v :: r, o, w, c, h => by rw [World.setCells, setCells_heap b r _ _ _ h, RowKit.Below.heap_setCell _ _ _ _ h]
theorem k'4c (b : Nat) : ∀ (vs : List Value) (o : Nat) (w : World), (w.setCells b o vs).heap.size = w.heap.size ∧ (w.setCells b o vs).os = w.os ∧ (w.setCells b o vs).tape = w.tape ∧ (w.setCells b o vs).output = w.output
 | [], _, _ => ⟨rfl, rfl, rfl, rfl⟩
 | v :: r, o, w => by
  obtain ⟨h1, h2, h3, h4⟩ := k'4c b r (o + 1) (w.setCell ⟨b, o, none⟩ v)
  exact ⟨by rw [World.setCells, h1]; simp, h2, h3, h4⟩
theorem same_setCells (w : World) (b o : Nat) (vs : List Value) : Same w (w.setCells b o vs) b o (o + vs.length) := by
 obtain ⟨h1, h2, h3, h4⟩ := k'4c b vs o w
 refine ⟨h1, h2, h3, h4, fun c hc => setCells_heap b vs o w c hc, fun c off => World.frozen?_setCells b vs o w _, fun c off h => World.cell?_setCells_out b vs o w _ (fun e _ => h e), fun c off v h => ?_, fun c x e => by rw [shape_setCells]; exact e⟩
 by_cases hin : c = b ∧ o ≤ off ∧ off < o + vs.length
 ·obtain ⟨rfl, h5, h6⟩ := hin
  have : ∀ (vs : List Value) (o : Nat) (w : World) (off : Nat), (∃ v, w.cell? ⟨c, off, none⟩ = some v) → ∃ u, (w.setCells c o vs).cell? ⟨c, off, none⟩ = some u := by
   intro vs
   induction vs with
   | nil => intro o w off h; exact h
   | cons x r ih =>
    intro o w off ⟨v, h⟩
    refine ih (o + 1) _ off ?_
    by_cases e : o = off
    ·subst e; exact ⟨x, World.cell?_setCell_same _ _ _ h⟩
    ·exact ⟨v, by rw [World.cell?_setCell_other _ _ _ _ (by simpa using e)]; exact h⟩
  exact this vs o w off ⟨v, h⟩
 ·exact ⟨v, by rw [World.cell?_setCells_out b vs o w _ (fun e _ => by simp only at e; show off < o ∨ o + vs.length ≤ off; omega)]; exact h⟩
theorem keeps_same {b lo hi : Nat} (m : Same w w' b lo hi) (l : Lc) : Keeps F ρ w F ρ w' l :=
 ⟨Sub.refl F, fun _ _ e => e, fun c e => ⟨e, fun off h1 h2 ⟨v, h3⟩ => ⟨h1, by rw [m.frozen]; exact h2, m.some _ _ _ h3⟩⟩, m.shp⟩
theorem Ext.same {b lo hi : Nat} (m : Same w w' b lo hi) (hb : ρ b ≠ .free) : Ext F ρ w F ρ w' :=
 ⟨Sub.refl F, Nat.le_of_eq m.size.symm, m.os, m.tape, m.output, fun c hc e => ⟨e, m.heap c (by rintro rfl; exact hb e), fun _ => rfl⟩, fun _ _ e => e, m.shp⟩
theorem SR.store (h : SR N F ρ s a w) {j off b : Nat} {cs : List T} {ts : List T} {vs : List Value} (hb : ρ b = .obj j) (hj : s.H[j]? = some (.mu cs)) (hle : off + ts.length ≤ cs.length) (hlen : ts.length = vs.length)
  (hts : ∀ (k : Nat) t v, ts[k]? = some t → vs[k]? = some v → TR F ρ w (.cell j (off + k)) t v) :
  SR N F ρ { s with H := s.H.set j (.mu (lay cs off ts)) } a (w.setCells b off vs) ∧ Ext F ρ w F ρ (w.setCells b off vs) ∧
   (∀ k, k < vs.length → (w.cell? ⟨b, off + k, none⟩).isSome = true) ∧ (∀ k, k < vs.length → w.frozen? ⟨b, off + k, none⟩ = false) := by
 obtain ⟨ob, h1, h2⟩ := h.wr.obj b j hb
 rw [hj] at h1; injection h1 with h1; subst h1
 have m := same_setCells w b off vs
 have hk := fun l => keeps_same (F := F) (ρ := ρ) m l
 have hex : ∀ k, k < vs.length → F b (off + k) = none ∧ w.frozen? ⟨b, off + k, none⟩ = false ∧ ∃ v, w.cell? ⟨b, off + k, none⟩ = some v := by
  intro k hk'
  have hlt : off + k < cs.length := by omega
  obtain ⟨g1, g2, v, g3, -⟩ := h2 (off + k) _ (List.getElem?_eq_getElem hlt)
  exact ⟨g1, g2, v, g3⟩
 have hsome : ∀ k, k < vs.length → (w.cell? ⟨b, off + k, none⟩).isSome = true := fun k hk' => by obtain ⟨-, -, v, g⟩ := hex k hk'; rw [g]; rfl
 refine ⟨⟨⟨fun c o v e => ?_, fun c e => ?_, fun c i e => ?_, h.wr.uniq⟩, h.size, h.defers, fun t => (h.tmp t).keep (hk _)⟩, Ext.same m (by rw [hb]; simp), hsome, fun k hk' => (hex k hk').2.1⟩
 ·rw [m.cell c o (fun ec => ?_)]
  ·exact h.wr.fix c o v e
  ·subst ec
   rcases Nat.lt_or_ge o off with g | g
   ·exact .inl g
   ·right
    rcases Nat.lt_or_ge o (off + vs.length) with g2 | g2
    ·have := (hex (o - off) (by omega)).1
     rw [show off + (o - off) = o from by omega, e] at this; simp at this
    ·exact g2
 ·have := h.wr.lt c e; rw [m.size]; exact this
 ·obtain ⟨oo, g1, g2⟩ := h.wr.obj c i e
  by_cases ei : i = j
  ·subst ei
   have ec := h.wr.uniq c b i e hb; subst ec
   rw [hj] at g1; injection g1 with g1; subst g1
   refine ⟨.mu (lay cs off ts), by
    have : i < s.H.length := by rcases Nat.lt_or_ge i s.H.length with g | g; exact g; rw [List.getElem?_eq_none g] at hj; simp at hj
    simp [this], ?_⟩
   intro o t ht
   unfold lay at ht
   rcases Nat.lt_or_ge o off with g | g
   ·rw [List.getElem?_append_left (by simp; omega), List.getElem?_take, if_pos g] at ht
    obtain ⟨k1, k2, v, k3, k4⟩ := g2 o t ht
    exact ⟨k1, by rw [m.frozen]; exact k2, v, by rw [m.cell _ _ (fun _ => .inl g)]; exact k3, k4.keep (hk _)⟩
   ·rw [List.getElem?_append_right (by simp; omega)] at ht
    simp only [List.length_take, Nat.min_eq_left (show off ≤ cs.length by omega)] at ht
    rcases Nat.lt_or_ge (o - off) ts.length with g3 | g3
    ·rw [List.getElem?_append_left g3] at ht
     have hv : o - off < vs.length := by omega
     have e1 : vs[o - off]? = some vs[o - off] := List.getElem?_eq_getElem hv
     have r1 := hts _ _ _ ht e1
     rw [show off + (o - off) = o from by omega] at r1
     obtain ⟨k1, k2, -⟩ := hex (o - off) hv
     rw [show off + (o - off) = o from by omega] at k1 k2
     have := World.cell?_setCells_in c vs off w hsome (o - off) hv
     rw [show off + (o - off) = o from by omega] at this
     exact ⟨k1, by rw [m.frozen]; exact k2, _, this, r1.keep (hk _)⟩
    ·rw [List.getElem?_append_right g3, List.getElem?_drop] at ht
     rw [show off + ts.length + (o - off - ts.length) = o from by omega] at ht
     obtain ⟨k1, k2, v, k3, k4⟩ := g2 o t ht
     exact ⟨k1, by rw [m.frozen]; exact k2, v, by rw [m.cell _ _ (fun _ => .inr (by omega))]; exact k3, k4.keep (hk _)⟩
  ·refine ⟨oo, by rw [List.getElem?_set_ne (Ne.symm ei)]; exact g1, ?_⟩
   have hcb : c ≠ b := by rintro rfl; rw [hb] at e; injection e with e; exact ei e.symm
   cases oo with
   | mu cs' =>
    intro o t ht
    obtain ⟨k1, k2, v, k3, k4⟩ := g2 o t ht
    exact ⟨k1, by rw [m.frozen]; exact k2, v, by rw [m.cell _ _ (fun e => absurd e hcb)]; exact k3, k4.keep (hk _)⟩
   | fro cs' => exact g2
theorem k'4l {t : TypeId} {i : Ti} (hi : X.tab t = some i) {b off : Nat} {v : Value} (hl : v.cells.toList.length = i.size) (h1 : ∀ k, k < v.cells.toList.length → (w.cell? ⟨b, off + k, none⟩).isSome = true)
  (h2 : ∀ k, k < v.cells.toList.length → w.frozen? ⟨b, off + k, none⟩ = false) (h3 : ∀ u ∈ v.cells.toList, u.oneCell' = true) :
  (storeVar t ⟨b, off, none⟩ v).run X.P w = .ok () (w.setCells b off v.cells.toList) := by
 have := run_storeCells_cells (P := X.P) b off v.cells.toList 0 w (by simpa using h1) (by simpa using h2) h3
 simp only [Nat.add_zero] at this
 simp only [storeVar, Sem.run_bind, k'30 hi, Result.andThen_ok]
 rw [if_neg (by simpa using hl)]
 exact this
theorem store_sound {t : TypeId} {i : Ti} {x y : Operand} {j off : Nat} {cs : List T} {u : D} (ho : o.op = .store t x y) (hi : X.tab t = some i) (hx : s.val x = .ptr j off) (hj : s.H[j]? = some (.mu cs)) (hy : (s.val y).share = some u)
  (hf : u.fits i.size = true) (hle : off + i.size ≤ cs.length) (hdst : o.dst = none) (h : SR N F ρ s a w)
  {next : Act → World → Prop} {Q : Exit → Act → World → Prop} (k : Then X N F ρ w a o.dst (s.app o.dst ⟨.undef, none, s.H.set j (.mu (lay cs off (u.cells.map T.ofD)))⟩) next) : o.wp X.P a w next Q := by
 obtain ⟨lx, hx'⟩ := h.val x
 rw [hx] at hx'
 obtain ⟨b, hb, ev⟩ := hx'.inv_ptr
 obtain ⟨ly, hy'⟩ := h.val y
 have hd := hy'.share hy
 obtain ⟨f1, f2, f3⟩ := fits_cells hd hf
 obtain ⟨g1, g2, g3, g4⟩ := h.store (ts := u.cells.map T.ofD) (vs := (a.eval y).cells.toList) hb hj (by rw [List.length_map, f1.length, f2]; exact hle) (by rw [List.length_map, f1.length])
  (fun k t v e1 e2 => by
   simp at e1
   obtain ⟨d, e3, rfl⟩ := e1
   obtain ⟨u', e4, e5⟩ := f1.get e3
   rw [e2] at e4; injection e4 with e4; subst e4
   exact ofD_TR e5)
 refine wp_skip' (w' := w.setCells b off (a.eval y).cells.toList) ?_ (k F ρ _ _ ?_ g2)
 ·simp only [execOp, ho, Instr.storeAt, ev, Instr.sureAddr, Sem.run_bind, Sem.run_pure, Result.andThen_ok, k'4l hi f2 g3 g4 f3]
 ·rw [hdst]; exact g1
theorem storeMov_sound {t : TypeId} {i : Ti} {x : Operand} {y : Tmp} {j off : Nat} {cs : List T} {q : T} (hq : q.mov = true) (ho : o.op = .store t x (.tmp y)) (hi : X.tab t = some i) (hx : s.val x = .ptr j off) (hj : s.H[j]? = some (.mu cs)) (hy : s.val (.tmp y) = q)
  (hs : i.size = 1) (hle : off < cs.length) (hdst : o.dst = none) (h : SR N F ρ s a w)
  {next : Act → World → Prop} {Q : Exit → Act → World → Prop} (k : Then X N F ρ w a o.dst (s.app o.dst ⟨.undef, some y, s.H.set j (.mu (cs.set off q))⟩) next) : o.wp X.P a w next Q := by
 obtain ⟨lx, hx'⟩ := h.val x
 rw [hx] at hx'
 obtain ⟨b, hb, ev⟩ := hx'.inv_ptr
 obtain ⟨ρ1, p1, p2, p3⟩ := mov_pass h hy hq (.cell j off)
 have hb1 := p2.obj b j hb
 have hone : (a.tmps.getD y undef).oneCell' = true ∧ (a.tmps.getD y undef).cells.toList = [a.tmps.getD y undef] := mov_one p3 hq
 obtain ⟨g1, g2, g3, g4⟩ := p1.store (cs := cs) (off := off) (j := j) (ts := [q]) (vs := (a.tmps.getD y undef).cells.toList) hb1 hj (by simp; omega) (by rw [hone.2]; rfl)
  (fun k t v e1 e2 => by
   cases k with
   | zero => rw [hone.2] at e2; simp only [List.getElem?_cons_zero, Option.some.injEq] at e1 e2; subst e1; subst e2; exact p3
   | succ k => simp at e1)
 refine wp_skip' (w' := w.setCells b off (a.tmps.getD y undef).cells.toList) ?_ (k F ρ1 _ _ ?_ (p2.trans g2))
 ·have := k'4l hi (by rw [hone.2, hs]; rfl) g3 g4 (by rw [hone.2]; simpa using hone.1)
  simp only [execOp, ho, Instr.storeAt, ev, Instr.sureAddr, Sem.run_bind, Sem.run_pure, Result.andThen_ok]
  rw [show a.eval (.tmp y) = a.tmps.getD y undef from rfl, this]
  rfl
 ·rw [hdst]
  have : lay cs off [q] = cs.set off q := by
   unfold lay
   rw [List.set_eq_take_append_cons_drop, if_pos hle]
   rfl
  rw [this] at g1
  exact g1
theorem loadMov_sound {t : TypeId} {i : Ti} {x : Operand} {j off : Nat} {cs : List T} {q : T} (hq : q.mov = true) (ho : o.op = .load t x) (hi : X.tab t = some i) (ha : i.ty.isAgg = false) (hx : s.val x = .ptr j off) (hj : s.H[j]? = some (.mu cs)) (hc : cs[off]? = some q)
  (hd : ∀ d, o.dst = some d → d < N) (h : SR N F ρ s a w)
  {next : Act → World → Prop} {Q : Exit → Act → World → Prop} (k : Then X N F ρ w a o.dst (s.app o.dst ⟨q, none, s.H.set j (.mu (cs.set off .undef))⟩) next) : o.wp X.P a w next Q := by
 obtain ⟨lx, hx'⟩ := h.val x
 rw [hx] at hx'
 obtain ⟨b, hb, ev⟩ := hx'.inv_ptr
 obtain ⟨ob, h1, h2⟩ := h.wr.obj b j hb
 rw [hj] at h1; injection h1 with h1; subst h1
 obtain ⟨q1, q2, v, q3, q4⟩ := h2 off _ hc
 have hjl : j < s.H.length := by rcases Nat.lt_or_ge j s.H.length with g | g; exact g; rw [List.getElem?_eq_none g] at hj; simp at hj
 have hrun : (execOp a.eval o).run X.P w = .ok (.value v) w := by
  simp [execOp, ho, ev, Instr.loadAt, Instr.sureAddr, k'31 hi ha q3]
 have strike : ∀ (ρ' : Nat → Role), (∀ off', off' ≠ off → Keeps F ρ w F ρ' w (.cell j off')) → (∀ i off', i ≠ j → Keeps F ρ w F ρ' w (.cell i off')) →
   ∀ i o, s.H[i]? = some o → ∃ o', (s.H.set j (.mu (cs.set off .undef)))[i]? = some o' ∧ ∀ c, ObR F ρ w i c o → ObR F ρ' w i c o' := by
  intro ρ' hk1 hk2 i o hio
  by_cases e : i = j
  ·subst e
   rw [hj] at hio; injection hio with hio; subst hio
   refine ⟨.mu (cs.set off .undef), by simp [hjl], fun c hr off' t' ht' => ?_⟩
   by_cases eo : off' = off
   ·subst eo
    obtain ⟨r1, r2, u, r3, -⟩ := hr off' _ hc
    have : t' = .undef := by
     have hl : off' < cs.length := by rcases Nat.lt_or_ge off' cs.length with g | g; exact g; rw [List.getElem?_eq_none g] at hc; simp at hc
     rw [List.getElem?_set_self hl] at ht'; injection ht' with ht'; exact ht'.symm
    subst this
    exact ⟨r1, r2, u, r3, .undef⟩
   ·rw [List.getElem?_set_ne (Ne.symm eo)] at ht'
    obtain ⟨r1, r2, u, r3, r4⟩ := hr off' _ ht'
    exact ⟨r1, r2, u, r3, r4.keep (hk1 off' eo)⟩
  ·exact ⟨o, by rw [List.getElem?_set_ne (Ne.symm e)]; exact hio, fun c hr => hr.keep fun off' => hk2 i off' e⟩
 rcases mov_inv q4 hq with g | ⟨b', hr, g⟩
 ·refine k'm hrun (k F ρ _ w ?_ (Ext.refl F ρ w))
  have hk : ∀ l, Keeps F ρ w F ρ w l := fun l => ⟨Sub.refl F, fun _ _ e => e, fun c e => ⟨e, fun off h1 h2 h3 => ⟨h1, h2, h3⟩⟩, fun _ _ e => e⟩
  have hst := strike ρ (fun _ _ => hk _) (fun _ _ _ => hk _)
  have : SR N F ρ { s with H := s.H.set j (.mu (cs.set off .undef)) } a w :=
   ⟨⟨h.wr.fix, h.wr.lt, fun c i e => by obtain ⟨o, g1, g2⟩ := h.wr.obj c i e; obtain ⟨o', g3, g4⟩ := hst i o g1; exact ⟨o', g3, g4 c g2⟩, h.wr.uniq⟩, h.size, h.defers, h.tmp⟩
  exact this.put hd fun d _ => g _ _
 ·cases hdst : o.dst with
  | none =>
   refine k'm hrun (k F (fun c => if c = b' then .own (.tmp N) else ρ c) _ w ?_ (Ext.role hr))
   rw [hdst]
   refine ⟨h.wr.role hr _ (strike _ (fun off' e => k'2d hr (by simpa using e)) (fun i off' e => k'2d hr (by simp [e]))), h.size, h.defers, fun t => ?_⟩
   exact (h.tmp t).keep (k'2d hr (by simp))
  | some d =>
   refine k'm hrun (k F (fun c => if c = b' then .own (.tmp d) else ρ c) _ w ?_ (Ext.role hr))
   rw [hdst]
   have : SR N F (fun c => if c = b' then .own (.tmp d) else ρ c) { s with H := s.H.set j (.mu (cs.set off .undef)) } a w :=
    ⟨h.wr.role hr _ (strike _ (fun off' e => k'2d hr (by simpa using e)) (fun i off' e => k'2d hr (by simp [e]))), h.size, h.defers, fun t => (h.tmp t).keep (k'2d hr (by simp))⟩
   refine this.put (fun d' e' => by injection e' with e'; subst e'; exact hd d hdst) (fun d' e' => ?_)
   injection e' with e'; subst e'
   exact g _ _ (if_pos rfl)
end
open Go
theorem DRe.resize {F : Fr} {n : Nat} : ∀ {sz : Nat} {es : List D} {vs : List Value}, DRe F sz es vs → (∀ e ∈ es, e.fits n = true) → DRe F n es vs
 | _, _, _, .nil, _ => .nil
 | _, _, _, .cons (e := e) h hl t, hf => by
  have h1 := hf e (by simp)
  simp [D.fits] at h1
  refine .cons h (by rw [← h.length]; exact h1.1) (t.resize fun x hx => hf x (by simp [hx]))
theorem DRe.length {F : Fr} : ∀ {sz : Nat} {es : List D} {vs : List Value}, DRe F sz es vs → vs.length = es.length * sz
 | _, _, _, .nil => by simp
 | _, _, _, .cons h hl t => by rw [List.length_append, hl, t.length, List.length_cons, Nat.add_mul]; omega
theorem DRe.append {F : Fr} : ∀ {sz : Nat} {es : List D} {vs : List Value} {xs : List D} {ws : List Value}, DRe F sz es vs → DRe F sz xs ws → DRe F sz (es ++ xs) (vs ++ ws)
 | _, _, _, _, _, .nil, k => k
 | _, _, _, _, _, .cons h hl t, k => by rw [List.append_assoc]; exact .cons h hl (t.append k)
theorem DRe.get {F : Fr} : ∀ {sz : Nat} {es : List D} {vs : List Value}, DRe F sz es vs → ∀ {i : Nat} {u : D}, es[i]? = some u → ∃ ws : List Value, DRs F u.cells ws ∧ ws.length = sz ∧ ∀ j v, ws[j]? = some v → vs[i * sz + j]? = some v
 | _, _, _, .nil, i, u, h => by simp at h
 | _, _, _, .cons hd hl t, 0, u, h => by
  simp at h; subst h
  refine ⟨_, hd, hl, fun j v e => ?_⟩
  rw [Nat.zero_mul, Nat.zero_add, List.getElem?_append_left (by rcases Nat.lt_or_ge j _ with g | g; exact g; rw [List.getElem?_eq_none g] at e; simp at e)]
  exact e
 | sz, _, _, .cons (vs := vs) hd hl t, i + 1, u, h => by
  simp at h
  obtain ⟨ws, h1, h2, h3⟩ := t.get h
  refine ⟨ws, h1, h2, fun j v e => ?_⟩
  rw [List.getElem?_append_right (by rw [hl, Nat.add_mul]; omega), hl]
  rw [show (i + 1) * sz + j - sz = i * sz + j by rw [Nat.add_mul]; omega]
  exact h3 j v e
theorem DRe.one {F : Fr} : ∀ {sz : Nat} {es : List D} {vs : List Value}, DRe F sz es vs → (∀ e ∈ es, e.fits sz = true) → ∀ u ∈ vs, u.oneCell' = true
 | _, _, _, .nil, _, u, h => by simp at h
 | _, _, _, .cons (e := e) h hl t, hf, u, hu => by
  rcases List.mem_append.1 hu with g | g
  ·have h1 := hf e (by simp)
   simp [D.fits] at h1
   obtain ⟨j, hj, rfl⟩ := List.getElem_of_mem g
   have hj' : j < e.cells.length := by rw [h.length]; exact hj
   obtain ⟨u', e1, e2⟩ := h.get (List.getElem?_eq_getElem hj')
   rw [List.getElem?_eq_getElem hj] at e1; injection e1 with e1
   rw [e1]; exact D.flat_one e2 (h1.2 _ (List.getElem_mem hj'))
  ·exact t.one (fun x hx => hf x (by simp [hx])) u g
section
variable {X : Ctx} {N : Nat} {F F' : Fr} {ρ ρ' : Nat → Role} {s : S} {a : Act} {w w' : World} {o : Oper}
theorem bytes_DRe (l : List UInt8) : DRe F 1 (l.map fun c => D.int .u8 c.toNat) (l.map fun c => Value.int .u8 c.toNat) := by
 induction l with
 | nil => exact .nil
 | cons c l ih => exact .cons (e := .int .u8 c.toNat) (vs := [.int .u8 c.toNat]) (.cons (.int _ _) .nil) rfl ih
theorem elems_ok {t : T} {v : Value} {l : Lc} {xs : List D} {n : Nat} {H : List Ob} (hw : WR F ρ w H) (h : TR F ρ w l t v) (e : t.elems = some xs) (hf : ∀ a ∈ xs, a.fits n = true) (hn : n ≠ 0) :
  ∃ ws : List Value, DRe F n xs ws ∧ (Builtin.lenOf v).run X.P w = .ok xs.length w ∧ ∀ w', (∀ b off u, F b off = some u → w'.cell? ⟨b, off, none⟩ = some u) → (Builtin.firstCells n xs.length v).run X.P w' = .ok ws.toArray w' := by
 cases h with
 | d h =>
  cases h <;> simp [T.elems] at e
  ·subst e
   rename_i s
   have hone : n = 1 ∨ s = [] := by
    cases s with
    | nil => exact .inr rfl
    | cons c s => left; have := hf (.int .u8 c.toNat) (by simp); simp [D.fits, D.cells] at this; omega
   refine ⟨s.map fun c => .int .u8 c.toNat, ?_, by simp [Builtin.lenOf, size_str], fun w' _ => ?_⟩
   ·rcases hone with rfl | rfl
    ·exact bytes_DRe s
    ·exact .nil
   ·simp only [Builtin.firstCells, Sem.run_pure, List.length_map]
    congr 1
    apply Array.ext'
    simp [ByteArray.extract, ByteArray.copySlice, List.extract_eq_take_drop, ByteArray.size]
  ·subst e; exact ⟨[], .nil, rfl, fun w' _ => by simp [Builtin.firstCells]⟩
  ·subst e
   rename_i es vs b off cap sz he ha hc
   have he' := he.resize hf
   refine ⟨vs, he', by simp [Builtin.lenOf], fun w' hfix => ?_⟩
   have := run_loadCells_list (P := X.P) w' ⟨b, off, none⟩ vs (fun j v e => by rw [k'28]; exact hfix _ _ _ (ha j v e))
   rw [he'.length] at this
   simpa [Builtin.firstCells] using this
  ·subst e
   rename_i b cap
   refine ⟨[], .nil, rfl, fun w' _ => ?_⟩
   have := run_loadCells_list (P := X.P) w' b [] (fun j v e => by simp at e)
   simpa [Builtin.firstCells] using this
 | nilo => simp [T.elems] at e; subst e; exact ⟨[], .nil, rfl, fun w' _ => by simp [Builtin.firstCells]⟩
 | own hr hne he ha hc hs =>
  simp [T.elems] at e; subst e
  rename_i vs b cap sz
  have he' := he.resize hf
  refine ⟨vs, he', by simp [Builtin.lenOf], fun w' hfix => ?_⟩
  have := run_loadCells_list (P := X.P) w' ⟨b, 0, none⟩ vs (fun j v e => by rw [k'28]; exact hfix _ _ _ (ha j v e))
  rw [he'.length] at this
  simpa [Builtin.firstCells] using this
 | _ => simp [T.elems] at e
theorem growBy_le (n : Nat) : ∀ (r c : Nat), Builtin.growBy n r c ≤ max c (n + (n + 768) / 4)
 | 0, c => by simp [Builtin.growBy]; omega
 | r + 1, c => by
  unfold Builtin.growBy
  split
  ·omega
  ·have := growBy_le n r (c + (c + 768) / 4)
   omega
theorem nextslicecap_le (n c : Nat) (h : c < n) : Builtin.nextslicecap n c ≤ 2 * n + 512 := by
 unfold Builtin.nextslicecap
 split
 ·omega
 ·split
  ·omega
  ·have := growBy_le n 4 c; omega
end
open Go
section
variable {X : Ctx} {N : Nat} {F F' : Fr} {ρ ρ' : Nat → Role} {s : S} {a : Act} {w w' : World} {o : Oper}
theorem zeroCells_len (z : Array Value) (n : Nat) : (Builtin.zeroCells z n).toList.length = n * z.size := by simp [Builtin.zeroCells]
theorem zv_size {i : Ti} (h : zvOk i = true) : (zv i.zero).cells.size = i.size := by
 unfold zvOk at h
 split at h
 ·rename_i cs e
  simp at h
  rw [e]; simp [zv, Value.cells, h.2]
 ·rename_i e
  simp at h
  rw [h.2]
  generalize i.zero = d at *
  have hz := h.1.2
  cases d with
  | agg cs => exact absurd rfl (e cs)
  | box _ => simp [zcOk] at hz
  | iface _ _ => simp [zcOk] at hz
  | fn _ _ => simp [zcOk] at hz
  | _ => rfl
theorem run_append {t e : TypeId} {i j : Ti} {ty u : TypeId} {k : Ti} {base : Option Addr} {cap : Nat} {y : Value} {es xs : List D} {vs ws : List Value} (hi : X.tab t = some i) (hty : i.ty = .sl e) (hj : X.tab e = some j) (hu : X.tab u = some k) (hk : ∀ q, k.ty ≠ .int q)
    (hsz : j.size ≠ 0) (hby : j.bytes ≤ 1024) (hmost : es.length + xs.length ≤ most) (hle : es.length ≤ cap) (hfix : ∀ b off u, F b off = some u → w.cell? ⟨b, off, none⟩ = some u)
    (hlen : (Builtin.lenOf y).run X.P w = .ok xs.length w)
    (hf1 : ∀ w', (∀ b off u, F b off = some u → w'.cell? ⟨b, off, none⟩ = some u) → (Builtin.firstCells j.size es.length (.slice base es.length cap)).run X.P w' = .ok vs.toArray w')
    (hf2 : ∀ w', (∀ b off u, F b off = some u → w'.cell? ⟨b, off, none⟩ = some u) → (Builtin.firstCells j.size xs.length y).run X.P w' = .ok ws.toArray w') (argT : Array TypeId) (h0 : argT[0]? = some t) (h1 : argT[1]? = some u)
    (hst : ∀ b off, base = some ⟨b, off, none⟩ → es.length + xs.length ≤ cap → (storeCells (⟨b, off + es.length * j.size, none⟩ : Addr) ws).run X.P w = .ok () (w.setCells b (off + es.length * j.size) ws)) (hb : ∀ p, base = some p → p.spot = none) :
    (es.length + xs.length ≤ cap ∧ (Builtin.append_ argT ty #[.slice base es.length cap, y]).run X.P w = .ok (.slice base (es.length + xs.length) cap) (match base with | none => w | some p => w.setCells p.block (p.off + es.length * j.size) ws)) ∨
    (cap < es.length + xs.length ∧ ∃ (nc : Nat) (rest : List Value), es.length + xs.length ≤ nc ∧ rest.length = (nc - (es.length + xs.length)) * j.size ∧
      (Builtin.append_ argT ty #[.slice base es.length cap, y]).run X.P w = .ok (.slice (some ⟨w.heap.size, 0, none⟩) (es.length + xs.length) nc) (w.drew.alloc (.cells (vs ++ ws ++ rest).toArray e))) := by
  obtain ⟨d, hd, hfit⟩ := k'r hi
  rw [hty] at hfit
  cases d <;> simp [Ty.fits] at hfit
  subst hfit
  obtain ⟨d1, hd1, hfit1⟩ := k'r hu
  obtain ⟨ji, hji, hjs, hjb, hjz⟩ := run_info hj w
  have hne : ∀ q, d1 ≠ .int q := by
    rintro q rfl
    cases hk' : k.ty <;> rw [hk'] at hfit1 <;> simp [Ty.fits] at hfit1
    exact absurd hk' (hk _)
  by_cases hfits : es.length + xs.length ≤ cap
  · left
    refine ⟨hfits, ?_⟩
    unfold Builtin.append_
    cases d1 <;> first | exact absurd rfl (hne _) | skip
    all_goals
     simp only [h0, h1, List.getElem?_toArray, List.getElem?_cons_zero, List.getElem?_cons_succ, Sem.run_bind, run_underlying hd, Result.andThen_ok, k'30 hj, run_underlying hd1, Sem.run_pure, Bool.false_eq_true, if_false, hlen, Bool.not_false, if_true, hfits, hf2 w hfix]
     cases base with
     | none => simp
     | some p =>
       have hs := hb p rfl
       obtain ⟨b, off, sp⟩ := p
       simp at hs; subst hs
       simp only [k'28, hst b off rfl hfits, Result.andThen_ok, Sem.run_bind, Sem.run_pure]
  · right
    have hlt : cap < es.length + xs.length := by omega
    refine ⟨hlt, ?_⟩
    have hnc := nextslicecap_le (es.length + xs.length) cap hlt
    have hroom : ¬ (Builtin.nextslicecap (es.length + xs.length) cap * j.bytes > 2 ^ 48) := by
      have : Builtin.nextslicecap (es.length + xs.length) cap * j.bytes ≤ (2 * most + 512) * 1024 := Nat.mul_le_mul (by omega) hby
      have h2 : (2 * most + 512) * 1024 ≤ 2 ^ 48 := by decide
      omega
    let q := Question.appendCap (es.length + xs.length) cap e
    refine ⟨q.cut (w.tape w.drawn q), (Builtin.zeroCells (zv j.zero).cells (q.cut (w.tape w.drawn q) - (es.length + xs.length))).toList, ?_, ?_, ?_⟩
    · simp only [q, Question.cut]; omega
    · rw [zeroCells_len, zv_size (tab_zok hj)]
    · have hmax : ¬ (((es.length + xs.length : Nat) : Int) > IntKind.i64.max ∧ (false = true ∨ j.bytes = 0)) := by
        rintro ⟨g, -⟩
        have : ((es.length + xs.length : Nat) : Int) ≤ (most : Int) := by exact_mod_cast hmost
        have h3 : (most : Int) ≤ IntKind.i64.max := by decide
        omega
      have hfixd : ∀ b off u, F b off = some u → w.drew.cell? ⟨b, off, none⟩ = some u := hfix
      obtain ⟨jd, hjd, hjds, hjdb, -⟩ := run_info hj w.drew
      unfold Builtin.append_
      cases d1 <;> first | exact absurd rfl (hne _) | skip
      all_goals
       simp only [h0, h1, List.getElem?_toArray, List.getElem?_cons_zero, List.getElem?_cons_succ, Sem.run_bind, run_underlying hd, Result.andThen_ok, k'30 hj, run_underlying hd1, Sem.run_pure, Bool.false_eq_true, if_false, hlen, Bool.not_false, if_true, hfits, hji, hjb]
       rw [if_neg (by simpa using hmax)]
       simp only [Sem.run_bind, hji, Result.andThen_ok, hjb]
       rw [if_neg hroom]
       simp only [Sem.run_bind, run_choose, Question.forced, Bool.false_eq_true, if_false, Result.andThen_ok]
       rw [show ({ w with drawn := w.drawn + 1 } : World) = w.drew from rfl]
       simp only [hjd, Sem.run_bind, Result.andThen_ok, run_askRoom, hf1 w.drew hfixd, hf2 w.drew hfixd, k'4k hj, newRow, run_newObj, Sem.run_pure]
       simp [World.alloc, q]
       congr 2
       apply Array.ext'
       simp
end
open Go
section
variable {X : Ctx} {N : Nat} {F F' : Fr} {ρ ρ' : Nat → Role} {s : S} {a : Act} {w w' : World} {o : Oper}
theorem SR.put2 {dst : Option Tmp} {x : T} {v : Value} (hw : WR F ρ w s.H) (hN : a.tmps.size = N) (hdf : a.defers = []) (ht : ∀ t, dst ≠ some t → TR F ρ w (.tmp t) (s.env t) (a.tmps.getD t undef)) (hd : ∀ d, dst = some d → d < N)
  (hx : ∀ d, dst = some d → TR F ρ w (.tmp d) x v) : SR N F ρ (s.put dst x) (a.put dst v) w := by
 refine ⟨?_, ?_, ?_, ?_⟩
 ·cases dst <;> exact hw
 ·cases dst <;> simp [Act.put, hN]
 ·cases dst <;> exact hdf
 ·intro t
  rw [tmps_put a dst v t N hN hd]
  cases dst with
  | none => simpa [S.put] using ht t (by simp)
  | some d =>
   by_cases e : t = d
   ·subst e; simpa [S.put] using hx t rfl
   ·have e1 : Nat.beq t d = false := by cases hb : Nat.beq t d with | false => rfl | true => exact absurd (Nat.eq_of_beq_eq_true hb) e
    have e2 : ¬ (some d = some t) := fun h => e (Option.some.inj h).symm
    simp only [S.put, e1, if_neg e2, cond_false]; exact ht t (fun h => e2 h)
theorem fix_none (h : WR F ρ w s.H) {b off : Nat} (hb : w.heap.size ≤ b) : F b off = none := by
 cases e : F b off with
 | none => rfl
 | some v => exact absurd (k'1c (h.fix b off v e)) (by omega)
theorem SR.row (h : SR N F ρ s a w) {w0 : World} (m0 : More w w0) (hw0 : w0.heap = w.heap) {es : List D} {vs rest : List Value} {n cap : Nat} (T0 : TypeId) (he : DRe F n es vs) (hr : rest.length = (cap - es.length) * n) (hc : es.length ≤ cap) (hne : es ≠ []) (hd : ∀ d, o.dst = some d → d < N) :
  ∃ F' ρ', SR N F' ρ' (s.put o.dst (.own false es)) (a.put o.dst (.slice (some ⟨w.heap.size, 0, none⟩) es.length cap)) (w0.alloc (.cells (vs ++ rest).toArray T0)) ∧ Ext F ρ w F' ρ' (w0.alloc (.cells (vs ++ rest).toArray T0)) := by
 have hl := he.length
 let nb := w.heap.size
 let F' : Fr := fun c off => if c = nb ∧ off < vs.length then vs[off]? else F c off
 let ρ' : Nat → Role := fun c => if c = nb then (match o.dst with | some d => .own (.tmp d) | none => .free) else ρ c
 have hsz : w0.heap.size = w.heap.size := by rw [hw0]
 have m : More w (w0.alloc (.cells (vs ++ rest).toArray T0)) := m0.trans (More.alloc _ _)
 have hs : Sub F F' := by
  intro b off v e
  have hb := k'1c (h.wr.fix b off v e)
  simp only [F']
  rw [if_neg (by simp only [nb]; omega)]; exact e
 have hF : ∀ b off, b < w.heap.size → F' b off = F b off := fun b off hb => by simp only [F']; rw [if_neg (by simp only [nb]; omega)]
 have hρ : ∀ b, b < w.heap.size → ρ' b = ρ b := fun b hb => by simp only [ρ']; rw [if_neg (by simp only [nb]; omega)]
 have hcell : ∀ off, (w0.alloc (.cells (vs ++ rest).toArray T0)).cell? ⟨nb, off, none⟩ = (vs ++ rest)[off]? := by
  intro off
  have := World.cell?_alloc_new w0 (vs ++ rest).toArray T0 off
  rw [hsz] at this
  rw [this]; simp
 have hw : WR F' ρ' (w0.alloc (.cells (vs ++ rest).toArray T0)) (s.H ++ []) := by
  refine h.wr.more m hs hF hρ ?_ ?_ ?_
  ·intro b off v hb e
   simp only [F'] at e
   by_cases hc' : b = nb ∧ off < vs.length
   ·rw [if_pos hc'] at e
    obtain ⟨rfl, hlt⟩ := hc'
    rw [hcell, List.getElem?_append_left hlt]; exact e
   ·rw [if_neg hc', fix_none h.wr hb] at e; simp at e
  ·intro b hb
   by_cases e : b = nb
   ·subst e; simp [nb, hsz]
   ·simp only [ρ', if_neg e] at hb
    have := h.wr.lt b hb; simp [hsz]; omega
  ·intro b i hb e
   simp only [ρ'] at e
   by_cases hbn : b = nb
   ·rw [if_pos hbn] at e; split at e <;> simp at e
   ·rw [if_neg hbn] at e
    exact absurd (h.wr.lt b (by rw [e]; simp)) (by omega)
 rw [List.append_nil] at hw
 refine ⟨F', ρ', SR.put2 hw h.size h.defers (fun t _ => (h.tmp t).keep (h.wr.keeps_more m hs hF hρ _)) hd (fun d hdd => ?_), Ext.more h.wr m hs hF hρ⟩
 refine .own (b := nb) (sz := n) (vs := vs) (by show (if nb = nb then (match o.dst with | some d => Role.own (.tmp d) | none => .free) else ρ nb) = _; rw [if_pos rfl, hdd]) hne (he.mono hs) ?_ hc ?_
 ·intro j v e
  have hj : j < vs.length := by rcases Nat.lt_or_ge j vs.length with g | g; exact g; rw [List.getElem?_eq_none g] at e; simp at e
  simp only [F', Nat.zero_add]
  rw [if_pos ⟨trivial, hj⟩]; exact e
 ·intro off lo hi
  refine ⟨?_, ?_, ?_⟩
  ·simp only [F']
   rw [if_neg (by omega)]
   exact fix_none h.wr (Nat.le_refl _)
  ·have := World.frozen?_alloc_new w0 (vs ++ rest).toArray T0 off
   rw [hsz] at this; exact this
  ·rw [hcell]
   have : off < (vs ++ rest).length := by
    rw [List.length_append, hl, hr, ← Nat.add_mul]
    rw [show es.length + (cap - es.length) = cap by omega]; exact hi
   exact ⟨_, List.getElem?_eq_getElem this⟩
theorem SR.fill (h : SR N F ρ s a w) {es xs : List D} {vs ws : List Value} {b n cap : Nat} (hb : ρ b ≠ .free) (hob : ∀ i, ρ b ≠ .obj i) (hown : ∀ t, (∀ d, o.dst = some d → t ≠ d) → ρ b ≠ .own (.tmp t)) (hcl : ∀ i off, ρ b ≠ .own (.cell i off)) (hbd : ∀ d, o.dst = some d → ρ b = .own (.tmp d))
  (he : DRe F n es vs) (hA : At F b 0 vs) (hx : DRe F n xs ws) (hsp : Spare F w b (es.length * n) (cap * n)) (hc : es.length + xs.length ≤ cap) (hne : es ≠ []) (hd : ∀ d, o.dst = some d → d < N) :
  ∃ F', SR N F' ρ (s.put o.dst (.own false (es ++ xs))) (a.put o.dst (.slice (some ⟨b, 0, none⟩) (es ++ xs).length cap)) (w.setCells b (es.length * n) ws) ∧ Ext F ρ w F' ρ (w.setCells b (es.length * n) ws) := by
 have hlv := he.length
 have hlw := hx.length
 have hcn : (es.length + xs.length) * n ≤ cap * n := Nat.mul_le_mul_right n hc
 rw [Nat.add_mul] at hcn
 let lo := es.length * n
 let F' : Fr := fun c off => if c = b ∧ lo ≤ off ∧ off < lo + ws.length then ws[off - lo]? else F c off
 have m := same_setCells w b lo ws
 have hspw : ∀ off, lo ≤ off → off < lo + ws.length → F b off = none ∧ w.frozen? ⟨b, off, none⟩ = false ∧ ∃ v, w.cell? ⟨b, off, none⟩ = some v := fun off h1 h2 => hsp off h1 (by simp only [lo] at h2; omega)
 have hs : Sub F F' := by
  intro c off v e
  simp only [F']
  rw [if_neg]
  ·exact e
  ·rintro ⟨rfl, h1, h2⟩
   rw [(hspw off h1 h2).1] at e; simp at e
 have hFo : ∀ c off, c ≠ b → F' c off = F c off := fun c off hc => by simp only [F']; rw [if_neg (fun h => hc h.1)]
 have hk : ∀ l, ρ b ≠ .own l → Keeps F ρ w F' ρ (w.setCells b lo ws) l := by
  intro l hl
  refine ⟨hs, fun _ _ e => e, fun c e => ⟨e, fun off h1 h2 h3 => ?_⟩, m.shp⟩
  have hcb : c ≠ b := by rintro rfl; exact hl e
  rw [hFo c off hcb, m.frozen, m.cell c off (fun e => absurd e hcb)]
  exact ⟨h1, h2, h3⟩
 have hin : ∀ k (hk : k < ws.length), (w.setCells b lo ws).cell? ⟨b, lo + k, none⟩ = some ws[k] := fun k hk =>
  World.cell?_setCells_in b ws lo w (fun j hj => by obtain ⟨-, -, v, g⟩ := hspw (lo + j) (by omega) (by omega); rw [g]; rfl) k hk
 have hw : WR F' ρ (w.setCells b lo ws) s.H := by
  refine ⟨fun c off v e => ?_, fun c e => by rw [m.size]; exact h.wr.lt c e, fun c i e => ?_, h.wr.uniq⟩
  ·simp only [F'] at e
   by_cases hcc : c = b ∧ lo ≤ off ∧ off < lo + ws.length
   ·rw [if_pos hcc] at e
    obtain ⟨rfl, h1, h2⟩ := hcc
    have := hin (off - lo) (by omega)
    rw [show lo + (off - lo) = off by omega] at this
    rw [this, ← e, List.getElem?_eq_getElem (by omega)]
   ·rw [if_neg hcc] at e
    rw [m.cell c off (fun ec => by rcases Nat.lt_or_ge off lo with g | g; exact .inl g; right; rcases Nat.lt_or_ge off (lo + ws.length) with g2 | g2; exact absurd ⟨ec, g, g2⟩ hcc; exact g2)]
    exact h.wr.fix c off v e
  ·obtain ⟨ob, g1, g2⟩ := h.wr.obj c i e
   refine ⟨ob, g1, ?_⟩
   have hcb : c ≠ b := by rintro rfl; exact hob i e
   cases ob with
   | mu cs =>
    intro off t ht
    obtain ⟨k1, k2, v, k3, k4⟩ := g2 off t ht
    exact ⟨by rw [hFo c off hcb]; exact k1, by rw [m.frozen]; exact k2, v, by rw [m.cell c off (fun e => absurd e hcb)]; exact k3, k4.keep (hk _ (hcl _ _))⟩
   | fro cs =>
    obtain ⟨us, k1, k2⟩ := g2
    exact ⟨us, k1.mono hs, k2.mono hs⟩
 refine ⟨F', SR.put2 hw h.size h.defers (fun t ht => (h.tmp t).keep (hk _ (hown t fun d hdd => by rintro rfl; exact ht hdd))) hd (fun d hdd => ?_), ⟨hs, Nat.le_of_eq m.size.symm, m.os, m.tape, m.output, fun c hc' e => ⟨e, m.heap c (by rintro rfl; exact hb e), fun off => hFo c off (by rintro rfl; exact hb e)⟩, fun _ _ e => e, m.shp⟩⟩
 refine .own (b := b) (sz := n) (vs := vs ++ ws) (hbd d hdd) (by simp [hne]) ((he.append hx).mono hs) ?_ (by simpa using hc) ?_
 ·intro j v e
  rw [Nat.zero_add]
  rcases Nat.lt_or_ge j vs.length with g | g
  ·rw [List.getElem?_append_left g] at e
   have := hA j v e
   rw [Nat.zero_add] at this
   exact hs _ _ _ this
  ·rw [List.getElem?_append_right g] at e
   have hj : j - vs.length < ws.length := by rcases Nat.lt_or_ge (j - vs.length) ws.length with g | g; exact g; rw [List.getElem?_eq_none g] at e; simp at e
   simp only [F']
   rw [if_pos ⟨trivial, by simp only [lo]; omega, by simp only [lo]; omega⟩]
   rw [show j - lo = j - vs.length by simp only [lo]; omega]; exact e
 ·intro off h1 h2
  rw [List.length_append, Nat.add_mul] at h1
  obtain ⟨k1, k2, v, k3⟩ := hsp off (by omega) h2
  refine ⟨?_, by rw [m.frozen]; exact k2, m.some _ _ _ k3⟩
  simp only [F']
  rw [if_neg (by rintro ⟨-, g1, g2⟩; simp only [lo] at g2; omega)]
  exact k1
end
open Go
section
variable {X : Ctx} {N : Nat} {F F' : Fr} {ρ ρ' : Nat → Role} {s : S} {a : Act} {w w' : World} {o : Oper}
theorem k'2k {r : D} {q : Value} (hr : DR F r q) (hrun : (execOp a.eval o).run X.P w = .ok (.value q) w) (hd : ∀ d, o.dst = some d → d < N) (h : SR N F ρ s a w)
  {next : Act → World → Prop} {Q : Exit → Act → World → Prop} (k : Then X N F ρ w a o.dst (s.app o.dst ⟨.d r, none, s.H⟩) next) : o.wp X.P a w next Q :=
 k'm hrun (k F ρ _ w (h.put hd fun d _ => .d hr) (Ext.refl F ρ w))
theorem pz_put (s : S) (x : Tmp) (dst : Option Tmp) (t : T) (H : List Ob) (hH : H = s.H) : s.app dst ⟨t, some x, H⟩ = (s.put (some x) .undef).put dst t := by
 subst hH; rfl
def ShpOf (w' : World) (e : TypeId) (x v : Value) : Prop := ∃ b n c, v = .slice (some ⟨b, 0, none⟩) n c ∧ ((∃ k, w'.shape? b = some (e, k)) ∨ ∃ n0 c0, x = .slice (some ⟨b, 0, none⟩) n0 c0)
theorem shape_row (w : World) (cs : Array Value) (e : TypeId) : (w.drew.alloc (.cells cs e)).shape? w.heap.size = some (e, cs.size) := by
 simp [World.shape?, World.alloc, World.drew, -World.alloc_eq, -World.drew_eq]
theorem append_sound2 {c : Call} {t e : TypeId} {i j : Ti} {x : Tmp} {y : Operand} {z : Bool} {es xs : List D} (ho : o.op = .call c) (hcb : c.callee = .builtin .append) (hca : c.args = #[.tmp x, y]) (h0 : c.argTypes[0]? = some t) (hni : ∀ u k, c.argTypes[1]? = some u → X.tab u = some k → ∀ q, k.ty ≠ .int q)
  (hex : ∃ u k, c.argTypes[1]? = some u ∧ X.tab u = some k) (hi : X.tab t = some i) (hty : i.ty = .sl e) (hj : X.tab e = some j) (hg : (s.val (.tmp x)).grows = some (z, es)) (hy : (s.val y).elems = some xs) (hf : ∀ a ∈ es ++ xs, a.fits j.size = true) (hsz : j.size ≠ 0) (hby : j.bytes ≤ 1024)
  (hmost : es.length + xs.length ≤ most) (hdst0 : o.dst.isSome = true) (hd : ∀ d, o.dst = some d → d < N) (h : SR N F ρ s a w)
  {next : Act → World → Prop} {Q : Exit → Act → World → Prop} (k : ∀ F' ρ' v w', SR N F' ρ' (s.app o.dst ⟨if (es ++ xs).isEmpty then .own true [] else .own false (es ++ xs), some x, s.H⟩) (a.put o.dst v) w' → Ext F ρ w F' ρ' w' → ((es ++ xs).isEmpty = false → ShpOf w' e (a.tmps.getD x undef) v) → next (a.put o.dst v) w') : o.wp X.P a w next Q := by
 obtain ⟨u, ku, h1, hu⟩ := hex
 have hfx : ∀ a ∈ xs, a.fits j.size = true := fun a ha => hf a (by simp [ha])
 have hfe : ∀ a ∈ es, a.fits j.size = true := fun a ha => hf a (by simp [ha])
 obtain ⟨ly, hyv⟩ := h.val y
 obtain ⟨ws, hx1, hx2, hx3⟩ := elems_ok (X := X) h.wr hyv hy hfx hsz
 have hrunop : ∀ v w', (Builtin.append_ c.argTypes o.type #[a.tmps.getD x undef, a.eval y]).run X.P w = .ok v w' → (execOp a.eval o).run X.P w = .ok (.value v) w' := by
  intro v w' hr
  simp only [execOp, ho, resolve, hcb, hca, Sem.run_bind, Sem.run_pure, Result.andThen_ok, invoke, builtin]
  simp only [List.map_toArray, List.map_cons, List.map_nil, Act.eval]
  simp only [Act.eval] at hr
  rw [hr]; rfl
 have hxv := h.tmp x
 have hpz := h.pz (some x)
 have nilcase : es = [] → a.tmps.getD x undef = .slice none 0 0 → o.wp X.P a w next Q := by
  intro hes hv
  subst hes
  have := run_append (X := X) (F := F) (w := w) (base := none) (cap := 0) (es := []) (vs := []) (ty := o.type) hi hty hj hu (hni u ku h1 hu) hsz hby hmost (Nat.le_refl 0) h.wr.fix hx2 (fun w' _ => by simp [Builtin.firstCells]) hx3 c.argTypes h0 h1 (fun b off e => by simp at e) (fun p e => by simp at e)
  rcases this with ⟨hle, hr⟩ | ⟨hlt, nc, rest, hnc, hrest, hr⟩
  ·have hxs : xs = [] := List.eq_nil_of_length_eq_zero (by simpa using hle)
   subst hxs
   refine k'm (hrunop _ _ (by rw [hv]; exact hr)) (k F ρ _ w ?_ (Ext.refl F ρ w) (fun e => by simp at e))
   rw [pz_put s x o.dst _ s.H rfl]
   exact hpz.put hd fun d _ => .nilo
  ·have hne : xs ≠ [] := by rintro rfl; simp at hlt
   obtain ⟨F', ρ', g1, g2⟩ := hpz.row (o := o) (More.drew w) rfl e hx1 (rest := rest) (by simpa using hrest) (by simpa using hnc) hne hd
   refine k'm (hrunop _ _ (by rw [hv]; exact hr)) (k F' ρ' _ _ ?_ (by simpa using g2) (fun _ => ⟨_, _, _, rfl, .inl ⟨_, shape_row w _ _⟩⟩))
   rw [pz_put s x o.dst _ s.H rfl]
   have : (([] : List D) ++ xs).isEmpty = false := by simpa using hne
   rw [this]
   simpa using g1
 generalize hsv : s.val (.tmp x) = sx at hg
 have hsv' : s.env x = sx := hsv
 rw [hsv'] at hxv
 generalize hvx : a.tmps.getD x undef = vx at hxv
 cases hxv with
 | d hd' =>
  rename_i dx
  cases dx <;> simp [T.grows] at hg
  rename_i zz ees
  cases zz <;> cases ees <;> simp [T.grows] at hg
  cases hd'
  exact nilcase hg.2 hvx
 | nilo => simp [T.grows] at hg; exact nilcase hg.2 hvx
 | own hr hne he hA hc hs =>
  simp [T.grows] at hg
  obtain ⟨-, rfl⟩ := hg
  rename_i ees vs b cap sz
  have hee : DRe F j.size ees vs := he.resize hfe
  have hszz : sz = j.size := by
   cases ees with
   | nil => exact absurd rfl hne
   | cons d0 ds => cases he with
    | cons q1 q2 q3 => have := hfe d0 (by simp); simp [D.fits] at this; rw [← q2, ← q1.length]; exact this.1
  subst hszz
  have hne2 : (ees ++ xs).isEmpty = false := by cases ees with | nil => exact absurd rfl hne | cons _ _ => rfl
  have hlw := hx1.length
  have hfc : ∀ w', (∀ b off u, F b off = some u → w'.cell? ⟨b, off, none⟩ = some u) → (Builtin.firstCells j.size ees.length (.slice (some ⟨b, 0, none⟩) ees.length cap)).run X.P w' = .ok vs.toArray w' := by
   intro w' hfix
   have := run_loadCells_list (P := X.P) w' ⟨b, 0, none⟩ vs (fun j v e => by rw [k'28]; exact hfix _ _ _ (hA j v e))
   rw [hee.length] at this
   simpa [Builtin.firstCells] using this
  have := run_append (X := X) (F := F) (w := w) (base := some ⟨b, 0, none⟩) (cap := cap) (es := ees) (vs := vs) (ty := o.type) hi hty hj hu (hni u ku h1 hu) hsz hby hmost hc h.wr.fix hx2 hfc hx3 c.argTypes h0 h1
   (fun b' off e hfit => by
    injection e with e; injection e with e1 e2; subst e1; subst e2
    have hcn : (ees.length + xs.length) * j.size ≤ cap * j.size := Nat.mul_le_mul_right _ hfit
    rw [Nat.add_mul] at hcn
    have := run_storeCells_cells (P := X.P) b (0 + ees.length * j.size) ws 0 w (fun q hq => by obtain ⟨-, -, v, g⟩ := hs (ees.length * j.size + q) (by omega) (by omega); rw [show 0 + ees.length * j.size + 0 + q = ees.length * j.size + q by omega, g]; rfl)
     (fun q hq => by obtain ⟨-, g, -⟩ := hs (ees.length * j.size + q) (by omega) (by omega); rw [show 0 + ees.length * j.size + 0 + q = ees.length * j.size + q by omega]; exact g) (hx1.one hfx)
    simpa using this)
   (fun p e => by injection e with e; rw [← e])
  rcases this with ⟨hle, hr'⟩ | ⟨hlt, nc, rest, hnc, hrest, hr'⟩
  ·-- in place: the role passes, then the cells are filled
   obtain ⟨d, hdst⟩ := Option.isSome_iff_exists.1 hdst0
   obtain ⟨ρ1, p1, p2, p3⟩ := own_pass h hsv' (.tmp d)
   rw [hvx] at p3
   cases p3 with
   | own hr1 _ _ _ _ hs1 =>
    obtain ⟨F', g1, g2⟩ := p1.fill (o := o) (b := b) (cap := cap) (by rw [hr1]; simp) (fun i => by rw [hr1]; simp) (fun t ht e => ht d hdst (by rw [hr1] at e; injection e with e; injection e with e; exact e.symm)) (fun _ _ => by rw [hr1]; simp)
     (fun d' e => by rw [hdst] at e; injection e with e; rw [← e]; exact hr1) hee hA hx1 hs hle hne hd
    refine k'm (hrunop _ _ (by rw [hvx]; exact hr')) (k F' ρ1 _ _ ?_ (by simpa using p2.trans g2) (fun _ => ⟨_, _, _, rfl, .inr ⟨_, _, hvx⟩⟩))
    rw [pz_put s x o.dst _ s.H rfl, hne2]
    simpa using g1
  ·obtain ⟨F', ρ', g1, g2⟩ := hpz.row (o := o) (More.drew w) rfl e (hee.append hx1) (rest := rest) (by simpa using hrest) (by simpa using hnc) (by simp [hne]) hd
   refine k'm (hrunop _ _ (by rw [hvx]; exact hr')) (k F' ρ' _ _ ?_ (by simpa using g2) (fun _ => ⟨_, _, _, rfl, .inl ⟨_, shape_row w _ _⟩⟩))
   rw [pz_put s x o.dst _ s.H rfl, hne2]
   simpa using g1
 | _ => simp [T.grows] at hg
theorem append_sound {c : Call} {t e : TypeId} {i j : Ti} {x : Tmp} {y : Operand} {z : Bool} {es xs : List D} (ho : o.op = .call c) (hcb : c.callee = .builtin .append) (hca : c.args = #[.tmp x, y]) (h0 : c.argTypes[0]? = some t) (hni : ∀ u k, c.argTypes[1]? = some u → X.tab u = some k → ∀ q, k.ty ≠ .int q)
  (hex : ∃ u k, c.argTypes[1]? = some u ∧ X.tab u = some k) (hi : X.tab t = some i) (hty : i.ty = .sl e) (hj : X.tab e = some j) (hg : (s.val (.tmp x)).grows = some (z, es)) (hy : (s.val y).elems = some xs) (hf : ∀ a ∈ es ++ xs, a.fits j.size = true) (hsz : j.size ≠ 0) (hby : j.bytes ≤ 1024)
  (hmost : es.length + xs.length ≤ most) (hdst0 : o.dst.isSome = true) (hd : ∀ d, o.dst = some d → d < N) (h : SR N F ρ s a w)
  {next : Act → World → Prop} {Q : Exit → Act → World → Prop} (k : Then X N F ρ w a o.dst (s.app o.dst ⟨if (es ++ xs).isEmpty then .own true [] else .own false (es ++ xs), some x, s.H⟩) next) : o.wp X.P a w next Q :=
 append_sound2 ho hcb hca h0 hni hex hi hty hj hg hy hf hsz hby hmost hdst0 hd h fun F' ρ' v w' h1 h2 _ => k F' ρ' v w' h1 h2
end
open Go
section
variable {X : Ctx} {N : Nat} {F F' : Fr} {ρ ρ' : Nat → Role} {s : S} {a : Act} {w w' : World} {o : Oper}
variable {next : Act → World → Prop} {Q : Exit → Act → World → Prop}
theorem evInt (h : SR N F ρ s a w) {x : Operand} {k : IntKind} {n : Int} (e : s.val x = .d (.int k n)) : a.eval x = .int k n := by
 obtain ⟨l, hx⟩ := h.val x; rw [e] at hx; exact hx.inv_int
theorem evStr (h : SR N F ρ s a w) {x : Operand} {b : List UInt8} (e : s.val x = .d (.str b)) : a.eval x = .string ⟨b.toArray⟩ := by
 obtain ⟨l, hx⟩ := h.val x; rw [e] at hx; exact hx.inv_str
theorem index_sound {t : TypeId} {i : Ti} {x y : Operand} {b : List UInt8} {k : IntKind} {n : Int} {c : UInt8} (ho : o.op = .index t x y) (hi : X.tab t = some i) (hty : i.ty = .str) (hx : s.val x = .d (.str b)) (hy : s.val y = .d (.int k n)) (h0 : 0 ≤ n) (hc : b[n.toNat]? = some c)
  (hd : ∀ d, o.dst = some d → d < N) (h : SR N F ρ s a w) (kk : Then X N F ρ w a o.dst (s.app o.dst ⟨.d (.int .u8 c.toNat), none, s.H⟩) next) : o.wp X.P a w next Q := by
 have ex := evStr h hx; have ey := evInt h hy
 obtain ⟨d, hd', hf⟩ := k'r hi
 rw [hty] at hf; cases d <;> simp [Ty.fits] at hf
 refine k'2k (.int _ _) ?_ hd h kk
 have hlt : n.toNat < b.length := by rcases Nat.lt_or_ge n.toNat b.length with g | g; exact g; rw [List.getElem?_eq_none g] at hc; simp at hc
 have e1 : (ByteArray.mk b.toArray)[n.toNat]? = some c := by
  rw [List.getElem?_eq_getElem hlt] at hc
  injection hc with hc
  rw [getElem?_pos _ _ (by simpa [ByteArray.size] using hlt)]
  rw [← hc]; rfl
 simp only [execOp, ho, Instr.index, ex, ey, asIntOf, Sem.run_bind, Sem.run_pure, Result.andThen_ok, run_underlying hd', if_pos h0, e1]
theorem indexAddr_sound {t e : TypeId} {i j : Ti} {x y : Operand} {es : List D} {k : IntKind} {n : Int} {u : D} (ho : o.op = .indexAddr t x y) (hi : X.tab t = some i) (hty : i.ty = .sl e) (hj : X.tab e = some j) (hx : (∃ z, s.val x = .d (.sl z es)) ∨ ∃ z, s.val x = .own z es) (hy : s.val y = .d (.int k n)) (h0 : 0 ≤ n) (hu : es[n.toNat]? = some u)
  (hul : u.cells.length = j.size) (hz : j.size ≠ 0) (hd : ∀ d, o.dst = some d → d < N) (h : SR N F ρ s a w) (kk : Then X N F ρ w a o.dst (s.app o.dst ⟨.d (.box u.cells), none, s.H⟩) next) : o.wp X.P a w next Q := by
 have ey := evInt h hy
 obtain ⟨d, hd', hf⟩ := k'r hi
 rw [hty] at hf; cases d <;> simp [Ty.fits] at hf
 subst hf
 have hlt : n.toNat < es.length := by rcases Nat.lt_or_ge n.toNat es.length with g | g; exact g; rw [List.getElem?_eq_none g] at hu; simp at hu
 obtain ⟨b, off, cap, sz, vs, ex, he, hA⟩ : ∃ b off cap sz vs, a.eval x = .slice (some ⟨b, off, none⟩) es.length cap ∧ DRe F sz es vs ∧ At F b off vs := by
  obtain ⟨l, hxv⟩ := h.val x
  generalize a.eval x = v at hxv
  rcases hx with ⟨z, hx⟩ | ⟨z, hx⟩ <;> rw [hx] at hxv
  ·have := hxv.inv_d
   cases this
   ·simp at hlt
   ·exact ⟨_, _, _, _, _, rfl, ‹_›, ‹_›⟩
   ·simp at hlt
  ·cases hxv
   ·simp at hlt
   ·exact ⟨_, _, _, _, _, rfl, ‹_›, ‹_›⟩
 obtain ⟨ws, g1, g2, g3⟩ := he.get hu
 have hsz : sz = j.size := by rw [← g2, ← g1.length]; exact hul
 subst hsz
 refine k'2k (q := .pointer (some ⟨b, off + n.toNat * j.size, none⟩)) (.box g1 fun q v e => ?_) ?_ hd h kk
 ·rw [Nat.add_assoc]; exact hA _ _ (g3 q v e)
 ·have hin : 0 ≤ n ∧ n < (es.length : Int) := ⟨h0, by omega⟩
  simp only [execOp, ho, Instr.indexAt, ex, ey, asIntOf, Sem.run_bind, Sem.run_pure, Result.andThen_ok, run_underlying hd', if_pos hin, k'30 hj, k'28]
theorem sliceStr_sound {t : TypeId} {i : Ti} {x : Operand} {lo hi : Option Operand} {b : List UInt8} {l hh : Nat} (ho : o.op = .slice t x lo hi none) (hi' : X.tab t = some i) (hty : i.ty = .str) (hx : s.val x = .d (.str b))
  (hlo : Bnd s.val 0 l lo) (hhi : Bnd s.val b.length hh hi) (h1 : l ≤ hh) (h2 : hh ≤ b.length)
  (hd : ∀ d, o.dst = some d → d < N) (h : SR N F ρ s a w) (kk : Then X N F ρ w a o.dst (s.app o.dst ⟨.d (.str ((b.drop l).take (hh - l))), none, s.H⟩) next) : o.wp X.P a w next Q := by
 have ex := evStr h hx
 obtain ⟨d, hd', hf⟩ := k'r hi'
 rw [hty] at hf; cases d <;> simp [Ty.fits] at hf
 refine k'2k (.str _) ?_ hd h kk
 have hext : (ByteArray.mk b.toArray).extract l hh = ⟨((b.drop l).take (hh - l)).toArray⟩ := by
  simp only [ByteArray.extract, ByteArray.copySlice]
  congr 1
  apply Array.ext'
  simp [List.extract_eq_take_drop]
 have hb : (ByteArray.mk b.toArray).size = b.length := by simp [ByteArray.size]
 have bounds : (Instr.sliceBounds false b.length b.length (lo.map a.eval) (hi.map a.eval) none).run X.P w = .ok (l, hh, b.length) w := by
  cases hi with
  | none =>
   simp only [Bnd] at hhi; subst hhi
   cases lo with
   | none => simp only [Bnd] at hlo; subst hlo; simp [Instr.sliceBounds]
   | some y =>
    obtain ⟨k, hk⟩ := hlo
    have ey := evInt h hk
    simp [Instr.sliceBounds, ey, Instr.sliceBound, asIntOf, h1]
  | some yh =>
   obtain ⟨kh, hkh⟩ := hhi
   have eyh := evInt h hkh
   cases lo with
   | none => simp only [Bnd] at hlo; subst hlo; simp [Instr.sliceBounds, eyh, Instr.sliceBound, asIntOf, h2]
   | some y =>
    obtain ⟨k, hk⟩ := hlo
    have ey := evInt h hk
    simp [Instr.sliceBounds, ey, eyh, Instr.sliceBound, asIntOf, h1, h2]
 simp only [execOp, ho, Instr.sliceAt, Sem.run_bind, run_underlying hd', Result.andThen_ok, Instr.slice, ex, Option.map_none, Option.isSome_none, Bool.false_eq_true, if_false, hb, bounds, hext, Sem.run_pure]
theorem bin_run {op : BinOp} {t t' : TypeId} {x y : Operand} {k j : IntKind} {m n : Int} {v : Value} (ho : o.op = .binOp op t x y t') (hx : a.eval x = .int k m) (hy : a.eval y = .int j n) (hr : (binOp op t (.int k m) (.int j n)).run X.P w = .ok v w) : (execOp a.eval o).run X.P w = .ok (.value v) w := by
 simp only [execOp, ho, hx, hy, Sem.run_bind, eqGuard_int, Result.andThen_ok, hr, Sem.run_pure]
theorem quo_sound {t t' : TypeId} {x y : Operand} {k : IntKind} {m n : Int} (ho : o.op = .binOp .quo t x y t') (hx : s.val x = .d (.int k m)) (hy : s.val y = .d (.int k n)) (hn : n ≠ 0) (hd : ∀ d, o.dst = some d → d < N) (h : SR N F ρ s a w)
  (kk : Then X N F ρ w a o.dst (s.app o.dst ⟨.d (.int k (k.wrap (m.tdiv n))), none, s.H⟩) next) : o.wp X.P a w next Q :=
 k'2k (.int _ _) (bin_run ho (evInt h hx) (evInt h hy) (by simp [binOp, Op.intDiv, hn])) hd h kk
theorem rem_sound {t t' : TypeId} {x y : Operand} {k : IntKind} {m n : Int} (ho : o.op = .binOp .rem t x y t') (hx : s.val x = .d (.int k m)) (hy : s.val y = .d (.int k n)) (hn : n ≠ 0) (hd : ∀ d, o.dst = some d → d < N) (h : SR N F ρ s a w)
  (kk : Then X N F ρ w a o.dst (s.app o.dst ⟨.d (.int k (m.tmod n)), none, s.H⟩) next) : o.wp X.P a w next Q :=
 k'2k (.int _ _) (bin_run ho (evInt h hx) (evInt h hy) (by simp [binOp, Op.intDiv, hn])) hd h kk
theorem shl_sound {t t' : TypeId} {x y : Operand} {k j : IntKind} {m n : Int} (ho : o.op = .binOp .shl t x y t') (hx : s.val x = .d (.int k m)) (hy : s.val y = .d (.int j n)) (hn : 0 ≤ n) (hd : ∀ d, o.dst = some d → d < N) (h : SR N F ρ s a w)
  (kk : Then X N F ρ w a o.dst (s.app o.dst ⟨.d (.int k (k.wrap (m * 2 ^ min n.toNat k.bits))), none, s.H⟩) next) : o.wp X.P a w next Q :=
 k'2k (.int _ _) (bin_run ho (evInt h hx) (evInt h hy) (by simp [binOp, Op.shift, Int.not_lt.2 hn])) hd h kk
theorem shr_sound {t t' : TypeId} {x y : Operand} {k j : IntKind} {m n : Int} (ho : o.op = .binOp .shr t x y t') (hx : s.val x = .d (.int k m)) (hy : s.val y = .d (.int j n)) (hn : 0 ≤ n) (hd : ∀ d, o.dst = some d → d < N) (h : SR N F ρ s a w)
  (kk : Then X N F ρ w a o.dst (s.app o.dst ⟨.d (.int k (m.fdiv (2 ^ min n.toNat k.bits))), none, s.H⟩) next) : o.wp X.P a w next Q :=
 k'2k (.int _ _) (bin_run ho (evInt h hx) (evInt h hy) (by simp [binOp, Op.shift, Int.not_lt.2 hn])) hd h kk
theorem str_append (x y : List UInt8) : (ByteArray.mk x.toArray) ++ ⟨y.toArray⟩ = ⟨(x ++ y).toArray⟩ := by
 apply ByteArray.ext
 simp
theorem addStr_sound {t t' : TypeId} {x y : Operand} {m n : List UInt8} (ho : o.op = .binOp .add t x y t') (hx : s.val x = .d (.str m)) (hy : s.val y = .d (.str n)) (hn : m.length + n.length ≤ 9223372036854775807) (hd : ∀ d, o.dst = some d → d < N) (h : SR N F ρ s a w)
  (kk : Then X N F ρ w a o.dst (s.app o.dst ⟨.d (.str (m ++ n)), none, s.H⟩) next) : o.wp X.P a w next Q := by
 have ex := evStr h hx; have ey := evStr h hy
 refine k'2k (.str _) ?_ hd h kk
 have hmax : ¬ ((((ByteArray.mk m.toArray).size + (ByteArray.mk n.toArray).size : Nat) : Int) > IntKind.i64.max) := by
  simp only [size_str]
  have : IntKind.i64.max = 9223372036854775807 := by decide
  omega
 simp only [execOp, ho, ex, ey, Sem.run_bind, eqGuard_str, Result.andThen_ok, binOp, Op.stringOp, if_neg hmax, str_append, Sem.run_pure]
end
open Go
section
variable {X : Ctx} {N : Nat} {F F' : Fr} {ρ ρ' : Nat → Role} {s : S} {a : Act} {w w' : World} {o : Oper}
variable {next : Act → World → Prop} {Q : Exit → Act → World → Prop}
theorem foldl_push (l : List UInt8) : ∀ acc : ByteArray, (l.map fun c => (c.toNat : Int)).foldl (fun (r : ByteArray) (n : Int) => r.push (UInt8.ofNat n.toNat)) acc = acc ++ ⟨l.toArray⟩ := by
 induction l with
 | nil => intro acc; apply ByteArray.ext; simp
 | cons c l ih =>
  intro acc
  simp only [List.map_cons, List.foldl_cons]
  rw [ih]
  apply ByteArray.ext
  simp [ByteArray.push]
theorem DRe_bytes : ∀ {sz : Nat} {l : List UInt8} {vs : List Value}, DRe F sz (l.map fun c => D.int .u8 c.toNat) vs → vs = l.map fun c => Value.int .u8 c.toNat
 | _, [], _, .nil => rfl
 | _, c :: l, _, .cons h hl t => by
  have ih := DRe_bytes t
  cases h with
  | cons h1 h2 => cases h1; cases h2; simp [ih]
theorem toStr_sound {t1 t2 e : TypeId} {i j k : Ti} {x : Operand} {l : List UInt8} (ho : o.op = .convert t1 t2 x) (hi : X.tab t1 = some i) (hti : i.ty = .sl e) (hk : X.tab e = some k) (htk : k.ty = .int .u8) (hj : X.tab t2 = some j) (htj : j.ty = .str)
  (hx : (s.val x).elems = some (l.map fun c => .int .u8 c.toNat)) (hns : ∀ b, s.val x ≠ .d (.str b)) (hd : ∀ d, o.dst = some d → d < N) (h : SR N F ρ s a w) (kk : Then X N F ρ w a o.dst (s.app o.dst ⟨.d (.str l), none, s.H⟩) next) : o.wp X.P a w next Q := by
 obtain ⟨d1, hd1, hf1⟩ := k'r hi
 rw [hti] at hf1; cases d1 <;> simp [Ty.fits] at hf1
 subst hf1
 obtain ⟨d2, hd2, hf2⟩ := k'r hj
 rw [htj] at hf2; cases d2 <;> simp [Ty.fits] at hf2
 obtain ⟨d3, hd3, hf3⟩ := k'r hk
 rw [htk] at hf3; cases d3 <;> simp [Ty.fits] at hf3
 subst hf3
 refine k'2k (.str l) ?_ hd h kk
 obtain ⟨lx, hxv⟩ := h.val x
 have key : ∀ (b : Addr) (cap : Nat), (∀ j v, (l.map fun c => Value.int .u8 c.toNat)[j]? = some v → w.cell? (b.add j) = some v) → (Conv.bytesToString (.slice (some b) l.length cap)).run X.P w = .ok (.string ⟨l.toArray⟩) w := by
  intro b cap hc
  have hl := run_loadCells_list (P := X.P) w b (l.map fun c => Value.int .u8 c.toNat) hc
  rw [List.length_map] at hl
  have := run_bytesToString (P := X.P) w b l.length cap (l.map fun c => (c.toNat : Int)) (by rw [hl, List.map_map]; rfl)
  rw [this, foldl_push]
  congr 2
 have run : ∀ v, a.eval x = v → (∃ b cap, v = .slice b l.length cap) → (Conv.bytesToString v).run X.P w = .ok (.string ⟨l.toArray⟩) w → (execOp a.eval o).run X.P w = .ok (.value (.string ⟨l.toArray⟩)) w := by
  rintro v hv ⟨b, cap, rfl⟩ hr
  simp only [execOp, ho, hv, convert, Sem.run_bind, run_underlying hd1, run_underlying hd2, Result.andThen_ok, run_underlying hd3, hr, Sem.run_pure]
 generalize hv : a.eval x = v at hxv
 generalize hsx : s.val x = sx at hxv hx hns
 cases hxv with
 | d hd' =>
  cases hd' <;> simp [T.elems] at hx
  ·exact absurd rfl (hns _)
  ·subst hx
   exact run _ hv ⟨_, _, rfl⟩ rfl
  ·rename_i he hA hc
   subst hx
   have e1 := DRe_bytes he
   subst e1
   refine run _ hv ⟨_, _, by rw [List.length_map]⟩ ?_
   rw [List.length_map]
   exact key _ _ fun j v e => by rw [k'28]; exact h.wr.fix _ _ _ (hA j v e)
  ·subst hx
   exact run _ hv ⟨_, _, rfl⟩ (by have := key ‹Addr› ‹Nat› (fun j v e => by simp at e); simpa using this)
 | nilo =>
  simp [T.elems] at hx
  subst hx
  exact run _ hv ⟨_, _, rfl⟩ rfl
 | own hr hne he hA hc hs =>
  simp [T.elems] at hx
  subst hx
  have e1 := DRe_bytes he
  subst e1
  refine run _ hv ⟨_, _, by rw [List.length_map]⟩ ?_
  rw [List.length_map]
  exact key _ _ fun j v e => by rw [k'28]; exact h.wr.fix _ _ _ (hA j v e)
 | _ => simp [T.elems] at hx
theorem SR.freeze (h : SR N F ρ s a w) {j b : Nat} {cs : List T} {ds : List D} (hb : ρ b = .obj j) (hj : s.H[j]? = some (.mu cs)) (hc : shares cs = some ds) :
  ∃ F', SR N F' ρ { s with H := s.H.set j (.fro ds) } a w ∧ Ext F ρ w F' ρ w ∧ DR F' (.box ds) (.pointer (some ⟨b, 0, none⟩)) := by
 obtain ⟨ob, h1, h2⟩ := h.wr.obj b j hb
 rw [hj] at h1; injection h1 with h1; subst h1
 obtain ⟨vs, g1, g2⟩ := obj_cells h2 0 (by rw [List.drop_zero]; exact hc)
 have hlen := (shares_get hc).1
 have hlv := g1.length
 have hjl : j < s.H.length := by rcases Nat.lt_or_ge j s.H.length with g | g; exact g; rw [List.getElem?_eq_none g] at hj; simp at hj
 let F' : Fr := fun c off => if c = b ∧ off < vs.length then vs[off]? else F c off
 have hs : Sub F F' := by
  intro c off v e
  show (if c = b ∧ off < vs.length then vs[off]? else F c off) = some v
  rw [if_neg]
  ·exact e
  ·rintro ⟨rfl, hlt⟩
   have hlt' : off < cs.length := by omega
   rw [(h2 off _ (List.getElem?_eq_getElem hlt')).1] at e; simp at e
 have hFo : ∀ c off, c ≠ b → F' c off = F c off := fun c off hc => by show (if c = b ∧ off < vs.length then vs[off]? else F c off) = _; rw [if_neg (fun h => hc h.1)]
 have hk : ∀ l, Keeps F ρ w F' ρ w l := fun l => ⟨hs, fun _ _ e => e, fun c e => ⟨e, fun off q1 q2 q3 => ⟨by rw [hFo c off (by rintro rfl; rw [hb] at e; simp at e)]; exact q1, q2, q3⟩⟩, fun _ _ e => e⟩
 have hA : At F' b 0 vs := by
  intro q v e
  have hq : q < vs.length := by rcases Nat.lt_or_ge q vs.length with g | g; exact g; rw [List.getElem?_eq_none g] at e; simp at e
  show (if b = b ∧ 0 + q < vs.length then vs[0 + q]? else F b (0 + q)) = some v
  rw [Nat.zero_add, if_pos ⟨rfl, hq⟩]; exact e
 refine ⟨F', ⟨⟨fun c off v e => ?_, h.wr.lt, fun c i e => ?_, h.wr.uniq⟩, h.size, h.defers, fun t => (h.tmp t).keep (hk _)⟩, ⟨hs, Nat.le_refl _, rfl, rfl, rfl, fun c _ e => ⟨e, rfl, fun off => hFo c off (by rintro rfl; rw [hb] at e; simp at e)⟩, fun _ _ e => e, fun _ _ e => e⟩, .box (g1.mono hs) hA⟩
 ·have e' : (if c = b ∧ off < vs.length then vs[off]? else F c off) = some v := e
  by_cases hcc : c = b ∧ off < vs.length
  ·rw [if_pos hcc] at e'
   have := g2 off v e'
   rw [Nat.zero_add] at this
   rw [hcc.1]; exact this
  ·rw [if_neg hcc] at e'; exact h.wr.fix c off v e'
 ·obtain ⟨oo, q1, q2⟩ := h.wr.obj c i e
  by_cases ei : i = j
  ·subst ei
   have ec := h.wr.uniq c b i e hb; subst ec
   exact ⟨.fro ds, by simp [hjl], vs, g1.mono hs, hA⟩
  ·refine ⟨oo, by rw [List.getElem?_set_ne (Ne.symm ei)]; exact q1, ?_⟩
   have hcb : c ≠ b := by rintro rfl; rw [hb] at e; injection e with e; exact ei e.symm
   cases oo with
   | mu cs' =>
    intro off t ht
    obtain ⟨k1, k2, v, k3, k4⟩ := q2 off t ht
    exact ⟨by rw [hFo c off hcb]; exact k1, k2, v, k3, k4.keep (hk _)⟩
   | fro cs' => obtain ⟨us, k1, k2⟩ := q2; exact ⟨us, k1.mono hs, k2.mono hs⟩
theorem freeze_sound {t : TypeId} {i : Ti} {x : Operand} {j : Nat} {cs : List T} {ds : List D} (ho : o.op = .makeInterface t x) (hi : X.tab t = some i) (hty : i.ty = .ptr) (hx : s.val x = .ptr j 0) (hj : s.H[j]? = some (.mu cs)) (hc : shares cs = some ds)
  (hd : ∀ d, o.dst = some d → d < N) (h : SR N F ρ s a w) (kk : Then X N F ρ w a o.dst (s.app o.dst ⟨.d (.iface t (.box ds)), none, s.H.set j (.fro ds)⟩) next) : o.wp X.P a w next Q := by
 obtain ⟨lx, hxv⟩ := h.val x
 rw [hx] at hxv
 obtain ⟨b, hb, ex⟩ := hxv.inv_ptr
 obtain ⟨F', g1, g2, g3⟩ := h.freeze hb hj hc
 obtain ⟨d, hd', hf⟩ := k'r hi
 rw [hty] at hf; cases d <;> simp [Ty.fits] at hf
 refine k'm (v := .iface t (.pointer (some ⟨b, 0, none⟩))) (by simp only [execOp, ho, Instr.makeInterface, Sem.run_bind, run_underlying hd', Result.andThen_ok, ex, Sem.run_pure]) (kk F' ρ _ w ?_ g2)
 exact g1.put hd fun d _ => .d (.iface g3)
theorem closure_sound {f : FuncId} {x : Operand} {j : Nat} {cs : List T} {ds : List D} (ho : o.op = .makeFunc (.func f) #[] #[x]) (hx : s.val x = .ptr j 0) (hj : s.H[j]? = some (.mu cs)) (hc : shares cs = some ds)
  (hd : ∀ d, o.dst = some d → d < N) (h : SR N F ρ s a w) (kk : Then X N F ρ w a o.dst (s.app o.dst ⟨.d (.fn f [.box ds]), none, s.H.set j (.fro ds)⟩) next) : o.wp X.P a w next Q := by
 obtain ⟨lx, hxv⟩ := h.val x
 rw [hx] at hxv
 obtain ⟨b, hb, ex⟩ := hxv.inv_ptr
 obtain ⟨F', g1, g2, g3⟩ := h.freeze hb hj hc
 refine k'm (v := .func (.func f) #[] #[.pointer (some ⟨b, 0, none⟩)]) (by simp [execOp, ho, Instr.makeFunc, ex]) (kk F' ρ _ w ?_ g2)
 exact g1.put hd fun d _ => .d (.fn (vs := [_]) (.cons g3 .nil))
end
open Go
theorem fill_seq (size : Nat) : ∀ (ps : List (Nat × Value)) (k : Nat) (arr : List Value), ps.map (·.1) = List.range' k ps.length → (∀ p ∈ ps, p.2.cells.size = size) → arr.length = (k + ps.length) * size →
  Instr.fill (fun i => some (i * size, size)) arr.toArray ps = some (arr.take (k * size) ++ ps.flatMap fun p => p.2.cells.toList).toArray
 | [], k, arr, _, _, hl => by
  simp only [Instr.fill, List.flatMap_nil, List.append_nil]
  rw [List.take_of_length_le (by rw [hl]; simp)]
 | (i, v) :: r, k, arr, h1, h2, hl => by
  simp only [List.map_cons, List.length_cons, List.range'_succ, List.cons.injEq] at h1
  obtain ⟨rfl, h1⟩ := h1
  have hv := h2 (i, v) (by simp)
  simp only [List.length_cons] at hl
  have hle : i * size + size ≤ arr.length := by rw [hl, show (i + (r.length + 1)) * size = i * size + size + r.length * size by rw [Nat.add_mul, Nat.add_mul]; omega]; omega
  simp only [Instr.fill]
  rw [if_neg (by simp [hv]; omega)]
  have hf := foldl_lay v.cells.toList 0 arr (i * size) (by simp [hv]; omega)
  simp only [Nat.add_zero] at hf
  have ih := fill_seq size r (i + 1) (lay arr (i * size) v.cells.toList) h1 (fun p hp => h2 p (by simp [hp])) (by
   unfold lay
   simp only [List.length_append, List.length_take, List.length_drop, Array.length_toList, hv]
   rw [show i + 1 + r.length = i + (r.length + 1) by omega, ← hl]; omega)
  rw [← hf] at ih
  rw [← Array.foldl_toList, Array.toList_zipIdx]
  rw [ih]
  congr 2
  simp only [List.flatMap_cons]
  rw [← List.append_assoc]
  congr 1
  unfold lay
  rw [List.take_append, List.take_take]
  have e1 : (List.take (i * size) arr).length = i * size := by simp; omega
  rw [e1, show (i + 1) * size - i * size = size by rw [Nat.add_mul]; omega, Nat.min_eq_right (by rw [Nat.add_mul]; omega)]
  rw [List.take_append]
  simp [hv]
  rw [List.take_of_length_le (by simp [hv])]
section
variable {X : Ctx} {N : Nat} {F F' : Fr} {ρ ρ' : Nat → Role} {s : S} {a : Act} {w w' : World} {o : Oper}
variable {next : Act → World → Prop} {Q : Exit → Act → World → Prop}
theorem parts_DRe (h : SR N F ρ s a w) {size : Nat} : ∀ (ps : List (Nat × Operand)) (es : List D), ps.map (fun p => (s.val p.2).share) = es.map some → (∀ x ∈ es, x.fits size = true) →
  DRe F size es ((ps.map fun p => (p.1, a.eval p.2)).flatMap fun p => p.2.cells.toList) ∧ ∀ p ∈ ps.map fun p => (p.1, a.eval p.2), p.2.cells.size = size
 | [], [], _, _ => ⟨.nil, by simp⟩
 | [], _ :: _, e, _ => by simp at e
 | _ :: _, [], e, _ => by simp at e
 | p :: ps, x :: es, e, hf => by
  simp only [List.map_cons, List.cons.injEq] at e
  obtain ⟨l, hx⟩ := h.val p.2
  have hd := hx.share e.1
  obtain ⟨f1, f2, f3⟩ := fits_cells hd (hf x (by simp))
  obtain ⟨g1, g2⟩ := parts_DRe h ps es e.2 fun y hy => hf y (by simp [hy])
  refine ⟨.cons f1 f2 g1, fun q hq => ?_⟩
  simp only [List.map_cons, List.mem_cons] at hq
  rcases hq with rfl | hq
  ·simpa using f2
  ·exact g2 q hq
theorem buildSlice_sound {t e : TypeId} {i j : Ti} {n : Nat} {ps : Array (Nat × Operand)} {es : List D} (ho : o.op = .buildSlice t n ps) (hi : X.tab t = some i) (hty : i.ty = .sl e) (hj : X.tab e = some j) (hps : ps.toList.map (·.1) = List.range n)
  (hes : ps.toList.map (fun p => (s.val p.2).share) = es.map some) (hf : ∀ x ∈ es, x.fits j.size = true) (hne : es ≠ []) (hz : j.size ≠ 0) (hbig : n * j.size ≤ 16777216) (hd : ∀ d, o.dst = some d → d < N) (h : SR N F ρ s a w)
  (kk : Then X N F ρ w a o.dst (s.app o.dst ⟨.own false es, none, s.H⟩) next) : o.wp X.P a w next Q := by
 obtain ⟨d, hd', hfit⟩ := k'r hi
 rw [hty] at hfit; cases d <;> simp [Ty.fits] at hfit
 subst hfit
 obtain ⟨g1, g2⟩ := parts_DRe h ps.toList es hes hf
 have hn : es.length = n := by
  have h1 := congrArg List.length hps; have h2 := congrArg List.length hes
  simp at h1 h2; omega
 have hpl : ps.toList.length = n := by have := congrArg List.length hps; simpa using this
 obtain ⟨F', ρ', k1, k2⟩ := h.row (o := o) ⟨Nat.le_refl _, rfl, rfl, rfl, fun _ _ => rfl⟩ rfl e g1 (rest := []) (cap := es.length) (by simp) (Nat.le_refl _) hne hd
 refine k'm (v := .slice (some ⟨w.heap.size, 0, none⟩) es.length es.length) (w' := w.alloc (.cells ((ps.toList.map fun p => (p.1, a.eval p.2)).flatMap fun p => p.2.cells.toList).toArray e)) ?_ (kk F' ρ' _ _ ?_ (by simpa using k2))
 ·have hfill := fill_seq j.size (ps.toList.map fun p => (p.1, a.eval p.2)) 0 ((List.range (n * j.size)).map fun q => (zv j.zero).cells[q % (zv j.zero).cells.size]!) (by
   rw [List.map_map, List.length_map, hpl, ← List.range_eq_range']; exact hps) g2 (by simp [hpl])
  have hnz : n * j.size ≠ 0 := by
   have : n ≠ 0 := by rintro rfl; exact hne (List.eq_nil_of_length_eq_zero hn)
   exact Nat.mul_ne_zero this hz
  have hnb : ¬ (n * j.size > 2 ^ 24) := by omega
  have harr : ((Array.range (n * j.size)).map fun q => (zv j.zero).cells[q % (zv j.zero).cells.size]!) = ((List.range (n * j.size)).map fun q => (zv j.zero).cells[q % (zv j.zero).cells.size]!).toArray := by
   apply Array.ext'; simp
  simp only [Nat.zero_mul, List.take_zero, List.nil_append] at hfill
  simp only [execOp, ho, Instr.buildSlice, Sem.run_bind, run_underlying hd', Result.andThen_ok, k'30 hj, if_neg hnb, if_neg hnz, k'4k hj, Sem.run_pure, harr]
  have hpp : (ps.map fun (p : Nat × Operand) => (p.1, a.eval p.2)).toList = ps.toList.map fun p => (p.1, a.eval p.2) := by simp
  rw [hpp, hfill]
  simp only [Sem.run_bind, newRow, run_newObj, Result.andThen_ok, Sem.run_pure, hn]
  rfl
 ·simp only [List.append_nil] at k1; exact k1
theorem k'g.sound_light {e : Eff} (he : k'g X o s.val s.H e) (hnc : ¬ isCall o) (hd : ∀ d, o.dst = some d → d < N) (h : SR N F ρ s a w) (kk : Then X N F ρ w a o.dst (s.app o.dst e) next) : o.wp X.P a w next Q := by
 cases he with
 | psem h0 h1 => exact h1 s (fun _ _ => rfl) N F ρ a w next Q hd h kk
 | hsem h0 h2 h1 => exact h1 s (fun _ _ => rfl) rfl N F ρ a w next Q hd h kk
 | gsem h0 h2 h1 => exact h1 s (fun _ _ => rfl) rfl N F ρ a w next Q hd h kk
 | pure h1 => exact pure_sound h1 hd h kk
 | assignOwn h1 h2 => exact assignOwn_sound h1 h2 hd h kk
 | moveShare h1 h2 => exact moveShare_sound h1 h2 hd h kk
 | alloc h1 h2 => exact alloc_sound h1 h2 hd h kk
 | box h1 h2 => exact box_sound h1 h2 hd h kk
 | load h1 h2 h3 => exact load_sound h1 h2 h3 hd h kk
 | loadOwn h1 h2 h3 h4 h5 h6 => exact loadMov_sound rfl h1 h2 h3 h4 h5 h6 hd h kk
 | store h1 h2 h3 h4 h5 h6 h7 h8 => exact store_sound h1 h2 h3 h4 h5 h6 h7 h8 h kk
 | storeOwn h1 h2 h3 h4 h5 h6 h7 h8 => exact storeMov_sound rfl h1 h2 h3 h4 h5 h6 h7 h8 h kk
 | freeze h1 h2 h3 h4 h5 h6 => exact freeze_sound h1 h2 h3 h4 h5 h6 hd h kk
 | closure h1 h2 h3 h4 => exact closure_sound h1 h2 h3 h4 hd h kk
 | buildSlice h1 h2 h3 h4 h5 h6 h7 h8 h9 h10 => exact buildSlice_sound h1 h2 h3 h4 h5 h6 h7 h8 h9 h10 hd h kk
 | append h1 h2 h3 h4 h5 h6 h7 h8 h9 h10 h11 h12 h13 h14 h15 h16 => exact append_sound h1 h2 h3 h4 h5 h6 h7 h8 h9 h10 h11 h12 h13 h14 h15 h16 hd h kk
 | index h1 h2 h3 h4 h5 h6 h7 => exact index_sound h1 h2 h3 h4 h5 h6 h7 hd h kk
 | indexAddr h1 h2 h3 h4 h5 h6 h7 h8 h9 h10 => exact indexAddr_sound h1 h2 h3 h4 h5 h6 h7 h8 h9 h10 hd h kk
 | sliceStr h1 h2 h3 h4 h5 h6 h7 h8 => exact sliceStr_sound h1 h2 h3 h4 h5 h6 h7 h8 hd h kk
 | quo h1 h2 h3 h4 => exact quo_sound h1 h2 h3 h4 hd h kk
 | rem h1 h2 h3 h4 => exact rem_sound h1 h2 h3 h4 hd h kk
 | shl h1 h2 h3 h4 => exact shl_sound h1 h2 h3 h4 hd h kk
 | shr h1 h2 h3 h4 => exact shr_sound h1 h2 h3 h4 hd h kk
 | addStr h1 h2 h3 h4 => exact addStr_sound h1 h2 h3 h4 hd h kk
 | toStr h1 h2 h3 h4 h5 h6 h7 h8 h9 => exact toStr_sound h1 h2 h3 h4 h5 h6 h7 h8 h9 hd h kk
 | call h1 h2 => obtain ⟨g, h3, -⟩ := h2; exact absurd ⟨_, g, h1, h3⟩ hnc
end
open Go
theorem gets_ok : ∀ {sel : List Nat} {H Hs : List Ob}, gets H sel = some Hs → Hs.length = sel.length ∧ (∀ i ∈ sel, i < H.length) ∧ ∀ (k i : Nat), sel[k]? = some i → Hs[k]? = H[i]?
 | [], H, Hs, h => by simp [gets] at h; subst h; simp
 | i :: r, H, Hs, h => by
  unfold gets at h
  split at h <;> simp at h
  subst h; rename_i o os e1 e2
  obtain ⟨h1, h2, h3⟩ := gets_ok e2
  have hi : i < H.length := by rcases Nat.lt_or_ge i H.length with g | g; exact g; rw [List.getElem?_eq_none g] at e1; simp at e1
  refine ⟨by simp [h1], fun j hj => ?_, fun k j e => ?_⟩
  ·rcases List.mem_cons.1 hj with rfl | hj
   ·exact hi
   ·exact h2 j hj
  ·cases k with
   | zero => simp at e; subst e; simp [e1]
   | succ k => simp at e ⊢; exact h3 k j e
def bk (sel : List Nat) (n k : Nat) : Nat := match sel[k]? with | some i => i | none => n + (k - sel.length)
theorem sets_ok : ∀ {sel : List Nat} {H Hs : List Ob}, sel.Nodup → (∀ i ∈ sel, i < H.length) → sel.length ≤ Hs.length →
  (∀ i, i ∉ sel → i < H.length → (sets H sel Hs)[i]? = H[i]?) ∧ (∀ k o, Hs[k]? = some o → (sets H sel Hs)[bk sel H.length k]? = some o)
 | [], H, Hs, _, _, _ => by
  refine ⟨fun i _ hi => by simp [sets, List.getElem?_append_left hi], fun k o e => ?_⟩
  simp only [sets, bk, List.getElem?_nil, List.length_nil, Nat.sub_zero]
  rw [List.getElem?_append_right (Nat.le_add_right _ _), Nat.add_sub_cancel_left]; exact e
 | i :: r, H, [], _, _, h => by simp at h
 | i :: r, H, o :: os, hn, hl, h => by
  have hn' := List.nodup_cons.1 hn
  have hi : i < H.length := hl i (by simp)
  obtain ⟨h1, h2⟩ := sets_ok (sel := r) (H := H.set i o) (Hs := os) hn'.2 (fun j hj => by simpa using hl j (by simp [hj])) (by simpa using h)
  simp only [sets]
  refine ⟨fun j hj hjl => ?_, fun k x e => ?_⟩
  ·have hj' : j ≠ i ∧ j ∉ r := by simpa using hj
   rw [h1 j hj'.2 (by simpa using hjl), List.getElem?_set_ne (Ne.symm hj'.1)]
  ·cases k with
   | zero =>
    simp at e; subst e
    have : bk (i :: r) H.length 0 = i := by simp [bk]
    rw [this, h1 i hn'.1 (by simpa using hi)]
    simp [hi]
   | succ k =>
    have e' : os[k]? = some x := by simpa using e
    have := h2 k x e'
    have hb : bk (i :: r) H.length (k + 1) = bk r (H.set i o).length k := by simp [bk]
    rw [hb]; exact this
theorem nodup_inj : ∀ {sel : List Nat} {k k' i : Nat}, sel.Nodup → sel[k]? = some i → sel[k']? = some i → k = k'
 | [], _, _, _, _, h, _ => by simp at h
 | j :: r, 0, 0, _, _, _, _ => rfl
 | j :: r, 0, k' + 1, i, hn, h1, h2 => by
  simp at h1 h2; subst h1
  exact absurd (List.mem_of_getElem? h2) (List.nodup_cons.1 hn).1
 | j :: r, k + 1, 0, i, hn, h1, h2 => by
  simp at h1 h2; subst h2
  exact absurd (List.mem_of_getElem? h1) (List.nodup_cons.1 hn).1
 | j :: r, k + 1, k' + 1, i, hn, h1, h2 => by
  simp at h1 h2
  rw [nodup_inj (List.nodup_cons.1 hn).2 h1 h2]
theorem bk_inj {sel : List Nat} {n k k' : Nat} (hn : sel.Nodup) (hl : ∀ i ∈ sel, i < n) (h : bk sel n k = bk sel n k') : k = k' := by
 unfold bk at h
 cases e1 : sel[k]? with
 | some i =>
  cases e2 : sel[k']? with
  | some i' =>
   simp [e1, e2] at h; subst h
   exact nodup_inj hn e1 e2
  | none => simp [e1, e2] at h; have := hl i (List.mem_of_getElem? e1); omega
 | none =>
  cases e2 : sel[k']? with
  | some i' => simp [e1, e2] at h; have := hl i' (List.mem_of_getElem? e2); omega
  | none => simp [e1, e2] at h; have := List.getElem?_eq_none_iff.1 e1; have := List.getElem?_eq_none_iff.1 e2; omega
theorem bk_mem {sel : List Nat} {n k : Nat} (h : bk sel n k < n) : bk sel n k ∈ sel := by
 unfold bk at *
 cases e : sel[k]? with
 | some i => simp only [e]; exact List.mem_of_getElem? e
 | none => simp [e] at h; omega
def k'1u (sel : List Nat) : Role → Role
 | .obj i => match idx sel i with | some k => .obj k | none => .free
 | .own (.cell i off) => match idx sel i with | some k => .own (.cell k off) | none => .free
 | _ => .free
def roleOut (sel : List Nat) (n : Nat) : Role → Role
 | .obj k => .obj (bk sel n k)
 | .own (.cell k off) => .own (.cell (bk sel n k) off)
 | _ => .free
def k'38 (sel : List Nat) : Role → Bool
 | .obj _ => true
 | .own (.tmp _) => true
 | .own (.cell i _) => !sel.contains i
 | .free => false
theorem k'1p : ∀ {sel : List Nat} {i k : Nat}, idx sel i = some k → sel[k]? = some i
 | [], i, k, h => by simp [idx] at h
 | j :: r, i, k, h => by
  unfold idx at h
  cases hb : Nat.beq j i with
  | true => rw [hb] at h; simp at h; subst h; have := Nat.eq_of_beq_eq_true hb; simp [this]
  | false =>
   rw [hb] at h
   simp only [cond_false] at h
   split at h <;> simp at h
   subst h; simpa using k'1p ‹_›
theorem idxOf_none : ∀ {sel : List Nat} {i : Nat}, idx sel i = none → i ∉ sel
 | [], i, h => by simp
 | j :: r, i, h => by
  unfold idx at h
  cases hb : Nat.beq j i with
  | true => rw [hb] at h; simp at h
  | false =>
   rw [hb] at h
   simp only [cond_false] at h
   split at h <;> simp at h
   have h1 := idxOf_none ‹_›
   have h2 : ¬ i = j := by rintro rfl; simp at hb
   simp [h1, h2]
theorem idxOf_mem {sel : List Nat} {i : Nat} (h : i ∈ sel) : ∃ k, idx sel i = some k := by
 cases e : idx sel i with
 | some k => exact ⟨k, rfl⟩
 | none => exact absurd h (idxOf_none e)
theorem roleIn_obj {sel : List Nat} {r : Role} {k : Nat} (h : k'1u sel r = .obj k) : ∃ i, r = .obj i ∧ idx sel i = some k := by
 unfold k'1u at h
 split at h
 ·split at h
  ·injection h with h; subst h; exact ⟨_, rfl, ‹_›⟩
  ·simp at h
 ·split at h <;> simp at h
 ·simp at h
theorem roleIn_own {sel : List Nat} {r : Role} {l : Lc} (h : k'1u sel r = .own l) : ∃ i off k, r = .own (.cell i off) ∧ idx sel i = some k ∧ l = .cell k off := by
 unfold k'1u at h
 split at h
 ·split at h <;> simp at h
 ·split at h
  ·injection h with h; subst h; exact ⟨_, _, _, rfl, ‹_›, rfl⟩
  ·simp at h
 ·simp at h
theorem roleOut_obj {sel : List Nat} {n : Nat} {r : Role} {i : Nat} (h : roleOut sel n r = .obj i) : ∃ k, r = .obj k ∧ bk sel n k = i := by
 unfold roleOut at h
 split at h <;> simp at h
 exact ⟨_, rfl, h⟩
section
variable {F : Fr} {ρ : Nat → Role} {w : World} {H Hs : List Ob} {sel : List Nat}
theorem TR.into {i k off : Nat} {t : T} {v : Value} (hk : idx sel i = some k) (hp : t.plain = true) (h : TR F ρ w (.cell i off) t v) : TR F (fun b => k'1u sel (ρ b)) w (.cell k off) t v := by
 cases h with
 | d h => exact .d h
 | ptr h => simp [T.plain] at hp
 | nilo => exact .nilo
 | own hr hne he hA hc hs => exact .own (by simp [hr, k'1u, hk]) hne he hA hc hs
 | tup h => simp [T.plain] at hp
 | undef => exact .undef
 | skip => exact .skip
 | me h => exact .me (by simp [h, k'1u, hk])
 | slo h => simp [T.plain] at hp
 | nw h e => exact .nw (by simp [h, k'1u, hk]) e
 | buf h e =>
  cases h with
  | own hr hne he hA hc hs => exact .buf (.own (by simp [hr, k'1u, hk]) hne he hA hc hs) e
theorem WR.into (h : WR F ρ w H) (hs : gets H sel = some Hs) (hp : Hs.all Ob.plain = true) : WR F (fun b => k'1u sel (ρ b)) w Hs := by
 obtain ⟨g1, g2, g3⟩ := gets_ok hs
 refine ⟨h.fix, fun b e => h.lt b (fun e2 => e (by simp [e2, k'1u])), fun b k e => ?_, fun b c k e1 e2 => ?_⟩
 ·obtain ⟨i, e1, e2⟩ := roleIn_obj e
  obtain ⟨o, q1, q2⟩ := h.obj b i e1
  have hsk := g3 k i (k'1p e2)
  refine ⟨o, by rw [hsk]; exact q1, ?_⟩
  have hpo : o.plain = true := by
   rw [q1] at hsk
   exact List.all_eq_true.1 hp o (List.mem_of_getElem? hsk)
  cases o with
  | mu cs =>
   intro off t ht
   obtain ⟨k1, k2, v, k3, k4⟩ := q2 off t ht
   refine ⟨k1, k2, v, k3, k4.into e2 ?_⟩
   exact List.all_eq_true.1 hpo t (List.mem_of_getElem? ht)
  | fro cs => exact q2
 ·obtain ⟨i, e3, e4⟩ := roleIn_obj e1
  obtain ⟨j, e5, e6⟩ := roleIn_obj e2
  have a1 := k'1p e4; have a2 := k'1p e6
  rw [a1] at a2; injection a2 with a2; subst a2
  exact h.uniq b c _ e3 e5
theorem rens_ok : ∀ {ts us : List T} {vs : List Value}, rens sel ts = some us → ts.length = vs.length → (∀ (k : Nat) t v, ts[k]? = some t → vs[k]? = some v → ∃ l, TR F ρ w l t v) → TRs F (fun b => k'1u sel (ρ b)) w (.tmp 0) us vs
 | [], us, [], h, _, _ => by simp [rens] at h; subst h; exact .nil
 | [], us, _ :: _, h, hl, _ => by simp at hl
 | _ :: _, us, [], h, hl, _ => by simp at hl
 | t :: ts, us, v :: vs, h, hl, hv => by
  unfold rens at h
  split at h <;> simp at h
  subst h; rename_i x xs e1 e2
  refine .cons ?_ (rens_ok e2 (by simpa using hl) fun k t' v' a b => hv (k + 1) t' v' (by simpa using a) (by simpa using b))
  obtain ⟨l, h0⟩ := hv 0 t v rfl rfl
  cases t with
  | d y => simp [T.ren] at e1; subst e1; exact .d h0.inv_d
  | own z es => simp [T.ren] at e1; subst e1; exact .d (share_own h0)
  | ptr i off =>
   simp only [T.ren] at e1
   split at e1 <;> simp at e1
   subst e1; rename_i k hk
   obtain ⟨b, hb, rfl⟩ := h0.inv_ptr
   exact .ptr (by simp [hb, k'1u, hk])
  | tup _ => simp [T.ren] at e1
  | slo _ _ => simp [T.ren] at e1
  | undef => simp [T.ren] at e1
  | skip => simp [T.ren] at e1
  | me => simp [T.ren] at e1
  | nw _ _ => simp [T.ren] at e1
  | buf _ _ => simp [T.ren] at e1
end
