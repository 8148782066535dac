/- The table of a point of an exponential histogram; the shapes of attributes and exemplars. And more. -/
import Derived.Test.YtnaojdjhjkendaaGreatDoorWT
import Derived.Test.YtnaojdjhjkendaaGreatDoorPG
import Derived.Test.YtnaojdjhjkendaaGreatDoorPW
import Derived.Shelf.Strings.OnBuilder
set_option linter.unusedSimpArgs false
set_option linter.unusedVariables false
set_option maxRecDepth 100000
namespace Go.Proofs.YtnaojdjhjkendaaGreatDoor
open Go Go.Abs
variable (B : Fr)
/-! The table of a point of an exponential histogram; the shapes of attributes and exemplars. -/
section
structure KVs where
 key : List UInt8
 has : Bool
 kind : Int
 s : List UInt8
 b : Bool
 n : Nat
 l : List D
 m : List D
 inner : List UInt8
 unk : List UInt8
 u : List UInt8
def KVs.d (x : KVs) : D := .agg [.str x.key, .bool x.has, .int .i64 x.kind, .str x.s, .bool x.b, .int .u64 x.n, slD x.l, slD x.m, .str x.inner, .str x.unk, .str x.u]
structure Exm where
 attrs : List KVs
 time : Nat
 kind : Int
 n : Nat
 span : List UInt8
 trace : List UInt8
 u : List UInt8
def Exm.d (x : Exm) : D := .agg [slD (x.attrs.map KVs.d), .int .u64 x.time, .int .i64 x.kind, .int .u64 x.n, .str x.span, .str x.trace, .str x.u]
end
/-! A point of an exponential histogram read. -/
section
section
variable (rdK : List UInt8 → KVs × Option Er) (rdE : List UInt8 → Exm × Option Er) (s : List UInt8) (d : Int)
end
end
/-! What the chapter's examples fix. -/
/-! Values and attributes as data. -/
section
mutual
def Vl.d : Vl → D
 | .mk kind s b n l m inner u => .agg [.int .i64 kind, .str s, .bool b, .int .u64 n, slD (Vl.ds l), slD (Kv.ds m), .str inner, .str u]
def Vl.ds : List Vl → List D
 | [] => []
 | v :: l => v.d :: Vl.ds l
def Kv.d : Kv → D
 | .mk key has (.mk kind s b n l m inner vu) u => .agg [.str key, .bool has, .int .i64 kind, .str s, .bool b, .int .u64 n, slD (Vl.ds l), slD (Kv.ds m), .str inner, .str vu, .str u]
def Kv.ds : List Kv → List D
 | [] => []
 | v :: l => v.d :: Kv.ds l
end
structure VaS where
 kind : Int
 s : List UInt8
 b : Bool
 n : Nat
 l : List D
 m : List D
 inner : List UInt8
 u : List UInt8
def VaS.d (x : VaS) : D := .agg [.int .i64 x.kind, .str x.s, .bool x.b, .int .u64 x.n, slD x.l, slD x.m, .str x.inner, .str x.u]
def Vl.sh : Vl → VaS
 | .mk kind s b n l m inner u => ⟨kind, s, b, n, Vl.ds l, Kv.ds m, inner, u⟩
def Kv.sh : Kv → KVs
 | .mk key has (.mk kind s b n l m inner vu) u => ⟨key, has, kind, s, b, n, Vl.ds l, Kv.ds m, inner, vu, u⟩
/-! As an argument: a list that is empty may be nil or not. -/
mutual
def Vl.R : Vl → D → Prop
 | .mk kind s b n l m inner u, x => ∃ zl ls zm ms, x = .agg [.int .i64 kind, .str s, .bool b, .int .u64 n, .sl zl ls, .sl zm ms, .str inner, .str u] ∧ Vl.Rs l ls ∧ Kv.Rs m ms
def Vl.Rs : List Vl → List D → Prop
 | [], xs => xs = []
 | v :: l, xs => ∃ y ys, xs = y :: ys ∧ v.R y ∧ Vl.Rs l ys
def Kv.R : Kv → D → Prop
 | .mk key has (.mk kind s b n l m inner vu) u, x => ∃ zl ls zm ms, x = .agg [.str key, .bool has, .int .i64 kind, .str s, .bool b, .int .u64 n, .sl zl ls, .sl zm ms, .str inner, .str vu, .str u] ∧ Vl.Rs l ls ∧ Kv.Rs m ms
def Kv.Rs : List Kv → List D → Prop
 | [], xs => xs = []
 | v :: l, xs => ∃ y ys, xs = y :: ys ∧ v.R y ∧ Kv.Rs l ys
end
theorem Vl.Rs_len : ∀ {l : List Vl} {xs : List D}, Vl.Rs l xs → xs.length = l.length
 | [], xs, h => by have e : xs = [] := h; rw [e]; rfl
 | v :: l, _, ⟨y, ys, h1, _, h3⟩ => by rw [h1]; simp [Vl.Rs_len h3]
theorem Kv.Rs_len : ∀ {l : List Kv} {xs : List D}, Kv.Rs l xs → xs.length = l.length
 | [], xs, h => by have e : xs = [] := h; rw [e]; rfl
 | v :: l, _, ⟨y, ys, h1, _, h3⟩ => by rw [h1]; simp [Kv.Rs_len h3]
theorem Vl.Rs_get : ∀ {l : List Vl} {xs : List D}, Vl.Rs l xs → ∀ {i : Nat} {v : Vl}, l[i]? = some v → ∃ x, xs[i]? = some x ∧ v.R x
 | [], _, _, i, v, hv => by simp at hv
 | w :: l, _, ⟨y, ys, h1, h2, h3⟩, i, v, hv => by
  rw [h1]
  cases i with
  | zero => simp at hv; subst hv; exact ⟨y, rfl, h2⟩
  | succ i => simp at hv ⊢; exact Vl.Rs_get h3 hv
theorem Kv.Rs_get : ∀ {l : List Kv} {xs : List D}, Kv.Rs l xs → ∀ {i : Nat} {v : Kv}, l[i]? = some v → ∃ x, xs[i]? = some x ∧ v.R x
 | [], _, _, i, v, hv => by simp at hv
 | w :: l, _, ⟨y, ys, h1, h2, h3⟩, i, v, hv => by
  rw [h1]
  cases i with
  | zero => simp at hv; subst hv; exact ⟨y, rfl, h2⟩
  | succ i => simp at hv ⊢; exact Kv.Rs_get h3 hv
end
/-! What a reader tells, step by step: parts, lists, texts; or the first error. -/
section
section
variable {α β : Type} {n : Nat} {e e' : Option Er} {t : Option α} {sh : α → β} {v : β}
end
def textO (num : Nat) (l : List Fld) : Option (List UInt8) := if ((sel num l).all fun x => txt x.s) then some (k'z l num).s else none
end
/-! strings.Join with nothing between. -/
section
open Go Go.Abs Go.Shelf
end
/-! Values and attributes read. -/
/-! Values and attributes read: at any depth. -/
