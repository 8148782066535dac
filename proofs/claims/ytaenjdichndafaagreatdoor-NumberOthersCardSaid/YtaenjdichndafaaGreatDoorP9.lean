/- Values and attributes as data. -/
import Derived.Test.YtaenjdichndafaaGreatDoorP8
import Derived.Test.YtaenjdichndafaaGreatDoorXG4
set_option linter.unusedSimpArgs false
set_option linter.unusedVariables false
set_option maxRecDepth 100000
namespace Go.Proofs.YtaenjdichndafaaGreatDoor
open Go Go.Abs
mutual
def Vl.d : Vl → D
  | .mk kind s b n l m inner u => .agg [.int .i64 kind, .str s, .bool b, .int .u64 n, slD (Vl.ds l), slD (Kv.ds m), .str inner, .str u]
def Vl.ds : List Vl → List D
  | [] => []
  | v :: l => v.d :: Vl.ds l
def Kv.d : Kv → D
  | .mk key has (.mk kind s b n l m inner vu) u => .agg [.str key, .bool has, .int .i64 kind, .str s, .bool b, .int .u64 n, slD (Vl.ds l), slD (Kv.ds m), .str inner, .str vu, .str u]
def Kv.ds : List Kv → List D
  | [] => []
  | v :: l => v.d :: Kv.ds l
end
theorem Vl.ds_map : ∀ l : List Vl, Vl.ds l = l.map Vl.d
  | [] => rfl
  | v :: l => by rw [Vl.ds, Vl.ds_map l]; rfl
theorem Kv.ds_map : ∀ l : List Kv, Kv.ds l = l.map Kv.d
  | [] => rfl
  | v :: l => by rw [Kv.ds, Kv.ds_map l]; rfl
/-- A value, its lists as they stand in memory. -/
structure VaS where
  kind : Int
  s : List UInt8
  b : Bool
  n : Nat
  l : List D
  m : List D
  inner : List UInt8
  u : List UInt8
def VaS.d (x : VaS) : D := .agg [.int .i64 x.kind, .str x.s, .bool x.b, .int .u64 x.n, slD x.l, slD x.m, .str x.inner, .str x.u]
def noVaS : VaS := ⟨0, [], false, 0, [], [], [], []⟩
def Vl.sh : Vl → VaS
  | .mk kind s b n l m inner u => ⟨kind, s, b, n, Vl.ds l, Kv.ds m, inner, u⟩
theorem Vl.sh_d (v : Vl) : v.sh.d = v.d := by cases v; rfl
def Kv.sh : Kv → KVs
  | .mk key has (.mk kind s b n l m inner vu) u => ⟨key, has, kind, s, b, n, Vl.ds l, Kv.ds m, inner, vu, u⟩
theorem Kv.sh_d (v : Kv) : v.sh.d = v.d := by rcases v with ⟨key, has, ⟨⟩, u⟩; rfl
/-! As an argument: a list that is empty may be nil or not. -/
mutual
def Vl.R : Vl → D → Prop
  | .mk kind s b n l m inner u, x => ∃ zl ls zm ms, x = .agg [.int .i64 kind, .str s, .bool b, .int .u64 n, .sl zl ls, .sl zm ms, .str inner, .str u] ∧ Vl.Rs l ls ∧ Kv.Rs m ms
def Vl.Rs : List Vl → List D → Prop
  | [], xs => xs = []
  | v :: l, xs => ∃ y ys, xs = y :: ys ∧ v.R y ∧ Vl.Rs l ys
def Kv.R : Kv → D → Prop
  | .mk key has (.mk kind s b n l m inner vu) u, x => ∃ zl ls zm ms, x = .agg [.str key, .bool has, .int .i64 kind, .str s, .bool b, .int .u64 n, .sl zl ls, .sl zm ms, .str inner, .str vu, .str u] ∧ Vl.Rs l ls ∧ Kv.Rs m ms
def Kv.Rs : List Kv → List D → Prop
  | [], xs => xs = []
  | v :: l, xs => ∃ y ys, xs = y :: ys ∧ v.R y ∧ Kv.Rs l ys
end
mutual
theorem Vl.d_R : ∀ v : Vl, v.R v.d
  | .mk kind s b n l m inner u => ⟨_, _, _, _, rfl, Vl.ds_R l, Kv.ds_R m⟩
theorem Vl.ds_R : ∀ l : List Vl, Vl.Rs l (Vl.ds l)
  | [] => rfl
  | v :: l => ⟨_, _, rfl, Vl.d_R v, Vl.ds_R l⟩
theorem Kv.d_R : ∀ v : Kv, v.R v.d
  | .mk key has (.mk kind s b n l m inner vu) u => ⟨_, _, _, _, rfl, Vl.ds_R l, Kv.ds_R m⟩
theorem Kv.ds_R : ∀ l : List Kv, Kv.Rs l (Kv.ds l)
  | [] => rfl
  | v :: l => ⟨_, _, rfl, Kv.d_R v, Kv.ds_R l⟩
end
theorem Vl.Rs_len : ∀ {l : List Vl} {xs : List D}, Vl.Rs l xs → xs.length = l.length
  | [], xs, h => by have e : xs = [] := h; rw [e]; rfl
  | v :: l, _, ⟨y, ys, h1, _, h3⟩ => by rw [h1]; simp [Vl.Rs_len h3]
theorem Kv.Rs_len : ∀ {l : List Kv} {xs : List D}, Kv.Rs l xs → xs.length = l.length
  | [], xs, h => by have e : xs = [] := h; rw [e]; rfl
  | v :: l, _, ⟨y, ys, h1, _, h3⟩ => by rw [h1]; simp [Kv.Rs_len h3]
theorem Vl.Rs_get : ∀ {l : List Vl} {xs : List D}, Vl.Rs l xs → ∀ {i : Nat} {v : Vl}, l[i]? = some v → ∃ x, xs[i]? = some x ∧ v.R x
  | [], _, _, i, v, hv => by simp at hv
  | w :: l, _, ⟨y, ys, h1, h2, h3⟩, i, v, hv => by
    rw [h1]
    cases i with
    | zero => simp at hv; subst hv; exact ⟨y, rfl, h2⟩
    | succ i => simp at hv ⊢; exact Vl.Rs_get h3 hv
theorem Kv.Rs_get : ∀ {l : List Kv} {xs : List D}, Kv.Rs l xs → ∀ {i : Nat} {v : Kv}, l[i]? = some v → ∃ x, xs[i]? = some x ∧ v.R x
  | [], _, _, i, v, hv => by simp at hv
  | w :: l, _, ⟨y, ys, h1, h2, h3⟩, i, v, hv => by
    rw [h1]
    cases i with
    | zero => simp at hv; subst hv; exact ⟨y, rfl, h2⟩
    | succ i => simp at hv ⊢; exact Kv.Rs_get h3 hv
end Go.Proofs.YtaenjdichndafaaGreatDoor
