/- Values and attributes: are they alike? And more. -/
import Derived.Test.YtcinfkbdmjnjlaaGreatDoorWR
set_option linter.unusedSimpArgs false
set_option linter.unusedVariables false
set_option maxRecDepth 100000
/-! Values and attributes: are they alike? -/
namespace Go.Proofs.YtcinfkbdmjnjlaaGreatDoor
open Go Go.Abs
variable (B : Fr)
def VaSh (x : D) : Prop := ∃ (kind : Int) (s : List UInt8) (b : Bool) (n : Nat) (zl : Bool) (ls : List D) (zm : Bool) (ms : List D) (inner u : List UInt8), x = .agg [.int .i64 kind, .str s, .bool b, .int .u64 n, .sl zl ls, .sl zm ms, .str inner, .str u]
def KeSh (x : D) : Prop := ∃ (key : List UInt8) (has : Bool) (kind : Int) (s : List UInt8) (b : Bool) (n : Nat) (zl : Bool) (ls : List D) (zm : Bool) (ms : List D) (inner vu u : List UInt8), x = .agg [.str key, .bool has, .int .i64 kind, .str s, .bool b, .int .u64 n, .sl zl ls, .sl zm ms, .str inner, .str vu, .str u]
theorem Vl.R_sh : ∀ {v : Vl} {x : D}, v.R x → VaSh x
  | .mk .., _, ⟨_, _, _, _, h, _⟩ => ⟨_, _, _, _, _, _, _, _, _, _, h⟩
theorem Kv.R_sh : ∀ {v : Kv} {x : D}, v.R x → KeSh x
  | .mk _ _ (.mk ..) _, _, ⟨_, _, _, _, h, _⟩ => ⟨_, _, _, _, _, _, _, _, _, _, _, _, _, h⟩
theorem Vl.Rs_sh : ∀ {l : List Vl} {xs : List D}, Vl.Rs l xs → ∀ x ∈ xs, VaSh x
  | [], xs, h, x, hx => by have e : xs = [] := h; subst e; simp at hx
  | v :: l, _, ⟨y, ys, e, h2, h3⟩, x, hx => by
    subst e
    rcases List.mem_cons.1 hx with rfl | hx
    · exact Vl.R_sh h2
    · exact Vl.Rs_sh h3 x hx
theorem Kv.Rs_sh : ∀ {l : List Kv} {xs : List D}, Kv.Rs l xs → ∀ x ∈ xs, KeSh x
  | [], xs, h, x, hx => by have e : xs = [] := h; subst e; simp at hx
  | v :: l, _, ⟨y, ys, e, h2, h3⟩, x, hx => by
    subst e
    rcases List.mem_cons.1 hx with rfl | hx
    · exact Kv.R_sh h2
    · exact Kv.Rs_sh h3 x hx
theorem Vl.len_szs : ∀ l : List Vl, l.length ≤ Vl.szs l
  | [] => by simp
  | .mk .. :: l => by have := Vl.len_szs l; unfold Vl.szs Vl.sz; simp; omega
theorem Kv.len_szs : ∀ l : List Kv, l.length ≤ Kv.szs l
  | [] => by simp
  | .mk .. :: l => by have := Kv.len_szs l; unfold Kv.szs Kv.sz; simp; omega
/-- One by one. -/
def byI {α : Type} (p : α → α → Bool) (a b : List α) (i : Nat) : Bool :=
  match a[i]?, b[i]? with
  | some x, some y => p x y
  | _, _ => true
theorem byI_all {α : Type} (p : α → α → Bool) (eqs : List α → List α → Bool) (h0 : eqs [] [] = true) (h1 : ∀ x a y b, eqs (x :: a) (y :: b) = (p x y && eqs a b)) (h2 : ∀ x a, eqs (x :: a) [] = false) (h3 : ∀ x a, eqs [] (x :: a) = false) :
    ∀ a b : List α, eqs a b = (a.length == b.length && (List.range a.length).all (byI p a b))
  | [], [] => by rw [h0]; rfl
  | x :: a, [] => by rw [h2]; rfl
  | [], x :: a => by rw [h3]; rfl
  | x :: a, y :: b => by
    rw [h1, byI_all p eqs h0 h1 h2 h3 a b, List.length_cons, List.length_cons, List.range_succ_eq_map, List.all_cons, List.all_map]
    have e1 : byI p (x :: a) (y :: b) 0 = p x y := rfl
    have e2 : (byI p (x :: a) (y :: b) ∘ Nat.succ) = byI p a b := by funext i; rfl
    have e3 : (a.length + 1 == b.length + 1) = (a.length == b.length) := by
      by_cases h : a.length = b.length
      · simp [h]
      · rw [show (a.length == b.length) = false by simp [h]]; simp; omega
    rw [e1, e2, e3]
    cases p x y <;> cases (a.length == b.length) <;> simp
theorem Vl.eqs_by (a b : List Vl) : Vl.eqs a b = (a.length == b.length && (List.range a.length).all (byI Vl.eq a b)) :=
  byI_all Vl.eq Vl.eqs (by simp [Vl.eqs]) (fun _ _ _ _ => by simp [Vl.eqs]) (fun _ _ => by simp [Vl.eqs]) (fun _ _ => by simp [Vl.eqs]) a b
theorem Kv.eqs_by (a b : List Kv) : Kv.eqs a b = (a.length == b.length && (List.range a.length).all (byI Kv.eq a b)) :=
  byI_all Kv.eq Kv.eqs (by simp [Kv.eqs]) (fun _ _ _ _ => by simp [Kv.eqs]) (fun _ _ => by simp [Kv.eqs]) (fun _ _ => by simp [Kv.eqs]) a b
end Go.Proofs.YtcinfkbdmjnjlaaGreatDoor

/-! Values and attributes: may they be? -/
namespace Go.Proofs.YtcinfkbdmjnjlaaGreatDoor
open Go Go.Abs
variable (B : Fr)
theorem wrap_sub {d : Int} (k : Int) (h0 : 0 ≤ k) (h1 : k ≤ 100) (hd : -9223372036854775000 ≤ d) (hd2 : d < 9223372036854775808) : IntKind.i64.wrap (d - k) = d - k := by rw [wrapI (by omega) (by omega)]
end Go.Proofs.YtcinfkbdmjnjlaaGreatDoor

/-! What is written. -/
namespace Go.Proofs.YtcinfkbdmjnjlaaGreatDoor
open Go Go.Abs
variable (B : Fr)
end Go.Proofs.YtcinfkbdmjnjlaaGreatDoor

/-! Values and attributes written. -/
namespace Go.Proofs.YtcinfkbdmjnjlaaGreatDoor
open Go Go.Abs
variable (B : Fr)
end Go.Proofs.YtcinfkbdmjnjlaaGreatDoor
