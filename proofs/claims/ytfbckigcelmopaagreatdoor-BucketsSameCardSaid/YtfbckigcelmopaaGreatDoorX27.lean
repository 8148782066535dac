/- A point of an exponential histogram read. -/
import Derived.Test.YtfbckigcelmopaaGreatDoorX26
set_option linter.unusedSimpArgs false
set_option linter.unusedVariables false
set_option maxRecDepth 100000
namespace Go.Proofs.YtfbckigcelmopaaGreatDoor
open Go Go.Abs
variable (B : Fr)
structure Xp where
  attrs : List KVs
  start : Nat
  time : Nat
  count : Nat
  sumH : Bool
  sum : Nat
  minH : Bool
  min : Nat
  maxH : Bool
  max : Nat
  scale : Int
  zero : Nat
  hasPos : Bool
  pos : Bk
  hasNeg : Bool
  neg : Bk
  exs : List Exm
  flags : Nat
  thr : Nat
  u : List UInt8
def Xp.d (x : Xp) : D := .agg [slD (x.attrs.map KVs.d), .int .u64 x.start, .int .u64 x.time, .int .u64 x.count, .bool x.sumH, .int .u64 x.sum, .bool x.minH, .int .u64 x.min, .bool x.maxH, .int .u64 x.max, .int .i32 x.scale, .int .u64 x.zero,
  .bool x.hasPos, .int .i32 x.pos.off, slD (x.pos.cs.map uD), .str x.pos.u, .bool x.hasNeg, .int .i32 x.neg.off, slD (x.neg.cs.map uD), .str x.neg.u, slD (x.exs.map Exm.d), .int .u32 x.flags, .int .u64 x.thr, .str x.u]
def noXp : Xp := ⟨[], 0, 0, 0, false, 0, false, 0, false, 0, 0, 0, false, noBk, false, noBk, [], 0, 0, []⟩
theorem kn_pos {tb : Nat → Nat → Bool} {s : List UInt8} {d : Int} {num : Nat} (h : anyL (knB tb s d) num = true) : 0 ≤ d := by
  rcases Int.lt_or_le d 0 with hd | hd
  · unfold knB fldsE at h
    rw [if_pos hd] at h
    simp [knownL, anyL] at h
  · exact hd
theorem bytes_big {l : List Fld} (h : LOk l) (num : Nat) : (bytesL l num).length < big := by
  have := bytesL_len num l h.1
  have := h.2
  omega
section
variable (rdK : List UInt8 → KVs × Option Er) (rdE : List UInt8 → Exm × Option Er) (s : List UInt8) (d : Int)
def xpA : List KVs × Option Er := listF rdK s.length 1 (knB tbX s d) (readE s d)
def xpE : List Exm × Option Er := listF rdE s.length 11 (knB tbX s d) (xpA rdK s d).2
def xpP : Bk × Option Er := partF noBk (fun b => ubB b (d - 1)) s.length 8 (knB tbX s d) (xpE rdK rdE s d).2
def xpN : Bk × Option Er := partF noBk (fun b => ubB b (d - 1)) s.length 9 (knB tbX s d) (xpP rdK rdE s d).2
def xpOf : Xp × Option Er :=
  match (xpN rdK rdE s d).2 with
  | some e => (noXp, some e)
  | none => (⟨(xpA rdK s d).1, (lastF (knB tbX s d) 2).n, (lastF (knB tbX s d) 3).n, (lastF (knB tbX s d) 4).n, hasL (knB tbX s d) 5, (lastF (knB tbX s d) 5).n, hasL (knB tbX s d) 12, (lastF (knB tbX s d) 12).n, hasL (knB tbX s d) 13, (lastF (knB tbX s d) 13).n,
      zag32 (lastF (knB tbX s d) 6).n, (lastF (knB tbX s d) 7).n, anyL (knB tbX s d) 8, (xpP rdK rdE s d).1, anyL (knB tbX s d) 9, (xpN rdK rdE s d).1, (xpE rdK rdE s d).1, (lastF (knB tbX s d) 10).n % 4294967296, (lastF (knB tbX s d) 14).n, unB tbX s d⟩, none)
end
theorem u32w (n : Nat) : IntKind.u32.wrap (n : Int) = ((n % 4294967296 : Nat) : Int) := by rw [IntKind.wrap_u32]; omega
set_option maxHeartbeats 4000000 in
theorem Unmarshal_calls (hB : BOk B) (rdK : List UInt8 → KVs × Option Er) (rdE : List UInt8 → Exm × Option Er) (s : List UInt8) (d : Int) (hl : s.length < big) (hd1 : -9223372036854775808 ≤ d) (hd2 : d < 9223372036854775808)
    (hK : ∀ x ∈ knB tbX s d, x.num = 1 → CallsA (cx B) 57 [sT x.s, .d (.int .i64 (d - 1))] [] (.tup [.d (rdK x.s).1.d, .d (eD (rdK x.s).2)]) [])
    (hE : ∀ x ∈ knB tbX s d, x.num = 11 → CallsA (cx B) 60 [sT x.s, .d (.int .i64 (d - 1))] [] (.tup [.d (rdE x.s).1.d, .d (eD (rdE x.s).2)]) []) :
    CallsA (cx B) 26 [sT s, .d (.int .i64 d)] [] (.tup [.d (xpOf rdK rdE s d).1.d, .d (eD (xpOf rdK rdE s d).2)]) [] := by
  have h1 := Read_calls B hB 55 tbX (tbX_calls B) s d hl hd1 hd2
  have hk : LOk (knB tbX s d) := known_lok tbX s d hl
  have hm := lok_most hk
  have gA := List_KVs_calls B hB 57 [] rdK (readE s d) (unB tbX s d) d s.length (knB tbX s d) 1 hk (fun h => by have := kn_pos h; omega) hd2 (by simpa using hK)
  have gE := List_Exm_calls B hB 60 [] rdE (xpA rdK s d).2 (unB tbX s d) d s.length (knB tbX s d) 11 hk (fun h => by have := kn_pos h; omega) hd2 (by simpa using hE)
  have gP := Part_Bk_any B hB 12 [] (fun b => ubB b (d - 1)) (xpE rdK rdE s d).2 (unB tbX s d) d s.length (knB tbX s d) 8 hk (fun h => by have := kn_pos h; omega) hd2 (fun h => by
    have := kn_pos h
    exact UnmarshalBuckets_calls B hB (bytesL (knB tbX s d) 8) (d - 1) (bytes_big hk 8) (by omega) (by omega))
  have gN := Part_Bk_any B hB 12 [] (fun b => ubB b (d - 1)) (xpP rdK rdE s d).2 (unB tbX s d) d s.length (knB tbX s d) 9 hk (fun h => by have := kn_pos h; omega) hd2 (fun h => by
    have := kn_pos h
    exact UnmarshalBuckets_calls B hB (bytesL (knB tbX s d) 9) (d - 1) (bytes_big hk 9) (by omega) (by omega))
  have fx := fun e num => fixed_calls B e (unB tbX s d) d s.length (knB tbX s d) num hm
  have op := fun e num => Opt_calls B e (unB tbX s d) d s.length (knB tbX s d) num hm
  have hz := Zag32_calls B (lastF (knB tbX s d) 6).n (lastF_n hk 6)
  rw [show listF rdK s.length 1 (knB tbX s d) (readE s d) = xpA rdK s d from rfl] at gA
  rw [show listF rdE s.length 11 (knB tbX s d) (xpA rdK s d).2 = xpE rdK rdE s d from rfl] at gE
  rw [show partF noBk (fun b => ubB b (d - 1)) s.length 8 (knB tbX s d) (xpE rdK rdE s d).2 = xpP rdK rdE s d from rfl] at gP
  rw [show partF noBk (fun b => ubB b (d - 1)) s.length 9 (knB tbX s d) (xpP rdK rdE s d).2 = xpN rdK rdE s d from rfl] at gN
  unfold xpOf
  generalize xpN rdK rdE s d = q at *
  generalize xpP rdK rdE s d = p at *
  generalize xpE rdK rdE s d = x at *
  generalize xpA rdK s d = a at *
  obtain ⟨a, ea⟩ := a
  obtain ⟨x, ex⟩ := x
  obtain ⟨p, ep⟩ := p
  obtain ⟨q, eq⟩ := q
  dsimp only at *
  refine l_body (X := cx B) (fn := Tryz.f26) Tryz.func26 rfl rfl rfl rfl rfl 0 [] rfl rfl ?_
  refine walk ?_
  refine l_call [] (h1) rfl rfl rfl rfl rfl rfl rfl (by decide) rfl rfl rfl rfl rfl ?_
  refine walk ?_
  refine x_tail (i0 := 31) (z := 32) (t0 := 7) rfl (by decide) rfl rfl rfl rfl rfl rfl rfl rfl rfl rfl ?_
  refine walk ?_
  refine x_call [1] (gA) rfl rfl rfl rfl rfl rfl (by decide) rfl rfl rfl rfl rfl rfl ?_
  refine walk ?_
  refine x_call [1] (fx ea 2) rfl rfl rfl rfl rfl rfl (by decide) rfl rfl rfl rfl rfl rfl ?_
  refine walk ?_
  refine x_call [1] (fx ea 3) rfl rfl rfl rfl rfl rfl (by decide) rfl rfl rfl rfl rfl rfl ?_
  refine walk ?_
  refine x_call [1] (fx ea 4) rfl rfl rfl rfl rfl rfl (by decide) rfl rfl rfl rfl rfl rfl ?_
  refine walk ?_
  refine x_call [1] (op ea 5) rfl rfl rfl rfl rfl rfl (by decide) rfl rfl rfl rfl rfl rfl ?_
  refine walk ?_
  refine x_call [1] (op ea 12) rfl rfl rfl rfl rfl rfl (by decide) rfl rfl rfl rfl rfl rfl ?_
  refine walk ?_
  refine x_call [1] (op ea 13) rfl rfl rfl rfl rfl rfl (by decide) rfl rfl rfl rfl rfl rfl ?_
  refine walk ?_
  refine x_call [1] (fx ea 6) rfl rfl rfl rfl rfl rfl (by decide) rfl rfl rfl rfl rfl rfl ?_
  refine walk ?_
  refine x_call [] (hz) rfl rfl rfl rfl rfl rfl (by decide) rfl rfl rfl rfl rfl rfl ?_
  refine walk ?_
  refine x_call [1] (fx ea 7) rfl rfl rfl rfl rfl rfl (by decide) rfl rfl rfl rfl rfl rfl ?_
  refine walk ?_
  refine x_call [1] (gE) rfl rfl rfl rfl rfl rfl (by decide) rfl rfl rfl rfl rfl rfl ?_
  refine walk ?_
  refine x_call [1] (fx ex 10) rfl rfl rfl rfl rfl rfl (by decide) rfl rfl rfl rfl rfl rfl ?_
  refine walk ?_
  rw [u32w]
  refine x_call [1] (fx ex 14) rfl rfl rfl rfl rfl rfl (by decide) rfl rfl rfl rfl rfl rfl ?_
  refine walk ?_
  refine l_call [1] (gP) rfl rfl rfl rfl rfl rfl rfl (by decide) rfl rfl rfl rfl rfl ?_
  refine walk ?_
  refine l_call [1] (gN) rfl rfl rfl rfl rfl rfl rfl (by decide) rfl rfl rfl rfl rfl ?_
  refine walk ?_
  cases eq with
  | none =>
    refine walk ?_
    exact l_end trivial (by decide) rfl rfl rfl rfl rfl
  | some e =>
    cases e <;> (
    refine walk ?_
    exact l_end trivial (by decide) rfl rfl rfl rfl rfl)
end Go.Proofs.YtfbckigcelmopaaGreatDoor
