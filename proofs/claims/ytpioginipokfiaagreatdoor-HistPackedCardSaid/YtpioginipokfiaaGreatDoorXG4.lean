/- The table of a point of an exponential histogram; the shapes of attributes and exemplars. And more. -/
import Derived.Test.YtpioginipokfiaaGreatDoorWT
set_option linter.unusedSimpArgs false
set_option linter.unusedVariables false
set_option maxRecDepth 100000
/-! The table of a point of an exponential histogram; the shapes of attributes and exemplars. -/
namespace Go.Proofs.YtpioginipokfiaaGreatDoor
open Go Go.Abs
variable (B : Fr)
structure KVs where
 key : List UInt8
 has : Bool
 kind : Int
 s : List UInt8
 b : Bool
 n : Nat
 l : List D
 m : List D
 inner : List UInt8
 unk : List UInt8
 u : List UInt8
def KVs.d (x : KVs) : D := .agg [.str x.key, .bool x.has, .int .i64 x.kind, .str x.s, .bool x.b, .int .u64 x.n, slD x.l, slD x.m, .str x.inner, .str x.unk, .str x.u]
structure Exm where
 attrs : List KVs
 time : Nat
 kind : Int
 n : Nat
 span : List UInt8
 trace : List UInt8
 u : List UInt8
def Exm.d (x : Exm) : D := .agg [slD (x.attrs.map KVs.d), .int .u64 x.time, .int .i64 x.kind, .int .u64 x.n, .str x.span, .str x.trace, .str x.u]
theorem KVs_fits (l : List KVs) : ∀ a ∈ l.map KVs.d, a.fits 11 = true := by
 intro a ha
 obtain ⟨c, -, rfl⟩ := List.mem_map.1 ha
 rfl
theorem part_KVs_calls : partP B 60 KVs.d := part_mk B Tryz.func60
theorem List_KVs_calls : ListP B 25 KVs.d := List_S B (fun x => KVs_fits [x]) (part_KVs_calls B) (List_mk B Tryz.func25)
end Go.Proofs.YtpioginipokfiaaGreatDoor
/-! A point of an exponential histogram read. -/
namespace Go.Proofs.YtpioginipokfiaaGreatDoor
open Go Go.Abs
variable (B : Fr)
theorem kn_pos {tb : Nat → Nat → Bool} {s : List UInt8} {d : Int} {num : Nat} (h : anyL (knB tb s d) num = true) : 0 ≤ d := by
 rcases Int.lt_or_le d 0 with hd | hd
 ·unfold knB fldsE at h
  rw [if_pos hd] at h
  simp [k'u, anyL] at h
 ·exact hd
theorem bytes_big {l : List Fld} (h : LOk l) (num : Nat) : (k'12 l num).length < big := by
 have := bytesL_len num l h.1
 have := h.2
 omega
section
variable (rdK : List UInt8 → KVs × Option Er) (rdE : List UInt8 → Exm × Option Er) (s : List UInt8) (d : Int)
end
theorem u32w (n : Nat) : IntKind.u32.wrap (n : Int) = ((n % 4294967296 : Nat) : Int) := by rw [IntKind.wrap_u32]; omega
end Go.Proofs.YtpioginipokfiaaGreatDoor
/-! What the chapter's examples fix. -/
namespace Go.Proofs.YtpioginipokfiaaGreatDoor
open Go Go.Abs
variable (B : Fr)
def noKV : KVs := ⟨[], false, 0, [], false, 0, [], [], [], [], []⟩
