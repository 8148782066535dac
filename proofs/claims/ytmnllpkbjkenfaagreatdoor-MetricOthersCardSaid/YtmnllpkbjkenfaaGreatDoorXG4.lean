/- The table of a point of an exponential histogram; the shapes of attributes and exemplars. And more. -/
import Derived.Test.YtmnllpkbjkenfaaGreatDoorXG3
import Derived.Test.YtmnllpkbjkenfaaGreatDoorWT
set_option linter.unusedSimpArgs false
set_option linter.unusedVariables false
set_option maxRecDepth 100000
/-! The table of a point of an exponential histogram; the shapes of attributes and exemplars. -/
namespace Go.Proofs.YtmnllpkbjkenfaaGreatDoor
open Go Go.Abs
variable (B : Fr)
structure KVs where
 key : List UInt8
 has : Bool
 kind : Int
 s : List UInt8
 b : Bool
 n : Nat
 l : List D
 m : List D
 inner : List UInt8
 unk : List UInt8
 u : List UInt8
def KVs.d (x : KVs) : D := .agg [.str x.key, .bool x.has, .int .i64 x.kind, .str x.s, .bool x.b, .int .u64 x.n, slD x.l, slD x.m, .str x.inner, .str x.unk, .str x.u]
structure Exm where
 attrs : List KVs
 time : Nat
 kind : Int
 n : Nat
 span : List UInt8
 trace : List UInt8
 u : List UInt8
def Exm.d (x : Exm) : D := .agg [slD (x.attrs.map KVs.d), .int .u64 x.time, .int .i64 x.kind, .int .u64 x.n, .str x.span, .str x.trace, .str x.u]
theorem KVs_fits (l : List KVs) : ∀ a ∈ l.map KVs.d, a.fits 11 = true := by
 intro a ha
 obtain ⟨c, -, rfl⟩ := List.mem_map.1 ha
 rfl
theorem part_KVs_calls (hB : BOk B) (f : Nat) (cap : List D) (x : KVs) (er : Option Er) (s : List UInt8) (e : Option Er) (u : List UInt8) (d n : Int) (l : List Fld) (num : Nat) (hd1 : -9223372036854775808 < d) (hd2 : d < 9223372036854775808)
  (hf : CallsA (cx B) f ([sT s, .d (.int .i64 (d - 1))] ++ cap.map T.d) [] (.tup [.d x.d, .d (eD er)]) []) :
  CallsA (cx B) 116 [.ptr 0 0, iT num, sT s, .d (.fn f cap)] [rO e u d n l] (.d x.d) [rO (failE n num e er) u d n l] := by
 have h2 := k'9 B hB e u d n l num er
 refine k'2 (X := cx B) (fn := Tryz.f116) Tryz.func116 rfl rfl rfl rfl rfl 1 [] rfl rfl ?_
 refine walk ?_
 rw [show IntKind.i64.wrap (d - 1) = d - 1 from wrapI (by omega) (by omega)]
 refine k'1 [] (hf) rfl rfl rfl rfl rfl rfl rfl (by decide) rfl rfl rfl rfl rfl ?_
 refine walk ?_
 refine k'1 [0] (h2) rfl rfl rfl rfl rfl rfl rfl (by decide) rfl rfl rfl rfl rfl ?_
 refine walk ?_
 exact k'3 trivial (by decide) rfl rfl rfl rfl rfl
theorem List_KVs_calls (hB : BOk B) (f : Nat) (cap : List D) (rd : List UInt8 → KVs × Option Er) (e : Option Er) (u : List UInt8) (d n : Int) (l : List Fld) (num : Nat) (hl : LOk l) (hd1 : anyL l num = true → -9223372036854775808 < d) (hd2 : d < 9223372036854775808)
  (hf : ∀ x ∈ l, x.num = num → CallsA (cx B) f ([sT x.s, .d (.int .i64 (d - 1))] ++ cap.map T.d) [] (.tup [.d (rd x.s).1.d, .d (eD (rd x.s).2)]) []) :
  CallsA (cx B) 37 [.ptr 0 0, iT num, .d (.fn f cap)] [rO e u d n l] (.d (slD ((listF rd n num l e).1.map KVs.d))) [rO (listF rd n num l e).2 u d n l] := by
 have hlen : (l.map Fld.d).length = l.length := by simp
 have hlb := hl.lenb
 unfold big at hlb
 refine k'2 (X := cx B) (fn := Tryz.f37) Tryz.func37 rfl rfl rfl rfl rfl 1 [] rfl rfl ?_
 refine walk ?_
 rw [hlen]
 refine k'c (fun i : Nat => l.length - i) (fun i => [(0, .ptr 0 0), (1, iT num), (2, .d (.fn f cap)), (7, owT ((listF rd n num (l.take i) e).1.map KVs.d)), (13, .d (slD (l.map Fld.d))), (14, iT l.length), (15, iT i)])
  (fun i => [rO (listF rd n num (l.take i) e).2 u d n l]) (fun i => i ≤ l.length) 0 (by omega) ⟨rfl, rfl, rfl, rfl, rfl, rfl, rfl, trivial⟩ rfl 1 rfl (fun _ => rfl) (fun _ => rfl) (fun _ => rfl) ?_
 intro i i1
 refine walk ?_
 refine k'f rfl (fun hc => ?_) (fun hc => ?_)
 ·have hlt : i < l.length := by have := of_decide_eq_true hc; omega
  obtain ⟨x, hx⟩ : ∃ x, l[i]? = some x := ⟨_, List.getElem?_eq_getElem hlt⟩
  have hdx : (l.map Fld.d)[i]? = some x.d := by rw [List.getElem?_map, hx]; rfl
  have htk : l.take (i + 1) = l.take i ++ [x] := by rw [List.take_add_one, hx]; rfl
  have hpl := k'21 rd n num (l.take i) e
  have hwi : IntKind.i64.wrap ((i : Int) + 1) = ((i + 1 : Nat) : Int) := by rw [wrapI (by omega) (by omega)]; omega
  have hst : listF rd n num (l.take (i + 1)) e = listStep rd n num (listF rd n num (l.take i) e) x := by rw [htk, k'1k]
  refine walk ?_
  refine k'4 (.indexAddr (k := .i64) (n := i) (es := l.map Fld.d) (u := x.d) rfl rfl rfl rfl (.inl ⟨_, rfl⟩) rfl (by omega) (by simpa using hdx) rfl (by decide)) rfl rfl ?_
  refine walk ?_
  generalize hP : listF rd n num (l.take i) e = st at *
  obtain ⟨a, e'⟩ := st
  dsimp only at *
  by_cases hn : x.num = num
  ·rw [show ((x.num : Int) == num) = true by rw [hn]; simp]
   have hs2 : listStep rd n num (a, e') x = (a ++ [(rd x.s).1], failE n num e' (rd x.s).2) := by unfold listStep; rw [if_pos hn]
   rw [hs2] at hst
   have h5 := part_KVs_calls B hB f cap (rd x.s).1 (rd x.s).2 x.s e' u d n l num (hd1 (List.any_eq_true.2 ⟨x, List.mem_of_getElem? hx, by simpa using hn⟩)) hd2 (hf x (List.mem_of_getElem? hx) hn)
   generalize (rd x.s).1 = y at *
   generalize (rd x.s).2 = er at *
   refine adm ?_
   (try refine k'19 rfl ?_)
   refine k'4 (.assignOwn (.inr rfl) rfl) rfl rfl ?_
   refine walk ?_
   refine k'1 [0] (h5) rfl rfl rfl rfl rfl rfl rfl (by decide) rfl rfl rfl rfl rfl ?_
   refine k'4 (.buildSlice (es := [y.d]) rfl rfl rfl rfl rfl rfl (by intro x hx; simp at hx; subst hx; rfl) (by simp) (by decide) (by decide)) rfl rfl ?_
   have hm : (a.map KVs.d).length + [y.d].length ≤ most := by simp [most] at *; omega
   refine k'4 (.append' rfl rfl rfl rfl ⟨_, _, rfl, rfl, by intro q; simp⟩ rfl rfl rfl rfl rfl (by rw [show [y.d] = [y].map KVs.d from rfl, ← List.map_append]; exact KVs_fits _) (by decide) rfl hm rfl) rfl rfl ?_
   refine k'4 (.assignOwn (.inl rfl) rfl) rfl rfl ?_
   refine walk ?_
   rw [hwi]
   refine ⟨i + 1, by omega, by omega, ?_, rfl, ?_⟩
   ·rw [hst]; exact ⟨rfl, rfl, rfl, by show T.own _ _ = owT _; rw [List.map_append]; rfl, rfl, rfl, rfl, trivial⟩
   ·rw [hst]; exact k's rfl
  ·rw [show ((x.num : Int) == num) = false by simp; omega]
   have hs2 : listStep rd n num (a, e') x = (a, e') := by unfold listStep; rw [if_neg hn]
   rw [hs2] at hst
   refine walk ?_
   rw [hwi]
   refine ⟨i + 1, by omega, by omega, ?_, rfl, ?_⟩
   ·rw [hst]; exact ⟨rfl, rfl, rfl, rfl, rfl, rfl, rfl, trivial⟩
   ·rw [hst]; exact k's rfl
 ·have hge : i = l.length := by have := of_decide_eq_false hc; omega
  subst hge
  rw [List.take_length]
  refine adm ?_
  (try refine k'19 rfl ?_)
  refine k'4 (.moveShare rfl rfl) rfl rfl ?_
  refine walk ?_
  exact k'3 trivial (by decide) rfl rfl rfl rfl rfl
end Go.Proofs.YtmnllpkbjkenfaaGreatDoor
/-! A point of an exponential histogram read. -/
namespace Go.Proofs.YtmnllpkbjkenfaaGreatDoor
open Go Go.Abs
variable (B : Fr)
theorem k'1m {tb : Nat → Nat → Bool} {s : List UInt8} {d : Int} {num : Nat} (h : anyL (knB tb s d) num = true) : 0 ≤ d := by
 rcases Int.lt_or_le d 0 with hd | hd
 ·unfold knB fldsE at h
  rw [if_pos hd] at h
  simp [knownL, anyL] at h
 ·exact hd
theorem bytes_big {l : List Fld} (h : LOk l) (num : Nat) : (bytesL l num).length < big := by
 have := k'1u num l h.1
 have := h.2
 omega
section
variable (rdK : List UInt8 → KVs × Option Er) (rdE : List UInt8 → Exm × Option Er) (s : List UInt8) (d : Int)
end
theorem u32w (n : Nat) : IntKind.u32.wrap (n : Int) = ((n % 4294967296 : Nat) : Int) := by rw [IntKind.wrap_u32]; omega
end Go.Proofs.YtmnllpkbjkenfaaGreatDoor
/-! What the chapter's examples fix. -/
namespace Go.Proofs.YtmnllpkbjkenfaaGreatDoor
open Go Go.Abs
variable (B : Fr)
def noKV : KVs := ⟨[], false, 0, [], false, 0, [], [], [], [], []⟩
end Go.Proofs.YtmnllpkbjkenfaaGreatDoor
