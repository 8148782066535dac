/- Quantile: may they be, written, read. -/
import Derived.Test.YtmnllpkbjkenfaaGreatDoorGP
import Derived.Test.YtmnllpkbjkenfaaGreatDoorWF
set_option linter.unusedSimpArgs false
set_option linter.unusedVariables false
set_option maxRecDepth 100000
namespace Go.Proofs.YtmnllpkbjkenfaaGreatDoor
open Go Go.Abs
variable (B : Fr)
def Qu.d (x : Qu) : D := .agg [.int .u64 x.q, .int .u64 x.v, .str x.u]
def Qu.R (x : Qu) (a : D) : Prop := a = x.d
def QuSh (x : D) : Prop := ∃ (a0 : Nat) (a1 : Nat) (a2 : List UInt8), x = .agg [.int .u64 a0, .int .u64 a1, .str a2]
theorem Qu.R_sh {x : Qu} {a : D} (h : x.R a) : QuSh a := ⟨_, _, _, h⟩
theorem Qu.d_R (x : Qu) : x.R x.d := rfl
theorem Qu.Rs_sh {l : List Qu} {xs : List D} (h : RsOf Qu.R l xs) : ∀ x ∈ xs, QuSh x := fun x hx => by
 obtain ⟨v, -, r⟩ := h.mem hx
 exact Qu.R_sh r
theorem Qu_May_calls (x : Qu) (xa : D) (d : Int) (hbig : x.sz < big) (hx : x.R xa) (hd1 : -9223372036854775808 ≤ d) (hd2 : d < 9223372036854775808) : k'1 (cx B) 267 [.d xa, .d (.int .i64 d)] [] (.d (.bool (x.may d))) [] := by
 obtain rfl := hx
 unfold Qu.sz at hbig
 unfold Qu.may Qu.d
 by_cases hd0 : 0 ≤ d
 rotate_left
 ·rw [show decide (0 ≤ d) = false from decide_eq_false hd0]
  refine k'2 (X := cx B) (fn := Tryz.f267) Tryz.func267 rfl rfl rfl rfl rfl 0 [] rfl rfl ?_
  refine Y ?_
  rw [show decide (d ≥ 0) = false from decide_eq_false hd0]
  exact Z
 have c_u := k'1l B 295 tbG (tbG_calls B) x.u d (by omega) (by omega) hd2
 refine k'2 (X := cx B) (fn := Tryz.f267) Tryz.func267 rfl rfl rfl rfl rfl 0 [] rfl rfl ?_
 refine Y ?_
 rw [show decide (d ≥ 0) = decide (0 ≤ d) from rfl]
 cases e0 : (decide (0 ≤ d))
 ·exact Z
 refine Y ?_
 refine k'c [] (c_u) rfl rfl rfl rfl rfl ?_
 exact Z
theorem All_Qu_calls : AllP B 266 QuSh := All_of B (All1_mk B Tryz.func327) (k'3d B Tryz.func346) (Cont_mk B Tryz.func326) (Allc_mk B Tryz.func266)
theorem All_Qu_R : AllRP B 266 267 Qu.R Qu.sz Qu.may := All_R B (All_Qu_calls B) Qu.Rs_sh (fun x => by unfold Qu.sz; omega) (Qu_May_calls B)
theorem Qu_Marshal_calls (x : Qu) (xa : D) (d : Int) (hbig : x.sz < big) (hwf : x.wf) (hx : x.R xa) : k'1 (cx B) 229 [.d xa, .d (.int .i64 d)] [] (.tup [sT x.mar, .d .nili]) [] := by
 have hlen := Qu.mar_len x
 have hlen : x.mar.length < big := by omega
 obtain rfl := hx
 unfold Qu.sz at hbig
 obtain ⟨w_q, w_v⟩ := hwf
 unfold Qu.mar Qu.hb at hlen ⊢
 unfold Qu.d
 obtain ⟨a0, ha0, c0⟩ := k'1i B 1 x.q (by omega) (by omega) (.nw 102 2) [] k'36 (by simp only [List.length_append, List.length_nil] at hlen ⊢; omega)
 rw [List.nil_append] at c0
 obtain ⟨a1, ha1, c1⟩ := k'1i B 2 x.v (by omega) (by omega) a0 (fxV 1 x.q) ha0 (by simp only [List.length_append] at hlen ⊢; omega)
 obtain ⟨cu, cs⟩ := k'2z B (s := x.u) ha1 (l := fxV 1 x.q ++ fxV 2 x.v) (by simp only [List.length_append] at hlen ⊢; omega)
 generalize fxV 1 x.q ++ fxV 2 x.v = o1 at c1 cu cs ⊢
 generalize fxV 1 x.q = o0 at c0 c1
 refine k'2 (X := cx B) (fn := Tryz.f229) Tryz.func229 rfl rfl rfl rfl rfl 0 [] rfl rfl ?_
 refine Y ?_
 refine k'5 [1] (c0) rfl rfl rfl rfl rfl rfl rfl (by decide) (by simp [k'0 k'36]) (by simp [k'0 ha0]) rfl rfl rfl ?_
 refine Y ?_
 refine k'5 [1] (c1) rfl rfl rfl rfl rfl rfl rfl (by decide) (by simp [k'0 ha0]) (by simp [k'0 ha1]) rfl rfl rfl ?_
 refine Y ?_
 refine k'5 [1] (cu) rfl rfl rfl rfl rfl rfl rfl (by decide) (by simp [k'0 ha1]) (by simp [k'0 (.inl rfl)]) rfl rfl rfl ?_
 refine Y ?_
 refine k'5 [1] (cs) rfl rfl rfl rfl rfl rfl rfl (by decide) (by simp [k'0 (.inl rfl)]) rfl rfl rfl rfl ?_
 exact Z
theorem Parts_Qu_wr : PartsP B 228 QuSh := k'4x B Tryz.func228
theorem Parts_Qu_R : PartsRP B 228 229 Qu.R Qu.sz Qu.wf Qu.may Qu.mar := Parts_R0 B (Parts_Qu_wr B) Qu.Rs_sh fun v x d a b c _ _ _ => Qu_Marshal_calls B v x d a b c
theorem Qu_fits (l : List Qu) : ∀ a ∈ l.map Qu.d, a.fits 3 = true := by
 intro a ha
 obtain ⟨c, -, rfl⟩ := List.mem_map.1 ha
 rfl
theorem part_Qu_calls : partP B 294 Qu.d := k'3f B Tryz.func294
theorem List_Qu_calls : ListP B 211 Qu.d := List_S B (fun x => Qu_fits [x]) (part_Qu_calls B) (List_mk B Tryz.func211)
theorem List_Qu_tells : ListT B 211 Qu.d := k'25 B (List_Qu_calls B)
theorem okQu_rd (s : List UInt8) (d : Int) : okQu s d = (match k'j s d with
 | none => some ⟨(k'8 (knB tbG s d) 1).n, (k'8 (knB tbG s d) 2).n, unB tbG s d⟩
 | _ => none) := by
 unfold okQu
 rw [okG_rd]
 cases k'j s d with
 | some e => rfl
 | none => rfl
theorem Qu_read (hB : BOk B) (s : List UInt8) (d : Int) (hl : s.length < big) (hd1 : -9223372036854775808 ≤ d) (hd2 : d < 9223372036854775808) : RdAt B 212 [] Qu.d id (okQu s d) s d := by
 have h1 := k'1d B hB 295 tbG (tbG_calls B) s d hl hd1 hd2
 have hk : LOk (knB tbG s d) := k'p tbG s d hl
 have hm := k'2y hk
 have main : k'1 (cx B) 212 [sT s, .d (.int .i64 d)] [] (.tup [.d (Qu.d ⟨(k'8 (knB tbG s d) 1).n, (k'8 (knB tbG s d) 2).n, unB tbG s d⟩), .d (eD (k'j s d))]) [] := by
  unfold Qu.d
  refine k'2 (X := cx B) (fn := Tryz.f212) Tryz.func212 rfl rfl rfl rfl rfl 0 [] rfl rfl ?_
  refine Y ?_
  refine l_cw [] (h1) rfl rfl rfl ?_
  refine x_cw [1] (k'9 B (k'j s d) (unB tbG s d) d s.length (knB tbG s d) 1 hm) rfl rfl rfl ?_
  refine k'17 [1] (k'9 B (k'j s d) (unB tbG s d) d s.length (knB tbG s d) 2 hm) rfl rfl rfl ?_
  exact Z
 rw [okQu_rd]
 unfold RdAt
 cases hr : k'j s d with
 | none => rw [hr] at main; exact main
 | some er => rw [hr] at main; exact ⟨_, er, k'15 hr, main⟩
