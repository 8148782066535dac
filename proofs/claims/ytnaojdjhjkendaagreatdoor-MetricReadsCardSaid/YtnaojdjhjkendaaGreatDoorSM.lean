/- Quantile: may they be, written, read. -/
import Derived.Test.YtnaojdjhjkendaaGreatDoorWF
import Derived.Test.YtnaojdjhjkendaaGreatDoorRS
set_option linter.unusedSimpArgs false
set_option linter.unusedVariables false
set_option maxRecDepth 100000
namespace Go.Proofs.YtnaojdjhjkendaaGreatDoor
open Go Go.Abs
variable (B : Fr)
section
def Qu.d (x : Qu) : D := .agg [.int .u64 x.q, .int .u64 x.v, .str x.u]
def Qu.R (x : Qu) (a : D) : Prop := a = x.d
def QuSh (x : D) : Prop := ∃ (a0 : Nat) (a1 : Nat) (a2 : List UInt8), x = .agg [.int .u64 a0, .int .u64 a1, .str a2]
theorem Qu.R_sh {x : Qu} {a : D} (h : x.R a) : QuSh a := ⟨_, _, _, h⟩
theorem Qu.d_R (x : Qu) : x.R x.d := rfl
theorem Qu.Rs_sh {l : List Qu} {xs : List D} (h : RsOf Qu.R l xs) : ∀ x ∈ xs, QuSh x := fun x hx => by
 obtain ⟨v, -, r⟩ := h.mem hx
 exact Qu.R_sh r
theorem Qu.R_no : noQu.R noQu.d := Qu.d_R _
theorem Qu.Rs_map {l : List Qu} {xs : List D} (h : RsOf Qu.R l xs) : xs = l.map Qu.d := by
 refine List.ext_getElem? fun i => ?_
 rw [List.getElem?_map]
 cases hv : l[i]? with
 | none =>
  have := List.getElem?_eq_none_iff.1 hv
  exact List.getElem?_eq_none_iff.2 (by rw [h.1]; exact this)
 | some v =>
  obtain ⟨x, hx, r⟩ := h.2 i v hv
  rw [hx, show x = v.d from r]; rfl
theorem Qu_fits (l : List Qu) : ∀ a ∈ l.map Qu.d, a.fits 3 = true := by
 intro a ha
 obtain ⟨c, -, rfl⟩ := List.mem_map.1 ha
 rfl
theorem part_Qu_calls : partP B 264 Qu.d := k'3d B Tryz.func264
theorem List_Qu_calls : ListP B 182 Qu.d := List_S B (fun x => Qu_fits [x]) (part_Qu_calls B) (List_mk B Tryz.func182)
theorem List_Qu_tells : ListT B 182 Qu.d := k'27 B (List_Qu_calls B)
theorem okQu_rd (s : List UInt8) (d : Int) : okQu s d = (match k't s d with
 | none => some ⟨(k'a (knB tbG s d) 1).n, (k'a (knB tbG s d) 2).n, unB tbG s d⟩
 | _ => none) := by
 unfold okQu
 rw [okG_rd]
 cases k't s d with
 | some e => rfl
 | none => rfl
theorem Qu_read (hB : BOk B) (s : List UInt8) (d : Int) (hl : s.length < big) (hd1 : -9223372036854775808 ≤ d) (hd2 : d < 9223372036854775808) : RdAt B 183 [] Qu.d id (okQu s d) s d := by
 have h1 := k'1h B hB 265 tbG (tbG_calls B) s d hl hd1 hd2
 have hk : LOk (knB tbG s d) := k'x tbG s d hl
 have hm := k'2w hk
 have main : k'5 (cx B) 183 [sT s, .d (.int .i64 d)] [] (.tup [.d (Qu.d ⟨(k'a (knB tbG s d) 1).n, (k'a (knB tbG s d) 2).n, unB tbG s d⟩), .d (eD (k't s d))]) [] := by
  unfold Qu.d
  refine l_bw Tryz.func183 0 [] ?_
  refine l_cw [] (h1) rfl rfl rfl ?_
  refine x_cw [1] (k'e B (k't s d) (unB tbG s d) d s.length (knB tbG s d) 1 hm) rfl rfl rfl ?_
  refine x_callq [1] (k'e B (k't s d) (unB tbG s d) d s.length (knB tbG s d) 2 hm) rfl rfl rfl ?_
  exact O
 rw [okQu_rd]
 unfold RdAt
 cases hr : k't s d with
 | none => rw [hr] at main; exact main
 | some er => rw [hr] at main; exact ⟨_, er, k'1a hr, main⟩
end
section
structure Su where
 attrs : List Kv
 start : Nat
 time : Nat
 count : Nat
 sum : Nat
 qs : List Qu
 flags : Nat
 u : List UInt8
def noSu : Su := ⟨[], 0, 0, 0, 0, [], 0, []⟩
def Su.hb (x : Su) : List UInt8 := fxV 2 x.start ++ fxV 3 x.time ++ fxV 4 x.count ++ fxV 5 x.sum ++ psV 6 (x.qs.map Qu.mar) ++ psV 7 (Kv.mars x.attrs) ++ vrV 8 x.flags
def Su.hF (x : Su) : List Fld := fxF 2 x.start ++ fxF 3 x.time ++ fxF 4 x.count ++ fxF 5 x.sum ++ psF 6 (x.qs.map Qu.mar) ++ psF 7 (Kv.mars x.attrs) ++ vrF 8 x.flags
def Su.mar (x : Su) : List UInt8 := x.hb ++ x.u
def tbS (n k : Nat) : Bool := bif [2, 3, 4, 5].contains n then k == 1 else bif [6, 7].contains n then k == 2 else bif [8].contains n then k == 0 else false
theorem tbS_calls (n k : Nat) : k'5 (cx B) 181 [iT n, iT k] [] (.d (.bool (tbS n k))) [] := by
 refine l_bw Tryz.func181 0 [] ?_
 cases h0 : ((n : Int) == 2) with
 | true =>
  have e : n = 2 := by have := eq_of_beq h0; omega
  subst e
  rw [show tbS 2 k = ((k : Int) == 1) from (ibeq k 1).symm]
  exact O
 | false =>
 have eh0 : n ≠ 2 := by have := ne_of_beq_false h0; omega
 refine Z ?_
 cases h1 : ((n : Int) == 3) with
 | true =>
  have e : n = 3 := by have := eq_of_beq h1; omega
  subst e
  rw [show tbS 3 k = ((k : Int) == 1) from (ibeq k 1).symm]
  exact O
 | false =>
 have eh1 : n ≠ 3 := by have := ne_of_beq_false h1; omega
 refine Z ?_
 cases h2 : ((n : Int) == 4) with
 | true =>
  have e : n = 4 := by have := eq_of_beq h2; omega
  subst e
  rw [show tbS 4 k = ((k : Int) == 1) from (ibeq k 1).symm]
  exact O
 | false =>
 have eh2 : n ≠ 4 := by have := ne_of_beq_false h2; omega
 refine Z ?_
 cases h3 : ((n : Int) == 5) with
 | true =>
  have e : n = 5 := by have := eq_of_beq h3; omega
  subst e
  rw [show tbS 5 k = ((k : Int) == 1) from (ibeq k 1).symm]
  exact O
 | false =>
 have eh3 : n ≠ 5 := by have := ne_of_beq_false h3; omega
 refine Z ?_
 cases h4 : ((n : Int) == 6) with
 | true =>
  have e : n = 6 := by have := eq_of_beq h4; omega
  subst e
  rw [show tbS 6 k = ((k : Int) == 2) from (ibeq k 2).symm]
  exact O
 | false =>
 have eh4 : n ≠ 6 := by have := ne_of_beq_false h4; omega
 refine Z ?_
 cases h5 : ((n : Int) == 7) with
 | true =>
  have e : n = 7 := by have := eq_of_beq h5; omega
  subst e
  rw [show tbS 7 k = ((k : Int) == 2) from (ibeq k 2).symm]
  exact O
 | false =>
 have eh5 : n ≠ 7 := by have := ne_of_beq_false h5; omega
 refine Z ?_
 cases h6 : ((n : Int) == 8) with
 | true =>
  have e : n = 8 := by have := eq_of_beq h6; omega
  subst e
  rw [show tbS 8 k = ((k : Int) == 0) from (ibeq k 0).symm]
  exact O
 | false =>
 have eh6 : n ≠ 8 := by have := ne_of_beq_false h6; omega
 refine Z ?_
 rw [show tbS n k = false from by unfold tbS; simp [eh0, eh1, eh2, eh3, eh4, eh5, eh6]]
 exact k'j rfl
def Su.wf (x : Su) : Prop := (∀ k ∈ x.attrs, k.wf) ∧ x.start < 2 ^ 64 ∧ x.time < 2 ^ 64 ∧ x.count < 2 ^ 64 ∧ x.sum < 2 ^ 64 ∧ (∀ k ∈ x.qs, k.wf) ∧ x.flags < 4294967296
def Su.sz (x : Su) : Nat := 300 + Kv.szs x.attrs + (x.qs.map Qu.sz).sum + x.u.length
def Su.may (x : Su) (d : Int) : Bool := decide (0 ≤ d) && (x.qs.all fun k => k.may (d - 1)) && (x.attrs.all fun k => k.may (d - 1)) && restB tbS x.u d
theorem Su.hb_len (x : Su) : x.mar.length + 20 ≤ x.sz := by
 have q0 := k'26 2 x.start
 have q1 := k'26 3 x.time
 have q2 := k'26 4 x.count
 have q3 := k'26 5 x.sum
 have q4 := psV_sum 6 x.qs fun y _ => Qu.mar_len y
 have q5 := Kv.marsP_len 7 x.attrs
 have q6 := vrV_len 8 x.flags
 unfold Su.mar Su.hb Su.sz
 simp only [List.length_append]
 omega
theorem Su.mar_len (x : Su) : x.mar.length + 20 ≤ x.sz := Su.hb_len x
theorem Su.mars_lt {l : List Su} (h : (l.map Su.sz).sum < big) : ∀ s ∈ l.map Su.mar, s.length < 2 ^ 64 := fun s hs => by
 obtain ⟨k, hk, rfl⟩ := List.mem_map.1 hs
 have h1 := Su.mar_len k; have h2 := k'3b (sz := Su.sz) hk
 unfold big at h; omega
theorem Su.all {x : Su} (h1 : x.sz < big) (h2 : x.wf) (d : Int) : all x.hb d = .ok x.hF := by
 unfold Su.sz big at h1
 obtain ⟨w0, w1, w2, w3, w4, w5, w6⟩ := h2
 exact k'9 (k'9 (k'9 (k'9 (k'9 (k'9 (k'3x (by omega) (by omega) d (by omega)) (k'3x (by omega) (by omega) d (by omega))) (k'3x (by omega) (by omega) d (by omega))) (k'3x (by omega) (by omega) d (by omega))) (k'4k (by omega) (by omega) d (Qu.mars_lt (by unfold big; omega)))) (k'4k (by omega) (by omega) d (Kv.mars_lt (by unfold big; omega)))) (all_vr (by omega) (by omega) d (by omega))
theorem Su.inn (x : Su) : inT tbS x.hF = true := by
 unfold Su.hF
 simp only [inT_app, Bool.and_eq_true]
 exact ⟨⟨⟨⟨⟨⟨in_fx 2 x.start rfl, in_fx 3 x.time rfl⟩, in_fx 4 x.count rfl⟩, in_fx 5 x.sum rfl⟩, in_ps 6 _ rfl⟩, in_ps 7 _ rfl⟩, in_vr 8 x.flags rfl⟩
def tellSu (d : Int) (l : List Fld) : Option (List UInt8 → Su) :=
 match k'7 (fun s => okK s (d - 1)) 7 l with
 | none => none
 | some attrs =>
 match k'7 (fun s => okQu s (d - 1)) 6 l with
 | none => none
 | some qs =>
 some fun u => ⟨attrs, (k'a l 2).n, (k'a l 3).n, (k'a l 4).n, (k'a l 5).n, qs, (k'a l 8).n % 4294967296, u⟩
def okSu (s : List UInt8) (d : Int) : Option Su := apO (okG tbS tellSu s d)
theorem Su.tell {x : Su} (hwf : x.wf) (d : Int) : tellSu d x.hF = (
 match mapO (fun s => okK s (d - 1)) (Kv.mars x.attrs) with
 | none => none
 | some attrs =>
 match mapO (fun s => okQu s (d - 1)) ((x.qs.map Qu.mar)) with
 | none => none
 | some qs =>
 some fun u => ⟨attrs, x.start, x.time, x.count, x.sum, qs, x.flags, u⟩) := by
 obtain ⟨w0, w1, w2, w3, w4, w5, w6⟩ := hwf
 have sattrs : sel 7 x.hF = psF 7 (Kv.mars x.attrs) := by unfold Su.hF; simp [k'i, k'17, k'15, k'16, k'13, k'11]
 have tattrs : ∀ {α : Type} (ok : List UInt8 → Option α), k'7 ok 7 x.hF = mapO ok (Kv.mars x.attrs) := fun ok => k'2v ok sattrs
 have sstart : sel 2 x.hF = fxF 2 x.start := by unfold Su.hF; simp [k'i, k'17, k'15, k'16, k'13, k'11]
 have tstart : (k'a x.hF 2).n = x.start := k'24 sstart
 have stime : sel 3 x.hF = fxF 3 x.time := by unfold Su.hF; simp [k'i, k'17, k'15, k'16, k'13, k'11]
 have ttime : (k'a x.hF 3).n = x.time := k'24 stime
 have scount : sel 4 x.hF = fxF 4 x.count := by unfold Su.hF; simp [k'i, k'17, k'15, k'16, k'13, k'11]
 have tcount : (k'a x.hF 4).n = x.count := k'24 scount
 have ssum : sel 5 x.hF = fxF 5 x.sum := by unfold Su.hF; simp [k'i, k'17, k'15, k'16, k'13, k'11]
 have tsum : (k'a x.hF 5).n = x.sum := k'24 ssum
 have sqs : sel 6 x.hF = psF 6 (x.qs.map Qu.mar) := by unfold Su.hF; simp [k'i, k'17, k'15, k'16, k'13, k'11]
 have tqs : ∀ {α : Type} (ok : List UInt8 → Option α), k'7 ok 6 x.hF = mapO ok ((x.qs.map Qu.mar)) := fun ok => k'2v ok sqs
 have sflags : sel 8 x.hF = vrF 8 x.flags := by unfold Su.hF; simp [k'i, k'17, k'15, k'16, k'13, k'11]
 have tflags : (k'a x.hF 8).n % 4294967296 = x.flags := by rw [last_vr sflags]; omega
 unfold tellSu
 simp only [tattrs, tstart, ttime, tcount, tsum, tqs, tflags]
theorem Su_told : Told okSu Su.may Su.wf Su.sz 800 := by
 intro d s x h
 obtain ⟨f, u, h1, rfl⟩ := k'2z h
 obtain ⟨l, -, h2, -, h4, hd, hf, hw⟩ := k'3e h1
 dsimp only at h2 h4 hw
 unfold tellSu at h2
 split at h2
 ·simp at h2
 rename_i attrs g_attrs
 split at h2
 ·simp at h2
 rename_i qs g_qs
 injection h2 with h2
 subst h2
 obtain ⟨p_attrs, q_attrs, r_attrs⟩ := Kv_told.parts hf g_attrs
 obtain ⟨p_qs, q_qs, r_qs⟩ := Qu_told.parts hf g_qs
 refine ⟨?_, ⟨q_attrs, k'18 hf 2, k'18 hf 3, k'18 hf 4, k'18 hf 5, q_qs, Nat.mod_lt _ (by decide)⟩, ?_⟩
 ·unfold Su.may
  simp only [Bool.and_eq_true]
  exact ⟨⟨⟨decide_eq_true hd, p_qs⟩, p_attrs⟩, h4⟩
 ·unfold Su.sz
  simp only [Kv.szs_sum]
  omega
def Su.eq (x y : Su) : Bool := Kv.eqs x.attrs y.attrs && x.start == y.start && x.time == y.time && x.count == y.count && x.sum == y.sum && Qu.eqs x.qs y.qs && x.flags == y.flags && x.u == y.u
def Su.eqs : List Su → List Su → Bool
 | [], [] => true
 | v :: l, w :: r => v.eq w && Su.eqs l r
 | [], _ :: _ => false
 | _ :: _, [] => false
theorem Su.eq_self (x : Su) : x.eq x = true := by unfold Su.eq; simp [Kv.eqs_self, Qu.eqs_self]
theorem Su.eqs_self : ∀ l : List Su, Su.eqs l l = true
 | [] => rfl
 | v :: l => by unfold Su.eqs; simp [Su.eq_self v, Su.eqs_self l]
theorem Su.eqs_by (a b : List Su) : Su.eqs a b = (a.length == b.length && (List.range a.length).all (byI Su.eq a b)) :=
 k'4d Su.eq Su.eqs rfl (fun _ _ _ _ => rfl) (fun _ _ => rfl) (fun _ _ => rfl) a b
end
section
def Su.d (x : Su) : D := .agg [slD (Kv.ds x.attrs), .int .u64 x.start, .int .u64 x.time, .int .u64 x.count, .int .u64 x.sum, slD (x.qs.map Qu.d), .int .u32 x.flags, .str x.u]
def Su.R (x : Su) (a : D) : Prop := ∃ (z_attrs : Bool) (l_attrs : List D) (z_qs : Bool) (l_qs : List D), a = .agg [.sl z_attrs l_attrs, .int .u64 x.start, .int .u64 x.time, .int .u64 x.count, .int .u64 x.sum, .sl z_qs l_qs, .int .u32 x.flags, .str x.u] ∧ Kv.Rs x.attrs l_attrs ∧ RsOf Qu.R x.qs l_qs
def SuSh (x : D) : Prop := ∃ (a0 : Bool) (a1 : List D) (a2 : Nat) (a3 : Nat) (a4 : Nat) (a5 : Nat) (a6 : Bool) (a7 : List D) (a8 : Nat) (a9 : List UInt8), x = .agg [.sl a0 a1, .int .u64 a2, .int .u64 a3, .int .u64 a4, .int .u64 a5, .sl a6 a7, .int .u32 a8, .str a9]
theorem Su.R_sh {x : Su} {a : D} (h : x.R a) : SuSh a := by
 obtain ⟨z_attrs, l_attrs, z_qs, l_qs, h, -⟩ := h
 exact ⟨_, _, _, _, _, _, _, _, _, _, h⟩
theorem Su.d_R (x : Su) : x.R x.d := ⟨_, _, _, _, rfl, Kv.ds_R _, RsOf.map Qu.d_R _⟩
theorem Su.Rs_sh {l : List Su} {xs : List D} (h : RsOf Su.R l xs) : ∀ x ∈ xs, SuSh x := fun x hx => by
 obtain ⟨v, -, r⟩ := h.mem hx
 exact Su.R_sh r
theorem Su.R_no : noSu.R noSu.d := Su.d_R _
theorem Su_fits (l : List Su) : ∀ a ∈ l.map Su.d, a.fits 8 = true := by
 intro a ha
 obtain ⟨c, -, rfl⟩ := List.mem_map.1 ha
 rfl
theorem part_Su_calls : partP B 180 Su.d := k'3d B Tryz.func180
theorem List_Su_calls : ListP B 89 Su.d := List_S B (fun x => Su_fits [x]) (part_Su_calls B) (List_mk B Tryz.func89)
theorem List_Su_tells : ListT B 89 Su.d := k'27 B (List_Su_calls B)
theorem okSu_rd (s : List UInt8) (d : Int) : okSu s d = (match k't s d, k'7 (fun s => okK s (d - 1)) 7 (knB tbS s d), k'7 (fun s => okQu s (d - 1)) 6 (knB tbS s d) with
 | none, some attrs, some qs => some ⟨attrs, (k'a (knB tbS s d) 2).n, (k'a (knB tbS s d) 3).n, (k'a (knB tbS s d) 4).n, (k'a (knB tbS s d) 5).n, qs, (k'a (knB tbS s d) 8).n % 4294967296, unB tbS s d⟩
 | _, _, _ => none) := by
 unfold okSu
 rw [okG_rd]
 cases k't s d with
 | some e => rfl
 | none =>
  unfold tellSu
  simp only
  cases k'7 (fun s => okK s (d - 1)) 7 (knB tbS s d) with
  | none => rfl
  | some attrs =>
   cases k'7 (fun s => okQu s (d - 1)) 6 (knB tbS s d) with
   | none => rfl
   | some qs =>
    rfl
theorem Su_read (hB : BOk B) (s : List UInt8) (d : Int) (hl : s.length < big) (hd1 : -9223372036854775808 ≤ d) (hd2 : d < 9223372036854775808) :
  RdZ B 90 Su.d noSu (okSu s d) s d ∧ (∀ e0, k't s d = some e0 → k'5 (cx B) 90 [sT s, .d (.int .i64 d)] [] (.tup [.d noSu.d, .d e0.d]) []) := by
 have h1 := k'1h B hB 181 tbS (tbS_calls B) s d hl hd1 hd2
 have hk : LOk (knB tbS s d) := k'x tbS s d hl
 have hm := k'2w hk
 obtain ⟨vs_attrs, e1, c_attrs, t1⟩ := k'1e B hB (fun s => okK s (d - 1)) Kv.sh noKV 27 [] (k't s d) (unB tbS s d) d s.length (knB tbS s d) 7 hk (fun h => by have := k'25 h; omega) hd2 (fun x hx hn => k'1i B hB x.s (d - 1) (lok_s hk hx) (by have := k'2j hx; omega) (by omega))
 obtain ⟨vs_qs, e2, c_qs, t2⟩ := List_Qu_tells B hB (fun s => okQu s (d - 1)) id noQu 183 [] e1 (unB tbS s d) d s.length (knB tbS s d) 6 hk (fun h => by have := k'25 h; omega) hd2 (fun x hx hn => (Qu_read B hB x.s (d - 1) (lok_s hk hx) (by have := k'2j hx; omega) (by omega)))
 have hein : ∀ x, e2 = some x → EIn s.length x := t2.ein (t1.ein (fun x hx => k'1a hx))
 have main : k'5 (cx B) 90 [sT s, .d (.int .i64 d)] [] (.tup [.d (orD e2 (.agg [slD (vs_attrs.map KVs.d), .int .u64 (k'a (knB tbS s d) 2).n, .int .u64 (k'a (knB tbS s d) 3).n, .int .u64 (k'a (knB tbS s d) 4).n, .int .u64 (k'a (knB tbS s d) 5).n, slD (vs_qs.map Qu.d), .int .u32 ((k'a (knB tbS s d) 8).n % 4294967296 : Nat), .str (unB tbS s d)]) noSu.d), .d (eD e2)]) [] := by
  clear hein t1 t2
  refine l_bw Tryz.func90 0 [] ?_
  refine l_cw [] (h1) rfl rfl rfl ?_
  refine k'43 (i0 := 20) (z := 21) (t0 := 7) rfl (by decide) rfl rfl rfl rfl rfl rfl rfl rfl rfl rfl ?_
  refine Z ?_
  refine x_cw [1] (c_attrs) rfl rfl rfl ?_
  refine x_cw [1] (k'e B e1 (unB tbS s d) d s.length (knB tbS s d) 2 hm) rfl rfl rfl ?_
  refine x_cw [1] (k'e B e1 (unB tbS s d) d s.length (knB tbS s d) 3 hm) rfl rfl rfl ?_
  refine x_cw [1] (k'e B e1 (unB tbS s d) d s.length (knB tbS s d) 4 hm) rfl rfl rfl ?_
  refine x_cw [1] (k'e B e1 (unB tbS s d) d s.length (knB tbS s d) 5 hm) rfl rfl rfl ?_
  refine x_cw [1] (c_qs) rfl rfl rfl ?_
  refine x_cw [1] (k'e B e2 (unB tbS s d) d s.length (knB tbS s d) 8 hm) rfl rfl rfl ?_
  rw [u32w]
  cases e2 with
  | none =>
   exact O
  | some er =>
   cases er <;> (
   exact O)
 constructor
 ·rw [okSu_rd]
  cases e2 with
  | none =>
   obtain ⟨k1, a_qs, g_qs, v_qs⟩ := t2.ok
   subst k1
   obtain ⟨k0, a_attrs, g_attrs, v_attrs⟩ := t1.ok
   rw [k0, g_attrs, g_qs]
   subst v_attrs
   rw [List.map_id] at v_qs
   subst v_qs
   rw [ks_map a_attrs] at main
   exact main
  | some er =>
   have hno : (match k't s d, k'7 (fun s => okK s (d - 1)) 7 (knB tbS s d), k'7 (fun s => okQu s (d - 1)) 6 (knB tbS s d) with
    | none, some attrs, some qs => some (⟨attrs, (k'a (knB tbS s d) 2).n, (k'a (knB tbS s d) 3).n, (k'a (knB tbS s d) 4).n, (k'a (knB tbS s d) 5).n, qs, (k'a (knB tbS s d) 8).n % 4294967296, unB tbS s d⟩ : Su)
    | _, _, _ => none) = none := by
    cases hr : k't s d with
    | some x => rfl
    | none =>
     rw [hr] at t1
     cases hp0 : k'7 (fun s => okK s (d - 1)) 7 (knB tbS s d) with
     | none => rfl
     | some a0 =>
      rw [hp0] at t1
      obtain ⟨-, q0⟩ := t1.get
      subst q0
      cases hp1 : k'7 (fun s => okQu s (d - 1)) 6 (knB tbS s d) with
      | none => split <;> simp_all
      | some a1 =>
       rw [hp1] at t2
       have := t2.get.2; simp at this
   rw [hno]
   exact ⟨er, hein er rfl, main⟩
 ·intro e0 he
  rw [he] at t1
  have k1 := t1.keep
  subst k1
  have k2 := t2.keep
  subst k2
  exact main
end
section
theorem refSu_calls (x y : Su) (xa ya : D) (hbig : x.sz < big) (hx : x.R xa) (hy : y.R ya) : k'5 (cx B) 40 [.d xa, .d ya] [] (.d (.bool (x.eq y))) [] := by
 obtain ⟨z_attrs, l_attrs, z_qs, l_qs, rfl, r_attrs, r_qs⟩ := hx
 obtain ⟨y_attrs, m_attrs, y_qs, m_qs, rfl, s_attrs, s_qs⟩ := hy
 unfold Su.sz at hbig
 have c_attrs := k'1s B (a := x.attrs) (b := y.attrs) z_attrs y_attrs (by omega) r_attrs s_attrs
 obtain rfl := Qu.Rs_map r_qs
 obtain rfl := Qu.Rs_map s_qs
 have hqs := sum_ge (sz := Qu.sz) (fun x => by unfold Qu.sz; omega) x.qs
 rw [show x.eq y = (Kv.eqs x.attrs y.attrs && ((x.start == y.start) && ((x.time == y.time) && ((x.count == y.count) && ((x.sum == y.sum) && ((x.qs.length == y.qs.length) && ((x.flags == y.flags) && ((x.u == y.u) && ((List.range x.qs.length).all (byI Qu.eq x.qs y.qs)))))))))) by unfold Su.eq; rw [Qu.eqs_by]; ac_rfl]
 have hrr : ∀ (i : Nat) (a b : Qu), x.qs[i]? = some a → y.qs[i]? = some b → byI Qu.eq x.qs y.qs i = a.eq b := fun i a b h1 h2 => by unfold byI; rw [h1, h2]
 generalize byI Qu.eq x.qs y.qs = r at *
 refine l_bw Tryz.func40 0 [] ?_
 refine l_cw [] (c_attrs) rfl rfl rfl ?_
 cases e0 : (Kv.eqs x.attrs y.attrs)
 ·exact O
 refine Z ?_
 rw [show (((x.start : Nat) : Int) != ((y.start : Nat) : Int)) = !(x.start == y.start) by rw [bne, ibeq]]
 cases e1 : (x.start == y.start)
 ·exact O
 refine Z ?_
 rw [show (((x.time : Nat) : Int) != ((y.time : Nat) : Int)) = !(x.time == y.time) by rw [bne, ibeq]]
 cases e2 : (x.time == y.time)
 ·exact O
 refine Z ?_
 rw [show (((x.count : Nat) : Int) != ((y.count : Nat) : Int)) = !(x.count == y.count) by rw [bne, ibeq]]
 cases e3 : (x.count == y.count)
 ·exact O
 refine Z ?_
 rw [show (((x.sum : Nat) : Int) != ((y.sum : Nat) : Int)) = !(x.sum == y.sum) by rw [bne, ibeq]]
 cases e4 : (x.sum == y.sum)
 ·exact O
 refine Z ?_
 rw [show ((((x.qs.map Qu.d).length : Nat) : Int) != (((y.qs.map Qu.d).length : Nat) : Int)) = !(x.qs.length == y.qs.length) by rw [bne, ibeq, List.length_map, List.length_map]]
 cases e5 : (x.qs.length == y.qs.length)
 ·exact O
 refine Z ?_
 rw [show (((x.flags : Nat) : Int) != ((y.flags : Nat) : Int)) = !(x.flags == y.flags) by rw [bne, ibeq]]
 cases e6 : (x.flags == y.flags)
 ·exact O
 refine Z ?_
 cases e7 : (x.u == y.u)
 ·exact O
 refine Z ?_
 have hlen : x.qs.length = y.qs.length := eq_of_beq e5
 have hq9 : x.qs.length < 4611686018427387904 := by unfold big at hbig; omega
 refine k'y (fun i : Nat => x.qs.length - i) (fun i => [(2, .ptr 0 0), (3, .ptr 1 0), (5, iT i)]) (fun _ => [.mu [.d (.sl z_attrs l_attrs), .d (.int .u64 x.start), .d (.int .u64 x.time), .d (.int .u64 x.count), .d (.int .u64 x.sum), .d (.sl z_qs (x.qs.map Qu.d)), .d (.int .u32 x.flags), .d (.str x.u)], .mu [.d (.sl y_attrs m_attrs), .d (.int .u64 y.start), .d (.int .u64 y.time), .d (.int .u64 y.count), .d (.int .u64 y.sum), .d (.sl y_qs (y.qs.map Qu.d)), .d (.int .u32 y.flags), .d (.str y.u)]]) (fun i => i ≤ x.qs.length ∧ (List.range i).all r = true) 0 ⟨by omega, rfl⟩ ⟨rfl, rfl, rfl, trivial⟩ rfl 2 rfl (fun _ => rfl) (fun _ => rfl) (fun _ => rfl) ?_
 rintro i ⟨i1, i2⟩
 refine Z ?_
 refine k'1q rfl (fun hd => ?_) (fun hd => ?_)
 ·have hlt : i < x.qs.length := by have := of_decide_eq_true hd; simp at this; omega
  obtain ⟨a, hxi⟩ : ∃ a, x.qs[i]? = some a := ⟨_, List.getElem?_eq_getElem hlt⟩
  obtain ⟨b, hyi⟩ : ∃ b, y.qs[i]? = some b := ⟨_, List.getElem?_eq_getElem (by omega)⟩
  have hin : (List.range x.qs.length).all r = true → r i = true := fun h => List.all_eq_true.1 h i (List.mem_range.2 hlt)
  have hri := hrr i a b hxi hyi
  unfold Qu.eq at hri
  refine Z ?_
  refine k'43 (i0 := 11) (z := 13) (t0 := 7) rfl (by decide) rfl rfl rfl rfl rfl rfl rfl rfl rfl rfl ?_
  refine xw ?_
  refine k'35 (.indexAddr (k := .i64) (n := i) (es := x.qs.map Qu.d) (u := a.d) rfl rfl rfl rfl (.inl ⟨_, rfl⟩) rfl (by omega) (by simp [hxi]) rfl (by decide)) rfl rfl rfl ?_
  refine xw ?_
  refine k'35 (.indexAddr (k := .i64) (n := i) (es := y.qs.map Qu.d) (u := b.d) rfl rfl rfl rfl (.inl ⟨_, rfl⟩) rfl (by omega) (by simp [hyi]) rfl (by decide)) rfl rfl rfl ?_
  refine Z ?_
  have hno : r i = false → (List.range x.qs.length).all r = false := fun hr => by cases hh : (List.range x.qs.length).all r with | false => rfl | true => rw [hin hh] at hr; simp at hr
  rw [show (((a.q : Nat) : Int) != ((b.q : Nat) : Int)) = !(a.q == b.q) by rw [bne, ibeq]]
  cases q0 : (a.q == b.q)
  ·rw [hno (by rw [hri, q0]; rfl)]
   exact O
  refine Z ?_
  rw [show (((a.v : Nat) : Int) != ((b.v : Nat) : Int)) = !(a.v == b.v) by rw [bne, ibeq]]
  cases q1 : (a.v == b.v)
  ·rw [hno (by rw [hri, q0, q1]; rfl)]
   exact O
  refine Z ?_
  cases q2 : (a.u == b.u)
  ·rw [hno (by rw [hri, q0, q1, q2]; rfl)]
   exact O
  refine Z ?_
  rw [wS i (by omega)]
  exact ⟨i + 1, by omega, ⟨by omega, by rw [List.range_succ, List.all_append, i2]; simp [hri, q0, q1, q2]⟩, ⟨rfl, rfl, rfl, trivial⟩, rfl, k'g rfl⟩
 ·have hge : i = x.qs.length := by have := of_decide_eq_false hd; simp at this; omega
  subst hge
  rw [i2]
  exact O
end
section
theorem tabQu_calls : k'5 (cx B) 121 [] [] (.d (.sl false ([9, 17].map iD))) [] := by
 refine l_bw Tryz.func121 0 [] ?_
 (try refine k'h rfl ?_)
 refine k'3 (.buildSlice (es := [9, 17].map iD) rfl rfl rfl rfl rfl rfl (by intro x hx; simp [iD] at hx; rcases hx with rfl | rfl <;> rfl) (by decide) (by decide) (by decide)) rfl rfl ?_
 exact O
theorem tbG_big {n k : Nat} (hn : 3 ≤ n) : tbG n k = false := by
 unfold tbG
 simp
 (repeat' split) <;> omega
theorem tk_Qu (n k : Nat) (hk : k < 8) : tkB [9, 17] n k = tbG n k := by
 by_cases hn : n < 3
 ·exact (by decide : ∀ n < 3, ∀ k < 8, tkB [9, 17] n k = tbG n k) n hn k hk
 ·rw [show tkB [9, 17] n k = false by unfold tkB; simp; omega, tbG_big (by omega)]
theorem tabSu_calls : k'5 (cx B) 122 [] [] (.d (.sl false ([17, 25, 33, 41, 50, 58, 64].map iD))) [] := by
 refine l_bw Tryz.func122 0 [] ?_
 (try refine k'h rfl ?_)
 refine k'3 (.buildSlice (es := [17, 25, 33, 41, 50, 58, 64].map iD) rfl rfl rfl rfl rfl rfl (by intro x hx; simp [iD] at hx; rcases hx with rfl | rfl | rfl | rfl | rfl | rfl | rfl <;> rfl) (by decide) (by decide) (by decide)) rfl rfl ?_
 exact O
theorem tbS_big {n k : Nat} (hn : 9 ≤ n) : tbS n k = false := by
 unfold tbS
 simp
 (repeat' split) <;> omega
theorem tk_Su (n k : Nat) (hk : k < 8) : tkB [17, 25, 33, 41, 50, 58, 64] n k = tbS n k := by
 by_cases hn : n < 9
 ·exact (by decide : ∀ n < 9, ∀ k < 8, tkB [17, 25, 33, 41, 50, 58, 64] n k = tbS n k) n hn k hk
 ·rw [show tkB [17, 25, 33, 41, 50, 58, 64] n k = false by unfold tkB; simp; omega, tbS_big (by omega)]
end
