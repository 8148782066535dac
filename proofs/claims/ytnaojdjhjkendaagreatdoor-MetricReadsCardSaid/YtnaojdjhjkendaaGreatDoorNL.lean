/- Number: what they are, their bytes, what may be, what is read. -/
import Derived.Test.YtnaojdjhjkendaaGreatDoorEL
set_option linter.unusedSimpArgs false
set_option linter.unusedVariables false
set_option maxRecDepth 100000
namespace Go.Proofs.YtnaojdjhjkendaaGreatDoor
open Go Go.Abs
variable (B : Fr)
section
structure Nb where
 attrs : List Kv
 start : Nat
 time : Nat
 kind : Int
 n : Nat
 exs : List Em
 flags : Nat
 u : List UInt8
def noNb : Nb := ⟨[], 0, 0, 0, 0, [], 0, []⟩
def Nb.hb (x : Nb) : List UInt8 := fxV 2 x.start ++ fxV 3 x.time ++ opV 4 (x.kind == 1) x.n ++ psV 5 (x.exs.map Em.mar) ++ opV 6 (x.kind == 2) x.n ++ psV 7 (Kv.mars x.attrs) ++ vrV 8 x.flags
def Nb.hF (x : Nb) : List Fld := fxF 2 x.start ++ fxF 3 x.time ++ opF 4 (x.kind == 1) x.n ++ psF 5 (x.exs.map Em.mar) ++ opF 6 (x.kind == 2) x.n ++ psF 7 (Kv.mars x.attrs) ++ vrF 8 x.flags
def Nb.mar (x : Nb) : List UInt8 := x.hb ++ x.u
def tbN (n k : Nat) : Bool := bif [2, 3, 4, 6].contains n then k == 1 else bif [5, 7].contains n then k == 2 else bif [8].contains n then k == 0 else false
theorem tbN_calls (n k : Nat) : k'5 (cx B) 167 [iT n, iT k] [] (.d (.bool (tbN n k))) [] := by
 refine l_bw Tryz.func167 0 [] ?_
 cases h0 : ((n : Int) == 2) with
 | true =>
  have e : n = 2 := by have := eq_of_beq h0; omega
  subst e
  rw [show tbN 2 k = ((k : Int) == 1) from (ibeq k 1).symm]
  exact O
 | false =>
 have eh0 : n ≠ 2 := by have := ne_of_beq_false h0; omega
 refine Z ?_
 cases h1 : ((n : Int) == 3) with
 | true =>
  have e : n = 3 := by have := eq_of_beq h1; omega
  subst e
  rw [show tbN 3 k = ((k : Int) == 1) from (ibeq k 1).symm]
  exact O
 | false =>
 have eh1 : n ≠ 3 := by have := ne_of_beq_false h1; omega
 refine Z ?_
 cases h2 : ((n : Int) == 4) with
 | true =>
  have e : n = 4 := by have := eq_of_beq h2; omega
  subst e
  rw [show tbN 4 k = ((k : Int) == 1) from (ibeq k 1).symm]
  exact O
 | false =>
 have eh2 : n ≠ 4 := by have := ne_of_beq_false h2; omega
 refine Z ?_
 cases h3 : ((n : Int) == 6) with
 | true =>
  have e : n = 6 := by have := eq_of_beq h3; omega
  subst e
  rw [show tbN 6 k = ((k : Int) == 1) from (ibeq k 1).symm]
  exact O
 | false =>
 have eh3 : n ≠ 6 := by have := ne_of_beq_false h3; omega
 refine Z ?_
 cases h4 : ((n : Int) == 5) with
 | true =>
  have e : n = 5 := by have := eq_of_beq h4; omega
  subst e
  rw [show tbN 5 k = ((k : Int) == 2) from (ibeq k 2).symm]
  exact O
 | false =>
 have eh4 : n ≠ 5 := by have := ne_of_beq_false h4; omega
 refine Z ?_
 cases h5 : ((n : Int) == 7) with
 | true =>
  have e : n = 7 := by have := eq_of_beq h5; omega
  subst e
  rw [show tbN 7 k = ((k : Int) == 2) from (ibeq k 2).symm]
  exact O
 | false =>
 have eh5 : n ≠ 7 := by have := ne_of_beq_false h5; omega
 refine Z ?_
 cases h6 : ((n : Int) == 8) with
 | true =>
  have e : n = 8 := by have := eq_of_beq h6; omega
  subst e
  rw [show tbN 8 k = ((k : Int) == 0) from (ibeq k 0).symm]
  exact O
 | false =>
 have eh6 : n ≠ 8 := by have := ne_of_beq_false h6; omega
 refine Z ?_
 rw [show tbN n k = false from by unfold tbN; simp [eh0, eh1, eh2, eh3, eh4, eh5, eh6]]
 exact k'j rfl
def Nb.wf (x : Nb) : Prop := (∀ k ∈ x.attrs, k.wf) ∧ x.start < 2 ^ 64 ∧ x.time < 2 ^ 64 ∧ x.n < 2 ^ 64 ∧ (∀ k ∈ x.exs, k.wf) ∧ x.flags < 4294967296
def Nb.sz (x : Nb) : Nat := 300 + Kv.szs x.attrs + (x.exs.map Em.sz).sum + x.u.length
def Nb.may (x : Nb) (d : Int) : Bool := decide (0 ≤ d) && mayNum x.kind x.n && (x.exs.all fun k => k.may (d - 1)) && (x.attrs.all fun k => k.may (d - 1)) && restB tbN x.u d
theorem Nb.hb_len (x : Nb) : x.mar.length + 20 ≤ x.sz := by
 have q0 := k'26 2 x.start
 have q1 := k'26 3 x.time
 have q2 := k'4b 4 (x.kind == 1) x.n
 have q3 := psV_sum 5 x.exs fun y _ => Em.mar_len y
 have q4 := k'4b 6 (x.kind == 2) x.n
 have q5 := Kv.marsP_len 7 x.attrs
 have q6 := vrV_len 8 x.flags
 unfold Nb.mar Nb.hb Nb.sz
 simp only [List.length_append]
 omega
theorem Nb.mar_len (x : Nb) : x.mar.length + 20 ≤ x.sz := Nb.hb_len x
theorem Nb.mars_lt {l : List Nb} (h : (l.map Nb.sz).sum < big) : ∀ s ∈ l.map Nb.mar, s.length < 2 ^ 64 := fun s hs => by
 obtain ⟨k, hk, rfl⟩ := List.mem_map.1 hs
 have h1 := Nb.mar_len k; have h2 := k'3b (sz := Nb.sz) hk
 unfold big at h; omega
theorem Nb.all {x : Nb} (h1 : x.sz < big) (h2 : x.wf) (d : Int) : all x.hb d = .ok x.hF := by
 unfold Nb.sz big at h1
 obtain ⟨w0, w1, w2, w3, w4, w5⟩ := h2
 exact k'9 (k'9 (k'9 (k'9 (k'9 (k'9 (k'3x (by omega) (by omega) d (by omega)) (k'3x (by omega) (by omega) d (by omega))) (all_op (by omega) (by omega) d _ (by omega))) (k'4k (by omega) (by omega) d (Em.mars_lt (by unfold big; omega)))) (all_op (by omega) (by omega) d _ (by omega))) (k'4k (by omega) (by omega) d (Kv.mars_lt (by unfold big; omega)))) (all_vr (by omega) (by omega) d (by omega))
theorem Nb.inn (x : Nb) : inT tbN x.hF = true := by
 unfold Nb.hF
 simp only [inT_app, Bool.and_eq_true]
 exact ⟨⟨⟨⟨⟨⟨in_fx 2 x.start rfl, in_fx 3 x.time rfl⟩, in_op 4 x.n _ rfl⟩, in_ps 5 _ rfl⟩, in_op 6 x.n _ rfl⟩, in_ps 7 _ rfl⟩, in_vr 8 x.flags rfl⟩
def tellNb (d : Int) (l : List Fld) : Option (List UInt8 → Nb) :=
 match k'7 (fun s => okK s (d - 1)) 7 l with
 | none => none
 | some attrs =>
 match k'7 (fun s => okEm s (d - 1)) 5 l with
 | none => none
 | some exs =>
 some fun u => ⟨attrs, (k'a l 2).n, (k'a l 3).n, ((k'32 4 6 (oneF [4, 6] l)).1 : Int), (k'32 4 6 (oneF [4, 6] l)).2, exs, (k'a l 8).n % 4294967296, u⟩
def okNb (s : List UInt8) (d : Int) : Option Nb := apO (okG tbN tellNb s d)
theorem Nb.tell {x : Nb} (hwf : x.wf) (hnum : mayNum x.kind x.n = true) (d : Int) : tellNb d x.hF = (
 match mapO (fun s => okK s (d - 1)) (Kv.mars x.attrs) with
 | none => none
 | some attrs =>
 match mapO (fun s => okEm s (d - 1)) ((x.exs.map Em.mar)) with
 | none => none
 | some exs =>
 some fun u => ⟨attrs, x.start, x.time, x.kind, x.n, exs, x.flags, u⟩) := by
 obtain ⟨w0, w1, w2, w3, w4, w5⟩ := hwf
 have sattrs : sel 7 x.hF = psF 7 (Kv.mars x.attrs) := by unfold Nb.hF; simp [k'i, k'17, k'15, k'16, k'13, k'11]
 have tattrs : ∀ {α : Type} (ok : List UInt8 → Option α), k'7 ok 7 x.hF = mapO ok (Kv.mars x.attrs) := fun ok => k'2v ok sattrs
 have sstart : sel 2 x.hF = fxF 2 x.start := by unfold Nb.hF; simp [k'i, k'17, k'15, k'16, k'13, k'11]
 have tstart : (k'a x.hF 2).n = x.start := k'24 sstart
 have stime : sel 3 x.hF = fxF 3 x.time := by unfold Nb.hF; simp [k'i, k'17, k'15, k'16, k'13, k'11]
 have ttime : (k'a x.hF 3).n = x.time := k'24 stime
 have skn : selN [4, 6] x.hF = opF 4 (x.kind == 1) x.n ++ opF 6 (x.kind == 2) x.n := by unfold Nb.hF; simp [selN_app, selN_fx, selN_vr, selN_op, selN_tx, selN_ps]
 have tkn : k'32 4 6 (oneF [4, 6] x.hF) = (x.kind.toNat, x.n) := by rw [← oneF_selN, skn]; exact tell_num (by omega) (by omega) (by omega) hnum
 have kkn : (x.kind.toNat : Int) = x.kind := by unfold mayNum at hnum; simp at hnum; omega
 have sexs : sel 5 x.hF = psF 5 (x.exs.map Em.mar) := by unfold Nb.hF; simp [k'i, k'17, k'15, k'16, k'13, k'11]
 have texs : ∀ {α : Type} (ok : List UInt8 → Option α), k'7 ok 5 x.hF = mapO ok ((x.exs.map Em.mar)) := fun ok => k'2v ok sexs
 have sflags : sel 8 x.hF = vrF 8 x.flags := by unfold Nb.hF; simp [k'i, k'17, k'15, k'16, k'13, k'11]
 have tflags : (k'a x.hF 8).n % 4294967296 = x.flags := by rw [last_vr sflags]; omega
 unfold tellNb
 simp only [tattrs, tstart, ttime, tkn, kkn, texs, tflags]
theorem Nb_told : Told okNb Nb.may Nb.wf Nb.sz 800 := by
 intro d s x h
 obtain ⟨f, u, h1, rfl⟩ := k'2z h
 obtain ⟨l, -, h2, -, h4, hd, hf, hw⟩ := k'3e h1
 dsimp only at h2 h4 hw
 unfold tellNb at h2
 split at h2
 ·simp at h2
 rename_i attrs g_attrs
 split at h2
 ·simp at h2
 rename_i exs g_exs
 injection h2 with h2
 subst h2
 obtain ⟨p_attrs, q_attrs, r_attrs⟩ := Kv_told.parts hf g_attrs
 obtain ⟨p_exs, q_exs, r_exs⟩ := Em_told.parts hf g_exs
 obtain ⟨p_kn, q_kn⟩ := num_told (a := 4) (b := 6) hf
 refine ⟨?_, ⟨q_attrs, k'18 hf 2, k'18 hf 3, q_kn, q_exs, Nat.mod_lt _ (by decide)⟩, ?_⟩
 ·unfold Nb.may
  simp only [Bool.and_eq_true]
  exact ⟨⟨⟨⟨decide_eq_true hd, p_kn⟩, p_exs⟩, p_attrs⟩, h4⟩
 ·unfold Nb.sz
  simp only [Kv.szs_sum]
  omega
def Nb.eq (x y : Nb) : Bool := Kv.eqs x.attrs y.attrs && x.start == y.start && x.time == y.time && x.kind == y.kind && x.n == y.n && Em.eqs x.exs y.exs && x.flags == y.flags && x.u == y.u
def Nb.eqs : List Nb → List Nb → Bool
 | [], [] => true
 | v :: l, w :: r => v.eq w && Nb.eqs l r
 | [], _ :: _ => false
 | _ :: _, [] => false
theorem Nb.eq_self (x : Nb) : x.eq x = true := by unfold Nb.eq; simp [Kv.eqs_self, Em.eqs_self]
theorem Nb.eqs_self : ∀ l : List Nb, Nb.eqs l l = true
 | [] => rfl
 | v :: l => by unfold Nb.eqs; simp [Nb.eq_self v, Nb.eqs_self l]
theorem Nb.eqs_by (a b : List Nb) : Nb.eqs a b = (a.length == b.length && (List.range a.length).all (byI Nb.eq a b)) :=
 k'4d Nb.eq Nb.eqs rfl (fun _ _ _ _ => rfl) (fun _ _ => rfl) (fun _ _ => rfl) a b
end
section
def Nb.d (x : Nb) : D := .agg [slD (Kv.ds x.attrs), .int .u64 x.start, .int .u64 x.time, .int .i64 x.kind, .int .u64 x.n, slD (x.exs.map Em.d), .int .u32 x.flags, .str x.u]
def Nb.R (x : Nb) (a : D) : Prop := ∃ (z_attrs : Bool) (l_attrs : List D) (z_exs : Bool) (l_exs : List D), a = .agg [.sl z_attrs l_attrs, .int .u64 x.start, .int .u64 x.time, .int .i64 x.kind, .int .u64 x.n, .sl z_exs l_exs, .int .u32 x.flags, .str x.u] ∧ Kv.Rs x.attrs l_attrs ∧ RsOf Em.R x.exs l_exs
def NbSh (x : D) : Prop := ∃ (a0 : Bool) (a1 : List D) (a2 : Nat) (a3 : Nat) (a4 : Int) (a5 : Nat) (a6 : Bool) (a7 : List D) (a8 : Nat) (a9 : List UInt8), x = .agg [.sl a0 a1, .int .u64 a2, .int .u64 a3, .int .i64 a4, .int .u64 a5, .sl a6 a7, .int .u32 a8, .str a9]
theorem Nb.R_sh {x : Nb} {a : D} (h : x.R a) : NbSh a := by
 obtain ⟨z_attrs, l_attrs, z_exs, l_exs, h, -⟩ := h
 exact ⟨_, _, _, _, _, _, _, _, _, _, h⟩
theorem Nb.d_R (x : Nb) : x.R x.d := ⟨_, _, _, _, rfl, Kv.ds_R _, RsOf.map Em.d_R _⟩
theorem Nb.Rs_sh {l : List Nb} {xs : List D} (h : RsOf Nb.R l xs) : ∀ x ∈ xs, NbSh x := fun x hx => by
 obtain ⟨v, -, r⟩ := h.mem hx
 exact Nb.R_sh r
theorem Nb.R_no : noNb.R noNb.d := Nb.d_R _
theorem Nb_fits (l : List Nb) : ∀ a ∈ l.map Nb.d, a.fits 8 = true := by
 intro a ha
 obtain ⟨c, -, rfl⟩ := List.mem_map.1 ha
 rfl
theorem part_Nb_calls : partP B 166 Nb.d := k'3d B Tryz.func166
theorem List_Nb_calls : ListP B 83 Nb.d := List_S B (fun x => Nb_fits [x]) (part_Nb_calls B) (List_mk B Tryz.func83)
theorem List_Nb_tells : ListT B 83 Nb.d := k'27 B (List_Nb_calls B)
theorem okNb_rd (s : List UInt8) (d : Int) : okNb s d = (match k't s d, k'7 (fun s => okK s (d - 1)) 7 (knB tbN s d), k'7 (fun s => okEm s (d - 1)) 5 (knB tbN s d) with
 | none, some attrs, some exs => some ⟨attrs, (k'a (knB tbN s d) 2).n, (k'a (knB tbN s d) 3).n, ((k'32 4 6 (oneF [4, 6] (knB tbN s d))).1 : Int), (k'32 4 6 (oneF [4, 6] (knB tbN s d))).2, exs, (k'a (knB tbN s d) 8).n % 4294967296, unB tbN s d⟩
 | _, _, _ => none) := by
 unfold okNb
 rw [okG_rd]
 cases k't s d with
 | some e => rfl
 | none =>
  unfold tellNb
  simp only
  cases k'7 (fun s => okK s (d - 1)) 7 (knB tbN s d) with
  | none => rfl
  | some attrs =>
   cases k'7 (fun s => okEm s (d - 1)) 5 (knB tbN s d) with
   | none => rfl
   | some exs =>
    rfl
theorem Nb_read (hB : BOk B) (s : List UInt8) (d : Int) (hl : s.length < big) (hd1 : -9223372036854775808 ≤ d) (hd2 : d < 9223372036854775808) :
  RdZ B 84 Nb.d noNb (okNb s d) s d ∧ (∀ e0, k't s d = some e0 → k'5 (cx B) 84 [sT s, .d (.int .i64 d)] [] (.tup [.d noNb.d, .d e0.d]) []) := by
 have h1 := k'1h B hB 167 tbN (tbN_calls B) s d hl hd1 hd2
 have hk : LOk (knB tbN s d) := k'x tbN s d hl
 have hm := k'2w hk
 obtain ⟨vs_attrs, e1, c_attrs, t1⟩ := k'1e B hB (fun s => okK s (d - 1)) Kv.sh noKV 27 [] (k't s d) (unB tbN s d) d s.length (knB tbN s d) 7 hk (fun h => by have := k'25 h; omega) hd2 (fun x hx hn => k'1i B hB x.s (d - 1) (lok_s hk hx) (by have := k'2j hx; omega) (by omega))
 obtain ⟨vs_exs, e2, c_exs, t2⟩ := k'3z B hB (fun s => okEm s (d - 1)) id noEm 169 [] e1 (unB tbN s d) d s.length (knB tbN s d) 5 hk (fun h => by have := k'25 h; omega) hd2 (fun x hx hn => (Em_read B hB x.s (d - 1) (lok_s hk hx) (by have := k'2j hx; omega) (by omega)).1.at)
 have hein : ∀ x, e2 = some x → EIn s.length x := t2.ein (t1.ein (fun x hx => k'1a hx))
 have main : k'5 (cx B) 84 [sT s, .d (.int .i64 d)] [] (.tup [.d (orD e2 (.agg [slD (vs_attrs.map KVs.d), .int .u64 (k'a (knB tbN s d) 2).n, .int .u64 (k'a (knB tbN s d) 3).n, .int .i64 ((k'32 4 6 (oneF [4, 6] (knB tbN s d))).1 : Nat), .int .u64 ((k'32 4 6 (oneF [4, 6] (knB tbN s d))).2 : Nat), slD (vs_exs.map Em.d), .int .u32 ((k'a (knB tbN s d) 8).n % 4294967296 : Nat), .str (unB tbN s d)]) noNb.d), .d (eD e2)]) [] := by
  clear hein t1 t2
  refine l_bw Tryz.func84 0 [] ?_
  refine l_cw [] (h1) rfl rfl rfl ?_
  refine k'43 (i0 := 16) (z := 17) (t0 := 7) rfl (by decide) rfl rfl rfl rfl rfl rfl rfl rfl rfl rfl ?_
  refine Z ?_
  refine x_cw [1] (c_attrs) rfl rfl rfl ?_
  refine x_cw [1] (k'e B e1 (unB tbN s d) d s.length (knB tbN s d) 2 hm) rfl rfl rfl ?_
  refine x_cw [1] (k'e B e1 (unB tbN s d) d s.length (knB tbN s d) 3 hm) rfl rfl rfl ?_
  refine x_cw [1] (c_exs) rfl rfl rfl ?_
  refine x_cw [1] (k'e B e2 (unB tbN s d) d s.length (knB tbN s d) 8 hm) rfl rfl rfl ?_
  rw [u32w]
  refine l_cw [1] (rNumber_calls B e2 (unB tbN s d) d s.length (knB tbN s d) 4 6 hk) rfl rfl rfl ?_
  cases e2 with
  | none =>
   exact O
  | some er =>
   cases er <;> (
   exact O)
 constructor
 ·rw [okNb_rd]
  cases e2 with
  | none =>
   obtain ⟨k1, a_exs, g_exs, v_exs⟩ := t2.ok
   subst k1
   obtain ⟨k0, a_attrs, g_attrs, v_attrs⟩ := t1.ok
   rw [k0, g_attrs, g_exs]
   subst v_attrs
   rw [List.map_id] at v_exs
   subst v_exs
   rw [ks_map a_attrs] at main
   exact main
  | some er =>
   have hno : (match k't s d, k'7 (fun s => okK s (d - 1)) 7 (knB tbN s d), k'7 (fun s => okEm s (d - 1)) 5 (knB tbN s d) with
    | none, some attrs, some exs => some (⟨attrs, (k'a (knB tbN s d) 2).n, (k'a (knB tbN s d) 3).n, ((k'32 4 6 (oneF [4, 6] (knB tbN s d))).1 : Int), (k'32 4 6 (oneF [4, 6] (knB tbN s d))).2, exs, (k'a (knB tbN s d) 8).n % 4294967296, unB tbN s d⟩ : Nb)
    | _, _, _ => none) = none := by
    cases hr : k't s d with
    | some x => rfl
    | none =>
     rw [hr] at t1
     cases hp0 : k'7 (fun s => okK s (d - 1)) 7 (knB tbN s d) with
     | none => rfl
     | some a0 =>
      rw [hp0] at t1
      obtain ⟨-, q0⟩ := t1.get
      subst q0
      cases hp1 : k'7 (fun s => okEm s (d - 1)) 5 (knB tbN s d) with
      | none => split <;> simp_all
      | some a1 =>
       rw [hp1] at t2
       have := t2.get.2; simp at this
   rw [hno]
   exact ⟨er, hein er rfl, main⟩
 ·intro e0 he
  rw [he] at t1
  have k1 := t1.keep
  subst k1
  have k2 := t2.keep
  subst k2
  exact main
end
section
theorem refNb_calls (x y : Nb) (xa ya : D) (hbig : x.sz < big) (hx : x.R xa) (hy : y.R ya) : k'5 (cx B) 37 [.d xa, .d ya] [] (.d (.bool (x.eq y))) [] := by
 obtain ⟨z_attrs, l_attrs, z_exs, l_exs, rfl, r_attrs, r_exs⟩ := hx
 obtain ⟨y_attrs, m_attrs, y_exs, m_exs, rfl, s_attrs, s_exs⟩ := hy
 unfold Nb.sz at hbig
 have c_attrs := k'1s B (a := x.attrs) (b := y.attrs) z_attrs y_attrs (by omega) r_attrs s_attrs
 have c_exs := k'4g B (a := x.exs) (b := y.exs) z_exs y_exs (by omega) r_exs s_exs
 rw [show x.eq y = ((Kv.eqs x.attrs y.attrs) && (x.start == y.start) && (x.time == y.time) && (x.kind == y.kind) && (x.n == y.n) && (Em.eqs x.exs y.exs) && (x.flags == y.flags) && (x.u == y.u)) by unfold Nb.eq; ac_rfl]
 refine l_bw Tryz.func37 0 [] ?_
 refine l_cw [] (c_attrs) rfl rfl rfl ?_
 cases e0 : (Kv.eqs x.attrs y.attrs)
 ·exact O
 refine Z ?_
 rw [ibeq x.start y.start]
 cases e1 : (x.start == y.start)
 ·exact O
 refine Z ?_
 rw [ibeq x.time y.time]
 cases e2 : (x.time == y.time)
 ·exact O
 refine Z ?_
 cases e3 : (x.kind == y.kind)
 ·exact O
 refine Z ?_
 rw [ibeq x.n y.n]
 cases e4 : (x.n == y.n)
 ·exact O
 refine Z ?_
 refine l_cGw [] (c_exs) rfl rfl rfl rfl rfl ?_
 cases e5 : (Em.eqs x.exs y.exs)
 ·exact O
 refine Z ?_
 rw [ibeq x.flags y.flags]
 cases e6 : (x.flags == y.flags)
 ·exact O
 exact O
end
section
def Nb.setU (x : Nb) (u : List UInt8) : Nb := { x with u := u }
variable {s w t : List UInt8} {d : Int} {x y : Nb}
end
