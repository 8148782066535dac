/- Exp: alike, may they be, written, read. -/
import Derived.Test.YtnaojdjhjkendaaGreatDoorQP
import Derived.Test.YtnaojdjhjkendaaGreatDoorEL
set_option linter.unusedSimpArgs false
set_option linter.unusedVariables false
set_option maxRecDepth 100000
namespace Go.Proofs.YtnaojdjhjkendaaGreatDoor
open Go Go.Abs
variable (B : Fr)
section
def Eh.d (x : Eh) : D := .agg [slD (Kv.ds x.attrs), .int .u64 x.start, .int .u64 x.time, .int .u64 x.count, .bool x.sumH, .int .u64 x.sum, .bool x.minH, .int .u64 x.min, .bool x.maxH, .int .u64 x.max, .int .i32 x.scale, .int .u64 x.zero, .bool x.posH, .int .i32 x.pos.off, slD (x.pos.cs.map uD), .str x.pos.u, .bool x.negH, .int .i32 x.neg.off, slD (x.neg.cs.map uD), .str x.neg.u, slD (x.exs.map Em.d), .int .u32 x.flags, .int .u64 x.thr, .str x.u]
def Eh.R (x : Eh) (a : D) : Prop := ∃ (z_attrs : Bool) (l_attrs : List D) (z_pos : Bool) (z_neg : Bool) (z_exs : Bool) (l_exs : List D), a = .agg [.sl z_attrs l_attrs, .int .u64 x.start, .int .u64 x.time, .int .u64 x.count, .bool x.sumH, .int .u64 x.sum, .bool x.minH, .int .u64 x.min, .bool x.maxH, .int .u64 x.max, .int .i32 x.scale, .int .u64 x.zero, .bool x.posH, .int .i32 x.pos.off, .sl z_pos (x.pos.cs.map uD), .str x.pos.u, .bool x.negH, .int .i32 x.neg.off, .sl z_neg (x.neg.cs.map uD), .str x.neg.u, .sl z_exs l_exs, .int .u32 x.flags, .int .u64 x.thr, .str x.u] ∧ Kv.Rs x.attrs l_attrs ∧ RsOf Em.R x.exs l_exs
def EhSh (x : D) : Prop := ∃ (a0 : Bool) (a1 : List D) (a2 : Nat) (a3 : Nat) (a4 : Nat) (a5 : Bool) (a6 : Nat) (a7 : Bool) (a8 : Nat) (a9 : Bool) (a10 : Nat) (a11 : Int) (a12 : Nat) (a13 : Bool) (a14 : Int) (a15 : Bool) (a16 : List D) (a17 : List UInt8) (a18 : Bool) (a19 : Int) (a20 : Bool) (a21 : List D) (a22 : List UInt8) (a23 : Bool) (a24 : List D) (a25 : Nat) (a26 : Nat) (a27 : List UInt8), x = .agg [.sl a0 a1, .int .u64 a2, .int .u64 a3, .int .u64 a4, .bool a5, .int .u64 a6, .bool a7, .int .u64 a8, .bool a9, .int .u64 a10, .int .i32 a11, .int .u64 a12, .bool a13, .int .i32 a14, .sl a15 a16, .str a17, .bool a18, .int .i32 a19, .sl a20 a21, .str a22, .sl a23 a24, .int .u32 a25, .int .u64 a26, .str a27]
theorem Eh.R_sh {x : Eh} {a : D} (h : x.R a) : EhSh a := by
 obtain ⟨z_attrs, l_attrs, z_pos, z_neg, z_exs, l_exs, h, -⟩ := h
 exact ⟨_, _, _, _, _, _, _, _, _, _, _, _, _, _, _, _, _, _, _, _, _, _, _, _, _, _, _, _, h⟩
theorem Eh.d_R (x : Eh) : x.R x.d := ⟨_, _, _, _, _, _, rfl, Kv.ds_R _, RsOf.map Em.d_R _⟩
theorem Eh.Rs_sh {l : List Eh} {xs : List D} (h : RsOf Eh.R l xs) : ∀ x ∈ xs, EhSh x := fun x hx => by
 obtain ⟨v, -, r⟩ := h.mem hx
 exact Eh.R_sh r
theorem Eh.R_no : noEh.R noEh.d := Eh.d_R _
theorem Eh_fits (l : List Eh) : ∀ a ∈ l.map Eh.d, a.fits 24 = true := by
 intro a ha
 obtain ⟨c, -, rfl⟩ := List.mem_map.1 ha
 rfl
theorem part_Eh_calls : partP B 175 Eh.d := k'3d B Tryz.func175
theorem List_Eh_calls : ListP B 87 Eh.d := List_S B (fun x => Eh_fits [x]) (part_Eh_calls B) (List_mk B Tryz.func87)
theorem List_Eh_tells : ListT B 87 Eh.d := k'27 B (List_Eh_calls B)
theorem okEh_rd (s : List UInt8) (d : Int) : okEh s d = (match k't s d, k'7 (fun s => okK s (d - 1)) 1 (knB tbQ s d), partO (fun s => okB s (d - 1)) noBk 8 (knB tbQ s d), partO (fun s => okB s (d - 1)) noBk 9 (knB tbQ s d), k'7 (fun s => okEm s (d - 1)) 11 (knB tbQ s d) with
 | none, some attrs, some pos, some neg, some exs => some ⟨attrs, (k'a (knB tbQ s d) 2).n, (k'a (knB tbQ s d) 3).n, (k'a (knB tbQ s d) 4).n, (hasL (knB tbQ s d) 5), (k'a (knB tbQ s d) 5).n, (hasL (knB tbQ s d) 12), (k'a (knB tbQ s d) 12).n, (hasL (knB tbQ s d) 13), (k'a (knB tbQ s d) 13).n, zag32 (k'a (knB tbQ s d) 6).n, (k'a (knB tbQ s d) 7).n, pos.1, pos.2, neg.1, neg.2, exs, (k'a (knB tbQ s d) 10).n % 4294967296, (k'a (knB tbQ s d) 14).n, unB tbQ s d⟩
 | _, _, _, _, _ => none) := by
 unfold okEh
 rw [okG_rd]
 cases k't s d with
 | some e => rfl
 | none =>
  unfold tellEh
  simp only
  cases k'7 (fun s => okK s (d - 1)) 1 (knB tbQ s d) with
  | none => rfl
  | some attrs =>
   cases partO (fun s => okB s (d - 1)) noBk 8 (knB tbQ s d) with
   | none => rfl
   | some pos =>
    cases partO (fun s => okB s (d - 1)) noBk 9 (knB tbQ s d) with
    | none => rfl
    | some neg =>
     cases k'7 (fun s => okEm s (d - 1)) 11 (knB tbQ s d) with
     | none => rfl
     | some exs =>
      rfl
theorem Eh_read (hB : BOk B) (s : List UInt8) (d : Int) (hl : s.length < big) (hd1 : -9223372036854775808 ≤ d) (hd2 : d < 9223372036854775808) :
  RdZ B 88 Eh.d noEh (okEh s d) s d ∧ (∀ e0, k't s d = some e0 → k'5 (cx B) 88 [sT s, .d (.int .i64 d)] [] (.tup [.d noEh.d, .d e0.d]) []) := by
 have h1 := k'1h B hB 176 tbQ (tbQ_calls B) s d hl hd1 hd2
 have hk : LOk (knB tbQ s d) := k'x tbQ s d hl
 have hm := k'2w hk
 obtain ⟨vs_attrs, e1, c_attrs, t1⟩ := k'1e B hB (fun s => okK s (d - 1)) Kv.sh noKV 27 [] (k't s d) (unB tbQ s d) d s.length (knB tbQ s d) 1 hk (fun h => by have := k'25 h; omega) hd2 (fun x hx hn => k'1i B hB x.s (d - 1) (lok_s hk hx) (by have := k'2j hx; omega) (by omega))
 obtain ⟨vs_exs, e2, c_exs, t2⟩ := k'3z B hB (fun s => okEm s (d - 1)) id noEm 169 [] e1 (unB tbQ s d) d s.length (knB tbQ s d) 11 hk (fun h => by have := k'25 h; omega) hd2 (fun x hx hn => (Em_read B hB x.s (d - 1) (lok_s hk hx) (by have := k'2j hx; omega) (by omega)).1.at)
 obtain ⟨vs_pos, e3, c_pos, t3⟩ := (Part_Bk B).tells B hB (fun s => okB s (d - 1)) id noBk rfl 179 [] e2 (unB tbQ s d) d s.length (knB tbQ s d) 8 hk (fun h => by have := k'25 h; omega) hd2 (fun h => UB_rd B hB _ (d - 1) (bytes_big hk 8) (by have := k'25 h; omega) (by omega))
 obtain ⟨vs_neg, e4, c_neg, t4⟩ := (Part_Bk B).tells B hB (fun s => okB s (d - 1)) id noBk rfl 179 [] e3 (unB tbQ s d) d s.length (knB tbQ s d) 9 hk (fun h => by have := k'25 h; omega) hd2 (fun h => UB_rd B hB _ (d - 1) (bytes_big hk 9) (by have := k'25 h; omega) (by omega))
 have hein : ∀ x, e4 = some x → EIn s.length x := t4.ein (t3.ein (t2.ein (t1.ein (fun x hx => k'1a hx))))
 have main : k'5 (cx B) 88 [sT s, .d (.int .i64 d)] [] (.tup [.d (orD e4 (.agg [slD (vs_attrs.map KVs.d), .int .u64 (k'a (knB tbQ s d) 2).n, .int .u64 (k'a (knB tbQ s d) 3).n, .int .u64 (k'a (knB tbQ s d) 4).n, .bool (hasL (knB tbQ s d) 5), .int .u64 (k'a (knB tbQ s d) 5).n, .bool (hasL (knB tbQ s d) 12), .int .u64 (k'a (knB tbQ s d) 12).n, .bool (hasL (knB tbQ s d) 13), .int .u64 (k'a (knB tbQ s d) 13).n, .int .i32 (zag32 (k'a (knB tbQ s d) 6).n), .int .u64 (k'a (knB tbQ s d) 7).n, .bool vs_pos.1, .int .i32 vs_pos.2.off, slD (vs_pos.2.cs.map uD), .str vs_pos.2.u, .bool vs_neg.1, .int .i32 vs_neg.2.off, slD (vs_neg.2.cs.map uD), .str vs_neg.2.u, slD (vs_exs.map Em.d), .int .u32 ((k'a (knB tbQ s d) 10).n % 4294967296 : Nat), .int .u64 (k'a (knB tbQ s d) 14).n, .str (unB tbQ s d)]) noEh.d), .d (eD e4)]) [] := by
  clear hein t1 t2 t3 t4
  refine l_bw Tryz.func88 0 [] ?_
  refine l_cw [] (h1) rfl rfl rfl ?_
  refine k'43 (i0 := 31) (z := 32) (t0 := 7) rfl (by decide) rfl rfl rfl rfl rfl rfl rfl rfl rfl rfl ?_
  refine Z ?_
  refine x_cw [1] (c_attrs) rfl rfl rfl ?_
  refine x_cw [1] (k'e B e1 (unB tbQ s d) d s.length (knB tbQ s d) 2 hm) rfl rfl rfl ?_
  refine x_cw [1] (k'e B e1 (unB tbQ s d) d s.length (knB tbQ s d) 3 hm) rfl rfl rfl ?_
  refine x_cw [1] (k'e B e1 (unB tbQ s d) d s.length (knB tbQ s d) 4 hm) rfl rfl rfl ?_
  refine x_cw [1] (k'42 B e1 (unB tbQ s d) d s.length (knB tbQ s d) 5 hm) rfl rfl rfl ?_
  refine x_cw [1] (k'42 B e1 (unB tbQ s d) d s.length (knB tbQ s d) 12 hm) rfl rfl rfl ?_
  refine x_cw [1] (k'42 B e1 (unB tbQ s d) d s.length (knB tbQ s d) 13 hm) rfl rfl rfl ?_
  refine x_cw [1] (k'e B e1 (unB tbQ s d) d s.length (knB tbQ s d) 6 hm) rfl rfl rfl ?_
  refine x_cw [] (Zag32_calls B (k'a (knB tbQ s d) 6).n (lastF_n hk 6)) rfl rfl rfl ?_
  refine x_cw [1] (k'e B e1 (unB tbQ s d) d s.length (knB tbQ s d) 7 hm) rfl rfl rfl ?_
  refine x_cw [1] (c_exs) rfl rfl rfl ?_
  refine x_cw [1] (k'e B e2 (unB tbQ s d) d s.length (knB tbQ s d) 10 hm) rfl rfl rfl ?_
  rw [u32w]
  refine x_cw [1] (k'e B e2 (unB tbQ s d) d s.length (knB tbQ s d) 14 hm) rfl rfl rfl ?_
  refine l_cw [1] (c_pos) rfl rfl rfl ?_
  refine l_cw [1] (c_neg) rfl rfl rfl ?_
  cases e4 with
  | none =>
   exact O
  | some er =>
   cases er <;> (
   exact O)
 constructor
 ·rw [okEh_rd]
  cases e4 with
  | none =>
   obtain ⟨k3, a_neg, g_neg, v_neg⟩ := t4.ok
   subst k3
   obtain ⟨k2, a_pos, g_pos, v_pos⟩ := t3.ok
   subst k2
   obtain ⟨k1, a_exs, g_exs, v_exs⟩ := t2.ok
   subst k1
   obtain ⟨k0, a_attrs, g_attrs, v_attrs⟩ := t1.ok
   rw [k0, g_attrs, g_pos, g_neg, g_exs]
   subst v_attrs
   simp only [id_eq] at v_pos
   subst v_pos
   simp only [id_eq] at v_neg
   subst v_neg
   rw [List.map_id] at v_exs
   subst v_exs
   rw [ks_map a_attrs] at main
   exact main
  | some er =>
   have hno : (match k't s d, k'7 (fun s => okK s (d - 1)) 1 (knB tbQ s d), partO (fun s => okB s (d - 1)) noBk 8 (knB tbQ s d), partO (fun s => okB s (d - 1)) noBk 9 (knB tbQ s d), k'7 (fun s => okEm s (d - 1)) 11 (knB tbQ s d) with
    | none, some attrs, some pos, some neg, some exs => some (⟨attrs, (k'a (knB tbQ s d) 2).n, (k'a (knB tbQ s d) 3).n, (k'a (knB tbQ s d) 4).n, (hasL (knB tbQ s d) 5), (k'a (knB tbQ s d) 5).n, (hasL (knB tbQ s d) 12), (k'a (knB tbQ s d) 12).n, (hasL (knB tbQ s d) 13), (k'a (knB tbQ s d) 13).n, zag32 (k'a (knB tbQ s d) 6).n, (k'a (knB tbQ s d) 7).n, pos.1, pos.2, neg.1, neg.2, exs, (k'a (knB tbQ s d) 10).n % 4294967296, (k'a (knB tbQ s d) 14).n, unB tbQ s d⟩ : Eh)
    | _, _, _, _, _ => none) = none := by
    cases hr : k't s d with
    | some x => rfl
    | none =>
     rw [hr] at t1
     cases hp0 : k'7 (fun s => okK s (d - 1)) 1 (knB tbQ s d) with
     | none => rfl
     | some a0 =>
      rw [hp0] at t1
      obtain ⟨-, q0⟩ := t1.get
      subst q0
      cases hp1 : k'7 (fun s => okEm s (d - 1)) 11 (knB tbQ s d) with
      | none => split <;> simp_all
      | some a1 =>
       rw [hp1] at t2
       obtain ⟨-, q1⟩ := t2.get
       subst q1
       cases hp2 : partO (fun s => okB s (d - 1)) noBk 8 (knB tbQ s d) with
       | none => split <;> simp_all
       | some a2 =>
        rw [hp2] at t3
        obtain ⟨-, q2⟩ := t3.get
        subst q2
        cases hp3 : partO (fun s => okB s (d - 1)) noBk 9 (knB tbQ s d) with
        | none => split <;> simp_all
        | some a3 =>
         rw [hp3] at t4
         have := t4.get.2; simp at this
   rw [hno]
   exact ⟨er, hein er rfl, main⟩
 ·intro e0 he
  rw [he] at t1
  have k1 := t1.keep
  subst k1
  have k2 := t2.keep
  subst k2
  have k3 := t3.keep
  subst k3
  have k4 := t4.keep
  subst k4
  exact main
end
section
theorem refEh_calls (x y : Eh) (xa ya : D) (hbig : x.sz < big) (hx : x.R xa) (hy : y.R ya) : k'5 (cx B) 39 [.d xa, .d ya] [] (.d (.bool (x.eq y))) [] := by
 obtain ⟨z_attrs, l_attrs, z_pos, z_neg, z_exs, l_exs, rfl, r_attrs, r_exs⟩ := hx
 obtain ⟨y_attrs, m_attrs, y_pos, y_neg, y_exs, m_exs, rfl, s_attrs, s_exs⟩ := hy
 unfold Eh.sz at hbig
 have c_attrs := k'1s B (a := x.attrs) (b := y.attrs) z_attrs y_attrs (by omega) r_attrs s_attrs
 have c_exs := k'4g B (a := x.exs) (b := y.exs) z_exs y_exs (by omega) r_exs s_exs
 have c_sum := k'21 B x.sumH x.sum y.sumH y.sum
 have c_min := k'21 B x.minH x.min y.minH y.min
 have c_max := k'21 B x.maxH x.max y.maxH y.max
 have c_pos := refBk_calls B z_pos y_pos x.pos y.pos (by unfold Bk.sz big at hbig; omega)
 have c_neg := refBk_calls B z_neg y_neg x.neg y.neg (by unfold Bk.sz big at hbig; omega)
 rw [show x.eq y = ((Kv.eqs x.attrs y.attrs) && (x.start == y.start) && (x.time == y.time) && (x.count == y.count) && (x.sumH == y.sumH && x.sum == y.sum) && (x.minH == y.minH && x.min == y.min) && (x.maxH == y.maxH && x.max == y.max) && (x.scale == y.scale) && (x.zero == y.zero) && (x.posH == y.posH) && (x.pos.eq y.pos) && (x.negH == y.negH) && (x.neg.eq y.neg) && (Em.eqs x.exs y.exs) && (x.flags == y.flags) && (x.thr == y.thr) && (x.u == y.u)) by unfold Eh.eq; ac_rfl]
 refine l_bw Tryz.func39 0 [] ?_
 refine l_cw [] (c_attrs) rfl rfl rfl ?_
 cases e0 : (Kv.eqs x.attrs y.attrs)
 ·exact O
 refine Z ?_
 rw [ibeq x.start y.start]
 cases e1 : (x.start == y.start)
 ·exact O
 refine Z ?_
 rw [ibeq x.time y.time]
 cases e2 : (x.time == y.time)
 ·exact O
 refine Z ?_
 rw [ibeq x.count y.count]
 cases e3 : (x.count == y.count)
 ·exact O
 refine Z ?_
 refine l_cGw [] (c_sum) rfl rfl rfl rfl rfl ?_
 cases e4 : (x.sumH == y.sumH && x.sum == y.sum)
 ·exact O
 refine Z ?_
 refine l_cGw [] (c_min) rfl rfl rfl rfl rfl ?_
 cases e5 : (x.minH == y.minH && x.min == y.min)
 ·exact O
 refine Z ?_
 refine l_cGw [] (c_max) rfl rfl rfl rfl rfl ?_
 cases e6 : (x.maxH == y.maxH && x.max == y.max)
 ·exact O
 refine Z ?_
 cases e7 : (x.scale == y.scale)
 ·exact O
 refine Z ?_
 rw [ibeq x.zero y.zero]
 cases e8 : (x.zero == y.zero)
 ·exact O
 refine Z ?_
 cases e9 : (x.posH == y.posH)
 ·exact O
 refine Z ?_
 refine l_cGw [] (c_pos) rfl rfl rfl rfl rfl ?_
 cases e10 : (x.pos.eq y.pos)
 ·exact O
 refine Z ?_
 cases e11 : (x.negH == y.negH)
 ·exact O
 refine Z ?_
 refine l_cGw [] (c_neg) rfl rfl rfl rfl rfl ?_
 cases e12 : (x.neg.eq y.neg)
 ·exact O
 refine Z ?_
 refine l_cGw [] (c_exs) rfl rfl rfl rfl rfl ?_
 cases e13 : (Em.eqs x.exs y.exs)
 ·exact O
 refine Z ?_
 rw [ibeq x.flags y.flags]
 cases e14 : (x.flags == y.flags)
 ·exact O
 refine Z ?_
 rw [ibeq x.thr y.thr]
 cases e15 : (x.thr == y.thr)
 ·exact O
 exact O
end
section
def Eh.setU (x : Eh) (u : List UInt8) : Eh := { x with u := u }
variable {s w t : List UInt8} {d : Int} {x y : Eh}
end
