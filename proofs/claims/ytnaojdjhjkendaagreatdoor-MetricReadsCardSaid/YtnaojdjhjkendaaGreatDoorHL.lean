/- Hist: alike, may they be, written, read. -/
import Derived.Test.YtnaojdjhjkendaaGreatDoorHP
import Derived.Test.YtnaojdjhjkendaaGreatDoorEL
set_option linter.unusedSimpArgs false
set_option linter.unusedVariables false
set_option maxRecDepth 100000
namespace Go.Proofs.YtnaojdjhjkendaaGreatDoor
open Go Go.Abs
variable (B : Fr)
section
def Hi.d (x : Hi) : D := .agg [slD (Kv.ds x.attrs), .int .u64 x.start, .int .u64 x.time, .int .u64 x.count, .bool x.sumH, .int .u64 x.sum, .bool x.minH, .int .u64 x.min, .bool x.maxH, .int .u64 x.max, slD (x.counts.map uD), slD (x.bounds.map uD), slD (x.exs.map Em.d), .int .u32 x.flags, .str x.u]
def Hi.R (x : Hi) (a : D) : Prop := ∃ (z_attrs : Bool) (l_attrs : List D) (z_counts : Bool) (z_bounds : Bool) (z_exs : Bool) (l_exs : List D), a = .agg [.sl z_attrs l_attrs, .int .u64 x.start, .int .u64 x.time, .int .u64 x.count, .bool x.sumH, .int .u64 x.sum, .bool x.minH, .int .u64 x.min, .bool x.maxH, .int .u64 x.max, .sl z_counts (x.counts.map uD), .sl z_bounds (x.bounds.map uD), .sl z_exs l_exs, .int .u32 x.flags, .str x.u] ∧ Kv.Rs x.attrs l_attrs ∧ RsOf Em.R x.exs l_exs
def HiSh (x : D) : Prop := ∃ (a0 : Bool) (a1 : List D) (a2 : Nat) (a3 : Nat) (a4 : Nat) (a5 : Bool) (a6 : Nat) (a7 : Bool) (a8 : Nat) (a9 : Bool) (a10 : Nat) (a11 : Bool) (a12 : List D) (a13 : Bool) (a14 : List D) (a15 : Bool) (a16 : List D) (a17 : Nat) (a18 : List UInt8), x = .agg [.sl a0 a1, .int .u64 a2, .int .u64 a3, .int .u64 a4, .bool a5, .int .u64 a6, .bool a7, .int .u64 a8, .bool a9, .int .u64 a10, .sl a11 a12, .sl a13 a14, .sl a15 a16, .int .u32 a17, .str a18]
theorem Hi.R_sh {x : Hi} {a : D} (h : x.R a) : HiSh a := by
 obtain ⟨z_attrs, l_attrs, z_counts, z_bounds, z_exs, l_exs, h, -⟩ := h
 exact ⟨_, _, _, _, _, _, _, _, _, _, _, _, _, _, _, _, _, _, _, h⟩
theorem Hi.d_R (x : Hi) : x.R x.d := ⟨_, _, _, _, _, _, rfl, Kv.ds_R _, RsOf.map Em.d_R _⟩
theorem Hi.Rs_sh {l : List Hi} {xs : List D} (h : RsOf Hi.R l xs) : ∀ x ∈ xs, HiSh x := fun x hx => by
 obtain ⟨v, -, r⟩ := h.mem hx
 exact Hi.R_sh r
theorem Hi.R_no : noHi.R noHi.d := Hi.d_R _
theorem Hi_fits (l : List Hi) : ∀ a ∈ l.map Hi.d, a.fits 15 = true := by
 intro a ha
 obtain ⟨c, -, rfl⟩ := List.mem_map.1 ha
 rfl
theorem part_Hi_calls : partP B 171 Hi.d := k'3d B Tryz.func171
theorem List_Hi_calls : ListP B 85 Hi.d := List_S B (fun x => Hi_fits [x]) (part_Hi_calls B) (List_mk B Tryz.func85)
theorem List_Hi_tells : ListT B 85 Hi.d := k'27 B (List_Hi_calls B)
theorem okHi_rd (s : List UInt8) (d : Int) : okHi s d = (match k't s d, k'7 (fun s => okK s (d - 1)) 9 (knB tbH s d), k'p fixs 6 (knB tbH s d), k'p fixs 7 (knB tbH s d), k'7 (fun s => okEm s (d - 1)) 8 (knB tbH s d) with
 | none, some attrs, some counts, some bounds, some exs => some ⟨attrs, (k'a (knB tbH s d) 2).n, (k'a (knB tbH s d) 3).n, (k'a (knB tbH s d) 4).n, (hasL (knB tbH s d) 5), (k'a (knB tbH s d) 5).n, (hasL (knB tbH s d) 11), (k'a (knB tbH s d) 11).n, (hasL (knB tbH s d) 12), (k'a (knB tbH s d) 12).n, counts, bounds, exs, (k'a (knB tbH s d) 10).n % 4294967296, unB tbH s d⟩
 | _, _, _, _, _ => none) := by
 unfold okHi
 rw [okG_rd]
 cases k't s d with
 | some e => rfl
 | none =>
  unfold k'45
  simp only
  cases k'7 (fun s => okK s (d - 1)) 9 (knB tbH s d) with
  | none => rfl
  | some attrs =>
   cases k'p fixs 6 (knB tbH s d) with
   | none => rfl
   | some counts =>
    cases k'p fixs 7 (knB tbH s d) with
    | none => rfl
    | some bounds =>
     cases k'7 (fun s => okEm s (d - 1)) 8 (knB tbH s d) with
     | none => rfl
     | some exs =>
      rfl
theorem Hi_read (hB : BOk B) (s : List UInt8) (d : Int) (hl : s.length < big) (hd1 : -9223372036854775808 ≤ d) (hd2 : d < 9223372036854775808) :
  RdZ B 86 Hi.d noHi (okHi s d) s d ∧ (∀ e0, k't s d = some e0 → k'5 (cx B) 86 [sT s, .d (.int .i64 d)] [] (.tup [.d noHi.d, .d e0.d]) []) := by
 have h1 := k'1h B hB 172 tbH (tbH_calls B) s d hl hd1 hd2
 have hk : LOk (knB tbH s d) := k'x tbH s d hl
 have hm := k'2w hk
 obtain ⟨vs_attrs, e1, c_attrs, t1⟩ := k'1e B hB (fun s => okK s (d - 1)) Kv.sh noKV 27 [] (k't s d) (unB tbH s d) d s.length (knB tbH s d) 9 hk (fun h => by have := k'25 h; omega) hd2 (fun x hx hn => k'1i B hB x.s (d - 1) (lok_s hk hx) (by have := k'2j hx; omega) (by omega))
 obtain ⟨vs_counts, e2, c_counts, t2⟩ := rFixeds_tells B hB e1 (unB tbH s d) d s.length (knB tbH s d) 6 hk
 obtain ⟨vs_bounds, e3, c_bounds, t3⟩ := rFixeds_tells B hB e2 (unB tbH s d) d s.length (knB tbH s d) 7 hk
 obtain ⟨vs_exs, e4, c_exs, t4⟩ := k'3z B hB (fun s => okEm s (d - 1)) id noEm 169 [] e3 (unB tbH s d) d s.length (knB tbH s d) 8 hk (fun h => by have := k'25 h; omega) hd2 (fun x hx hn => (Em_read B hB x.s (d - 1) (lok_s hk hx) (by have := k'2j hx; omega) (by omega)).1.at)
 have hein : ∀ x, e4 = some x → EIn s.length x := t4.ein (t3.ein (t2.ein (t1.ein (fun x hx => k'1a hx))))
 have main : k'5 (cx B) 86 [sT s, .d (.int .i64 d)] [] (.tup [.d (orD e4 (.agg [slD (vs_attrs.map KVs.d), .int .u64 (k'a (knB tbH s d) 2).n, .int .u64 (k'a (knB tbH s d) 3).n, .int .u64 (k'a (knB tbH s d) 4).n, .bool (hasL (knB tbH s d) 5), .int .u64 (k'a (knB tbH s d) 5).n, .bool (hasL (knB tbH s d) 11), .int .u64 (k'a (knB tbH s d) 11).n, .bool (hasL (knB tbH s d) 12), .int .u64 (k'a (knB tbH s d) 12).n, slD (vs_counts.map uD), slD (vs_bounds.map uD), slD (vs_exs.map Em.d), .int .u32 ((k'a (knB tbH s d) 10).n % 4294967296 : Nat), .str (unB tbH s d)]) noHi.d), .d (eD e4)]) [] := by
  clear hein t1 t2 t3 t4
  refine l_bw Tryz.func86 0 [] ?_
  refine l_cw [] (h1) rfl rfl rfl ?_
  refine k'43 (i0 := 28) (z := 29) (t0 := 7) rfl (by decide) rfl rfl rfl rfl rfl rfl rfl rfl rfl rfl ?_
  refine Z ?_
  refine x_cw [1] (c_attrs) rfl rfl rfl ?_
  refine x_cw [1] (k'e B e1 (unB tbH s d) d s.length (knB tbH s d) 2 hm) rfl rfl rfl ?_
  refine x_cw [1] (k'e B e1 (unB tbH s d) d s.length (knB tbH s d) 3 hm) rfl rfl rfl ?_
  refine x_cw [1] (k'e B e1 (unB tbH s d) d s.length (knB tbH s d) 4 hm) rfl rfl rfl ?_
  refine x_cw [1] (k'42 B e1 (unB tbH s d) d s.length (knB tbH s d) 5 hm) rfl rfl rfl ?_
  refine x_cw [1] (k'42 B e1 (unB tbH s d) d s.length (knB tbH s d) 11 hm) rfl rfl rfl ?_
  refine x_cw [1] (k'42 B e1 (unB tbH s d) d s.length (knB tbH s d) 12 hm) rfl rfl rfl ?_
  refine x_cw [1] (c_counts) rfl rfl rfl ?_
  refine x_cw [1] (c_bounds) rfl rfl rfl ?_
  refine x_cw [1] (c_exs) rfl rfl rfl ?_
  refine x_cw [1] (k'e B e4 (unB tbH s d) d s.length (knB tbH s d) 10 hm) rfl rfl rfl ?_
  rw [u32w]
  cases e4 with
  | none =>
   exact O
  | some er =>
   cases er <;> (
   exact O)
 constructor
 ·rw [okHi_rd]
  cases e4 with
  | none =>
   obtain ⟨k3, a_exs, g_exs, v_exs⟩ := t4.ok
   subst k3
   obtain ⟨k2, a_bounds, g_bounds, v_bounds⟩ := t3.ok
   subst k2
   obtain ⟨k1, a_counts, g_counts, v_counts⟩ := t2.ok
   subst k1
   obtain ⟨k0, a_attrs, g_attrs, v_attrs⟩ := t1.ok
   rw [k0, g_attrs, g_counts, g_bounds, g_exs]
   subst v_attrs
   simp only [id_eq] at v_counts
   subst v_counts
   simp only [id_eq] at v_bounds
   subst v_bounds
   rw [List.map_id] at v_exs
   subst v_exs
   rw [ks_map a_attrs] at main
   exact main
  | some er =>
   have hno : (match k't s d, k'7 (fun s => okK s (d - 1)) 9 (knB tbH s d), k'p fixs 6 (knB tbH s d), k'p fixs 7 (knB tbH s d), k'7 (fun s => okEm s (d - 1)) 8 (knB tbH s d) with
    | none, some attrs, some counts, some bounds, some exs => some (⟨attrs, (k'a (knB tbH s d) 2).n, (k'a (knB tbH s d) 3).n, (k'a (knB tbH s d) 4).n, (hasL (knB tbH s d) 5), (k'a (knB tbH s d) 5).n, (hasL (knB tbH s d) 11), (k'a (knB tbH s d) 11).n, (hasL (knB tbH s d) 12), (k'a (knB tbH s d) 12).n, counts, bounds, exs, (k'a (knB tbH s d) 10).n % 4294967296, unB tbH s d⟩ : Hi)
    | _, _, _, _, _ => none) = none := by
    cases hr : k't s d with
    | some x => rfl
    | none =>
     rw [hr] at t1
     cases hp0 : k'7 (fun s => okK s (d - 1)) 9 (knB tbH s d) with
     | none => rfl
     | some a0 =>
      rw [hp0] at t1
      obtain ⟨-, q0⟩ := t1.get
      subst q0
      cases hp1 : k'p fixs 6 (knB tbH s d) with
      | none => split <;> simp_all
      | some a1 =>
       rw [hp1] at t2
       obtain ⟨-, q1⟩ := t2.get
       subst q1
       cases hp2 : k'p fixs 7 (knB tbH s d) with
       | none => split <;> simp_all
       | some a2 =>
        rw [hp2] at t3
        obtain ⟨-, q2⟩ := t3.get
        subst q2
        cases hp3 : k'7 (fun s => okEm s (d - 1)) 8 (knB tbH s d) with
        | none => split <;> simp_all
        | some a3 =>
         rw [hp3] at t4
         have := t4.get.2; simp at this
   rw [hno]
   exact ⟨er, hein er rfl, main⟩
 ·intro e0 he
  rw [he] at t1
  have k1 := t1.keep
  subst k1
  have k2 := t2.keep
  subst k2
  have k3 := t3.keep
  subst k3
  have k4 := t4.keep
  subst k4
  exact main
end
section
theorem refHi_calls (x y : Hi) (xa ya : D) (hbig : x.sz < big) (hx : x.R xa) (hy : y.R ya) : k'5 (cx B) 38 [.d xa, .d ya] [] (.d (.bool (x.eq y))) [] := by
 obtain ⟨z_attrs, l_attrs, z_counts, z_bounds, z_exs, l_exs, rfl, r_attrs, r_exs⟩ := hx
 obtain ⟨y_attrs, m_attrs, y_counts, y_bounds, y_exs, m_exs, rfl, s_attrs, s_exs⟩ := hy
 unfold Hi.sz at hbig
 have c_attrs := k'1s B (a := x.attrs) (b := y.attrs) z_attrs y_attrs (by omega) r_attrs s_attrs
 have c_exs := k'4g B (a := x.exs) (b := y.exs) z_exs y_exs (by omega) r_exs s_exs
 have c_sum := k'21 B x.sumH x.sum y.sumH y.sum
 have c_min := k'21 B x.minH x.min y.minH y.min
 have c_max := k'21 B x.maxH x.max y.maxH y.max
 have c_counts := NumsZ B z_counts y_counts x.counts y.counts (by unfold big at hbig; omega)
 have c_bounds := NumsZ B z_bounds y_bounds x.bounds y.bounds (by unfold big at hbig; omega)
 rw [show x.eq y = ((Kv.eqs x.attrs y.attrs) && (x.start == y.start) && (x.time == y.time) && (x.count == y.count) && (x.sumH == y.sumH && x.sum == y.sum) && (x.minH == y.minH && x.min == y.min) && (x.maxH == y.maxH && x.max == y.max) && (x.counts == y.counts) && (x.bounds == y.bounds) && (Em.eqs x.exs y.exs) && (x.flags == y.flags) && (x.u == y.u)) by unfold Hi.eq; ac_rfl]
 refine l_bw Tryz.func38 0 [] ?_
 refine l_cw [] (c_attrs) rfl rfl rfl ?_
 cases e0 : (Kv.eqs x.attrs y.attrs)
 ·exact O
 refine Z ?_
 rw [ibeq x.start y.start]
 cases e1 : (x.start == y.start)
 ·exact O
 refine Z ?_
 rw [ibeq x.time y.time]
 cases e2 : (x.time == y.time)
 ·exact O
 refine Z ?_
 rw [ibeq x.count y.count]
 cases e3 : (x.count == y.count)
 ·exact O
 refine Z ?_
 refine l_cGw [] (c_sum) rfl rfl rfl rfl rfl ?_
 cases e4 : (x.sumH == y.sumH && x.sum == y.sum)
 ·exact O
 refine Z ?_
 refine l_cGw [] (c_min) rfl rfl rfl rfl rfl ?_
 cases e5 : (x.minH == y.minH && x.min == y.min)
 ·exact O
 refine Z ?_
 refine l_cGw [] (c_max) rfl rfl rfl rfl rfl ?_
 cases e6 : (x.maxH == y.maxH && x.max == y.max)
 ·exact O
 refine Z ?_
 refine l_cGw [] (c_counts) rfl rfl rfl rfl rfl ?_
 cases e7 : (x.counts == y.counts)
 ·exact O
 refine Z ?_
 refine l_cGw [] (c_bounds) rfl rfl rfl rfl rfl ?_
 cases e8 : (x.bounds == y.bounds)
 ·exact O
 refine Z ?_
 refine l_cGw [] (c_exs) rfl rfl rfl rfl rfl ?_
 cases e9 : (Em.eqs x.exs y.exs)
 ·exact O
 refine Z ?_
 rw [ibeq x.flags y.flags]
 cases e10 : (x.flags == y.flags)
 ·exact O
 exact O
end
section
def Hi.setU (x : Hi) (u : List UInt8) : Hi := { x with u := u }
variable {s w t : List UInt8} {d : Int} {x y : Hi}
end
