/- Scope: what they are, their bytes, what may be, what is read. -/
import Derived.Test.YtidcjbkenpgnoaaGreatDoorMI
set_option linter.unusedSimpArgs false
set_option linter.unusedVariables false
set_option maxRecDepth 100000
namespace Go.Proofs.YtidcjbkenpgnoaaGreatDoor
open Go Go.Abs
variable (B : Fr)
section
structure Sc where
 name : List UInt8
 version : List UInt8
 attrs : List Kv
 dropped : Nat
 u : List UInt8
def noSc : Sc := ⟨[], [], [], 0, []⟩
def Sc.hb (x : Sc) : List UInt8 := txV 1 x.name ++ txV 2 x.version ++ psV 3 (Kv.mars x.attrs) ++ vrV 4 x.dropped
def Sc.hF (x : Sc) : List Fld := txF 1 x.name ++ txF 2 x.version ++ psF 3 (Kv.mars x.attrs) ++ vrF 4 x.dropped
def Sc.mar (x : Sc) : List UInt8 := x.hb ++ x.u
def tbC (n k : Nat) : Bool := bif [1, 2, 3].contains n then k == 2 else bif [4].contains n then k == 0 else false
theorem tbC_calls (n k : Nat) : k'0 (cx B) 193 [iT n, iT k] [] (.d (.bool (tbC n k))) [] := by
 refine l_bw Tryz.func193 0 [] ?_
 cases h0 : ((n : Int) == 1) with
 | true =>
  have e : n = 1 := by have := eq_of_beq h0; omega
  subst e
  rw [show tbC 1 k = ((k : Int) == 2) from (ibeq k 2).symm]
  exact Z
 | false =>
 have eh0 : n ≠ 1 := by have := ne_of_beq_false h0; omega
 refine Y ?_
 cases h1 : ((n : Int) == 2) with
 | true =>
  have e : n = 2 := by have := eq_of_beq h1; omega
  subst e
  rw [show tbC 2 k = ((k : Int) == 2) from (ibeq k 2).symm]
  exact Z
 | false =>
 have eh1 : n ≠ 2 := by have := ne_of_beq_false h1; omega
 refine Y ?_
 cases h2 : ((n : Int) == 3) with
 | true =>
  have e : n = 3 := by have := eq_of_beq h2; omega
  subst e
  rw [show tbC 3 k = ((k : Int) == 2) from (ibeq k 2).symm]
  exact Z
 | false =>
 have eh2 : n ≠ 3 := by have := ne_of_beq_false h2; omega
 refine Y ?_
 cases h3 : ((n : Int) == 4) with
 | true =>
  have e : n = 4 := by have := eq_of_beq h3; omega
  subst e
  rw [show tbC 4 k = ((k : Int) == 0) from (ibeq k 0).symm]
  exact Z
 | false =>
 have eh3 : n ≠ 4 := by have := ne_of_beq_false h3; omega
 refine Y ?_
 rw [show tbC n k = false from by unfold tbC; simp [eh0, eh1, eh2, eh3]]
 exact k's rfl
def Sc.wf (x : Sc) : Prop := (∀ k ∈ x.attrs, k.wf) ∧ x.dropped < 4294967296
def Sc.sz (x : Sc) : Nat := 300 + x.name.length + x.version.length + Kv.szs x.attrs + x.u.length
def Sc.may (x : Sc) (d : Int) : Bool := decide (0 ≤ d) && txt x.name && txt x.version && (x.attrs.all fun k => k.may (d - 1)) && k'1s tbC x.u d
theorem Sc.hb_len (x : Sc) : x.mar.length + 20 ≤ x.sz := by
 have q0 := k'2b 1 x.name
 have q1 := k'2b 2 x.version
 have q2 := Kv.marsP_len 3 x.attrs
 have q3 := k'2a 4 x.dropped
 unfold Sc.mar Sc.hb Sc.sz
 simp only [List.length_append]
 omega
theorem Sc.mar_len (x : Sc) : x.mar.length + 20 ≤ x.sz := Sc.hb_len x
theorem Sc.mars_lt {l : List Sc} (h : (l.map Sc.sz).sum < big) : ∀ s ∈ l.map Sc.mar, s.length < 2 ^ 64 := fun s hs => by
 obtain ⟨k, hk, rfl⟩ := List.mem_map.1 hs
 have h1 := Sc.mar_len k; have h2 := k'1h (sz := Sc.sz) hk
 unfold big at h; omega
theorem Sc.all {x : Sc} (h1 : x.sz < big) (h2 : x.wf) (d : Int) : all x.hb d = .ok x.hF := by
 unfold Sc.sz big at h1
 obtain ⟨w0, w1⟩ := h2
 exact k'2 (k'2 (k'2 (all_tx (by omega) (by omega) d (by omega)) (all_tx (by omega) (by omega) d (by omega))) (k'38 (by omega) (by omega) d (Kv.mars_lt (by unfold big; omega)))) (all_vr (by omega) (by omega) d (by omega))
theorem Sc.inn (x : Sc) : inT tbC x.hF = true := by
 unfold Sc.hF
 simp only [k'3l, Bool.and_eq_true]
 exact ⟨⟨⟨in_tx 1 x.name rfl, in_tx 2 x.version rfl⟩, in_ps 3 _ rfl⟩, in_vr 4 x.dropped rfl⟩
def tellSc (d : Int) (l : List Fld) : Option (List UInt8 → Sc) :=
 match k'1x 1 l with
 | none => none
 | some name =>
 match k'1x 2 l with
 | none => none
 | some version =>
 match k'3 (fun s => okK s (d - 1)) 3 l with
 | none => none
 | some attrs =>
 some fun u => ⟨name, version, attrs, (k'6 l 4).n % 4294967296, u⟩
def okSc (s : List UInt8) (d : Int) : Option Sc := apO (okG tbC tellSc s d)
theorem Sc.tell {x : Sc} (hwf : x.wf) (h_name : txt x.name = true) (h_version : txt x.version = true) (d : Int) : tellSc d x.hF = (
 match mapO (fun s => okK s (d - 1)) (Kv.mars x.attrs) with
 | none => none
 | some attrs =>
 some fun u => ⟨x.name, x.version, attrs, x.dropped, u⟩) := by
 obtain ⟨w0, w1⟩ := hwf
 have sname : sel 1 x.hF = txF 1 x.name := by unfold Sc.hF; simp [k'b, k'w, k'p, k'v, k'l, k'j]
 have tname : k'1x 1 x.hF = some x.name := text_of sname h_name
 have sversion : sel 2 x.hF = txF 2 x.version := by unfold Sc.hF; simp [k'b, k'w, k'p, k'v, k'l, k'j]
 have tversion : k'1x 2 x.hF = some x.version := text_of sversion h_version
 have sattrs : sel 3 x.hF = psF 3 (Kv.mars x.attrs) := by unfold Sc.hF; simp [k'b, k'w, k'p, k'v, k'l, k'j]
 have tattrs : ∀ {α : Type} (ok : List UInt8 → Option α), k'3 ok 3 x.hF = mapO ok (Kv.mars x.attrs) := fun ok => k'19 ok sattrs
 have sdropped : sel 4 x.hF = vrF 4 x.dropped := by unfold Sc.hF; simp [k'b, k'w, k'p, k'v, k'l, k'j]
 have tdropped : (k'6 x.hF 4).n % 4294967296 = x.dropped := by rw [last_vr sdropped]; omega
 unfold tellSc
 simp only [tname, tversion, tattrs, tdropped]
theorem Sc_back : Back okSc Sc.mar Sc.may (fun x => x.sz < big ∧ x.wf) := by
 intro d x hf hm
 obtain ⟨hbig, hwf⟩ := hf
 have hall := Sc.all hbig hwf
 have hwf0 := hwf
 have hbig' := hbig
 unfold Sc.sz big at hbig'
 obtain ⟨w_attrs, -⟩ := hwf
 unfold Sc.may at hm
 simp only [Bool.and_eq_true, decide_eq_true_eq] at hm
 obtain ⟨⟨⟨⟨hd, m_name⟩, m_version⟩, m_attrs⟩, hu⟩ := hm
 have htell := fun d => Sc.tell (x := x) hwf0 m_name m_version d
 obtain ⟨a_attrs, b_attrs⟩ := Kv_back.list (l := x.attrs) (d := d - 1) (fun k hk => ⟨by have := Kv.sz_mem hk; unfold big; omega, w_attrs k hk⟩) m_attrs
 simp only [← Kv.mars_map] at a_attrs b_attrs
 constructor
 ·unfold okSc Sc.mar
  rw [k'z hd (hall d) x.inn hu, htell]
  simp only [a_attrs]
  rfl
 ·intro e he hn
  unfold okSc Sc.mar
  cases hr : k'1s tbC x.u e with
  | false => rw [k'k (hall e) he hu fun _ => hr]; rfl
  | true =>
   rcases Int.lt_or_le e 0 with h0 | h0
   ·rw [k'1z h0]; rfl
   ·rw [k'z h0 (hall e) x.inn hr, htell]
    cases h_attrs : (x.attrs.all fun k => k.may (e - 1))
    ·have := b_attrs (e - 1) (by omega) h_attrs
     simp only [this]
     rfl
    exfalso
    unfold Sc.may at hn
    simp [h0, hr, m_name, m_version, h_attrs] at hn
theorem Sc_told : Told okSc Sc.may Sc.wf Sc.sz 400 := by
 intro d s x h
 obtain ⟨f, u, h1, rfl⟩ := k'2f h
 obtain ⟨l, -, h2, -, h4, hd, hf, hw⟩ := k'2z h1
 dsimp only at h2 h4 hw
 unfold tellSc at h2
 split at h2
 ·simp at h2
 rename_i name g_name
 split at h2
 ·simp at h2
 rename_i version g_version
 split at h2
 ·simp at h2
 rename_i attrs g_attrs
 injection h2 with h2
 subst h2
 obtain ⟨p_attrs, q_attrs, r_attrs⟩ := Kv_told.parts hf g_attrs
 obtain ⟨p_name, l_name⟩ := k'3s hf g_name
 obtain ⟨p_version, l_version⟩ := k'3s hf g_version
 refine ⟨?_, ⟨q_attrs, Nat.mod_lt _ (by decide)⟩, ?_⟩
 ·unfold Sc.may
  simp only [Bool.and_eq_true]
  exact ⟨⟨⟨⟨decide_eq_true hd, p_name⟩, p_version⟩, p_attrs⟩, h4⟩
 ·unfold Sc.sz
  simp only [Kv.szs_sum]
  omega
def Sc.eq (x y : Sc) : Bool := x.name == y.name && x.version == y.version && Kv.eqs x.attrs y.attrs && x.dropped == y.dropped && x.u == y.u
def Sc.eqs : List Sc → List Sc → Bool
 | [], [] => true
 | v :: l, w :: r => v.eq w && Sc.eqs l r
 | [], _ :: _ => false
 | _ :: _, [] => false
theorem Sc.eq_self (x : Sc) : x.eq x = true := by unfold Sc.eq; simp [Kv.eqs_self]
theorem Sc.eqs_self : ∀ l : List Sc, Sc.eqs l l = true
 | [] => rfl
 | v :: l => by unfold Sc.eqs; simp [Sc.eq_self v, Sc.eqs_self l]
theorem Sc.eqs_by (a b : List Sc) : Sc.eqs a b = (a.length == b.length && (List.range a.length).all (byI Sc.eq a b)) :=
 k'3n Sc.eq Sc.eqs rfl (fun _ _ _ _ => rfl) (fun _ _ => rfl) (fun _ _ => rfl) a b
end
section
def Sc.d (x : Sc) : D := .agg [.str x.name, .str x.version, slD (Kv.ds x.attrs), .int .u32 x.dropped, .str x.u]
def Sc.R (x : Sc) (a : D) : Prop := ∃ (z_attrs : Bool) (l_attrs : List D), a = .agg [.str x.name, .str x.version, .sl z_attrs l_attrs, .int .u32 x.dropped, .str x.u] ∧ Kv.Rs x.attrs l_attrs
def ScSh (x : D) : Prop := ∃ (a0 : List UInt8) (a1 : List UInt8) (a2 : Bool) (a3 : List D) (a4 : Nat) (a5 : List UInt8), x = .agg [.str a0, .str a1, .sl a2 a3, .int .u32 a4, .str a5]
theorem Sc.R_sh {x : Sc} {a : D} (h : x.R a) : ScSh a := by
 obtain ⟨z_attrs, l_attrs, h, -⟩ := h
 exact ⟨_, _, _, _, _, _, h⟩
theorem Sc.d_R (x : Sc) : x.R x.d := ⟨_, _, rfl, Kv.ds_R _⟩
theorem Sc.Rs_sh {l : List Sc} {xs : List D} (h : RsOf Sc.R l xs) : ∀ x ∈ xs, ScSh x := fun x hx => by
 obtain ⟨v, -, r⟩ := h.mem hx
 exact Sc.R_sh r
theorem Sc_Same_calls (x y : Sc) (xa ya : D) (hbig : x.sz < big) (hx : x.R xa) (hy : y.R ya) : k'0 (cx B) 145 [.d xa, .d ya] [] (.d (.bool (x.eq y))) [] := by
 obtain ⟨z_attrs, l_attrs, rfl, r_attrs⟩ := hx
 obtain ⟨y_attrs, m_attrs, rfl, s_attrs⟩ := hy
 unfold Sc.sz at hbig
 have c_attrs := k'1a B (a := x.attrs) (b := y.attrs) z_attrs y_attrs (by omega) r_attrs s_attrs
 rw [show x.eq y = ((x.name == y.name) && (x.version == y.version) && (x.dropped == y.dropped) && (x.u == y.u) && (Kv.eqs x.attrs y.attrs)) by unfold Sc.eq; ac_rfl]
 refine l_bw Tryz.func145 0 [] ?_
 cases e0 : (x.name == y.name)
 ·exact Z
 refine Y ?_
 cases e1 : (x.version == y.version)
 ·exact Z
 refine Y ?_
 rw [ibeq x.dropped y.dropped]
 cases e2 : (x.dropped == y.dropped)
 ·exact Z
 refine Y ?_
 cases e3 : (x.u == y.u)
 ·exact Z
 refine Y ?_
 refine k'8 [] (c_attrs) rfl rfl rfl rfl rfl ?_
 exact Z
theorem Sc_May_calls (x : Sc) (xa : D) (d : Int) (hbig : x.sz < big) (hx : x.R xa) (hd1 : -9223372036854775808 ≤ d) (hd2 : d < 9223372036854775808) : k'0 (cx B) 146 [.d xa, .d (.int .i64 d)] [] (.d (.bool (x.may d))) [] := by
 obtain ⟨z_attrs, l_attrs, rfl, r_attrs⟩ := hx
 unfold Sc.sz at hbig
 unfold Sc.may
 by_cases hd0 : 0 ≤ d
 rotate_left
 ·rw [show decide (0 ≤ d) = false from decide_eq_false hd0]
  refine l_bw Tryz.func146 0 [] ?_
  rw [show decide (d ≥ 0) = false from decide_eq_false hd0]
  exact Z
 have c_u := k't B 193 tbC (tbC_calls B) x.u d (by omega) (by omega) hd2
 have c_name := k'1j B x.name (by omega)
 have c_version := k'1j B x.version (by omega)
 have c_attrs := k'1f B (a := x.attrs) z_attrs (d - 1) (by omega) (by omega) (by omega) r_attrs
 refine l_bw Tryz.func146 0 [] ?_
 rw [show decide (d ≥ 0) = decide (0 ≤ d) from rfl]
 cases e0 : (decide (0 ≤ d))
 ·exact Z
 refine Y ?_
 refine k'1w [] (c_name) rfl rfl rfl rfl rfl ?_
 cases e1 : (txt x.name)
 ·exact Z
 refine Y ?_
 refine k'1w [] (c_version) rfl rfl rfl rfl rfl ?_
 cases e2 : (txt x.version)
 ·exact Z
 refine Y ?_
 rw [k'11 1 (by omega) (by omega) (by omega) hd2]
 refine k'1w [] (c_attrs) rfl rfl rfl rfl rfl ?_
 cases e3 : (x.attrs.all fun k => k.may (d - 1))
 ·exact Z
 refine Y ?_
 refine k'8 [] (c_u) rfl rfl rfl rfl rfl ?_
 exact Z
theorem Sc_Marshal_calls (x : Sc) (xa : D) (d : Int) (hbig : x.sz < big) (hwf : x.wf) (hx : x.R xa) (hd1 : -9223372036854775808 ≤ d) (hd2 : d < 9223372036854775808) : k'0 (cx B) 183 [.d xa, .d (.int .i64 d)] [] (if x.may d then .tup [sT x.mar, .d .nili] else .tup [sT [], .d (Er.code 8).d]) [] := by
 have hm := Sc_May_calls B x xa d hbig hx hd1 hd2
 have hlen := Sc.mar_len x
 have hlen : x.mar.length < big := by omega
 obtain ⟨z_attrs, l_attrs, rfl, r_attrs⟩ := hx
 unfold Sc.sz at hbig
 cases hc : x.may d
 ·rw [hc] at hm
  refine l_bw Tryz.func183 0 [] ?_
  refine k'1 [] (hm) rfl rfl rfl ?_
  exact Z
 rw [hc] at hm
 have hc' := hc
 unfold Sc.may at hc'
 simp only [Bool.and_eq_true, decide_eq_true_eq] at hc'
 obtain ⟨⟨⟨⟨hd, m_name⟩, m_version⟩, m_attrs⟩, hu⟩ := hc'
 obtain ⟨w_attrs, w_dropped⟩ := hwf
 unfold Sc.mar Sc.hb at hlen ⊢
 obtain ⟨a0, ha0, c0⟩ := k'2g B 1 x.name (by omega) (by omega) (.nw 71 2) [] k'22 (by simp only [List.length_append, List.length_nil] at hlen ⊢; omega)
 rw [List.nil_append] at c0
 obtain ⟨a1, ha1, c1⟩ := k'2g B 2 x.version (by omega) (by omega) (a0) (txV 1 x.name) ha0 (by simp only [List.length_append, List.length_nil] at hlen ⊢; omega)
 obtain ⟨a2, ha2, c2⟩ := k'34 B 3 (by omega) (by omega) z_attrs d (by omega) w_attrs m_attrs hd hd2 r_attrs (a1) (txV 1 x.name ++ txV 2 x.version) ha1 (by simp only [List.length_append, List.length_nil] at hlen ⊢; omega)
 obtain ⟨a3, ha3, c3⟩ := wr_var B 4 x.dropped (by omega) (by omega) (by omega) (a2) (txV 1 x.name ++ txV 2 x.version ++ psV 3 (Kv.mars x.attrs)) ha2 (by simp only [List.length_append, List.length_nil] at hlen ⊢; omega)
 obtain ⟨cu, cs⟩ := k'26 B (s := x.u) ha3 (l := txV 1 x.name ++ txV 2 x.version ++ psV 3 (Kv.mars x.attrs) ++ vrV 4 x.dropped) (by simp only [List.length_append] at hlen ⊢; omega)
 generalize txV 1 x.name ++ txV 2 x.version ++ psV 3 (Kv.mars x.attrs) ++ vrV 4 x.dropped = o3 at c3 cu cs ⊢
 generalize txV 1 x.name ++ txV 2 x.version ++ psV 3 (Kv.mars x.attrs) = o2 at c2 c3
 generalize txV 1 x.name ++ txV 2 x.version = o1 at c1 c2
 generalize txV 1 x.name = o0 at c0 c1
 refine l_bw Tryz.func183 0 [] ?_
 refine l_cw [] (hm) rfl rfl rfl ?_
 refine l_wr [1] (c0) k'22 ha0 ?_
 refine l_wr [1] (c1) ha0 ha1 ?_
 refine l_wr [1] (c2) ha1 ha2 ?_
 rw [show IntKind.u64.wrap (x.dropped : Int) = (x.dropped : Int) by rw [IntKind.wrap_u64]; omega]
 refine l_wr [1] (c3) ha2 ha3 ?_
 refine l_wr [1] (cu) ha3 (.inl rfl) ?_
 refine k'1g [1] (cs) rfl rfl rfl rfl rfl rfl rfl (by decide) (by simp [k'5 (.inl rfl)]) rfl rfl rfl rfl ?_
 exact Z
theorem part_Sc_calls : partP B 217 Sc.d := k'2s B Tryz.func217
theorem okSc_rd (s : List UInt8) (d : Int) : okSc s d = (match k'd s d, k'1x 1 (knB tbC s d), k'1x 2 (knB tbC s d), k'3 (fun s => okK s (d - 1)) 3 (knB tbC s d) with
 | none, some name, some version, some attrs => some ⟨name, version, attrs, (k'6 (knB tbC s d) 4).n % 4294967296, unB tbC s d⟩
 | _, _, _, _ => none) := by
 unfold okSc
 rw [k'4a]
 cases k'd s d with
 | some e => rfl
 | none =>
  unfold tellSc
  simp only
  cases k'1x 1 (knB tbC s d) with
  | none => rfl
  | some name =>
   cases k'1x 2 (knB tbC s d) with
   | none => rfl
   | some version =>
    cases k'3 (fun s => okK s (d - 1)) 3 (knB tbC s d) with
    | none => rfl
    | some attrs =>
     rfl
theorem Sc_read (hB : BOk B) (s : List UInt8) (d : Int) (hl : s.length < big) (hd1 : -9223372036854775808 ≤ d) (hd2 : d < 9223372036854775808) :
  RdZ B 163 Sc.d noSc (okSc s d) s d ∧ (∀ e0, k'd s d = some e0 → k'0 (cx B) 163 [sT s, .d (.int .i64 d)] [] (.tup [.d noSc.d, .d e0.d]) []) := by
 have h1 := k'o B hB 193 tbC (tbC_calls B) s d hl hd1 hd2
 have hk : LOk (knB tbC s d) := k'e tbC s d hl
 have hm := k'1p hk
 obtain ⟨vs_name, e1, c_name, t1, -⟩ := k'1t B hB (k'd s d) (unB tbC s d) d s.length (knB tbC s d) 1 hk
 obtain ⟨vs_version, e2, c_version, t2, -⟩ := k'1t B hB e1 (unB tbC s d) d s.length (knB tbC s d) 2 hk
 obtain ⟨vs_attrs, e3, c_attrs, t3⟩ := k'15 B hB (fun s => okK s (d - 1)) Kv.sh noKV 168 [] e2 (unB tbC s d) d s.length (knB tbC s d) 3 hk (fun h => by have := k'1u h; omega) hd2 (fun x hx hn => k'16 B hB x.s (d - 1) (lok_s hk hx) (by have := k'2e hx; omega) (by omega))
 have hein : ∀ x, e3 = some x → EIn s.length x := t3.ein (t2.ein (t1.ein (fun x hx => k'n hx)))
 have main : k'0 (cx B) 163 [sT s, .d (.int .i64 d)] [] (.tup [.d (orD e3 (.agg [.str vs_name, .str vs_version, slD (vs_attrs.map KVs.d), .int .u32 ((k'6 (knB tbC s d) 4).n % 4294967296 : Nat), .str (unB tbC s d)]) noSc.d), .d (eD e3)]) [] := by
  clear hein t1 t2 t3
  refine l_bw Tryz.func163 0 [] ?_
  refine l_cw [] (h1) rfl rfl rfl ?_
  refine k'3q (i0 := 14) (z := 15) (t0 := 7) rfl (by decide) rfl rfl rfl rfl rfl rfl rfl rfl rfl rfl ?_
  refine Y ?_
  refine x_cw [1] (c_name) rfl rfl rfl ?_
  refine x_cw [1] (c_version) rfl rfl rfl ?_
  refine x_cw [1] (c_attrs) rfl rfl rfl ?_
  refine x_cw [1] (k'9 B e3 (unB tbC s d) d s.length (knB tbC s d) 4 hm) rfl rfl rfl ?_
  rw [u32w]
  cases e3 with
  | none =>
   exact Z
  | some er =>
   cases er <;> (
   exact Z)
 constructor
 ·rw [okSc_rd]
  cases e3 with
  | none =>
   obtain ⟨k2, a_attrs, g_attrs, v_attrs⟩ := t3.ok
   subst k2
   obtain ⟨k1, a_version, g_version, v_version⟩ := t2.ok
   subst k1
   obtain ⟨k0, a_name, g_name, v_name⟩ := t1.ok
   rw [k0, g_name, g_version, g_attrs]
   simp only [id_eq] at v_name
   subst v_name
   simp only [id_eq] at v_version
   subst v_version
   subst v_attrs
   rw [ks_map a_attrs] at main
   exact main
  | some er =>
   have hno : (match k'd s d, k'1x 1 (knB tbC s d), k'1x 2 (knB tbC s d), k'3 (fun s => okK s (d - 1)) 3 (knB tbC s d) with
    | none, some name, some version, some attrs => some (⟨name, version, attrs, (k'6 (knB tbC s d) 4).n % 4294967296, unB tbC s d⟩ : Sc)
    | _, _, _, _ => none) = none := by
    cases hr : k'd s d with
    | some x => rfl
    | none =>
     rw [hr] at t1
     cases hp0 : k'1x 1 (knB tbC s d) with
     | none => rfl
     | some a0 =>
      rw [hp0] at t1
      obtain ⟨-, q0⟩ := t1.get
      subst q0
      cases hp1 : k'1x 2 (knB tbC s d) with
      | none => split <;> simp_all
      | some a1 =>
       rw [hp1] at t2
       obtain ⟨-, q1⟩ := t2.get
       subst q1
       cases hp2 : k'3 (fun s => okK s (d - 1)) 3 (knB tbC s d) with
       | none => split <;> simp_all
       | some a2 =>
        rw [hp2] at t3
        have := t3.get.2; simp at this
   rw [hno]
   exact ⟨er, hein er rfl, main⟩
 ·intro e0 he
  rw [he] at t1
  have k1 := t1.keep
  subst k1
  have k2 := t2.keep
  subst k2
  have k3 := t3.keep
  subst k3
  exact main
end
section
structure Rs where
 attrs : List Kv
 dropped : Nat
 u : List UInt8
def noRs : Rs := ⟨[], 0, []⟩
def Rs.hb (x : Rs) : List UInt8 := psV 1 (Kv.mars x.attrs) ++ vrV 2 x.dropped
def Rs.hF (x : Rs) : List Fld := psF 1 (Kv.mars x.attrs) ++ vrF 2 x.dropped
def Rs.mar (x : Rs) : List UInt8 := x.hb ++ x.u
def tbD (n k : Nat) : Bool := (n == 1 && k == 2) || (n == 2 && k == 0)
theorem tbD_calls (n k : Nat) : k'0 (cx B) 142 [iT n, iT k] [] (.d (.bool (tbD n k))) [] := by
 rw [show tbD n k = ((((n : Int) == 1) && ((k : Int) == 2)) || (((n : Int) == 2) && ((k : Int) == 0))) by unfold tbD; rw [show ((k : Int) == 2) = (k == 2) from ibeq k 2, show ((k : Int) == 0) = (k == 0) from ibeq k 0, show ((n : Int) == 1) = (n == 1) from ibeq n 1, show ((n : Int) == 2) = (n == 2) from ibeq n 2]]
 refine l_bw Tryz.func142 0 [] ?_
 cases e1 : ((n : Int) == 1)
 ·refine Y ?_
  cases e2 : ((n : Int) == 2)
  ·exact Z
  exact Z
 have e2 : ((n : Int) == 2) = false := by have := eq_of_beq e1; simp; omega
 rw [e2]
 refine Y ?_
 cases e3 : ((k : Int) == 2)
 ·refine Y ?_
  rw [e2]
  exact Z
 exact Z
def Rs.wf (x : Rs) : Prop := (∀ k ∈ x.attrs, k.wf) ∧ x.dropped < 4294967296
def Rs.sz (x : Rs) : Nat := 300 + Kv.szs x.attrs + x.u.length
def Rs.may (x : Rs) (d : Int) : Bool := decide (0 ≤ d) && (x.attrs.all fun k => k.may (d - 1)) && k'1s tbD x.u d
theorem Rs.hb_len (x : Rs) : x.mar.length + 20 ≤ x.sz := by
 have q0 := Kv.marsP_len 1 x.attrs
 have q1 := k'2a 2 x.dropped
 unfold Rs.mar Rs.hb Rs.sz
 simp only [List.length_append]
 omega
theorem Rs.mar_len (x : Rs) : x.mar.length + 20 ≤ x.sz := Rs.hb_len x
theorem Rs.mars_lt {l : List Rs} (h : (l.map Rs.sz).sum < big) : ∀ s ∈ l.map Rs.mar, s.length < 2 ^ 64 := fun s hs => by
 obtain ⟨k, hk, rfl⟩ := List.mem_map.1 hs
 have h1 := Rs.mar_len k; have h2 := k'1h (sz := Rs.sz) hk
 unfold big at h; omega
theorem Rs.all {x : Rs} (h1 : x.sz < big) (h2 : x.wf) (d : Int) : all x.hb d = .ok x.hF := by
 unfold Rs.sz big at h1
 obtain ⟨w0, w1⟩ := h2
 exact k'2 (k'38 (by omega) (by omega) d (Kv.mars_lt (by unfold big; omega))) (all_vr (by omega) (by omega) d (by omega))
theorem Rs.inn (x : Rs) : inT tbD x.hF = true := by
 unfold Rs.hF
 simp only [k'3l, Bool.and_eq_true]
 exact ⟨in_ps 1 _ rfl, in_vr 2 x.dropped rfl⟩
def tellRs (d : Int) (l : List Fld) : Option (List UInt8 → Rs) :=
 match k'3 (fun s => okK s (d - 1)) 1 l with
 | none => none
 | some attrs =>
 some fun u => ⟨attrs, (k'6 l 2).n % 4294967296, u⟩
def okRs (s : List UInt8) (d : Int) : Option Rs := apO (okG tbD tellRs s d)
theorem Rs.tell {x : Rs} (hwf : x.wf) (d : Int) : tellRs d x.hF = (
 match mapO (fun s => okK s (d - 1)) (Kv.mars x.attrs) with
 | none => none
 | some attrs =>
 some fun u => ⟨attrs, x.dropped, u⟩) := by
 obtain ⟨w0, w1⟩ := hwf
 have sattrs : sel 1 x.hF = psF 1 (Kv.mars x.attrs) := by unfold Rs.hF; simp [k'b, k'w, k'p, k'v, k'l, k'j]
 have tattrs : ∀ {α : Type} (ok : List UInt8 → Option α), k'3 ok 1 x.hF = mapO ok (Kv.mars x.attrs) := fun ok => k'19 ok sattrs
 have sdropped : sel 2 x.hF = vrF 2 x.dropped := by unfold Rs.hF; simp [k'b, k'w, k'p, k'v, k'l, k'j]
 have tdropped : (k'6 x.hF 2).n % 4294967296 = x.dropped := by rw [last_vr sdropped]; omega
 unfold tellRs
 simp only [tattrs, tdropped]
theorem Rs_back : Back okRs Rs.mar Rs.may (fun x => x.sz < big ∧ x.wf) := by
 intro d x hf hm
 obtain ⟨hbig, hwf⟩ := hf
 have hall := Rs.all hbig hwf
 have hwf0 := hwf
 have hbig' := hbig
 unfold Rs.sz big at hbig'
 obtain ⟨w_attrs, -⟩ := hwf
 unfold Rs.may at hm
 simp only [Bool.and_eq_true, decide_eq_true_eq] at hm
 obtain ⟨⟨hd, m_attrs⟩, hu⟩ := hm
 have htell := fun d => Rs.tell (x := x) hwf0 d
 obtain ⟨a_attrs, b_attrs⟩ := Kv_back.list (l := x.attrs) (d := d - 1) (fun k hk => ⟨by have := Kv.sz_mem hk; unfold big; omega, w_attrs k hk⟩) m_attrs
 simp only [← Kv.mars_map] at a_attrs b_attrs
 constructor
 ·unfold okRs Rs.mar
  rw [k'z hd (hall d) x.inn hu, htell]
  simp only [a_attrs]
  rfl
 ·intro e he hn
  unfold okRs Rs.mar
  cases hr : k'1s tbD x.u e with
  | false => rw [k'k (hall e) he hu fun _ => hr]; rfl
  | true =>
   rcases Int.lt_or_le e 0 with h0 | h0
   ·rw [k'1z h0]; rfl
   ·rw [k'z h0 (hall e) x.inn hr, htell]
    cases h_attrs : (x.attrs.all fun k => k.may (e - 1))
    ·have := b_attrs (e - 1) (by omega) h_attrs
     simp only [this]
     rfl
    exfalso
    unfold Rs.may at hn
    simp [h0, hr, h_attrs] at hn
theorem Rs_told : Told okRs Rs.may Rs.wf Rs.sz 400 := by
 intro d s x h
 obtain ⟨f, u, h1, rfl⟩ := k'2f h
 obtain ⟨l, -, h2, -, h4, hd, hf, hw⟩ := k'2z h1
 dsimp only at h2 h4 hw
 unfold tellRs at h2
 split at h2
 ·simp at h2
 rename_i attrs g_attrs
 injection h2 with h2
 subst h2
 obtain ⟨p_attrs, q_attrs, r_attrs⟩ := Kv_told.parts hf g_attrs
 refine ⟨?_, ⟨q_attrs, Nat.mod_lt _ (by decide)⟩, ?_⟩
 ·unfold Rs.may
  simp only [Bool.and_eq_true]
  exact ⟨⟨decide_eq_true hd, p_attrs⟩, h4⟩
 ·unfold Rs.sz
  simp only [Kv.szs_sum]
  omega
def Rs.eq (x y : Rs) : Bool := Kv.eqs x.attrs y.attrs && x.dropped == y.dropped && x.u == y.u
def Rs.eqs : List Rs → List Rs → Bool
 | [], [] => true
 | v :: l, w :: r => v.eq w && Rs.eqs l r
 | [], _ :: _ => false
 | _ :: _, [] => false
theorem Rs.eq_self (x : Rs) : x.eq x = true := by unfold Rs.eq; simp [Kv.eqs_self]
theorem Rs.eqs_self : ∀ l : List Rs, Rs.eqs l l = true
 | [] => rfl
 | v :: l => by unfold Rs.eqs; simp [Rs.eq_self v, Rs.eqs_self l]
theorem Rs.eqs_by (a b : List Rs) : Rs.eqs a b = (a.length == b.length && (List.range a.length).all (byI Rs.eq a b)) :=
 k'3n Rs.eq Rs.eqs rfl (fun _ _ _ _ => rfl) (fun _ _ => rfl) (fun _ _ => rfl) a b
end
section
structure Me where
 name : List UInt8
 desc : List UInt8
 unit : List UInt8
 kind : Int
 dat : In
 mets : List Kv
 u : List UInt8
def noMe : Me := ⟨[], [], [], 0, noIn, [], []⟩
def Me.hb (x : Me) : List UInt8 := txV 1 x.name ++ txV 2 x.desc ++ txV 3 x.unit ++ onV x.kind x.dat ++ psV 12 (Kv.mars x.mets)
def Me.hF (x : Me) : List Fld := txF 1 x.name ++ txF 2 x.desc ++ txF 3 x.unit ++ onF x.kind x.dat ++ psF 12 (Kv.mars x.mets)
def Me.mar (x : Me) : List UInt8 := x.hb ++ x.u
def tbM (n k : Nat) : Bool := k == 2 && ((decide (1 ≤ n) && decide (n ≤ 3)) || (n == 12 || decide (0 < kindK n)))
theorem tbM_on : ∀ n, onNs.contains n = true → tbM n 2 = true := by
 intro n h
 have : n = 5 ∨ n = 7 ∨ n = 9 ∨ n = 10 ∨ n = 11 := by simpa [onNs] using h
 rcases this with rfl | rfl | rfl | rfl | rfl <;> rfl
def Me.wf (x : Me) : Prop := x.dat.wf ∧ (∀ k ∈ x.mets, k.wf)
def Me.sz (x : Me) : Nat := 300 + x.name.length + x.desc.length + x.unit.length + x.dat.sz + Kv.szs x.mets + x.u.length
def Me.may (x : Me) (d : Int) : Bool := decide (0 ≤ d) && mayOn x.kind x.dat (d - 1) && txt x.name && txt x.desc && txt x.unit && (x.mets.all fun k => k.may (d - 1)) && k'1s tbM x.u d
theorem Me.hb_len (x : Me) : x.mar.length + 20 ≤ x.sz := by
 have q0 := k'2b 1 x.name
 have q1 := k'2b 2 x.desc
 have q2 := k'2b 3 x.unit
 have q3 := onV_len x.kind x.dat
 have q4 := Kv.marsP_len 12 x.mets
 unfold Me.mar Me.hb Me.sz
 simp only [List.length_append]
 omega
theorem Me.mar_len (x : Me) : x.mar.length + 20 ≤ x.sz := Me.hb_len x
theorem Me.mars_lt {l : List Me} (h : (l.map Me.sz).sum < big) : ∀ s ∈ l.map Me.mar, s.length < 2 ^ 64 := fun s hs => by
 obtain ⟨k, hk, rfl⟩ := List.mem_map.1 hs
 have h1 := Me.mar_len k; have h2 := k'1h (sz := Me.sz) hk
 unfold big at h; omega
theorem Me.all {x : Me} (h1 : x.sz < big) (h2 : x.wf) (d : Int) : all x.hb d = .ok x.hF := by
 unfold Me.sz big at h1
 obtain ⟨w0, w1⟩ := h2
 exact k'2 (k'2 (k'2 (k'2 (all_tx (by omega) (by omega) d (by omega)) (all_tx (by omega) (by omega) d (by omega))) (all_tx (by omega) (by omega) d (by omega))) (all_on x.kind x.dat d (by unfold big; omega))) (k'38 (by omega) (by omega) d (Kv.mars_lt (by unfold big; omega)))
theorem Me.inn (x : Me) : inT tbM x.hF = true := by
 unfold Me.hF
 simp only [k'3l, Bool.and_eq_true]
 exact ⟨⟨⟨⟨in_tx 1 x.name rfl, in_tx 2 x.desc rfl⟩, in_tx 3 x.unit rfl⟩, in_on x.kind x.dat tbM_on⟩, in_ps 12 _ rfl⟩
def tellMe (d : Int) (l : List Fld) : Option (List UInt8 → Me) :=
 match k'1x 1 l with
 | none => none
 | some name =>
 match k'1x 2 l with
 | none => none
 | some desc =>
 match k'1x 3 l with
 | none => none
 | some unit =>
 match onO d l with
 | none => none
 | some data =>
 match k'3 (fun s => okK s (d - 1)) 12 l with
 | none => none
 | some mets =>
 some fun u => ⟨name, desc, unit, data.1, data.2, mets, u⟩
def okMe (s : List UInt8) (d : Int) : Option Me := apO (okG tbM tellMe s d)
theorem Me.tell {x : Me} (hwf : x.wf) (h_name : txt x.name = true) (h_desc : txt x.desc = true) (h_unit : txt x.unit = true) (d : Int) : tellMe d x.hF = (
 match onS x.kind x.dat d with
 | none => none
 | some data =>
 match mapO (fun s => okK s (d - 1)) (Kv.mars x.mets) with
 | none => none
 | some mets =>
 some fun u => ⟨x.name, x.desc, x.unit, data.1, data.2, mets, u⟩) := by
 obtain ⟨w0, w1⟩ := hwf
 have sname : sel 1 x.hF = txF 1 x.name := by unfold Me.hF; simp [k'b, k'w, k'p, k'v, k'l, k'j, k'54 1 _ _ rfl, k'54 2 _ _ rfl, k'54 3 _ _ rfl, k'54 12 _ _ rfl]
 have tname : k'1x 1 x.hF = some x.name := text_of sname h_name
 have sdesc : sel 2 x.hF = txF 2 x.desc := by unfold Me.hF; simp [k'b, k'w, k'p, k'v, k'l, k'j, k'54 1 _ _ rfl, k'54 2 _ _ rfl, k'54 3 _ _ rfl, k'54 12 _ _ rfl]
 have tdesc : k'1x 2 x.hF = some x.desc := text_of sdesc h_desc
 have sunit : sel 3 x.hF = txF 3 x.unit := by unfold Me.hF; simp [k'b, k'w, k'p, k'v, k'l, k'j, k'54 1 _ _ rfl, k'54 2 _ _ rfl, k'54 3 _ _ rfl, k'54 12 _ _ rfl]
 have tunit : k'1x 3 x.hF = some x.unit := text_of sunit h_unit
 have sdata : selN onNs x.hF = onF x.kind x.dat := by unfold Me.hF; simp [selN_app, selN_fx, selN_vr, selN_op, selN_tx, selN_ps, selN_on, show (1 : Nat) ∉ onNs by decide, show (2 : Nat) ∉ onNs by decide, show (3 : Nat) ∉ onNs by decide, show (12 : Nat) ∉ onNs by decide]
 have tdata : ∀ e, onO e x.hF = onS x.kind x.dat e := fun e => onO_sel e sdata
 have smets : sel 12 x.hF = psF 12 (Kv.mars x.mets) := by unfold Me.hF; simp [k'b, k'w, k'p, k'v, k'l, k'j, k'54 1 _ _ rfl, k'54 2 _ _ rfl, k'54 3 _ _ rfl, k'54 12 _ _ rfl]
 have tmets : ∀ {α : Type} (ok : List UInt8 → Option α), k'3 ok 12 x.hF = mapO ok (Kv.mars x.mets) := fun ok => k'19 ok smets
 unfold tellMe
 simp only [tname, tdesc, tunit, tdata, tmets]
theorem Me_back : Back okMe Me.mar Me.may (fun x => x.sz < big ∧ x.wf) := by
 intro d x hf hm
 obtain ⟨hbig, hwf⟩ := hf
 have hall := Me.all hbig hwf
 have hwf0 := hwf
 have hbig' := hbig
 unfold Me.sz big at hbig'
 obtain ⟨w_data, w_mets⟩ := hwf
 unfold Me.may at hm
 simp only [Bool.and_eq_true, decide_eq_true_eq] at hm
 obtain ⟨⟨⟨⟨⟨⟨hd, m_data⟩, m_name⟩, m_desc⟩, m_unit⟩, m_mets⟩, hu⟩ := hm
 have htell := fun d => Me.tell (x := x) hwf0 m_name m_desc m_unit d
 obtain ⟨a_data, b_data⟩ := on_back x.kind x.dat d ⟨by unfold big; omega, w_data⟩ m_data
 obtain ⟨a_mets, b_mets⟩ := Kv_back.list (l := x.mets) (d := d - 1) (fun k hk => ⟨by have := Kv.sz_mem hk; unfold big; omega, w_mets k hk⟩) m_mets
 simp only [← Kv.mars_map] at a_mets b_mets
 constructor
 ·unfold okMe Me.mar
  rw [k'z hd (hall d) x.inn hu, htell]
  simp only [a_data, a_mets]
  rfl
 ·intro e he hn
  unfold okMe Me.mar
  cases hr : k'1s tbM x.u e with
  | false => rw [k'k (hall e) he hu fun _ => hr]; rfl
  | true =>
   rcases Int.lt_or_le e 0 with h0 | h0
   ·rw [k'1z h0]; rfl
   ·rw [k'z h0 (hall e) x.inn hr, htell]
    cases h_data : mayOn x.kind x.dat (e - 1)
    ·have := b_data e (by omega) h_data
     simp only [this]
     rfl
    cases h_mets : (x.mets.all fun k => k.may (e - 1))
    ·have := b_mets (e - 1) (by omega) h_mets
     simp only [this]
     all_goals (repeat' split) <;> rfl
    exfalso
    unfold Me.may at hn
    simp [h0, hr, m_name, m_desc, m_unit, h_data, h_mets] at hn
theorem Me_told : Told okMe Me.may Me.wf Me.sz 1800 := by
 intro d s x h
 obtain ⟨f, u, h1, rfl⟩ := k'2f h
 obtain ⟨l, -, h2, -, h4, hd, hf, hw⟩ := k'2z h1
 dsimp only at h2 h4 hw
 unfold tellMe at h2
 split at h2
 ·simp at h2
 rename_i name g_name
 split at h2
 ·simp at h2
 rename_i desc g_desc
 split at h2
 ·simp at h2
 rename_i unit g_unit
 split at h2
 ·simp at h2
 rename_i data g_data
 split at h2
 ·simp at h2
 rename_i mets g_mets
 injection h2 with h2
 subst h2
 obtain ⟨p_mets, q_mets, r_mets⟩ := Kv_told.parts hf g_mets
 obtain ⟨p_name, l_name⟩ := k'3s hf g_name
 obtain ⟨p_desc, l_desc⟩ := k'3s hf g_desc
 obtain ⟨p_unit, l_unit⟩ := k'3s hf g_unit
 obtain ⟨p_data, q_data, r_data⟩ := on_told hf g_data
 refine ⟨?_, ⟨q_data, q_mets⟩, ?_⟩
 ·unfold Me.may
  simp only [Bool.and_eq_true]
  exact ⟨⟨⟨⟨⟨⟨decide_eq_true hd, p_data⟩, p_name⟩, p_desc⟩, p_unit⟩, p_mets⟩, h4⟩
 ·unfold Me.sz
  simp only [Kv.szs_sum]
  omega
def Me.eq (x y : Me) : Bool := x.name == y.name && x.desc == y.desc && x.unit == y.unit && x.kind == y.kind && x.dat.eq y.dat && Kv.eqs x.mets y.mets && x.u == y.u
def Me.eqs : List Me → List Me → Bool
 | [], [] => true
 | v :: l, w :: r => v.eq w && Me.eqs l r
 | [], _ :: _ => false
 | _ :: _, [] => false
theorem Me.eq_self (x : Me) : x.eq x = true := by unfold Me.eq; simp [Kv.eqs_self, In.eq_self]
theorem Me.eqs_self : ∀ l : List Me, Me.eqs l l = true
 | [] => rfl
 | v :: l => by unfold Me.eqs; simp [Me.eq_self v, Me.eqs_self l]
theorem Me.eqs_by (a b : List Me) : Me.eqs a b = (a.length == b.length && (List.range a.length).all (byI Me.eq a b)) :=
 k'3n Me.eq Me.eqs rfl (fun _ _ _ _ => rfl) (fun _ _ => rfl) (fun _ _ => rfl) a b
end
