/- The table of a point of an exponential histogram; the shapes of attributes and exemplars. And more. -/
import Derived.Test.YtnaojdjhjkendaaGreatDoorWT
import Derived.Test.YtnaojdjhjkendaaGreatDoorPG
set_option linter.unusedSimpArgs false
set_option linter.unusedVariables false
set_option maxRecDepth 100000
namespace Go.Proofs.YtnaojdjhjkendaaGreatDoor
open Go Go.Abs
variable (B : Fr)
/-! The table of a point of an exponential histogram; the shapes of attributes and exemplars. -/
section
structure KVs where
 key : List UInt8
 has : Bool
 kind : Int
 s : List UInt8
 b : Bool
 n : Nat
 l : List D
 m : List D
 inner : List UInt8
 unk : List UInt8
 u : List UInt8
def KVs.d (x : KVs) : D := .agg [.str x.key, .bool x.has, .int .i64 x.kind, .str x.s, .bool x.b, .int .u64 x.n, slD x.l, slD x.m, .str x.inner, .str x.unk, .str x.u]
structure Exm where
 attrs : List KVs
 time : Nat
 kind : Int
 n : Nat
 span : List UInt8
 trace : List UInt8
 u : List UInt8
def Exm.d (x : Exm) : D := .agg [slD (x.attrs.map KVs.d), .int .u64 x.time, .int .i64 x.kind, .int .u64 x.n, .str x.span, .str x.trace, .str x.u]
theorem k'1r (l : List KVs) : ∀ a ∈ l.map KVs.d, a.fits 11 = true := by
 intro a ha
 obtain ⟨c, -, rfl⟩ := List.mem_map.1 ha
 rfl
theorem part_KVs_calls : partP B 93 KVs.d := k'3d B Tryz.func93
theorem List_KVs_calls : ListP B 26 KVs.d := List_S B (fun x => k'1r [x]) (part_KVs_calls B) (List_mk B Tryz.func26)
end
/-! A point of an exponential histogram read. -/
section
theorem k'25 {tb : Nat → Nat → Bool} {s : List UInt8} {d : Int} {num : Nat} (h : anyL (knB tb s d) num = true) : 0 ≤ d := by
 rcases Int.lt_or_le d 0 with hd | hd
 ·unfold knB fldsE at h
  rw [if_pos hd] at h
  simp [k'1, anyL] at h
 ·exact hd
theorem bytes_big {l : List Fld} (h : LOk l) (num : Nat) : (k'c l num).length < big := by
 have := k'34 num l h.1
 have := h.2
 omega
section
variable (rdK : List UInt8 → KVs × Option Er) (rdE : List UInt8 → Exm × Option Er) (s : List UInt8) (d : Int)
end
theorem u32w (n : Nat) : IntKind.u32.wrap (n : Int) = ((n % 4294967296 : Nat) : Int) := by rw [IntKind.wrap_u32]; omega
end
/-! What the chapter's examples fix. -/
section
def noKV : KVs := ⟨[], false, 0, [], false, 0, [], [], [], [], []⟩
end
section
theorem er_iface (e : Er) : ∃ T x, e.d = .iface T x := by cases e <;> exact ⟨_, _, rfl⟩
end
section
def gc (c : Int) : Prop := c = 1 ∨ c = 4 ∨ c = 3 ∨ c = 5 ∨ c = 6
def EIn (n : Nat) (e : Er) : Prop := (∃ p : Nat, p ≤ n ∧ placeOf e = ((p : Int), true)) ∧ gc (codeOf e)
theorem ein_loc {n p : Nat} {c : Int} (h : p ≤ n) (hc : gc c) : EIn n (.loc p (.code c)) := ⟨⟨p, h, rfl⟩, hc⟩
theorem vrd_code : ∀ {l : List UInt8} {i a c : Nat}, vrd l i a = .error c → gc c
 | [], i, a, c, h => by simp [vrd] at h; subst h; exact .inl rfl
 | x :: l, i, a, c, h => by
  unfold vrd at h
  split at h
  ·injection h with h; subst h; exact .inl rfl
  ·split at h
   ·injection h with h; subst h; exact .inr (.inl rfl)
   ·split at h
    ·simp at h
    ·exact vrd_code h
theorem vE_err {s : List UInt8} {p : Nat} {e : Er} (h : vE s p = .error e) (hp : p ≤ s.length) : EIn s.length e := by
 unfold vE at h
 split at h <;> (try (simp at h; done))
 rename_i c hc
 injection h with h; subst h
 exact ein_loc hp (vrd_code hc)
theorem tagE_err {s : List UInt8} {p : Nat} {e : Er} (h : tagE s p = .error e) (hp : p ≤ s.length) : EIn s.length e := by
 unfold tagE at h
 split at h
 ·rename_i e' h1; injection h with h; subst h; exact vE_err h1 hp
 ·split at h
  ·injection h with h; subst h; exact ein_loc hp (.inr (.inr (.inl rfl)))
  ·simp at h
theorem takeE_err {s : List UInt8} {p n : Nat} {e : Er} (h : k'36 s p n = .error e) (hp : p ≤ s.length) : EIn s.length e := by
 unfold k'36 at h
 split at h
 ·injection h with h; subst h; exact ein_loc hp (.inl rfl)
 ·simp at h
theorem restG_err {g : Int → Nat → Nat → Except Er Nat} {s : List UInt8} {d : Int} {num kind a p : Nat} {e : Er} (hg : ∀ d num p e, g d num p = .error e → p ≤ s.length → EIn s.length e) (h : k'28 g s d num kind a p = .error e) (ha : a ≤ s.length) (hp : p ≤ s.length) : EIn s.length e := by
 unfold k'28 at h
 split at h
 ·split at h <;> (try (simp at h; done))
  rename_i h1; injection h with h; subst h; exact vE_err h1 hp
 split at h
 ·split at h <;> (try (simp at h; done))
  rename_i h1; injection h with h; subst h; exact takeE_err h1 hp
 split at h
 ·split at h <;> (try (simp at h; done))
  rename_i h1; injection h with h; subst h; exact takeE_err h1 hp
 split at h
 ·split at h
  ·rename_i h1
   split at h <;> (try (simp at h; done))
   rename_i h2; injection h with h; subst h; exact takeE_err h2 (vE_ok h1).2.1
  ·rename_i h1; injection h with h; subst h; exact vE_err h1 hp
 split at h
 ·split at h <;> (try (simp at h; done))
  rename_i h1
  injection h with h; subst h
  split at h1
  ·injection h1 with h1; subst h1; exact ein_loc hp (.inr (.inr (.inr (.inr rfl))))
  ·exact hg _ _ _ _ h1 hp
 ·injection h with h; subst h; exact ein_loc ha (.inr (.inr (.inl rfl)))
theorem grp_err {s : List UInt8} : ∀ (f : Nat) (d : Int) (num p : Nat) (e : Er), grp s f d num p = .error e → p ≤ s.length → EIn s.length e
 | 0, _, _, _, _, h, hp => by simp [grp] at h; subst h; exact ein_loc hp (.inl rfl)
 | f + 1, d, num, p, e, h, hp => by
  rw [k'2k] at h
  split at h
  ·rename_i h1; injection h with h; subst h; exact tagE_err h1 hp
  ·rename_i n k q h1
   obtain ⟨t1, t2, -⟩ := k'2g h1
   split at h
   ·split at h
    ·simp at h
    ·injection h with h; subst h; exact ein_loc hp (.inr (.inr (.inl rfl)))
   ·split at h
    ·rename_i h2; injection h with h; subst h
     exact restG_err (fun d n p e => grp_err f d n p e) h2 hp t2
    ·rename_i a b q' h2
     obtain ⟨-, b2, -⟩ := k'20 (fun d n p q => k'49 _ d n p q) h2 t2
     exact grp_err f d num q' e h b2
theorem recE_err {s : List UInt8} {d : Int} {p : Nat} {e : Er} (h : recE s d p = .error e) (hp : p ≤ s.length) : EIn s.length e := by
 unfold recE at h
 split at h
 ·rename_i h1; injection h with h; subst h; exact tagE_err h1 hp
 ·rename_i n k q h1
  obtain ⟨t1, t2, -⟩ := k'2g h1
  split at h
  ·rename_i h2; injection h with h; subst h
   exact restG_err (fun d n p e => grp_err _ d n p e) h2 hp t2
  ·simp at h
theorem allE_err {s : List UInt8} {d : Int} : ∀ {f p : Nat} {e : Er}, allE s d f p = .error e → EIn s.length e
 | 0, p, e, h => by simp [allE] at h
 | f + 1, p, e, h => by
  unfold allE at h
  split at h
  ·split at h
   ·rename_i h1; injection h with h; subst h; exact recE_err h1 (by omega)
   ·split at h
    ·rename_i h2; injection h with h; subst h; exact allE_err h2
    ·simp at h
  ·simp at h
theorem varsE_err {s : List UInt8} : ∀ {f p : Nat} {e : Er}, varsE s f p = .error e → EIn s.length e
 | 0, p, e, h => by simp [varsE] at h
 | f + 1, p, e, h => by
  unfold varsE at h
  split at h
  ·split at h
   ·rename_i h1; injection h with h; subst h; exact vE_err h1 (by omega)
   ·split at h
    ·rename_i h2; injection h with h; subst h; exact varsE_err h2
    ·simp at h
  ·simp at h
theorem clamp_in (n : Nat) (a : Int) : ∃ p : Nat, p ≤ n ∧ clampE n a = p := by
 unfold clampE
 dsimp only
 refine ⟨(if (n : Int) < if (0 : Int) > a then 0 else a then (n : Int) else if (0 : Int) > a then 0 else a).toNat, ?_, ?_⟩ <;> split <;> split <;> omega
theorem fail_in (n : Nat) (num : Nat) (x : Er) (hc : gc (codeOf x)) : ∃ e, k'4c n num none (some x) = some e ∧ EIn n e := by
 obtain ⟨p, hp, h⟩ := clamp_in n (placeOf x).1
 refine ⟨_, rfl, ⟨p, hp, ?_⟩, hc⟩
 show (clampE n (placeOf x).1, true) = _
 rw [h]
theorem k'1a {s : List UInt8} {d : Int} {e : Er} (h : k't s d = some e) : EIn s.length e := by
 unfold k't at h
 split at h
 ·obtain ⟨e', h1, h2⟩ := fail_in s.length 0 (.code 6) (.inr (.inr (.inr (.inr rfl))))
  rw [h1] at h; injection h with h; subst h; exact h2
 ·split at h
  ·simp at h
  ·rename_i h1; injection h with h; subst h; exact allE_err h1
theorem ubB_err {s : List UInt8} {d : Int} {e : Er} (h : (ubB s d).2 = some e) : EIn s.length e := by
 have h2 : (bkOf s d).2 = some e := by
  unfold ubB at h
  split at h
  ·simp at h
  ·rename_i e' he; rw [he]; exact h
 unfold bkOf at h2
 cases hr : k't s d with
 | some e0 => rw [hr, packF_err] at h2; injection h2 with h2; subst h2; exact k'1a hr
 | none =>
  rw [hr] at h2
  cases hp : k'p vars 2 (knB tbB s d) with
  | some b => rw [packF_some _ hp] at h2; simp at h2
  | none =>
   obtain ⟨t, x, -, h4, h5⟩ := packF_none (s.length : Int) hp
   obtain ⟨e1, h6, h7⟩ := fail_in s.length 2 x (varsE_err h4).2
   rw [h5, h6] at h2
   injection h2 with h2; subst h2; exact h7
theorem wrong_calls (hB : BOk B) (e : Er) (n : Nat) (hn : n < big) (h : EIn n e) : k'5 (cx B) 8 [.d e.d, iT n] [] (.d (.bool true)) [] := by
 obtain ⟨⟨p, hp, hpl⟩, hc⟩ := h
 have h1 := Place_calls B hB (some e)
 dsimp only at h1
 rw [hpl] at h1
 have h2 := Code_calls B hB (some e)
 have hce : codeE (some e) = codeOf e := rfl
 rw [hce] at h2
 have hed : eD (some e) = e.d := rfl
 rw [hed] at h1 h2
 unfold big at hn
 generalize codeOf e = c at *
 generalize e.d = x at *
 rcases hc with rfl | rfl | rfl | rfl | rfl <;> (
 refine l_bw Tryz.func8 0 [] ?_
 refine l_cw [] (h1) rfl rfl rfl ?_
 refine l_cw [] (h2) rfl rfl rfl ?_
 rw [show decide ((p : Int) ≥ 0) = true from decide_eq_true (by omega)]
 refine Z ?_
 rw [show decide ((p : Int) ≤ n) = true from decide_eq_true (by omega)]
 exact k'j rfl)
end
