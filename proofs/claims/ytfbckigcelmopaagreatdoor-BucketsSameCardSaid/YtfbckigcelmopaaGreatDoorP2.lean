/- What is written is read: numbers, tags, records, buckets. -/
import Derived.Test.YtfbckigcelmopaaGreatDoorP1
import Derived.Test.YtfbckigcelmopaaGreatDoorX18
set_option linter.unusedSimpArgs false
set_option linter.unusedVariables false
set_option maxRecDepth 100000
namespace Go.Proofs.YtfbckigcelmopaaGreatDoor
open Go Go.Abs
theorem vrd_put (y : List UInt8) : ∀ (f n i a : Nat), f + i = 9 → n * 2 ^ (7 * i) < 2 ^ 64 → vrd (vput f n ++ y) i a = .ok (a + n * 2 ^ (7 * i), i + (vput f n).length)
  | 0, n, i, a, hi, hn => by
    have hi9 : i = 9 := by omega
    subst hi9
    have h2 : n < 2 := by
      have : n * 2 ^ 63 < 2 * 2 ^ 63 := by simpa using hn
      exact Nat.lt_of_mul_lt_mul_right this
    have hb := byte_of (show n < 256 by omega)
    show vrd (UInt8.ofNat n :: y) 9 a = _
    unfold vrd
    rw [hb, if_neg (by omega), if_neg (by omega), if_pos (by omega), Nat.mod_eq_of_lt (by omega : n < 128)]
    rfl
  | f + 1, n, i, a, hi, hn => by
    unfold vput
    by_cases hs : n < 128
    · rw [if_pos hs]
      have hb := byte_of (show n < 256 by omega)
      show vrd (UInt8.ofNat n :: y) i a = _
      unfold vrd
      rw [hb, if_neg (by omega), if_neg (by omega), if_pos hs, Nat.mod_eq_of_lt hs]
      rfl
    · rw [if_neg hs]
      have hb := byte_of (show n % 128 + 128 < 256 by omega)
      show vrd (UInt8.ofNat (n % 128 + 128) :: (vput f (n / 128) ++ y)) i a = _
      unfold vrd
      rw [hb, if_neg (by omega), if_neg (by omega), if_neg (by omega)]
      have hp : 2 ^ (7 * (i + 1)) = 128 * 2 ^ (7 * i) := by rw [show 7 * (i + 1) = 7 * i + 7 by omega, Nat.pow_add]; omega
      have hd : n / 128 * (128 * 2 ^ (7 * i)) = (n / 128 * 128) * 2 ^ (7 * i) := by rw [Nat.mul_assoc]
      have hle : n / 128 * 128 ≤ n := Nat.div_mul_le_self n 128
      have hm := Nat.mul_le_mul_right (2 ^ (7 * i)) hle
      rw [vrd_put y f (n / 128) (i + 1) _ (by omega) (by rw [hp, hd]; omega)]
      have e1 : (n % 128 + 128) % 128 = n % 128 := by omega
      have e2 : n % 128 * 2 ^ (7 * i) + n / 128 * 128 * 2 ^ (7 * i) = n * 2 ^ (7 * i) := by
        rw [← Nat.add_mul]; congr 1; omega
      rw [e1, hp, hd, List.length_cons, show a + n % 128 * 2 ^ (7 * i) + n / 128 * 128 * 2 ^ (7 * i) = a + n * 2 ^ (7 * i) by omega, show i + 1 + (vput f (n / 128)).length = i + ((vput f (n / 128)).length + 1) by omega]
theorem vrd_putV (y : List UInt8) {n : Nat} (hn : n < 2 ^ 64) : vrd (putV n ++ y) 0 0 = .ok (n, (putV n).length) := by
  have := vrd_put y 9 n 0 0 rfl (by simpa using hn)
  rw [show 0 + n * 2 ^ (7 * 0) = n by simp, Nat.zero_add] at this
  exact this
theorem vE_putV (x y : List UInt8) {n p : Nat} (hn : n < 2 ^ 64) (hp : p = x.length) : vE (x ++ (putV n ++ y)) p = .ok (n, p + (putV n).length) := by
  subst hp
  unfold vE
  rw [List.drop_left, vrd_putV y hn]
theorem putV_pos (n : Nat) : 0 < (putV n).length := List.length_pos_iff.2 (putV_ne n)
theorem tagE_tagV (x y : List UInt8) {n k p : Nat} (h1 : 1 ≤ n) (h2 : n ≤ 536870911) (hk : k < 8) (hp : p = x.length) : tagE (x ++ (tagV n k ++ y)) p = .ok (n, k, p + (tagV n k).length) := by
  unfold tagE tagV
  rw [vE_putV x y (by omega) hp]
  dsimp only
  rw [show (8 * n + k) / 8 = n by omega, show (8 * n + k) % 8 = k by omega, if_neg (by omega)]
theorem rec_all {s : List UInt8} {d : Int} {r : Fld} (h : recE s d 0 = .ok (r, s.length)) : all s d = .ok [r] := by
  have h0 := recE_ok h
  unfold all
  obtain ⟨n, hn⟩ : ∃ n, s.length = n + 1 := ⟨s.length - 1, by omega⟩
  rw [hn]
  unfold allE
  rw [if_pos (by omega), h]
  dsimp only
  unfold allE
  rw [if_neg (by omega)]
theorem recE_var {n m : Nat} (d : Int) (h1 : 1 ≤ n) (h2 : n ≤ 536870911) (hm : m < 2 ^ 64) : recE (tagV n 0 ++ putV m) d 0 = .ok (⟨n, 0, m, [], tagV n 0 ++ putV m⟩, (tagV n 0 ++ putV m).length) := by
  unfold recE
  have ht := tagE_tagV [] (putV m) h1 h2 (show 0 < 8 by omega) (p := 0) rfl
  rw [List.nil_append, Nat.zero_add] at ht
  rw [ht]
  dsimp only
  unfold restG
  have hv := vE_putV (tagV n 0) [] hm (p := (tagV n 0).length) rfl
  rw [List.append_nil] at hv
  rw [if_pos rfl, hv]
  dsimp only
  rw [← List.length_append, List.drop_zero, Nat.sub_zero, List.take_length]
theorem recE_str {n : Nat} (d : Int) (t : List UInt8) (h1 : 1 ≤ n) (h2 : n ≤ 536870911) (ht : t.length < 2 ^ 64) : recE (tagV n 2 ++ (putV t.length ++ t)) d 0 = .ok (⟨n, 2, 0, t, tagV n 2 ++ (putV t.length ++ t)⟩, (tagV n 2 ++ (putV t.length ++ t)).length) := by
  unfold recE
  have hg := tagE_tagV [] (putV t.length ++ t) h1 h2 (show 2 < 8 by omega) (p := 0) rfl
  rw [List.nil_append, Nat.zero_add] at hg
  rw [hg]
  dsimp only
  unfold restG
  have hv := vE_putV (tagV n 2) t ht (p := (tagV n 2).length) rfl
  rw [if_neg (by omega), if_neg (by omega), if_neg (by omega), if_pos rfl, hv]
  dsimp only
  unfold takeE
  have hl : (tagV n 2 ++ (putV t.length ++ t)).length = (tagV n 2).length + (putV t.length).length + t.length := by simp; omega
  rw [if_neg (by omega)]
  dsimp only
  have hd : (tagV n 2 ++ (putV t.length ++ t)).drop ((tagV n 2).length + (putV t.length).length) = t := by
    rw [← List.append_assoc, ← List.length_append, List.drop_left]
  rw [hd, List.take_length, ← hl, List.drop_zero, Nat.sub_zero, List.take_length]
theorem varsE_pack : ∀ (ns : List Nat) (x : List UInt8) (f : Nat), (∀ n ∈ ns, n < 2 ^ 64) → (packV ns).length < f → varsE (x ++ packV ns) f x.length = .ok ns
  | [], x, 0, _, h => by simp [packV] at h
  | [], x, f + 1, _, _ => by
    unfold varsE
    rw [if_neg (by simp [packV])]
  | n :: ns, x, 0, _, h => by omega
  | n :: ns, x, f + 1, hn, h => by
    have e : packV (n :: ns) = putV n ++ packV ns := rfl
    have hp := putV_pos n
    rw [e] at h ⊢
    rw [List.length_append] at h
    unfold varsE
    rw [if_pos (by simp; omega), vE_putV x (packV ns) (hn n (List.mem_cons_self ..)) rfl]
    dsimp only
    have ih := varsE_pack ns (x ++ putV n) f (fun m hm => hn m (List.mem_cons_of_mem _ hm)) (by omega)
    rw [List.append_assoc, List.length_append] at ih
    rw [ih]
theorem vars_packV {ns : List Nat} (h : ∀ n ∈ ns, n < 2 ^ 64) : vars (packV ns) = .ok ns := by
  have := varsE_pack ns [] ((packV ns).length + 1) h (by omega)
  simpa [vars] using this
theorem zag_zig {o : Int} (h1 : -2147483648 ≤ o) (h2 : o < 2147483648) : zag32 (zig32 o) = o := by
  unfold zag32 zig32
  by_cases h : 0 ≤ o
  · rw [if_pos h, if_pos (by omega)]; omega
  · rw [if_neg h, if_neg (by omega)]; omega
theorem zig32_0 {o : Int} (h : zig32 o = 0) : o = 0 := by unfold zig32 at h; split at h <;> omega
/-- All of a message stands in its records. -/
theorem allE_cat {s : List UInt8} {d : Int} : ∀ {f p : Nat} {l : List Fld}, s.length - p < f → allE s d f p = .ok l → l.flatMap Fld.raw = s.drop p
  | 0, p, l, h, _ => by omega
  | f + 1, p, l, h, ha => by
    unfold allE at ha
    split at ha
    · split at ha <;> (try (simp at ha; done))
      rename_i r q e
      obtain ⟨a1, a2, -⟩ := recE_ok e
      split at ha <;> (try (simp at ha; done))
      rename_i l' e2
      injection ha with ha; subst ha
      rw [List.flatMap_cons, allE_cat (by omega) e2]
      have hr : r.raw = (s.drop p).take (q - p) := by
        unfold recE at e
        split at e <;> (try (simp at e; done))
        split at e <;> (try (simp at e; done))
        injection e with e; injection e with e3 e4
        subst e3; subst e4; rfl
      rw [hr]
      have : s.drop q = (s.drop p).drop (q - p) := by rw [List.drop_drop]; congr 1; omega
      rw [this, List.take_append_drop]
    · injection ha with ha; subst ha
      rw [List.drop_eq_nil_of_le (by omega)]; rfl
theorem all_cat {s : List UInt8} {d : Int} {l : List Fld} (h : all s d = .ok l) : l.flatMap Fld.raw = s := by
  have := allE_cat (by omega) h
  simpa using this
theorem rest_none {tb : Nat → Nat → Bool} {l : List Fld} (h : (l.any fun r => tb r.num r.kind) = false) : knownL tb l = [] ∧ unkL tb l = l.flatMap Fld.raw := by
  have key : ∀ x ∈ l, isT tb x = false := fun x hx => by
    have := List.any_eq_false.1 h x hx
    simpa [isT] using this
  refine ⟨List.filter_eq_nil_iff.2 fun x hx => by rw [key x hx]; simp, ?_⟩
  unfold unkL
  rw [List.filter_eq_self.2 fun x hx => by rw [key x hx]; rfl]
theorem mayB_okL {u : List UInt8} {d : Int} (h : mayB u d = true) : ∃ l, okL u d = some l ∧ knownL tbB l = [] ∧ unkL tbB l = u := by
  unfold mayB restB at h
  rw [Bool.and_eq_true] at h
  obtain ⟨hd, h⟩ := h
  have hd := of_decide_eq_true hd
  cases ha : all u d with
  | error e => rw [ha] at h; simp at h
  | ok l =>
    rw [ha] at h
    simp only [Bool.not_eq_true'] at h
    obtain ⟨h1, h2⟩ := rest_none h
    exact ⟨l, okL_mk hd ha, h1, by rw [h2, all_cat ha]⟩
/-- The records of what is written before what is unknown. -/
def headB (o : Int) (cs : List Nat) : List Fld :=
  (if zig32 o = 0 then [] else [⟨1, 0, zig32 o, [], tagV 1 0 ++ putV (zig32 o)⟩]) ++ (if cs = [] then [] else [⟨2, 2, 0, packV cs, tagV 2 2 ++ (putV (packV cs).length ++ packV cs)⟩])
theorem head_all (o : Int) (cs : List Nat) (d : Int) (h1 : -2147483648 ≤ o) (h2 : o < 2147483648) (hl : (packV cs).length < 2 ^ 64) : all (vrV 1 (zig32 o) ++ pkV 2 cs) d = .ok (headB o cs) := by
  have a1 : all (vrV 1 (zig32 o)) d = .ok (if zig32 o = 0 then [] else [⟨1, 0, zig32 o, [], tagV 1 0 ++ putV (zig32 o)⟩]) := by
    unfold vrV
    by_cases h : zig32 o = 0
    · rw [if_pos h, if_pos h]; exact all_nil d
    · rw [if_neg h, if_neg h]; exact rec_all (recE_var d (by omega) (by omega) (zig32_lt o h1 h2))
  have a2 : all (pkV 2 cs) d = .ok (if cs = [] then [] else [⟨2, 2, 0, packV cs, tagV 2 2 ++ (putV (packV cs).length ++ packV cs)⟩]) := by
    unfold pkV
    by_cases h : cs = []
    · rw [if_pos h, if_pos h]; exact all_nil d
    · rw [if_neg h, if_neg h]; exact rec_all (recE_str d (packV cs) (by omega) (by omega) hl)
  exact all_app_ok a1 a2
theorem head_known (o : Int) (cs : List Nat) : knownL tbB (headB o cs) = headB o cs ∧ unkL tbB (headB o cs) = [] := by
  have key : ∀ x ∈ headB o cs, isT tbB x = true := by
    intro x hx
    unfold headB at hx
    rcases List.mem_append.1 hx with h | h <;> split at h <;> simp at h <;> subst h <;> rfl
  refine ⟨List.filter_eq_self.2 key, ?_⟩
  unfold unkL
  rw [List.filter_eq_nil_iff.2 fun x hx => by rw [key x hx]; simp]; rfl
theorem head_tells (o : Int) (cs : List Nat) (h1 : -2147483648 ≤ o) (h2 : o < 2147483648) (hc : ∀ n ∈ cs, n < 2 ^ 64) : packO vars 2 (headB o cs) = some cs ∧ zag32 (lastF (headB o cs) 1).n = o := by
  have hv := vars_packV hc
  have hz := zag_zig h1 h2
  have z0 : zag32 0 = 0 := by decide
  unfold headB
  by_cases ho : zig32 o = 0
  · rw [if_pos ho]
    have := zig32_0 ho; subst this
    by_cases he : cs = []
    · rw [if_pos he]; subst he; exact ⟨rfl, z0⟩
    · rw [if_neg he]
      refine ⟨?_, z0⟩
      simp only [List.nil_append, packO, if_true, hv]
      simp
  · rw [if_neg ho]
    by_cases he : cs = []
    · rw [if_pos he]; subst he; exact ⟨rfl, hz⟩
    · rw [if_neg he]
      refine ⟨?_, hz⟩
      simp only [List.singleton_append, packO, if_true, hv]
      simp
theorem okB_mar {o : Int} {cs : List Nat} {u : List UInt8} {d : Int} (hm : mayB u d = true) (h1 : -2147483648 ≤ o) (h2 : o < 2147483648) (hc : ∀ n ∈ cs, n < 2 ^ 64) (hl : (packV cs).length < 2 ^ 64) : okB (marB o cs u) d = some ⟨o, cs, u⟩ := by
  obtain ⟨l, hl1, hl2, hl3⟩ := mayB_okL hm
  obtain ⟨-, -, hl4, hd⟩ := okL_some hl1
  have h3 := okL_mk hd (head_all o cs d h1 h2 hl)
  have h4 := okL_app h3 hl1
  obtain ⟨k1, k2⟩ := head_known o cs
  obtain ⟨t1, t2⟩ := head_tells o cs h1 h2 hc
  unfold okB marB
  rw [h4]
  simp only
  rw [knownL_app, k1, hl2, List.append_nil, t1, unkL_app, k2, hl3]
  simp only [t2]
  rfl
end Go.Proofs.YtfbckigcelmopaaGreatDoor
