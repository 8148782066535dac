/- What is read is written in no more than so many times as many bytes. -/
import Derived.Test.YtidcjbkenpgnoaaGreatDoorDW
import Derived.Test.YtidcjbkenpgnoaaGreatDoorBF
import Derived.Test.YtidcjbkenpgnoaaGreatDoorXG3
import Derived.Test.YtidcjbkenpgnoaaGreatDoorRows
import Derived.ChangeSame
import Derived.ChangeVars
import Derived.ChangeStays
import Derived.ChangeMaps5
import Derived.JoinedOf
import Derived.Handed
import Derived.RowKit
import Derived.RowKitTokens
import Derived.LaidLaws
import Derived.LaidHandle
import Derived.Stop.Joined
import Derived.Deep.Strs
import Derived.ChangeSlices
set_option linter.unusedSimpArgs false
set_option linter.unusedVariables false
set_option maxRecDepth 100000
namespace Go.Proofs.YtidcjbkenpgnoaaGreatDoor
open Go Go.Abs
variable (B : Fr)
section
def Tight {α : Type} (ok : List UInt8 → Int → Option α) (mar : α → List UInt8) : Prop := ∀ (d : Int) (s : List UInt8) (x : α), ok s d = some x → (mar x).length ≤ 21 * s.length
theorem wt_split (n : Nat) : ∀ l : List Fld, wt (sel n l) + wt (l.filter fun x => !(x.num == n)) = wt l
 | [] => rfl
 | x :: l => by
  have := wt_split n l
  rw [k'30, List.filter_cons]
  by_cases h : x.num = n
  ·rw [if_pos h, if_neg (by simp [h]), k'2e, k'2e]; omega
  ·rw [if_neg h, if_pos (by simp [h]), k'2e, k'2e]; omega
theorem sel_out {n m : Nat} (h : m ≠ n) (l : List Fld) : sel m (l.filter fun x => !(x.num == n)) = sel m l := by
 unfold sel
 rw [List.filter_filter]
 refine List.filter_congr fun x _ => ?_
 by_cases e : x.num = m
 ·simp [e, h]
 ·simp [e]
theorem k'2q : ∀ (ns : List Nat), ns.Nodup → ∀ l : List Fld, (ns.map fun n => wt (sel n l)).sum ≤ wt l
 | [], _, l => by simp
 | n :: r, h, l => by
  have hn := List.nodup_cons.1 h
  have ih := k'2q r hn.2 (l.filter fun x => !(x.num == n))
  have e := wt_split n l
  have e2 : (r.map fun m => wt (sel m l)) = r.map fun m => wt (sel m (l.filter fun x => !(x.num == n))) := List.map_congr_left fun m hm => by rw [sel_out (n := n) (m := m) (by rintro rfl; exact hn.1 hm)]
  rw [List.map_cons, List.sum_cons, e2]; omega
section
variable {l : List Fld} (hl : ∀ x ∈ l, FOk x)
include hl
theorem raw_W {n : Nat} {x : Fld} (h : x ∈ l) (hn : x.num = n) : x.s.length + 1 ≤ wt (sel n l) := by
 have h1 : x ∈ sel n l := sel_mem.2 ⟨h, hn⟩
 have := k'1e (sz := fun x : Fld => x.raw.length) h1
 have := (hl x h).s
 unfold wt; omega
theorem any_W {n : Nat} (h : anyL l n = true) : (k'5 l n).s.length + 1 ≤ wt (sel n l) := by
 obtain ⟨h1, h2⟩ := lastF_num h
 exact raw_W hl h2 h1
theorem t_fx (n : Nat) : (fxV n (k'5 l n).n).length ≤ 21 * wt (sel n l) := by
 cases ha : anyL l n with
 | false => rw [k'1g ha]; exact Nat.zero_le _
 | true => have := any_W hl ha; have := k'26 n (k'5 l n).n; omega
theorem t_vr (n m : Nat) (h : anyL l n = false → m = 0) : (vrV n m).length ≤ 21 * wt (sel n l) := by
 cases ha : anyL l n with
 | false => rw [h ha]; exact Nat.zero_le _
 | true => have := any_W hl ha; have := k'3g n m; omega
theorem t_op (n v : Nat) (hn : 1 ≤ n) : (opV n (hasL l n) v).length ≤ 21 * wt (sel n l) := by
 cases ha : anyL l n with
 | false =>
  have : hasL l n = false := by unfold hasL; rw [k'1g ha]; show (0 == n) = false; simp; omega
  rw [this]; exact Nat.zero_le _
 | true => have := any_W hl ha; have := k'2u n (hasL l n) v; omega
theorem t_tx (n : Nat) : (txV n (k'5 l n).s).length ≤ 21 * wt (sel n l) := by
 cases ha : anyL l n with
 | false => rw [k'1g ha]; exact Nat.zero_le _
 | true => have := any_W hl ha; have := k'3h n (k'5 l n).s; omega
theorem t_txO {n : Nat} {t : List UInt8} (h : k'1q n l = some t) : (txV n t).length ≤ 21 * wt (sel n l) := by
 unfold k'1q at h
 split at h
 ·injection h with h; subst h; exact t_tx hl n
 ·simp at h
omit hl in
theorem flat_W : ∀ (l : List Fld), (∀ x ∈ l, FOk x) → (l.flatMap Fld.s).length + l.length ≤ wt l
 | [], _ => by simp [wt]
 | x :: l, h => by
  have := flat_W l fun y hy => h y (List.mem_cons_of_mem _ hy)
  have := (h x (List.mem_cons_self ..)).s
  rw [k'2e, List.flatMap_cons, List.length_append, List.length_cons]; omega
theorem bytes_W {n : Nat} (h : anyL l n = true) : (k'1v l n).length + 1 ≤ wt (sel n l) := by
 have h1 := flat_W (sel n l) (fok_sel hl n)
 obtain ⟨h2, h3⟩ := lastF_num h
 have : 0 < (sel n l).length := List.length_pos_of_mem (sel_mem.2 ⟨h3, h2⟩)
 rw [k'37]; omega
omit hl in
theorem t_parts {α : Type} {ok : List UInt8 → Option α} {mar : α → List UInt8} (h : ∀ s x, ok s = some x → (mar x).length ≤ 21 * s.length) (n : Nat) : ∀ {l : List Fld} {xs : List α}, (∀ x ∈ l, FOk x) → mapO (fun x => ok x.s) l = some xs → (psV n (xs.map mar)).length ≤ 21 * wt l
 | [], xs, _, h => by simp [mapO] at h; subst h; exact Nat.zero_le _
 | x :: l, xs, hf, h1 => by
  have hx := (hf x (List.mem_cons_self ..)).s
  unfold mapO at h1
  split at h1
  ·simp at h1
  ·rename_i y hy
   split at h1
   ·simp at h1
   ·rename_i r' hr
    injection h1 with h1; subst h1
    have := t_parts h n (fun y hy => hf y (List.mem_cons_of_mem _ hy)) hr
    have := h _ _ hy
    have := k'20 n (mar y)
    unfold psV at *
    rw [List.map_cons, List.flatMap_cons, List.length_append, k'2e]; omega
theorem t_ps {α : Type} {ok : List UInt8 → Option α} {mar : α → List UInt8} (h : ∀ s x, ok s = some x → (mar x).length ≤ 21 * s.length) {n : Nat} {xs : List α} (hp : k'3 ok n l = some xs) : (psV n (xs.map mar)).length ≤ 21 * wt (sel n l) := t_parts h n (fok_sel hl n) hp
theorem t_pa {α : Type} {ok : List UInt8 → Option α} {mar : α → List UInt8} (h : ∀ s x, ok s = some x → (mar x).length ≤ 21 * s.length) {z : α} {n : Nat} {p : Bool × α} (hp : k'3s ok z n l = some p) : (if p.1 then paV n (mar p.2) else []).length ≤ 21 * wt (sel n l) := by
 unfold k'3s at hp
 split at hp
 ·rename_i ha
  split at hp
  ·simp at hp
  ·rename_i x hx
   injection hp with hp; subst hp
   have := bytes_W hl ha
   have := h _ _ hx
   have := k'20 n (mar x)
   simp only [if_true]; omega
 ·injection hp with hp; subst hp; exact Nat.zero_le _
theorem t_pw {n : Nat} {cs : List Nat} (hn : (tagV n 2).length = 1) (h : k'1z fixs n l = some cs) : (pwV n cs).length ≤ 21 * wt (sel n l) := by
 rw [packO_sel] at h
 have h1 := k'4f (fun s l h => fixs_len h) (fok_sel hl n) h
 cases cs with
 | nil => exact Nat.zero_le _
 | cons c r =>
  have h2 := k'4e (c :: r)
  have h3 := k'1y (packW (c :: r)).length
  have : (pwV n (c :: r)).length ≤ 11 + 8 * (c :: r).length := by
   unfold pwV txV paV
   split
   ·exact Nat.zero_le _
   ·rw [List.length_append, List.length_append]; omega
  rw [List.length_cons] at *
  omega
theorem t_pk {n : Nat} {cs : List Nat} (hn : (tagV n 2).length = 1) (h : k'1z vars n l = some cs) : (pkV n cs).length ≤ 21 * wt (sel n l) := by
 rw [packO_sel] at h
 have h1 := k'4f (fun s l h => vars_len h) (fok_sel hl n) h
 cases cs with
 | nil => exact Nat.zero_le _
 | cons c r =>
  have h2 := packV_len (c :: r)
  have h3 := k'1y (k'3j (c :: r)).length
  have : (pkV n (c :: r)).length ≤ 11 + 10 * (c :: r).length := by
   unfold pkV
   split
   ·exact Nat.zero_le _
   ·rw [List.length_append, List.length_append]; omega
  rw [List.length_cons] at *
  omega
theorem t_num {a b : Nat} (hab : a ≠ b) (ha : 1 ≤ a) (hb : 1 ≤ b) : (opV a (((k'3q a b (oneF [a, b] l)).1 : Int) == 1) (k'3q a b (oneF [a, b] l)).2).length + (opV b (((k'3q a b (oneF [a, b] l)).1 : Int) == 2) (k'3q a b (oneF [a, b] l)).2).length ≤ 21 * wt (sel a l) + 21 * wt (sel b l) := by
 obtain ⟨-, -, -, o4⟩ := oneF_ok (ns := [a, b]) hl
 unfold k'3q
 generalize oneF [a, b] l = o at *
 split
 ·rename_i h
  rcases o4 with g | ⟨-, x, g1, g2, -⟩
  ·omega
  ·have := raw_W hl g1 (g2.trans h)
   have q1 := k'2u a true o.n
   show (opV a true o.n).length + (opV b false o.n).length ≤ _
   have : (opV b false o.n).length = 0 := rfl
   omega
 ·split
  ·rename_i h
   rcases o4 with g | ⟨-, x, g1, g2, -⟩
   ·omega
   ·have := raw_W hl g1 (g2.trans h)
    have q1 := k'2u b true o.n
    show (opV a false o.n).length + (opV b true o.n).length ≤ _
    have : (opV a false o.n).length = 0 := rfl
    omega
  ·exact Nat.zero_le _
omit hl in
theorem oneF_W {ns : List Nat} (h : ∀ x ∈ l, FOk x) : (oneF ns l).num = 0 ∨ ((oneF ns l).s.length + 1 ≤ wt l ∧ (oneF ns l).all.flatten.length + 1 ≤ wt l) := by
 have key : ∀ (l : List Fld) (o : OneS) (w : Nat), (∀ x ∈ l, FOk x) → (o.num = 0 ∨ (o.s.length + 1 ≤ w ∧ o.all.flatten.length + 1 ≤ w)) → ((l.foldl (k'c ns) o).num = 0 ∨ ((l.foldl (k'c ns) o).s.length + 1 ≤ w + wt l ∧ (l.foldl (k'c ns) o).all.flatten.length + 1 ≤ w + wt l)) := by
  intro l
  induction l with
  | nil => intro o w _ h; simpa [wt] using h
  | cons x l ih =>
   intro o w hf h3
   have hx := hf x (List.mem_cons_self ..)
   have hxs := hx.s
   have h1 := hx.one
   rw [List.foldl_cons, k'2e]
   have step : (k'c ns o x).num = 0 ∨ ((k'c ns o x).s.length + 1 ≤ w + x.raw.length ∧ (k'c ns o x).all.flatten.length + 1 ≤ w + x.raw.length) := by
    unfold k'c
    split
    ·split
     ·rename_i e
      rcases h3 with g | ⟨g1, g2⟩
      ·omega
      ·refine .inr ⟨by show x.s.length + 1 ≤ _; omega, ?_⟩
       simp only [List.flatten_append, List.flatten_cons, List.flatten_nil, List.append_nil, List.length_append]; omega
     ·refine .inr ⟨by show x.s.length + 1 ≤ _; omega, ?_⟩
      simp only [List.flatten_cons, List.flatten_nil, List.append_nil]; omega
    ·rcases h3 with g | ⟨g1, g2⟩
     ·exact .inl g
     ·exact .inr ⟨by omega, by omega⟩
   have := ih (k'c ns o x) (w + x.raw.length) (fun y hy => hf y (List.mem_cons_of_mem _ hy)) step
   rcases this with g | ⟨g1, g2⟩
   ·exact .inl g
   ·exact .inr ⟨by omega, by omega⟩
 have := key l noOne 0 h (.inl rfl)
 simpa [oneF] using this
end
theorem val_tight (k : Nat) : ∀ d : Int, d < k → (∀ s v, okV s d = some v → v.mar.length ≤ 21 * s.length) ∧ (∀ s v, okK s d = some v → v.mar.length ≤ 21 * s.length) := by
 induction k with
 | zero =>
  intro d hd
  constructor
  ·intro s v h; rw [okV_eq, k'1f (by omega)] at h; simp [apO] at h
  ·intro s v h; rw [okK_eq, k'1f (by omega)] at h; simp [apO] at h
 | succ k ih =>
  intro d hdk
  constructor
  ·intro s v h
   rw [okV_eq] at h
   obtain ⟨f, u, h1, rfl⟩ := k'j h
   obtain ⟨l, -, h2, -, h4, hd, hf, hw⟩ := k'v h1
   dsimp only at h2 h4 hw
   have o4 := oneF_W (ns := [1, 2, 3, 4, 5, 6, 7]) hf
   unfold tellV at h2
   split at h2
   ·simp at h2
   dsimp only at h2
   generalize oneF [1, 2, 3, 4, 5, 6, 7] (k'7 tbV l) = o at *
   split at h2
   ·rename_i hk
    injection h2 with h2; subst h2
    obtain ⟨b1, b2⟩ := o4.resolve_left (by omega)
    rcases hk with hk | hk <;> rw [hk]
    ·have := k'20 1 o.s
     show (paV 1 o.s ++ u).length ≤ _
     rw [List.length_append]; omega
    ·have := k'20 7 o.s
     show (paV 7 o.s ++ u).length ≤ _
     rw [List.length_append]; omega
   split at h2
   ·rename_i hk
    injection h2 with h2; subst h2
    obtain ⟨b1, b2⟩ := o4.resolve_left (by omega)
    have := fewV_len 2 (if decide (0 < o.n) then 1 else 0)
    show (fewV 2 (if decide (0 < o.n) then 1 else 0) ++ u).length ≤ _
    rw [List.length_append]; omega
   split at h2
   ·rename_i hk
    injection h2 with h2; subst h2
    obtain ⟨b1, b2⟩ := o4.resolve_left (by omega)
    rcases hk with hk | hk <;> rw [hk]
    ·have := fewV_len 3 o.n
     show (fewV 3 o.n ++ u).length ≤ _
     rw [List.length_append]; omega
    ·have := k'2u 4 true o.n
     show (opV 4 true o.n ++ u).length ≤ _
     rw [List.length_append]; omega
   split at h2
   ·rename_i hk
    split at h2
    ·simp at h2
    rename_i p hp
    injection h2 with h2; subst h2
    obtain ⟨b1, b2⟩ := o4.resolve_left (by omega)
    obtain ⟨l2, -, g2, -, g4, gd, gf, gw⟩ := k'v hp
    have hsz := t_ps gf (mar := Vl.mar) (fun s v h => (ih (d - 2) (by omega)).1 s v h) g2
    have hws := wt_sel 1 (k'7 tbL l2)
    rw [← Vl.mars_map] at hsz
    have := k'20 5 (psV 1 (Vl.mars p.1) ++ p.2)
    show (paV 5 (psV 1 (Vl.mars p.1) ++ p.2) ++ u).length ≤ _
    rw [List.length_append] at *; omega
   split at h2
   ·rename_i hk
    split at h2
    ·simp at h2
    rename_i p hp
    injection h2 with h2; subst h2
    obtain ⟨b1, b2⟩ := o4.resolve_left (by omega)
    obtain ⟨l2, -, g2, -, g4, gd, gf, gw⟩ := k'v hp
    have hsz := t_ps gf (mar := Kv.mar) (fun s v h => (ih (d - 2) (by omega)).2 s v h) g2
    have hws := wt_sel 1 (k'7 tbL l2)
    rw [← Kv.mars_map] at hsz
    have := k'20 6 (psV 1 (Kv.mars p.1) ++ p.2)
    show (paV 6 (psV 1 (Kv.mars p.1) ++ p.2) ++ u).length ≤ _
    rw [List.length_append] at *; omega
   ·injection h2 with h2; subst h2
    show ([] ++ u).length ≤ _
    rw [List.nil_append]; omega
  ·intro s v h
   rw [okK_eq] at h
   obtain ⟨f, u, h1, rfl⟩ := k'j h
   obtain ⟨l, -, h2, -, h4, hd, hf, hw⟩ := k'v h1
   dsimp only at h2 h4 hw
   unfold tellK at h2
   split at h2
   ·simp at h2
   split at h2
   ·simp at h2
   rename_i p g_p
   injection h2 with h2; subst h2
   have hs := k'2q [1, 2] (by decide) (k'7 tbK l)
   simp only [List.map_cons, List.map_nil, List.sum_cons, List.sum_nil] at hs
   have q1 := t_tx hf 1
   have q2 := t_pa hf (mar := Vl.mar) (fun s v h => (ih (d - 1) (by omega)).1 s v h) g_p
   show (txV 1 (k'5 (k'7 tbK l) 1).s ++ (if p.1 then paV 2 p.2.mar else []) ++ u).length ≤ _
   rw [List.length_append, List.length_append]; omega
theorem k'4a : Tight okK Kv.mar := fun d s x h => (val_tight (d.toNat + 1) d (by omega)).2 s x h
theorem Em_tight : Tight okEm Em.mar := by
 intro d s x h
 obtain ⟨f, u, h1, rfl⟩ := k'j h
 obtain ⟨l, -, h2, -, h4, hd, hf, hw⟩ := k'v h1
 dsimp only at h2 h4 hw
 unfold tellEm at h2
 split at h2
 ·simp at h2
 rename_i attrs g_attrs
 injection h2 with h2
 subst h2
 have hs := k'2q [2, 3, 4, 5, 6, 7] (by decide) (k'7 tbE l)
 simp only [List.map_cons, List.map_nil, List.sum_cons, List.sum_nil] at hs
 have q0 := t_fx hf 2
 have q1 := t_num hf (a := 3) (b := 6) (by decide) (by decide) (by decide)
 have q2 := t_tx hf 4
 have q3 := t_tx hf 5
 have q4 := t_ps hf (mar := Kv.mar) (k'4a (d - 1)) g_attrs
 rw [← Kv.mars_map] at q4
 unfold Em.mar Em.hb
 simp only [List.length_append]
 omega
theorem Nb_tight : Tight okNb Nb.mar := by
 intro d s x h
 obtain ⟨f, u, h1, rfl⟩ := k'j h
 obtain ⟨l, -, h2, -, h4, hd, hf, hw⟩ := k'v h1
 dsimp only at h2 h4 hw
 unfold tellNb at h2
 split at h2
 ·simp at h2
 rename_i attrs g_attrs
 split at h2
 ·simp at h2
 rename_i exs g_exs
 injection h2 with h2
 subst h2
 have hs := k'2q [2, 3, 4, 5, 6, 7, 8] (by decide) (k'7 tbN l)
 simp only [List.map_cons, List.map_nil, List.sum_cons, List.sum_nil] at hs
 have q0 := t_fx hf 2
 have q1 := t_fx hf 3
 have q2 := t_num hf (a := 4) (b := 6) (by decide) (by decide) (by decide)
 have q3 := t_ps hf (mar := Em.mar) (Em_tight (d - 1)) g_exs
 have q4 := t_ps hf (mar := Kv.mar) (k'4a (d - 1)) g_attrs
 rw [← Kv.mars_map] at q4
 have q5 := t_vr hf 8 ((k'5 (k'7 tbN l) 8).n % 4294967296) (fun h => by rw [k'1g h]; rfl)
 unfold Nb.mar Nb.hb
 simp only [List.length_append]
 omega
theorem Hi_tight : Tight okHi Hi.mar := by
 intro d s x h
 obtain ⟨f, u, h1, rfl⟩ := k'j h
 obtain ⟨l, -, h2, -, h4, hd, hf, hw⟩ := k'v h1
 dsimp only at h2 h4 hw
 unfold tellHi at h2
 split at h2
 ·simp at h2
 rename_i attrs g_attrs
 split at h2
 ·simp at h2
 rename_i counts g_counts
 split at h2
 ·simp at h2
 rename_i bounds g_bounds
 split at h2
 ·simp at h2
 rename_i exs g_exs
 injection h2 with h2
 subst h2
 have hs := k'2q [2, 3, 4, 5, 6, 7, 8, 9, 10, 11, 12] (by decide) (k'7 tbH l)
 simp only [List.map_cons, List.map_nil, List.sum_cons, List.sum_nil] at hs
 have q0 := t_fx hf 2
 have q1 := t_fx hf 3
 have q2 := t_fx hf 4
 have q3 := t_op hf 5 (k'5 (k'7 tbH l) 5).n (by decide)
 have q4 := t_pw hf rfl g_counts
 have q5 := t_pw hf rfl g_bounds
 have q6 := t_ps hf (mar := Em.mar) (Em_tight (d - 1)) g_exs
 have q7 := t_ps hf (mar := Kv.mar) (k'4a (d - 1)) g_attrs
 rw [← Kv.mars_map] at q7
 have q8 := t_vr hf 10 ((k'5 (k'7 tbH l) 10).n % 4294967296) (fun h => by rw [k'1g h]; rfl)
 have q9 := t_op hf 11 (k'5 (k'7 tbH l) 11).n (by decide)
 have q10 := t_op hf 12 (k'5 (k'7 tbH l) 12).n (by decide)
 unfold Hi.mar Hi.hb
 simp only [List.length_append]
 omega
theorem Bk_tight : Tight okB Bk.mar := fun d s b h => by
 obtain ⟨l, -, h2, -, -, -, hf, hw⟩ := k'v (okB_get h)
 dsimp only at h2 hw
 unfold tellB at h2
 split at h2
 ·simp at h2
 rename_i ns g_ns
 simp only [Option.some.injEq, Prod.mk.injEq] at h2
 obtain ⟨e1, e2⟩ := h2
 have hs := k'2q [1, 2] (by decide) (k'7 tbB l)
 simp only [List.map_cons, List.map_nil, List.sum_cons, List.sum_nil] at hs
 have q1 := t_vr hf 1 (k'29 (zag32 (k'5 (k'7 tbB l) 1).n)) (fun h => by rw [k'1g h]; rfl)
 have q2 := t_pk hf rfl g_ns
 show (vrV 1 (k'29 b.off) ++ pkV 2 b.cs ++ b.u).length ≤ _
 rw [← e1, ← e2, List.length_append, List.length_append]; omega
set_option maxHeartbeats 2000000 in
theorem Eh_tight : Tight okEh Eh.mar := by
 intro d s x h
 obtain ⟨f, u, h1, rfl⟩ := k'j h
 obtain ⟨l, -, h2, -, h4, hd, hf, hw⟩ := k'v h1
 dsimp only at h2 h4 hw
 unfold tellEh at h2
 split at h2
 ·simp at h2
 rename_i attrs g_attrs
 split at h2
 ·simp at h2
 rename_i pos g_pos
 split at h2
 ·simp at h2
 rename_i neg g_neg
 split at h2
 ·simp at h2
 rename_i exs g_exs
 injection h2 with h2
 subst h2
 have hs := k'2q [1, 2, 3, 4, 5, 6, 7, 8, 9, 10, 11, 12, 13, 14] (by decide) (k'7 tbQ l)
 simp only [List.map_cons, List.map_nil, List.sum_cons, List.sum_nil] at hs
 have q0 := t_ps hf (mar := Kv.mar) (k'4a (d - 1)) g_attrs
 rw [← Kv.mars_map] at q0
 have q1 := t_fx hf 2
 have q2 := t_fx hf 3
 have q3 := t_fx hf 4
 have q4 := t_op hf 5 (k'5 (k'7 tbQ l) 5).n (by decide)
 have q5 := t_vr hf 6 (k'29 (zag32 (k'5 (k'7 tbQ l) 6).n)) (fun h => by rw [k'1g h]; rfl)
 have q6 := t_fx hf 7
 have q7 : (sdV 8 pos.1 pos.2).length ≤ _ := t_pa hf (mar := Bk.mar) (Bk_tight (d - 1)) g_pos
 have q8 : (sdV 9 neg.1 neg.2).length ≤ _ := t_pa hf (mar := Bk.mar) (Bk_tight (d - 1)) g_neg
 have q9 := t_vr hf 10 ((k'5 (k'7 tbQ l) 10).n % 4294967296) (fun h => by rw [k'1g h]; rfl)
 have q10 := t_ps hf (mar := Em.mar) (Em_tight (d - 1)) g_exs
 have q11 := t_op hf 12 (k'5 (k'7 tbQ l) 12).n (by decide)
 have q12 := t_op hf 13 (k'5 (k'7 tbQ l) 13).n (by decide)
 have q13 := t_fx hf 14
 unfold Eh.mar Eh.hb
 simp only [List.length_append]
 omega
theorem Qu_tight : Tight okQu Qu.mar := by
 intro d s x h
 obtain ⟨f, u, h1, rfl⟩ := k'j h
 obtain ⟨l, -, h2, -, h4, hd, hf, hw⟩ := k'v h1
 dsimp only at h2 h4 hw
 unfold tellQu at h2
 injection h2 with h2
 subst h2
 have hs := k'2q [1, 2] (by decide) (k'7 tbG l)
 simp only [List.map_cons, List.map_nil, List.sum_cons, List.sum_nil] at hs
 have q0 := t_fx hf 1
 have q1 := t_fx hf 2
 unfold Qu.mar Qu.hb
 simp only [List.length_append]
 omega
theorem Su_tight : Tight okSu Su.mar := by
 intro d s x h
 obtain ⟨f, u, h1, rfl⟩ := k'j h
 obtain ⟨l, -, h2, -, h4, hd, hf, hw⟩ := k'v h1
 dsimp only at h2 h4 hw
 unfold tellSu at h2
 split at h2
 ·simp at h2
 rename_i attrs g_attrs
 split at h2
 ·simp at h2
 rename_i qs g_qs
 injection h2 with h2
 subst h2
 have hs := k'2q [2, 3, 4, 5, 6, 7, 8] (by decide) (k'7 tbS l)
 simp only [List.map_cons, List.map_nil, List.sum_cons, List.sum_nil] at hs
 have q0 := t_fx hf 2
 have q1 := t_fx hf 3
 have q2 := t_fx hf 4
 have q3 := t_fx hf 5
 have q4 := t_ps hf (mar := Qu.mar) (Qu_tight (d - 1)) g_qs
 have q5 := t_ps hf (mar := Kv.mar) (k'4a (d - 1)) g_attrs
 rw [← Kv.mars_map] at q5
 have q6 := t_vr hf 8 ((k'5 (k'7 tbS l) 8).n % 4294967296) (fun h => by rw [k'1g h]; rfl)
 unfold Su.mar Su.hb
 simp only [List.length_append]
 omega
theorem Sc_tight : Tight okSc Sc.mar := by
 intro d s x h
 obtain ⟨f, u, h1, rfl⟩ := k'j h
 obtain ⟨l, -, h2, -, h4, hd, hf, hw⟩ := k'v h1
 dsimp only at h2 h4 hw
 unfold tellSc at h2
 split at h2
 ·simp at h2
 rename_i name g_name
 split at h2
 ·simp at h2
 rename_i version g_version
 split at h2
 ·simp at h2
 rename_i attrs g_attrs
 injection h2 with h2
 subst h2
 have hs := k'2q [1, 2, 3, 4] (by decide) (k'7 tbC l)
 simp only [List.map_cons, List.map_nil, List.sum_cons, List.sum_nil] at hs
 have q0 := t_txO hf g_name
 have q1 := t_txO hf g_version
 have q2 := t_ps hf (mar := Kv.mar) (k'4a (d - 1)) g_attrs
 rw [← Kv.mars_map] at q2
 have q3 := t_vr hf 4 ((k'5 (k'7 tbC l) 4).n % 4294967296) (fun h => by rw [k'1g h]; rfl)
 unfold Sc.mar Sc.hb
 simp only [List.length_append]
 omega
theorem Rs_tight : Tight okRs Rs.mar := by
 intro d s x h
 obtain ⟨f, u, h1, rfl⟩ := k'j h
 obtain ⟨l, -, h2, -, h4, hd, hf, hw⟩ := k'v h1
 dsimp only at h2 h4 hw
 unfold tellRs at h2
 split at h2
 ·simp at h2
 rename_i attrs g_attrs
 injection h2 with h2
 subst h2
 have hs := k'2q [1, 2] (by decide) (k'7 tbD l)
 simp only [List.map_cons, List.map_nil, List.sum_cons, List.sum_nil] at hs
 have q0 := t_ps hf (mar := Kv.mar) (k'4a (d - 1)) g_attrs
 rw [← Kv.mars_map] at q0
 have q1 := t_vr hf 2 ((k'5 (k'7 tbD l) 2).n % 4294967296) (fun h => by rw [k'1g h]; rfl)
 unfold Rs.mar Rs.hb
 simp only [List.length_append]
 omega
theorem I_tight (k : Int) : Tight (okI k) In.mar := by
 intro d s x h
 obtain ⟨f, u, h1, rfl⟩ := k'j h
 obtain ⟨l, -, h2, -, h4, hd, hf, hw⟩ := k'v h1
 dsimp only at h2 h4 hw
 unfold tellI at h2
 split at h2
 ·simp at h2
 rename_i p g_p
 injection h2 with h2
 subst h2
 have hs := k'2q [1, 2, 3] (by decide) (k'7 (tbI k) l)
 simp only [List.map_cons, List.map_nil, List.sum_cons, List.sum_nil] at hs
 have q2 := t_vr hf 2 (k'4i (k'2z (k'5 (k'7 (tbI k) l) 2).n)) (fun h => by rw [k'1g h]; rfl)
 have q3 : (flV 3 (decide (0 < (k'5 (k'7 (tbI k) l) 3).n))).length ≤ 21 * wt (sel 3 (k'7 (tbI k) l)) := by
  cases ha : anyL (k'7 (tbI k) l) 3 with
  | false => rw [k'1g ha]; exact Nat.zero_le _
  | true => have := any_W hf ha; have := flV_len 3 (decide (0 < (k'5 (k'7 (tbI k) l) 3).n)); omega
 have q1 : (psV 1 (p.nbs.map Nb.mar)).length + (psV 1 (p.his.map Hi.mar)).length + (psV 1 (p.ehs.map Eh.mar)).length + (psV 1 (p.sus.map Su.mar)).length ≤ 21 * wt (sel 1 (k'7 (tbI k) l)) := by
  unfold ptsI at g_p
  split at g_p
  ·split at g_p
   ·simp at g_p
   rename_i v g_v
   injection g_p with g_p
   subst g_p
   have q := t_ps hf (mar := Nb.mar) (Nb_tight (d - 1)) g_v
   show (psV 1 (v.map Nb.mar)).length + 0 + 0 + 0 ≤ _
   omega
  split at g_p
  ·split at g_p
   ·simp at g_p
   rename_i v g_v
   injection g_p with g_p
   subst g_p
   have q := t_ps hf (mar := Hi.mar) (Hi_tight (d - 1)) g_v
   show 0 + (psV 1 (v.map Hi.mar)).length + 0 + 0 ≤ _
   omega
  split at g_p
  ·split at g_p
   ·simp at g_p
   rename_i v g_v
   injection g_p with g_p
   subst g_p
   have q := t_ps hf (mar := Eh.mar) (Eh_tight (d - 1)) g_v
   show 0 + 0 + (psV 1 (v.map Eh.mar)).length + 0 ≤ _
   omega
  ·split at g_p
   ·simp at g_p
   rename_i v g_v
   injection g_p with g_p
   subst g_p
   have q := t_ps hf (mar := Su.mar) (Su_tight (d - 1)) g_v
   show 0 + 0 + 0 + (psV 1 (v.map Su.mar)).length ≤ _
   omega
 show (psV 1 (p.nbs.map Nb.mar) ++ psV 1 (p.his.map Hi.mar) ++ psV 1 (p.ehs.map Eh.mar) ++ psV 1 (p.sus.map Su.mar) ++ vrV 2 (k'4i (k'2z (k'5 (k'7 (tbI k) l) 2).n)) ++ flV 3 (decide (0 < (k'5 (k'7 (tbI k) l) 3).n)) ++ u).length ≤ _
 simp only [List.length_append]
 omega
theorem wt_selN (ns : List Nat) : ∀ l : List Fld, wt (selN ns l) + wt (l.filter fun x => !(ns.contains x.num)) = wt l
 | [] => rfl
 | x :: l => by
  have := wt_selN ns l
  unfold selN at *
  rw [List.filter_cons, List.filter_cons]
  cases h : ns.contains x.num with
  | true => simp only [if_true, Bool.not_true, Bool.false_eq_true, if_false, k'2e]; omega
  | false => simp only [Bool.false_eq_true, if_false, Bool.not_false, if_true, k'2e]; omega
theorem sel_outN {ns : List Nat} {m : Nat} (h : ns.contains m = false) (l : List Fld) : sel m (l.filter fun x => !(ns.contains x.num)) = sel m l := by
 unfold sel
 rw [List.filter_filter]
 refine List.filter_congr fun x _ => ?_
 by_cases e : x.num = m
 ·rw [e, h]; simp
 ·simp [e]
theorem t_on {l : List Fld} (hl : ∀ x ∈ l, FOk x) {d : Int} {p : Int × In} (h : onO d l = some p) : (onV p.1 p.2).length ≤ 21 * wt (selN onNs l) := by
 have hw := oneF_W (l := selN onNs l) (ns := onNs) (fun x hx => hl x (List.mem_filter.1 hx).1)
 rw [oneF_selN] at hw
 unfold onO at h
 split at h
 ·injection h with h; subst h
  have : onV 0 noIn = [] := by unfold onV; rw [if_neg (by decide)]
  show (onV 0 noIn).length ≤ _
  rw [this]; exact Nat.zero_le _
 ·rename_i hn
  obtain ⟨-, w2⟩ := hw.resolve_left hn
  split at h
  ·simp at h
  rename_i x hx
  injection h with h; subst h
  have h1 := I_tight _ _ _ _ hx
  show (onV (kindK (oneF onNs l).num) x).length ≤ _
  unfold onV
  split
  ·have := k'20 (numK (kindK (oneF onNs l).num)) x.mar; omega
  ·exact Nat.zero_le _
theorem Me_tight : Tight okMe Me.mar := by
 intro d s x h
 obtain ⟨f, u, h1, rfl⟩ := k'j h
 obtain ⟨l, -, h2, -, h4, hd, hf, hw⟩ := k'v h1
 dsimp only at h2 h4 hw
 unfold tellMe at h2
 split at h2
 ·simp at h2
 rename_i name g_name
 split at h2
 ·simp at h2
 rename_i desc g_desc
 split at h2
 ·simp at h2
 rename_i unit g_unit
 split at h2
 ·simp at h2
 rename_i data g_data
 split at h2
 ·simp at h2
 rename_i mets g_mets
 injection h2 with h2
 subst h2
 have hs := k'2q [1, 2, 3, 12] (by decide) ((k'7 tbM l).filter fun x => !(onNs.contains x.num))
 simp only [List.map_cons, List.map_nil, List.sum_cons, List.sum_nil] at hs
 rw [sel_outN rfl, sel_outN rfl, sel_outN rfl, sel_outN rfl] at hs
 have q0 := t_txO hf g_name
 have q1 := t_txO hf g_desc
 have q2 := t_txO hf g_unit
 have q3 := t_ps hf (mar := Kv.mar) (k'4a (d - 1)) g_mets
 rw [← Kv.mars_map] at q3
 have q4 := t_on hf g_data
 have hs2 := wt_selN onNs (k'7 tbM l)
 unfold Me.mar Me.hb
 simp only [List.length_append]
 omega
theorem tr_tight {P Q : Type} {a : Ms P} {b : Ms Q} (ha : Tight a.ok a.mar) (hb : Tight b.ok b.mar) : Tight (trOk a b) (trMar a b) := by
 intro d s x h
 obtain ⟨f, u, h1, rfl⟩ := k'j h
 obtain ⟨l, -, h2, -, h4, hd, hf, hw⟩ := k'v h1
 dsimp only at h2 h4 hw
 unfold trTell at h2
 split at h2
 ·simp at h2
 rename_i p g_p
 split at h2
 ·simp at h2
 rename_i qs g_qs
 split at h2
 ·simp at h2
 rename_i sch g_sch
 injection h2 with h2
 subst h2
 have hs := k'2q [1, 2, 3] (by decide) (k'7 tb3 l)
 simp only [List.map_cons, List.map_nil, List.sum_cons, List.sum_nil] at hs
 have q0 : (pV a 1 p.1 p.2).length ≤ _ := t_pa hf (mar := a.mar) (ha (d - 1)) g_p
 have q1 := t_ps hf (mar := b.mar) (hb (d - 1)) g_qs
 have q2 := t_txO hf g_sch
 unfold trMar trB
 simp only [List.length_append]
 omega
theorem Rm_tight : Tight rmM.ok rmM.mar := tr_tight (a := rsM) (b := smM) Rs_tight (tr_tight (a := scM) (b := meM) Sc_tight Me_tight)
theorem Bt_tight {s : List UInt8} {x : Bt} (h : okBt s = some x) : x.mar.length ≤ 21 * s.length := by
 obtain ⟨f, u, h1, rfl⟩ := k'j h
 obtain ⟨l, -, h2, -, h4, hd, hf, hw⟩ := k'v h1
 dsimp only at h2 h4 hw
 unfold tellBt at h2
 split at h2
 ·simp at h2
 rename_i rs g_rs
 injection h2 with h2
 subst h2
 have q1 := t_ps hf (mar := rmM.mar) (Rm_tight (32 - 1)) g_rs
 have hs := wt_sel 1 (k'7 tb1 l)
 unfold Bt.mar Bt.hb
 simp only [List.length_append]
 omega
end
section
theorem BatchTwice_law (hB : BOk B) (s : List UInt8) (hs : s.length ≤ 9223372036854775807) :
  k'0 (cx B) 6 [sT s] [] (.d (.bool true)) [] := by
 have hf := firstBt_calls B hB
 refine l_bw Tryz.func6 0 [] ?_
 refine l_cw [] (hf) rfl rfl rfl ?_
 by_cases h1 : s.length > 12000
 ·rw [show decide ((s.length : Int) > 12000) = true from decide_eq_true (by omega)]
  refine Y ?_
  refine k'2 [] (hf) rfl rfl rfl ?_
  exact Z
 rw [show decide ((s.length : Int) > 12000) = false from decide_eq_false (by omega)]
 refine Y ?_
 have b1 : s.length < big := by unfold big; omega
 cases hx : rdBt s with
 | none =>
  obtain ⟨T, x, c1⟩ := Bt_none B hB b1 hx
  have c3 := Bt_Same_calls B noBt noBt noBt.d noBt.d (by unfold big; decide) noBt.d_R noBt.d_R
  rw [Bt.eq_self] at c3
  rw [show noBt.d = .agg [.sl true [], .str []] from rfl] at c1 c3
  refine l_cw [] (c1) rfl rfl rfl ?_
  refine l_cw [] (hf) rfl rfl rfl ?_
  refine k'8 [] (c3) rfl rfl rfl rfl rfl ?_
  exact Z
 | some x =>
  have c1 := Bt_some B hB b1 hx
  obtain ⟨-, hx⟩ := rdBt_some hx
  obtain ⟨hmay, hwf, hsz⟩ := Bt_told hx
  have ht := Bt_tight hx
  have hno : ¬ tooB x.mar := by unfold tooB; omega
  have hbig : x.sz < big := by unfold big; omega
  have c2 := k'4b B x x.d hbig hwf x.d_R
  rw [if_pos hmay, if_neg hno] at c2
  have hml := x.mar_len
  have c3 := Bt_some B hB (s := x.mar) (x := x) (by omega) (by unfold rdBt; rw [if_neg hno]; exact Bt_back hbig hwf hmay)
  have c4 := Bt_May_calls B x x.d hbig x.d_R
  rw [hmay] at c4
  have c5 := Bt_Same_calls B x x x.d x.d hbig x.d_R x.d_R
  rw [Bt.eq_self] at c5
  unfold Bt.d at c1 c2 c3 c4 c5
  refine l_cw [] (c1) rfl rfl rfl ?_
  refine l_cw [] (c2) rfl rfl rfl ?_
  refine l_cw [] (c3) rfl rfl rfl ?_
  refine l_cw [] (c2) rfl rfl rfl ?_
  refine l_cw [] (hf) rfl rfl rfl ?_
  refine k'1m [] (c4) rfl rfl rfl rfl rfl ?_
  refine k'1m [] (c5) rfl rfl rfl rfl rfl ?_
  rw [show (x.mar == x.mar) = true by simp]
  exact k'n rfl
end
section
open Go Go.Abs Go.ChangeShapes Go.WideShapes Go.RowKit
theorem l_own : ownKnob Tryz.prog.godebug = none := by kernel_rfl
theorem l_et : Tryz.prog.globalNamed "errors.errorType" = some 0 := by kernel_rfl
theorem l_rt : (Tryz.prog.cutTypes.find? (·.1 == "internal/reflectlite.rtype")).map (·.2) = some 206 := by kernel_rfl
theorem l_size : Tryz.prog.types.size = 528 := by kernel_rfl
theorem l_oneRow : ((List.range 528).filter fun t => Tryz.prog.rowNamed t [101, 114, 114, 111, 114]) = [30] := by kernel_rfl
theorem l_laidOut : laidOutB Tryz.prog = true := by kernel_rfl
theorem l_handle {W : World} (h : laidMetH Tryz.prog [("errors.errorType", Rows.laid_errors_errorType)] W) : W.cell? ⟨0, 0, none⟩ = some (rty 30) := by
 have h' : laidMet Tryz.prog [] W ∧ handlesMet Tryz.prog [("errors.errorType", Rows.laid_errors_errorType)] W := h
 obtain ⟨name, u, ty, e1, e2, e3, e4, e5⟩ := h'.2 _ (List.mem_singleton.2 rfl)
 have en : name = [101, 114, 114, 111, 114] := (Option.some.inj e1).symm
 subst en
 obtain rfl := Option.some.inj (l_rt.symm.trans e2)
 have hm : ty ∈ (List.range 528).filter fun t => Tryz.prog.rowNamed t [101, 114, 114, 111, 114] := List.mem_filter.2 ⟨List.mem_range.2 (by rw [← l_size]; exact e3), e4⟩
 rw [l_oneRow] at hm
 obtain rfl := List.mem_singleton.1 hm
 have hh : typeHandle Tryz.prog 30 = hnd 30 := by kernel_rfl
 rw [hh] at e5
 simpa using World.var?_cell l_et e5 0
noncomputable def laidWorld (os : Os) : World :=
 let w0 := World.holding Tryz.prog os ⟨#[], #[], []⟩
 { w0 with heap := w0.heap.modify 0 fun
   | .cells _ t frozen => .cells #[rty 30] t frozen
   | o => o }
theorem laidWorld_met (os : Os) (args : Array Value) : laidMetH Tryz.prog [("errors.errorType", Rows.laid_errors_errorType)] ((laidWorld os).forCall (fun _ _ => 0) ⟨#[], args, []⟩).memory :=
 laidMetH_of_parts (laidMet_nil _ _) (by kernel_rfl)
theorem keptBut_of_heap {w w' : World} (ho : w'.os = w.os) (hu : w'.output = w.output) (h : ∀ b, b < w.heap.size → w'.heap[b]? = w.heap[b]?) (may : MemPlace → Prop) : w.keptBut w' may := by
 refine ⟨ho, hu, fun i hi => ?_⟩
 rw [h i hi]
 have := (World.keptBut_refl w may).2.2 i hi
 exact this
section
variable {H : Type} {enc : TypeId × Value → H}
theorem trod_keep {W W' : World} (h : ∀ b, b < W.heap.size → W'.heap[b]? = W.heap[b]?) {t : TypeId} (hr : Tryz.prog.readableRec t = true) (ht : t < Tryz.prog.types.size) {v : Value} {d : DataW H} {p : List MemPlace} (hT : DataW.Trod enc Tryz.prog W 0 (fun _ => true) true t v d p) (sp : Nat → Bool) (hs : ∀ q ∈ p, sp q.block = true) : DataW.Trod enc Tryz.prog W' 0 sp true t v d p := by
 obtain ⟨fuel, hf⟩ := hT
 refine ⟨fuel, DataW.trod_stays (kids_book l_laidOut hr) (book_sized hr) (fun h => by cases h) ⟨ht, book_self t⟩ hf (fun q hq => ?_) hs⟩
 have hl := DataW.trod_lt _ _ _ _ hf q hq
 cases q with
 | cell b off => show W'.cell? ⟨b, off, none⟩ = W.cell? ⟨b, off, none⟩; unfold World.cell?; rw [h b hl]
 | map b => exact h b hl
theorem trodAll_keep {W W' : World} (h : ∀ b, b < W.heap.size → W'.heap[b]? = W.heap[b]?) : ∀ {ts : List TypeId} {vs : List Value} {ds : List (DataW H)} {p : List MemPlace}, (∀ t ∈ ts, Tryz.prog.readableRec t = true ∧ t < Tryz.prog.types.size) → DataW.TrodAll enc Tryz.prog W 0 (fun _ => true) true ts vs ds p → ∀ sp : Nat → Bool, (∀ q ∈ p, sp q.block = true) → DataW.TrodAll enc Tryz.prog W' 0 sp true ts vs ds p
 | [], _, _, _, _, hT, sp, hs => by
  obtain ⟨rfl, rfl, rfl⟩ := trodAll_nil hT
  rfl
 | t :: ts, _, _, _, hr, hT, sp, hs => by
  obtain ⟨v, vs1, d, ds1, a, b, rfl, rfl, rfl, h1, h2⟩ := trodAll_cons hT
  exact ⟨a, b, trod_keep h (hr t (by simp)).1 (hr t (by simp)).2 h1 sp (fun q hq => hs q (by simp [hq])), trodAll_keep h (fun t ht => hr t (by simp [ht])) h2 sp (fun q hq => hs q (by simp [hq])), rfl⟩
theorem post_law {f : Func} {s : ChangeSpec} {apart fresh handsOn again : Bool} {W W' : World} {args : Array Value} {ds gs : List (DataW H)} {before : List MemPlace}
  (hW : DataW.Whole enc Tryz.prog f.params.toList s.vars apart W args.toList ds gs before) (hv : s.vars = []) (hr : f.resultTypes = #[4]) (hs : s.fn H ds = { results := [.lit (.bool true)], args := ds })
  (hread : ∀ t ∈ f.params.toList, Tryz.prog.readableRec t = true ∧ t < Tryz.prog.types.size) (h : ∀ b, b < W.heap.size → W'.heap[b]? = W.heap[b]?) (ho : W'.os = W.os) (hu : W'.output = W.output) :
  s.post enc Tryz.prog f apart fresh handsOn again W args (.bool true) W' := by
 have hW0 := hW
 obtain ⟨p, q, hA, hV, rfl, hfz, hnd⟩ := hW
 rw [hv] at hV
 obtain ⟨rfl, rfl⟩ : gs = [] ∧ q = [] := by
  cases gs with
  | nil => exact ⟨rfl, hV⟩
  | cons g r => exact absurd hV (by intro h; cases h)
 have hlt := hW0.lt
 have hold : ∀ x ∈ p, (fun b => decide (b < W.heap.size)) x.block = true := fun x hx => by simpa using hlt x (by simp [hx])
 have hres : ∀ (b : Nat) (sp : Nat → Bool) (hd : Bool), DataW.TrodAll enc Tryz.prog W' b sp hd f.resultTypes.toList ((Value.bool true).resultList f.resultTypes.size) (s.fn H (ds ++ [])).results [] := by
  intro b sp hd
  rw [List.append_nil, hs, hr]
  exact trodAll_mk1 (shut_bool (by kernel_rfl) true)
 have hargs : ∀ sp : Nat → Bool, (∀ x ∈ p, sp x.block = true) → DataW.TrodAll enc Tryz.prog W' 0 sp true f.params.toList args.toList (s.fn H (ds ++ [])).args p := by
  intro sp hsp
  rw [List.append_nil, hs]
  exact trodAll_keep h hread hA sp hsp
 have hvars : ∀ sp : Nat → Bool, DataW.TrodVars enc Tryz.prog W' sp s.vars (s.fn H (ds ++ [])).vars [] := by
  intro sp
  rw [List.append_nil, hs, hv]; rfl
 refine ⟨ds, [], p ++ [], [], p, [], hW0, hres _ _ _, hargs _ hold, hvars _, World.keptBut_mono (fun x hx => hx) (keptBut_of_heap ho hu h _), fun _ => ?_⟩
 refine ⟨?_, _, _, ([] ++ p) ++ [], ⟨[] ++ p, [], trodAll_append (hargs _ (fun _ _ => rfl)) (hres _ _ _), hvars _, rfl, ?_, ?_⟩, ?_⟩
 ·intro j t r h1 h2
  rw [hr] at h1 h2
  rcases j with _ | j
  ·simp [Value.resultList] at h1 h2
   subst h1; subst h2
   have hb : Tryz.prog.underlying 4 = some .bool := by kernel_rfl
   simp [Value.okWide, hb, Cell.okWide, Cell.ok]
  ·simp at h1
 ·intro b off hp
  have hp' : MemPlace.cell b off ∈ p := by simpa using hp
  have hb := hlt (.cell b off) (by simpa using hp')
  have := hfz b off (by simpa using hp')
  unfold World.frozen? at this ⊢
  rw [h b hb]; exact this
 ·intro ha
  have := hnd ha
  simpa using this
 ·intro x hx _
  simpa using hx
end
noncomputable def BL : Fr := fun b off => if b = 0 ∧ off = 0 then some (rty 30) else none
theorem BL_ok : BOk BL := by unfold BOk BL; simp
theorem law_calls {f : FuncId} {args : List T} {vs : List Value} {W : World} (hg : W.cell? ⟨0, 0, none⟩ = some (rty 30)) (h : k'0 (cx BL) f args [] (.d (.bool true)) [])
  (ha : TRs (fun b off => W.cell? ⟨b, off, none⟩) (fun _ => .free) W (.tmp 0) args vs) : Calls Tryz.prog f vs.toArray W fun e W' => e = .returned (.bool true) ∧ (∀ b, b < W.heap.size → W'.heap[b]? = W.heap[b]?) ∧ W'.os = W.os ∧ W'.output = W.output := by
 have hw : WR (fun b off => W.cell? ⟨b, off, none⟩) (fun _ => .free) W [] := ⟨fun _ _ _ e => e, fun b e => absurd rfl e, fun b i e => by simp at e, fun b c i e => by simp at e⟩
 refine (h.2 _ _ W vs hw ha (fun b t => by simp) (fun b off v e => ?_)).mono fun e W' hp => ?_
 ·show W.cell? ⟨b, off, none⟩ = some v
  have e' : BL b off = some v := e
  unfold BL at e'
  split at e'
  ·rename_i hc
   obtain ⟨rfl, rfl⟩ := hc
   rw [← e']; exact hg
  ·simp at e'
 ·obtain ⟨v, F', ρ', rfl, -, hv, hx, -⟩ := hp
  cases hv with
  | d hv => cases hv; exact ⟨rfl, fun b hb => (hx.free b hb rfl).2.1, hx.os, hx.output⟩
theorem dr_str {F : Fr} (a : ByteArray) : DR F (.str a.data.toList) (.string a) := by
 have := DR.str (F := F) a.data.toList
 simpa using this
theorem ba_len {a : ByteArray} (h : a.size ≤ maxLen) : a.data.toList.length ≤ 9223372036854775807 := by
 have e : a.data.toList.length = a.size := by rw [Array.length_toList]; rfl
 rw [e]
 exact Nat.le_trans h (by show 2 ^ 63 - 1 ≤ 9223372036854775807; omega)
end
section
open Go Go.Abs Go.ChangeShapes Go.WideShapes Go.RowKit
end
