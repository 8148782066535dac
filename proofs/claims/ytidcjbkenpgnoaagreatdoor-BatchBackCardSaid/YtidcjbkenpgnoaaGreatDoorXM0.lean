/- Batches: one that has room is of few bytes. -/
import Derived.Test.YtidcjbkenpgnoaaGreatDoorBV
import Derived.Test.YtidcjbkenpgnoaaGreatDoorRV
import Derived.Test.YtidcjbkenpgnoaaGreatDoorXG3
import Derived.Test.YtidcjbkenpgnoaaGreatDoorRows
import Derived.ChangeSame
import Derived.ChangeVars
import Derived.ChangeStays
import Derived.ChangeMaps5
import Derived.JoinedOf
import Derived.Handed
import Derived.RowKit
import Derived.RowKitTokens
import Derived.LaidLaws
import Derived.LaidHandle
import Derived.Stop.Joined
import Derived.Deep.Strs
import Derived.ChangeSlices
set_option linter.unusedSimpArgs false
set_option linter.unusedVariables false
set_option maxRecDepth 100000
namespace Go.Proofs.YtidcjbkenpgnoaaGreatDoor
open Go Go.Abs
variable (B : Fr)
section
abbrev ml {α : Type} (mar : α → List UInt8) (y : α) : Nat := (mar y).length + 20
theorem ps_ml {α : Type} (mar : α → List UInt8) (n : Nat) (l : List α) : (psV n (l.map mar)).length ≤ (l.map (ml mar)).sum := k'40 n l fun y _ => Nat.le_refl _
theorem roomEm_T : RoomP roomEm (ml Em.mar) 6 := fun x room h => by
 have q0 := k'10 2 x.time
 have q1 := k'25 3 (x.kind == 1) x.n
 have q2 := k'2b 4 x.span
 have q3 := k'2b 5 x.trace
 have q4 := k'25 6 (x.kind == 2) x.n
 have q5 := Kv.marsP_len 7 x.attrs
 unfold roomEm ml Em.mar Em.hb
 simp only [List.length_append]
 obtain ⟨a0, b0⟩ := k'7 (n := x.span.length) h
 obtain ⟨a1, b1⟩ := k'7 (n := x.trace.length) a0
 obtain ⟨a2, b2⟩ := k'7 (n := x.u.length) a1
 obtain ⟨a3, b3⟩ := k'1d x.attrs 40 _ a2
 refine ⟨a3, fun hh => ?_⟩
 have d3 := b3 hh
 have d2 := b2 (by omega)
 have d1 := b1 (by omega)
 have d0 := b0 (by omega)
 refine ⟨fun h7 => ?_, by omega⟩
 push_cast
 omega
theorem roomL_Em : ∀ (l : List Em) (room : Int), k'2h l room = k'2y roomEm l room
 | [], room => rfl
 | x :: l, room => by unfold k'2h k'2y; rw [roomL_Em l]
theorem roomNb_T : RoomP roomNb (ml Nb.mar) 6 := fun x room h => by
 have q0 := k'10 2 x.start
 have q1 := k'10 3 x.time
 have q2 := k'25 4 (x.kind == 1) x.n
 have q3 := ps_ml Em.mar 5 x.exs
 have q4 := k'25 6 (x.kind == 2) x.n
 have q5 := Kv.marsP_len 7 x.attrs
 have q6 := k'2a 8 x.flags
 unfold roomNb ml Nb.mar Nb.hb
 rw [roomL_Em]
 simp only [List.length_append]
 obtain ⟨a0, b0⟩ := k'7 (n := x.u.length) h
 obtain ⟨a1, b1⟩ := k'1d x.attrs 40 _ a0
 obtain ⟨a2, b2⟩ := roomEm_T.list x.exs _ a1
 refine ⟨a2, fun hh => ?_⟩
 have d2 := b2 hh
 have d1 := b1 (by omega)
 have d0 := b0 (by omega)
 refine ⟨fun h7 => ?_, by omega⟩
 have e2 := d2.1 (by omega)
 push_cast
 omega
theorem roomHi_T : RoomP roomHi (ml Hi.mar) 6 := fun x room h => by
 have q0 := k'10 2 x.start
 have q1 := k'10 3 x.time
 have q2 := k'10 4 x.count
 have q3 := k'25 5 x.sumH x.sum
 have q4 := pwV_len 6 x.counts
 have q5 := pwV_len 7 x.bounds
 have q6 := ps_ml Em.mar 8 x.exs
 have q7 := Kv.marsP_len 9 x.attrs
 have q8 := k'2a 10 x.flags
 have q9 := k'25 11 x.minH x.min
 have q10 := k'25 12 x.maxH x.max
 unfold roomHi ml Hi.mar Hi.hb
 rw [roomL_Em]
 simp only [List.length_append]
 obtain ⟨a0, b0⟩ := k'7 (n := x.u.length) h
 obtain ⟨a1, b1⟩ := k'7 (n := 8 * min x.counts.length 100000) a0
 obtain ⟨a2, b2⟩ := k'7 (n := 8 * min x.bounds.length 100000) a1
 obtain ⟨a3, b3⟩ := k'1d x.attrs 40 _ a2
 obtain ⟨a4, b4⟩ := roomEm_T.list x.exs _ a3
 refine ⟨a4, fun hh => ?_⟩
 have d4 := b4 hh
 have d3 := b3 (by omega)
 have d2 := b2 (by omega)
 have d1 := b1 (by omega)
 have d0 := b0 (by omega)
 refine ⟨fun h7 => ?_, by omega⟩
 have e4 := d4.1 (by omega)
 push_cast
 omega
theorem roomB_T (b : Bk) {room : Int} (h : -1 ≤ room) : -1 ≤ roomB b.cs b.u room ∧ (0 ≤ roomB b.cs b.u room → (room ≤ 700000 → (b.sz : Int) + 100 ≤ 6 * (room - roomB b.cs b.u room)) ∧ roomB b.cs b.u room + 40 ≤ room) := by
 unfold roomB Bk.sz
 obtain ⟨a0, b0⟩ := k'7 (n := b.u.length) h
 obtain ⟨a1, b1⟩ := k'7 (n := 8 * (if 100000 < b.cs.length then 100000 else b.cs.length)) a0
 refine ⟨a1, fun hh => ?_⟩
 have d1 := b1 hh
 have d0 := b0 (by omega)
 generalize k'h (k'h room b.u.length) (8 * (if 100000 < b.cs.length then 100000 else b.cs.length)) = r at *
 generalize k'h room b.u.length = q at *
 split at d1 <;> omega
theorem roomEh_T : RoomP roomEh (ml Eh.mar) 6 := fun x room h => by
 have q0 := Kv.marsP_len 1 x.attrs
 have q1 := k'10 2 x.start
 have q2 := k'10 3 x.time
 have q3 := k'10 4 x.count
 have q4 := k'25 5 x.sumH x.sum
 have q5 := k'2a 6 (k'2v x.scale)
 have q6 := k'10 7 x.zero
 have q7 := sdV_len 8 x.posH x.pos
 have q8 := sdV_len 9 x.negH x.neg
 have q9 := k'2a 10 x.flags
 have q10 := ps_ml Em.mar 11 x.exs
 have q11 := k'25 12 x.minH x.min
 have q12 := k'25 13 x.maxH x.max
 have q13 := k'10 14 x.thr
 unfold roomEh ml Eh.mar Eh.hb
 rw [roomL_Em]
 simp only [List.length_append]
 obtain ⟨a0, b0⟩ := k'7 (n := x.u.length) h
 obtain ⟨a1, b1⟩ := roomB_T x.neg a0
 obtain ⟨a2, b2⟩ := roomB_T x.pos a1
 obtain ⟨a3, b3⟩ := k'1d x.attrs 40 _ a2
 obtain ⟨a4, b4⟩ := roomEm_T.list x.exs _ a3
 refine ⟨a4, fun hh => ?_⟩
 have d4 := b4 hh
 have d3 := b3 (by omega)
 have d2 := b2 (by omega)
 have d1 := b1 (by omega)
 have d0 := b0 (by omega)
 refine ⟨fun h7 => ?_, by omega⟩
 have e1 := d1.1 (by omega)
 have e2 := d2.1 (by omega)
 have e4 := d4.1 (by omega)
 push_cast
 omega
theorem roomQu_T : RoomP roomQu (ml Qu.mar) 6 := fun x room h => by
 have q0 := k'10 1 x.q
 have q1 := k'10 2 x.v
 unfold roomQu ml Qu.mar Qu.hb
 simp only [List.length_append]
 obtain ⟨a0, b0⟩ := k'7 (n := x.u.length) h
 refine ⟨a0, fun hh => ?_⟩
 have d0 := b0 hh
 refine ⟨fun h7 => ?_, by omega⟩
 push_cast
 omega
theorem roomL_Qu : ∀ (l : List Qu) (room : Int), k'2o l room = k'2y roomQu l room
 | [], room => rfl
 | x :: l, room => by unfold k'2o k'2y; rw [roomL_Qu l]
theorem roomSu_T : RoomP roomSu (ml Su.mar) 6 := fun x room h => by
 have q0 := k'10 2 x.start
 have q1 := k'10 3 x.time
 have q2 := k'10 4 x.count
 have q3 := k'10 5 x.sum
 have q4 := ps_ml Qu.mar 6 x.qs
 have q5 := Kv.marsP_len 7 x.attrs
 have q6 := k'2a 8 x.flags
 unfold roomSu ml Su.mar Su.hb
 rw [roomL_Qu]
 simp only [List.length_append]
 obtain ⟨a0, b0⟩ := k'7 (n := x.u.length) h
 obtain ⟨a1, b1⟩ := roomQu_T.list x.qs _ a0
 obtain ⟨a2, b2⟩ := k'1d x.attrs 40 _ a1
 refine ⟨a2, fun hh => ?_⟩
 have d2 := b2 hh
 have d1 := b1 (by omega)
 have d0 := b0 (by omega)
 refine ⟨fun h7 => ?_, by omega⟩
 have e1 := d1.1 (by omega)
 push_cast
 omega
theorem onV_ml (k : Int) (x : In) : (onV k x).length ≤ 140 + (x.nbs.map (ml Nb.mar)).sum + (x.his.map (ml Hi.mar)).sum + (x.ehs.map (ml Eh.mar)).sum + (x.sus.map (ml Su.mar)).sum + x.u.length := by
 have q0 := ps_ml Nb.mar 1 x.nbs
 have q1 := ps_ml Hi.mar 1 x.his
 have q2 := ps_ml Eh.mar 1 x.ehs
 have q3 := ps_ml Su.mar 1 x.sus
 have q4 := k'2a 2 (k'53 x.temp)
 have q5 := flV_len 3 x.mono
 have e : x.mar.length = (psV 1 (x.nbs.map Nb.mar)).length + (psV 1 (x.his.map Hi.mar)).length + (psV 1 (x.ehs.map Eh.mar)).length + (psV 1 (x.sus.map Su.mar)).length + (vrV 2 (k'53 x.temp)).length + (flV 3 x.mono).length + x.u.length := by unfold In.mar In.hb; simp only [List.length_append]
 unfold onV
 split
 ·have := k'3c (numK k) x.mar; omega
 ·simp
theorem roomL_Nb : ∀ (l : List Nb) (room : Int), k'2p l room = k'2y roomNb l room
 | [], room => rfl
 | x :: l, room => by unfold k'2p k'2y; rw [roomL_Nb l]
theorem roomL_Hi : ∀ (l : List Hi) (room : Int), k'2q l room = k'2y roomHi l room
 | [], room => rfl
 | x :: l, room => by unfold k'2q k'2y; rw [roomL_Hi l]
theorem roomL_Eh : ∀ (l : List Eh) (room : Int), k'2r l room = k'2y roomEh l room
 | [], room => rfl
 | x :: l, room => by unfold k'2r k'2y; rw [roomL_Eh l]
theorem roomL_Su : ∀ (l : List Su) (room : Int), k'2n l room = k'2y roomSu l room
 | [], room => rfl
 | x :: l, room => by unfold k'2n k'2y; rw [roomL_Su l]
theorem roomMe_T : RoomP k'4f (ml Me.mar) 6 := fun x room h => by
 have q0 := k'2b 1 x.name
 have q1 := k'2b 2 x.desc
 have q2 := k'2b 3 x.unit
 have q3 := onV_ml x.kind x.dat
 have q4 := Kv.marsP_len 12 x.mets
 unfold k'4f ml Me.mar Me.hb
 rw [roomL_Su, roomL_Eh, roomL_Hi, roomL_Nb]
 simp only [List.length_append]
 obtain ⟨a0, b0⟩ := k'7 (n := x.name.length) h
 obtain ⟨a1, b1⟩ := k'7 (n := x.desc.length) a0
 obtain ⟨a2, b2⟩ := k'7 (n := x.unit.length) a1
 obtain ⟨a3, b3⟩ := k'7 (n := x.dat.u.length) a2
 obtain ⟨a4, b4⟩ := k'7 (n := x.u.length) a3
 obtain ⟨a5, b5⟩ := k'1d x.mets 40 _ a4
 obtain ⟨a6, b6⟩ := roomNb_T.list x.dat.nbs _ a5
 obtain ⟨a7, b7⟩ := roomHi_T.list x.dat.his _ a6
 obtain ⟨a8, b8⟩ := roomEh_T.list x.dat.ehs _ a7
 obtain ⟨a9, b9⟩ := roomSu_T.list x.dat.sus _ a8
 refine ⟨a9, fun hh => ?_⟩
 have d9 := b9 hh
 have d8 := b8 (by omega)
 have d7 := b7 (by omega)
 have d6 := b6 (by omega)
 have d5 := b5 (by omega)
 have d4 := b4 (by omega)
 have d3 := b3 (by omega)
 have d2 := b2 (by omega)
 have d1 := b1 (by omega)
 have d0 := b0 (by omega)
 refine ⟨fun h7 => ?_, by omega⟩
 have e6 := d6.1 (by omega)
 have e7 := d7.1 (by omega)
 have e8 := d8.1 (by omega)
 have e9 := d9.1 (by omega)
 push_cast
 omega
theorem roomSc_T : RoomP roomSc (ml Sc.mar) 6 := fun x room h => by
 have q0 := k'2b 1 x.name
 have q1 := k'2b 2 x.version
 have q2 := Kv.marsP_len 3 x.attrs
 have q3 := k'2a 4 x.dropped
 unfold roomSc ml Sc.mar Sc.hb
 simp only [List.length_append]
 obtain ⟨a0, b0⟩ := k'7 (n := x.name.length) h
 obtain ⟨a1, b1⟩ := k'7 (n := x.version.length) a0
 obtain ⟨a2, b2⟩ := k'7 (n := x.u.length) a1
 obtain ⟨a3, b3⟩ := k'1d x.attrs 40 _ a2
 refine ⟨a3, fun hh => ?_⟩
 have d3 := b3 hh
 have d2 := b2 (by omega)
 have d1 := b1 (by omega)
 have d0 := b0 (by omega)
 refine ⟨fun h7 => ?_, by omega⟩
 push_cast
 omega
theorem roomRs_T : RoomP roomRs (ml Rs.mar) 6 := fun x room h => by
 have q0 := Kv.marsP_len 1 x.attrs
 have q1 := k'2a 2 x.dropped
 unfold roomRs ml Rs.mar Rs.hb
 simp only [List.length_append]
 obtain ⟨a0, b0⟩ := k'7 (n := x.u.length) h
 obtain ⟨a1, b1⟩ := k'1d x.attrs 40 _ a0
 refine ⟨a1, fun hh => ?_⟩
 have d1 := b1 hh
 have d0 := b0 (by omega)
 refine ⟨fun h7 => ?_, by omega⟩
 push_cast
 omega
theorem trT {P Q : Type} (a : Ms P) (b : Ms Q) {f : P → Int → Int} {g : Q → Int → Int} (hf : RoomP f (ml a.mar) 6) (hg : RoomP g (ml b.mar) 6) : RoomP (fun (x : Tr P Q) room => k'2y g x.qs (f x.p (k'h (k'h room x.sch.length) x.u.length))) (ml (trMar a b)) 6 := fun x room h => by
 have q0 : (pV a 1 x.has x.p).length ≤ 20 + (a.mar x.p).length := by
  unfold pV
  split
  ·exact k'3c 1 _
  ·simp
 have q1 := ps_ml b.mar 2 x.qs
 have q2 := k'2b 3 x.sch
 have hm : ml (trMar a b) x ≤ 80 + (a.mar x.p).length + (x.qs.map (ml b.mar)).sum + x.sch.length + x.u.length := by
  show (trMar a b x).length + 20 ≤ _
  unfold trMar trB
  rw [List.length_append, List.length_append, List.length_append]
  omega
 obtain ⟨a0, b0⟩ := k'7 (n := x.sch.length) h
 obtain ⟨a1, b1⟩ := k'7 (n := x.u.length) a0
 obtain ⟨a2, b2⟩ := hf x.p _ a1
 obtain ⟨a3, b3⟩ := hg.list x.qs _ a2
 show -1 ≤ k'2y g x.qs (f x.p (k'h (k'h room x.sch.length) x.u.length)) ∧ (0 ≤ k'2y g x.qs (f x.p (k'h (k'h room x.sch.length) x.u.length)) → (room ≤ 700000 → ((ml (trMar a b) x : Nat) : Int) ≤ 6 * (room - k'2y g x.qs (f x.p (k'h (k'h room x.sch.length) x.u.length)))) ∧ k'2y g x.qs (f x.p (k'h (k'h room x.sch.length) x.u.length)) + 20 ≤ room)
 generalize ml (trMar a b) x = M at *
 generalize (x.qs.map (ml b.mar)).sum = S at *
 refine ⟨a3, fun hh => ?_⟩
 have d3 := b3 hh
 have d2 := b2 (by omega)
 have d1 := b1 (by omega)
 have d0 := b0 (by omega)
 refine ⟨fun h7 => ?_, by omega⟩
 have e3 := d3.1 (by omega)
 have e2 : (((a.mar x.p).length + 20 : Nat) : Int) ≤ _ := d2.1 (by omega)
 omega
theorem roomSm_T : RoomP roomSm (ml smM.mar) 6 := trT scM meM roomSc_T roomMe_T
theorem roomRm_T : RoomP roomRm (ml rmM.mar) 6 := trT rsM smM roomRs_T roomSm_T
theorem roomBt_T (x : Bt) (h : 0 ≤ roomBt x 20000) : ¬ tooB x.mar := by
 unfold roomBt at h
 have q := ps_ml rmM.mar 1 x.rs
 obtain ⟨a0, b0⟩ := k'7 (n := x.u.length) (show -1 ≤ (20000 : Int) by omega)
 obtain ⟨a1, b1⟩ := roomRm_T.list x.rs _ a0
 have d1 := b1 h
 have d0 := b0 (by omega)
 have e1 := d1.1 (by omega)
 unfold tooB Bt.mar Bt.hb
 rw [List.length_append]
 omega
end
section
theorem part_Rp_calls : partP B 117 Rp.d := k'2s B Tryz.func117
theorem Part_Rp : PartC B 69 Rp.d (noRp) := Part_mk B Tryz.func69 (part_Rp_calls B)
def Sx.up (p : Sx) : Rp := ⟨false, p, []⟩
theorem okSx_rd (s : List UInt8) (d : Int) : okSx s d = (match k'd s d, k'1x 2 (knB tbAns s d) with
 | none, some m => some ⟨i64N (k'6 (knB tbAns s d) 1).n, m, unB tbAns s d⟩
 | _, _ => none) := by
 unfold okSx
 rw [k'4a]
 cases k'd s d with
 | some e => rfl
 | none =>
  unfold tellSx
  simp only
  cases k'1x 2 (knB tbAns s d) <;> rfl
theorem Sx_read (hB : BOk B) (s : List UInt8) (d : Int) (hl : s.length < big) (hd1 : -9223372036854775808 ≤ d) (hd2 : d < 9223372036854775808) : RdAt B 70 [] Rp.d Sx.up (okSx s d) s d := by
 have h1 := k'o B hB 55 tbAns (tbAns_calls B) s d hl hd1 hd2
 have hk : LOk (knB tbAns s d) := k'e tbAns s d hl
 have hm := k'1p hk
 obtain ⟨vs_t, e2, c_t, t2, -⟩ := k'1t B hB (k'd s d) (unB tbAns s d) d s.length (knB tbAns s d) 2 hk
 have hein : ∀ x, e2 = some x → EIn s.length x := t2.ein (fun x hx => k'n hx)
 have main : k'0 (cx B) 70 [sT s, .d (.int .i64 d)] [] (.tup [.d (Rp.d (Sx.up ⟨i64N (k'6 (knB tbAns s d) 1).n, vs_t, unB tbAns s d⟩)), .d (eD e2)]) [] := by
  unfold Rp.d Sx.up i64N
  clear hein t2
  refine l_bw Tryz.func70 0 [] ?_
  refine l_cw [] (h1) rfl rfl rfl ?_
  refine l_cw [1] (k'9 B (k'd s d) (unB tbAns s d) d s.length (knB tbAns s d) 1 hm) rfl rfl rfl ?_
  refine k'1 [1] (c_t) rfl rfl rfl ?_
  exact Z
 rw [okSx_rd]
 unfold RdAt
 cases e2 with
 | none =>
  obtain ⟨k0, a1, g1, v1⟩ := t2.ok
  rw [k0, g1]
  subst v1
  exact main
 | some er =>
  have hno : (match k'd s d, k'1x 2 (knB tbAns s d) with
   | none, some m => some (⟨i64N (k'6 (knB tbAns s d) 1).n, m, unB tbAns s d⟩ : Sx)
   | _, _ => none) = none := by
   cases hr : k'd s d with
   | some x => rfl
   | none =>
    rw [hr] at t2
    cases h1 : k'1x 2 (knB tbAns s d) with
    | none => rfl
    | some a1 =>
     rw [h1] at t2
     have := t2.get.2
     simp at this
  rw [hno]
  exact ⟨_, er, hein er rfl, main⟩
theorem okRp_rd (s : List UInt8) : okRp s = (match k'd s 32, k'3p (fun s => okSx s (32 - 1)) noSx 1 (knB tb1 s 32) with
 | none, some p => some ⟨p.1, p.2, unB tb1 s 32⟩
 | _, _ => none) := by
 unfold okRp
 rw [k'4a]
 cases k'd s 32 with
 | some e => rfl
 | none =>
  unfold tellRp
  simp only
  cases k'3p (fun s => okSx s (32 - 1)) noSx 1 (knB tb1 s 32) <;> rfl
theorem Rp_read (hB : BOk B) (s : List UInt8) (hl : s.length < big) :
  match rdRp s with
  | some x => k'0 (cx B) 28 [sT s] [] (.tup [.d x.d, .d .nili]) []
  | none => ∃ e : Er, (if tooB s then e = .loc 262144 (.code 7) else EIn s.length e) ∧ k'0 (cx B) 28 [sT s] [] (.tup [.d noRp.d, .d e.d]) [] := by
 have cb := k'51 B s
 by_cases ht : tooB s
 ·rw [show rdRp s = none from if_pos ht]
  rw [if_pos ht] at cb
  refine ⟨.loc 262144 (.code 7), by rw [if_pos ht], ?_⟩
  have ca := At_calls B 262144 (some (.code 7))
  refine l_bw Tryz.func28 0 [] ?_
  refine l_cw [] (cb) rfl rfl rfl ?_
  refine k'1 [] (ca) rfl rfl rfl ?_
  exact Z
 rw [show rdRp s = okRp s from if_neg ht]
 rw [if_neg ht] at cb
 have h1 := k'o B hB 50 tb1 (tb1_calls B) s 32 hl (by omega) (by omega)
 have hk : LOk (knB tb1 s 32) := k'e tb1 s 32 hl
 have hm := k'1p hk
 obtain ⟨⟨ph, pr⟩, e1, c_p, t1⟩ := (Part_Rp B).tells B hB (fun s => okSx s (32 - 1)) Sx.up noSx rfl 70 [] (k'd s 32) (unB tb1 s 32) 32 s.length (knB tb1 s 32) 1 hk (fun h => by omega) (by omega) (fun h => Sx_read B hB _ (32 - 1) (k'50 hk 1) (by omega) (by omega))
 have hein : ∀ x, e1 = some x → EIn s.length x := t1.ein (fun x hx => k'n hx)
 have main : k'0 (cx B) 28 [sT s] [] (.tup [.d (orD e1 (Rp.d ⟨ph, pr.p, unB tb1 s 32⟩) noRp.d), .d (eD e1)]) [] := by
  clear hein t1
  obtain ⟨prh, prp, pru⟩ := pr
  unfold Rp.d at c_p ⊢
  refine l_bw Tryz.func28 0 [] ?_
  refine l_cw [] (cb) rfl rfl rfl ?_
  refine l_cw [] (h1) rfl rfl rfl ?_
  refine l_cw [1] (c_p) rfl rfl rfl ?_
  cases e1 with
  | none =>
   exact Z
  | some er =>
   cases er <;> (
   exact Z)
 rw [okRp_rd]
 cases e1 with
 | none =>
  obtain ⟨k0, a1, g1, v1⟩ := t1.ok
  rw [k0, g1]
  obtain ⟨q1, q2⟩ := Prod.mk.inj v1
  subst q1
  subst q2
  exact main
 | some er =>
  have hno : (match k'd s 32, k'3p (fun s => okSx s (32 - 1)) noSx 1 (knB tb1 s 32) with
   | none, some p => some (⟨p.1, p.2, unB tb1 s 32⟩ : Rp)
   | _, _ => none) = none := by
   cases hr : k'd s 32 with
   | some x => rfl
   | none =>
    rw [hr] at t1
    cases h1 : k'3p (fun s => okSx s (32 - 1)) noSx 1 (knB tb1 s 32) with
    | none => rfl
    | some a1 =>
     rw [h1] at t1
     have := t1.get.2
     simp at this
  rw [hno]
  exact ⟨er, by rw [if_neg ht]; exact hein er rfl, main⟩
theorem Rp_some (hB : BOk B) {s : List UInt8} {x : Rp} (hl : s.length < big) (h : rdRp s = some x) : k'0 (cx B) 28 [sT s] [] (.tup [.d x.d, .d .nili]) [] := by
 have := Rp_read B hB s hl
 rw [h] at this; exact this
theorem Rp_noneE (hB : BOk B) {s : List UInt8} (hl : s.length < big) (h : rdRp s = none) : ∃ e : Er, (if tooB s then e = .loc 262144 (.code 7) else EIn s.length e) ∧ k'0 (cx B) 28 [sT s] [] (.tup [.d noRp.d, .d e.d]) [] := by
 have := Rp_read B hB s hl
 rw [h] at this; exact this
theorem Rp_any (hB : BOk B) {s : List UInt8} (hl : s.length < big) : ∃ (b : Rp) (y : D), k'0 (cx B) 28 [sT s] [] (.tup [.d b.d, .d y]) [] := by
 cases h : rdRp s with
 | some b => exact ⟨_, _, Rp_some B hB hl h⟩
 | none => obtain ⟨e, -, h⟩ := Rp_noneE B hB hl h; exact ⟨_, _, h⟩
theorem refRp_calls (x y : Rp) : k'0 (cx B) 32 [.d x.d, .d y.d] [] (.d (.bool (x.eq y))) [] := by
 unfold Rp.d Rp.eq
 refine l_bw Tryz.func32 0 [] ?_
 cases e0 : (x.has == y.has)
 ·exact Z
 refine Y ?_
 cases e1 : (x.p.rej == y.p.rej)
 ·exact Z
 refine Y ?_
 cases e2 : (x.p.msg == y.p.msg)
 ·exact Z
 refine Y ?_
 cases e3 : (x.p.u == y.p.u)
 ·exact Z
 exact Z
end
section
open Go Go.Abs Go.ChangeShapes Go.WideShapes Go.RowKit
theorem l_own : ownKnob Tryz.prog.godebug = none := by kernel_rfl
theorem l_et : Tryz.prog.globalNamed "errors.errorType" = some 0 := by kernel_rfl
theorem l_rt : (Tryz.prog.cutTypes.find? (·.1 == "internal/reflectlite.rtype")).map (·.2) = some 206 := by kernel_rfl
theorem l_size : Tryz.prog.types.size = 528 := by kernel_rfl
theorem l_oneRow : ((List.range 528).filter fun t => Tryz.prog.rowNamed t [101, 114, 114, 111, 114]) = [30] := by kernel_rfl
theorem l_laidOut : laidOutB Tryz.prog = true := by kernel_rfl
theorem l_handle {W : World} (h : laidMetH Tryz.prog [("errors.errorType", Rows.laid_errors_errorType)] W) : W.cell? ⟨0, 0, none⟩ = some (rty 30) := by
 have h' : laidMet Tryz.prog [] W ∧ handlesMet Tryz.prog [("errors.errorType", Rows.laid_errors_errorType)] W := h
 obtain ⟨name, u, ty, e1, e2, e3, e4, e5⟩ := h'.2 _ (List.mem_singleton.2 rfl)
 have en : name = [101, 114, 114, 111, 114] := (Option.some.inj e1).symm
 subst en
 obtain rfl := Option.some.inj (l_rt.symm.trans e2)
 have hm : ty ∈ (List.range 528).filter fun t => Tryz.prog.rowNamed t [101, 114, 114, 111, 114] := List.mem_filter.2 ⟨List.mem_range.2 (by rw [← l_size]; exact e3), e4⟩
 rw [l_oneRow] at hm
 obtain rfl := List.mem_singleton.1 hm
 have hh : typeHandle Tryz.prog 30 = hnd 30 := by kernel_rfl
 rw [hh] at e5
 simpa using World.var?_cell l_et e5 0
noncomputable def laidWorld (os : Os) : World :=
 let w0 := World.holding Tryz.prog os ⟨#[], #[], []⟩
 { w0 with heap := w0.heap.modify 0 fun
   | .cells _ t frozen => .cells #[rty 30] t frozen
   | o => o }
theorem laidWorld_met (os : Os) (args : Array Value) : laidMetH Tryz.prog [("errors.errorType", Rows.laid_errors_errorType)] ((laidWorld os).forCall (fun _ _ => 0) ⟨#[], args, []⟩).memory :=
 laidMetH_of_parts (laidMet_nil _ _) (by kernel_rfl)
theorem keptBut_of_heap {w w' : World} (ho : w'.os = w.os) (hu : w'.output = w.output) (h : ∀ b, b < w.heap.size → w'.heap[b]? = w.heap[b]?) (may : MemPlace → Prop) : w.keptBut w' may := by
 refine ⟨ho, hu, fun i hi => ?_⟩
 rw [h i hi]
 have := (World.keptBut_refl w may).2.2 i hi
 exact this
section
variable {H : Type} {enc : TypeId × Value → H}
theorem trod_keep {W W' : World} (h : ∀ b, b < W.heap.size → W'.heap[b]? = W.heap[b]?) {t : TypeId} (hr : Tryz.prog.readableRec t = true) (ht : t < Tryz.prog.types.size) {v : Value} {d : DataW H} {p : List MemPlace} (hT : DataW.Trod enc Tryz.prog W 0 (fun _ => true) true t v d p) (sp : Nat → Bool) (hs : ∀ q ∈ p, sp q.block = true) : DataW.Trod enc Tryz.prog W' 0 sp true t v d p := by
 obtain ⟨fuel, hf⟩ := hT
 refine ⟨fuel, DataW.trod_stays (kids_book l_laidOut hr) (book_sized hr) (fun h => by cases h) ⟨ht, book_self t⟩ hf (fun q hq => ?_) hs⟩
 have hl := DataW.trod_lt _ _ _ _ hf q hq
 cases q with
 | cell b off => show W'.cell? ⟨b, off, none⟩ = W.cell? ⟨b, off, none⟩; unfold World.cell?; rw [h b hl]
 | map b => exact h b hl
theorem trodAll_keep {W W' : World} (h : ∀ b, b < W.heap.size → W'.heap[b]? = W.heap[b]?) : ∀ {ts : List TypeId} {vs : List Value} {ds : List (DataW H)} {p : List MemPlace}, (∀ t ∈ ts, Tryz.prog.readableRec t = true ∧ t < Tryz.prog.types.size) → DataW.TrodAll enc Tryz.prog W 0 (fun _ => true) true ts vs ds p → ∀ sp : Nat → Bool, (∀ q ∈ p, sp q.block = true) → DataW.TrodAll enc Tryz.prog W' 0 sp true ts vs ds p
 | [], _, _, _, _, hT, sp, hs => by
  obtain ⟨rfl, rfl, rfl⟩ := trodAll_nil hT
  rfl
 | t :: ts, _, _, _, hr, hT, sp, hs => by
  obtain ⟨v, vs1, d, ds1, a, b, rfl, rfl, rfl, h1, h2⟩ := trodAll_cons hT
  exact ⟨a, b, trod_keep h (hr t (by simp)).1 (hr t (by simp)).2 h1 sp (fun q hq => hs q (by simp [hq])), trodAll_keep h (fun t ht => hr t (by simp [ht])) h2 sp (fun q hq => hs q (by simp [hq])), rfl⟩
theorem post_law {f : Func} {s : ChangeSpec} {apart fresh handsOn again : Bool} {W W' : World} {args : Array Value} {ds gs : List (DataW H)} {before : List MemPlace}
  (hW : DataW.Whole enc Tryz.prog f.params.toList s.vars apart W args.toList ds gs before) (hv : s.vars = []) (hr : f.resultTypes = #[4]) (hs : s.fn H ds = { results := [.lit (.bool true)], args := ds })
  (hread : ∀ t ∈ f.params.toList, Tryz.prog.readableRec t = true ∧ t < Tryz.prog.types.size) (h : ∀ b, b < W.heap.size → W'.heap[b]? = W.heap[b]?) (ho : W'.os = W.os) (hu : W'.output = W.output) :
  s.post enc Tryz.prog f apart fresh handsOn again W args (.bool true) W' := by
 have hW0 := hW
 obtain ⟨p, q, hA, hV, rfl, hfz, hnd⟩ := hW
 rw [hv] at hV
 obtain ⟨rfl, rfl⟩ : gs = [] ∧ q = [] := by
  cases gs with
  | nil => exact ⟨rfl, hV⟩
  | cons g r => exact absurd hV (by intro h; cases h)
 have hlt := hW0.lt
 have hold : ∀ x ∈ p, (fun b => decide (b < W.heap.size)) x.block = true := fun x hx => by simpa using hlt x (by simp [hx])
 have hres : ∀ (b : Nat) (sp : Nat → Bool) (hd : Bool), DataW.TrodAll enc Tryz.prog W' b sp hd f.resultTypes.toList ((Value.bool true).resultList f.resultTypes.size) (s.fn H (ds ++ [])).results [] := by
  intro b sp hd
  rw [List.append_nil, hs, hr]
  exact trodAll_mk1 (shut_bool (by kernel_rfl) true)
 have hargs : ∀ sp : Nat → Bool, (∀ x ∈ p, sp x.block = true) → DataW.TrodAll enc Tryz.prog W' 0 sp true f.params.toList args.toList (s.fn H (ds ++ [])).args p := by
  intro sp hsp
  rw [List.append_nil, hs]
  exact trodAll_keep h hread hA sp hsp
 have hvars : ∀ sp : Nat → Bool, DataW.TrodVars enc Tryz.prog W' sp s.vars (s.fn H (ds ++ [])).vars [] := by
  intro sp
  rw [List.append_nil, hs, hv]; rfl
 refine ⟨ds, [], p ++ [], [], p, [], hW0, hres _ _ _, hargs _ hold, hvars _, World.keptBut_mono (fun x hx => hx) (keptBut_of_heap ho hu h _), fun _ => ?_⟩
 refine ⟨?_, _, _, ([] ++ p) ++ [], ⟨[] ++ p, [], trodAll_append (hargs _ (fun _ _ => rfl)) (hres _ _ _), hvars _, rfl, ?_, ?_⟩, ?_⟩
 ·intro j t r h1 h2
  rw [hr] at h1 h2
  rcases j with _ | j
  ·simp [Value.resultList] at h1 h2
   subst h1; subst h2
   have hb : Tryz.prog.underlying 4 = some .bool := by kernel_rfl
   simp [Value.okWide, hb, Cell.okWide, Cell.ok]
  ·simp at h1
 ·intro b off hp
  have hp' : MemPlace.cell b off ∈ p := by simpa using hp
  have hb := hlt (.cell b off) (by simpa using hp')
  have := hfz b off (by simpa using hp')
  unfold World.frozen? at this ⊢
  rw [h b hb]; exact this
 ·intro ha
  have := hnd ha
  simpa using this
 ·intro x hx _
  simpa using hx
end
noncomputable def BL : Fr := fun b off => if b = 0 ∧ off = 0 then some (rty 30) else none
theorem BL_ok : BOk BL := by unfold BOk BL; simp
theorem law_calls {f : FuncId} {args : List T} {vs : List Value} {W : World} (hg : W.cell? ⟨0, 0, none⟩ = some (rty 30)) (h : k'0 (cx BL) f args [] (.d (.bool true)) [])
  (ha : TRs (fun b off => W.cell? ⟨b, off, none⟩) (fun _ => .free) W (.tmp 0) args vs) : Calls Tryz.prog f vs.toArray W fun e W' => e = .returned (.bool true) ∧ (∀ b, b < W.heap.size → W'.heap[b]? = W.heap[b]?) ∧ W'.os = W.os ∧ W'.output = W.output := by
 have hw : WR (fun b off => W.cell? ⟨b, off, none⟩) (fun _ => .free) W [] := ⟨fun _ _ _ e => e, fun b e => absurd rfl e, fun b i e => by simp at e, fun b c i e => by simp at e⟩
 refine (h.2 _ _ W vs hw ha (fun b t => by simp) (fun b off v e => ?_)).mono fun e W' hp => ?_
 ·show W.cell? ⟨b, off, none⟩ = some v
  have e' : BL b off = some v := e
  unfold BL at e'
  split at e'
  ·rename_i hc
   obtain ⟨rfl, rfl⟩ := hc
   rw [← e']; exact hg
  ·simp at e'
 ·obtain ⟨v, F', ρ', rfl, -, hv, hx, -⟩ := hp
  cases hv with
  | d hv => cases hv; exact ⟨rfl, fun b hb => (hx.free b hb rfl).2.1, hx.os, hx.output⟩
theorem k'24 {F : Fr} (a : ByteArray) : DR F (.str a.data.toList) (.string a) := by
 have := DR.str (F := F) a.data.toList
 simpa using this
theorem ba_len {a : ByteArray} (h : a.size ≤ maxLen) : a.data.toList.length ≤ 9223372036854775807 := by
 have e : a.data.toList.length = a.size := by rw [Array.length_toList]; rfl
 rw [e]
 exact Nat.le_trans h (by show 2 ^ 63 - 1 ≤ 9223372036854775807; omega)
theorem i64_wf {n : Int} (h : (Lit.int .i64 n).wf = true) : -9223372036854775808 ≤ n ∧ n < 9223372036854775808 := by
 simp only [Lit.wf, Bool.and_eq_true, decide_eq_true_eq] at h
 have h1 : IntKind.i64.min = -9223372036854775808 := by decide
 have h2 : IntKind.i64.max = 9223372036854775807 := by decide
 rw [h1, h2] at h
 omega
end
section
open Go Go.Abs Go.ChangeShapes Go.WideShapes Go.RowKit
def noField : Field := { name := "", type := 0, offset := 0, embedded := false, tag := "", pkgPath := "", byteOffset := 0 }
noncomputable def stF (t i : Nat) : Field :=
 match Tryz.prog.underlying t with
 | some (.struct fs) => (fs[i]?).getD noField
 | _ => noField
theorem u64_wf {n : Int} (h : (Lit.int .u64 n).wf = true) : 0 ≤ n ∧ n < 18446744073709551616 := by
 simp only [Lit.wf, Bool.and_eq_true, decide_eq_true_eq] at h
 have h1 : IntKind.u64.min = 0 := by decide
 have h2 : IntKind.u64.max = 18446744073709551615 := by decide
 rw [h1, h2] at h
 omega
theorem i32_wf {n : Int} (h : (Lit.int .i32 n).wf = true) : -2147483648 ≤ n ∧ n < 2147483648 := by
 simp only [Lit.wf, Bool.and_eq_true, decide_eq_true_eq] at h
 have h1 : IntKind.i32.min = -2147483648 := by decide
 have h2 : IntKind.i32.max = 2147483647 := by decide
 rw [h1, h2] at h
 omega
end
