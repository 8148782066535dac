/- Metrics: read. -/
import Derived.Test.YtnaojdjhjkendaaGreatDoorMN
set_option linter.unusedSimpArgs false
set_option linter.unusedVariables false
set_option maxRecDepth 100000
namespace Go.Proofs.YtnaojdjhjkendaaGreatDoor
open Go Go.Abs
variable (B : Fr)
theorem rFlag_calls (e : Option Er) (u : List UInt8) (d n : Int) (l : List Fld) (num : Nat) (hl : l.length ≤ most) : k'5 (cx B) 82 [.ptr 0 0, iT num] [rO e u d n l] (.d (.bool (decide (0 < (k'a l num).n)))) [rO e u d n l] := by
 have h1 := k'3v B e u d n l num hl
 rw [show decide (0 < (k'a l num).n) = decide (((k'a l num).n : Int) > 0) by congr 1; apply propext; omega]
 refine l_bw Tryz.func82 1 [] ?_
 refine k'8 [0] (h1) rfl rfl rfl ?_
 exact O
theorem read_calls (k : Int) : k'5 (cx B) 23 [.d (.int .i64 k)] [] (.d (.fn 79 [.box [.int .i64 k]])) [] := by
 refine l_b0 Tryz.func23 0 [] ?_
 exact O
theorem temp_i32 (n : Nat) : IntKind.i32.wrap (IntKind.u32.wrap (n : Int)) = k'31 n := by
 unfold k'31
 rw [IntKind.wrap_u32, IntKind.wrap_i32]
 split <;> omega
def meI (k : Int) (i : In) : Me := ⟨[], [], [], k, i, [], []⟩
theorem okI_rd (k : Int) (s : List UInt8) (d : Int) : okI k s d = (match k't s d, ptsI k d (knB (tbI k) s d) with
  | none, some p => some ⟨p.nbs, p.his, p.ehs, p.sus, k'31 (k'a (knB (tbI k) s d) 2).n, decide (0 < (k'a (knB (tbI k) s d) 3).n), unB (tbI k) s d⟩
  | _, _ => none) := by
 unfold okI
 rw [okG_rd]
 cases k't s d with
 | some e => rfl
 | none =>
  unfold tellI
  simp only
  cases ptsI k d (knB (tbI k) s d) with
  | none => rfl
  | some p => rfl
set_option maxHeartbeats 8000000 in
theorem I_read (hB : BOk B) {k : Int} (hk1 : 1 ≤ k) (hk2 : k ≤ 5) (s : List UInt8) (d : Int) (hl : s.length < big) (hd1 : -9223372036854775808 ≤ d) (hd2 : d < 9223372036854775808) : RdAt B 79 [.box [.int .i64 k]] Me.d (meI k) (okI k s d) s d := by
 have h1 := Read_cap B hB 165 [.box [.int .i64 k]] (tbI k) (innerT B k) s d hl hd1 hd2
 have hk : LOk (knB (tbI k) s d) := k'x (tbI k) s d hl
 have hm := k'2w hk
 have c_i := inner_calls B k
 have c_2 := k'e B (k't s d) (unB (tbI k) s d) d s.length (knB (tbI k) s d) 2 hm
 have c_3 := rFlag_calls B (k't s d) (unB (tbI k) s d) d s.length (knB (tbI k) s d) 3 hm
 rw [show unkL (tbI k) (fldsE s d) = unB (tbI k) s d from rfl, show k'1 (tbI k) (fldsE s d) = knB (tbI k) s d from rfl] at h1
 rw [okI_rd]
 unfold RdAt
 generalize hL : knB (tbI k) s d = L at *
 generalize hU : unB (tbI k) s d = U at *
 have hk' : (k = 1 ∨ k = 2) ∨ k = 3 ∨ k = 4 ∨ k = 5 := by omega
 rcases hk' with hk' | hk' | hk' | hk'
 ·obtain ⟨vs, e1, c, t1⟩ := List_Nb_tells B hB (fun s => okNb s (d - 1)) id noNb 84 [] (k't s d) U d s.length L 1 hk (fun h => by rw [← hL] at h; have := k'25 h; omega) hd2 (fun x hx hn => (Nb_read B hB x.s (d - 1) (lok_s hk hx) (by rw [← hL] at hx; have := k'2j hx; omega) (by omega)).1.at)
  have main : k'5 (cx B) 79 ([sT s, .d (.int .i64 d)] ++ [.box [.int .i64 k]].map T.d) [] (.tup [.d (meI k ⟨vs, [], [], [], k'31 (k'a L 2).n, decide (0 < (k'a L 3).n), U⟩).d, .d (eD e1)]) [] := by
   clear t1
   rcases hk' with rfl | rfl
   ·show k'5 (cx B) 79 [sT s, .d (.int .i64 d), .d (.box [.int .i64 _])] [] _ []
    unfold meI Me.d
    dsimp only
    refine l_bw Tryz.func79 0 [] ?_
    refine l_cw [] (c_i) rfl rfl rfl ?_
    refine l_cw [] (h1) rfl rfl rfl ?_
    refine k'43 (i0 := 12) (z := 13) (t0 := 8) rfl (by decide) rfl rfl rfl rfl rfl rfl rfl rfl rfl rfl ?_
    refine Z ?_
    refine x_cw [1] (c_2) rfl rfl rfl ?_
    rw [temp_i32]
    refine x_cw [1] (c_3) rfl rfl rfl ?_
    refine k'8 [1] (c) rfl rfl rfl ?_
    exact O
   ·show k'5 (cx B) 79 [sT s, .d (.int .i64 d), .d (.box [.int .i64 _])] [] _ []
    unfold meI Me.d
    dsimp only
    refine l_bw Tryz.func79 0 [] ?_
    refine l_cw [] (c_i) rfl rfl rfl ?_
    refine l_cw [] (h1) rfl rfl rfl ?_
    refine k'43 (i0 := 12) (z := 13) (t0 := 8) rfl (by decide) rfl rfl rfl rfl rfl rfl rfl rfl rfl rfl ?_
    refine Z ?_
    refine x_cw [1] (c_2) rfl rfl rfl ?_
    rw [temp_i32]
    refine x_cw [1] (c_3) rfl rfl rfl ?_
    refine k'8 [1] (c) rfl rfl rfl ?_
    exact O
  have hp : ptsI k d L = (match k'7 (fun s => okNb s (d - 1)) 1 L with | none => none | some v => some ⟨v, [], [], [], 0, false, []⟩) := by unfold ptsI; rw [if_pos hk']; cases k'7 (fun s => okNb s (d - 1)) 1 L <;> rfl
  rw [hp]
  cases e1 with
  | none =>
   obtain ⟨k0, a, g, v⟩ := t1.ok
   rw [k0, g]
   rw [List.map_id] at v
   subst v
   exact main
  | some er =>
   have hno : (match k't s d, (match k'7 (fun s => okNb s (d - 1)) 1 L with | none => none | some v => some (⟨v, [], [], [], 0, false, []⟩ : In)) with
    | none, some p => some (⟨p.nbs, p.his, p.ehs, p.sus, k'31 (k'a L 2).n, decide (0 < (k'a L 3).n), U⟩ : In)
    | _, _ => none) = none := by
    cases hr : k't s d with
    | some x => rfl
    | none =>
     rw [hr] at t1
     cases hp1 : k'7 (fun s => okNb s (d - 1)) 1 L with
     | none => rfl
     | some a =>
      rw [hp1] at t1
      have := t1.get.2; simp at this
   rw [hno]
   exact ⟨_, er, t1.ein (fun x hx => k'1a hx) er rfl, main⟩
 ·obtain ⟨vs, e1, c, t1⟩ := List_Hi_tells B hB (fun s => okHi s (d - 1)) id noHi 86 [] (k't s d) U d s.length L 1 hk (fun h => by rw [← hL] at h; have := k'25 h; omega) hd2 (fun x hx hn => (Hi_read B hB x.s (d - 1) (lok_s hk hx) (by rw [← hL] at hx; have := k'2j hx; omega) (by omega)).1.at)
  have main : k'5 (cx B) 79 ([sT s, .d (.int .i64 d)] ++ [.box [.int .i64 k]].map T.d) [] (.tup [.d (meI k ⟨[], vs, [], [], k'31 (k'a L 2).n, decide (0 < (k'a L 3).n), U⟩).d, .d (eD e1)]) [] := by
   clear t1
   subst hk'
   show k'5 (cx B) 79 [sT s, .d (.int .i64 d), .d (.box [.int .i64 _])] [] _ []
   unfold meI Me.d
   dsimp only
   refine l_bw Tryz.func79 0 [] ?_
   refine l_cw [] (c_i) rfl rfl rfl ?_
   refine l_cw [] (h1) rfl rfl rfl ?_
   refine k'43 (i0 := 12) (z := 13) (t0 := 8) rfl (by decide) rfl rfl rfl rfl rfl rfl rfl rfl rfl rfl ?_
   refine Z ?_
   refine x_cw [1] (c_2) rfl rfl rfl ?_
   rw [temp_i32]
   refine x_cw [1] (c_3) rfl rfl rfl ?_
   refine k'8 [1] (c) rfl rfl rfl ?_
   exact O
  have hp : ptsI k d L = (match k'7 (fun s => okHi s (d - 1)) 1 L with | none => none | some v => some ⟨[], v, [], [], 0, false, []⟩) := by unfold ptsI; rw [if_neg (by omega), if_pos hk']; cases k'7 (fun s => okHi s (d - 1)) 1 L <;> rfl
  rw [hp]
  cases e1 with
  | none =>
   obtain ⟨k0, a, g, v⟩ := t1.ok
   rw [k0, g]
   rw [List.map_id] at v
   subst v
   exact main
  | some er =>
   have hno : (match k't s d, (match k'7 (fun s => okHi s (d - 1)) 1 L with | none => none | some v => some (⟨[], v, [], [], 0, false, []⟩ : In)) with
    | none, some p => some (⟨p.nbs, p.his, p.ehs, p.sus, k'31 (k'a L 2).n, decide (0 < (k'a L 3).n), U⟩ : In)
    | _, _ => none) = none := by
    cases hr : k't s d with
    | some x => rfl
    | none =>
     rw [hr] at t1
     cases hp1 : k'7 (fun s => okHi s (d - 1)) 1 L with
     | none => rfl
     | some a =>
      rw [hp1] at t1
      have := t1.get.2; simp at this
   rw [hno]
   exact ⟨_, er, t1.ein (fun x hx => k'1a hx) er rfl, main⟩
 ·obtain ⟨vs, e1, c, t1⟩ := List_Eh_tells B hB (fun s => okEh s (d - 1)) id noEh 88 [] (k't s d) U d s.length L 1 hk (fun h => by rw [← hL] at h; have := k'25 h; omega) hd2 (fun x hx hn => (Eh_read B hB x.s (d - 1) (lok_s hk hx) (by rw [← hL] at hx; have := k'2j hx; omega) (by omega)).1.at)
  have main : k'5 (cx B) 79 ([sT s, .d (.int .i64 d)] ++ [.box [.int .i64 k]].map T.d) [] (.tup [.d (meI k ⟨[], [], vs, [], k'31 (k'a L 2).n, decide (0 < (k'a L 3).n), U⟩).d, .d (eD e1)]) [] := by
   clear t1
   subst hk'
   show k'5 (cx B) 79 [sT s, .d (.int .i64 d), .d (.box [.int .i64 _])] [] _ []
   unfold meI Me.d
   dsimp only
   refine l_bw Tryz.func79 0 [] ?_
   refine l_cw [] (c_i) rfl rfl rfl ?_
   refine l_cw [] (h1) rfl rfl rfl ?_
   refine k'43 (i0 := 12) (z := 13) (t0 := 8) rfl (by decide) rfl rfl rfl rfl rfl rfl rfl rfl rfl rfl ?_
   refine Z ?_
   refine x_cw [1] (c_2) rfl rfl rfl ?_
   rw [temp_i32]
   refine x_cw [1] (c_3) rfl rfl rfl ?_
   refine k'8 [1] (c) rfl rfl rfl ?_
   exact O
  have hp : ptsI k d L = (match k'7 (fun s => okEh s (d - 1)) 1 L with | none => none | some v => some ⟨[], [], v, [], 0, false, []⟩) := by unfold ptsI; rw [if_neg (by omega), if_neg (by omega), if_pos hk']; cases k'7 (fun s => okEh s (d - 1)) 1 L <;> rfl
  rw [hp]
  cases e1 with
  | none =>
   obtain ⟨k0, a, g, v⟩ := t1.ok
   rw [k0, g]
   rw [List.map_id] at v
   subst v
   exact main
  | some er =>
   have hno : (match k't s d, (match k'7 (fun s => okEh s (d - 1)) 1 L with | none => none | some v => some (⟨[], [], v, [], 0, false, []⟩ : In)) with
    | none, some p => some (⟨p.nbs, p.his, p.ehs, p.sus, k'31 (k'a L 2).n, decide (0 < (k'a L 3).n), U⟩ : In)
    | _, _ => none) = none := by
    cases hr : k't s d with
    | some x => rfl
    | none =>
     rw [hr] at t1
     cases hp1 : k'7 (fun s => okEh s (d - 1)) 1 L with
     | none => rfl
     | some a =>
      rw [hp1] at t1
      have := t1.get.2; simp at this
   rw [hno]
   exact ⟨_, er, t1.ein (fun x hx => k'1a hx) er rfl, main⟩
 ·obtain ⟨vs, e1, c, t1⟩ := List_Su_tells B hB (fun s => okSu s (d - 1)) id noSu 90 [] (k't s d) U d s.length L 1 hk (fun h => by rw [← hL] at h; have := k'25 h; omega) hd2 (fun x hx hn => (Su_read B hB x.s (d - 1) (lok_s hk hx) (by rw [← hL] at hx; have := k'2j hx; omega) (by omega)).1.at)
  have main : k'5 (cx B) 79 ([sT s, .d (.int .i64 d)] ++ [.box [.int .i64 k]].map T.d) [] (.tup [.d (meI k ⟨[], [], [], vs, k'31 (k'a L 2).n, decide (0 < (k'a L 3).n), U⟩).d, .d (eD e1)]) [] := by
   clear t1
   subst hk'
   show k'5 (cx B) 79 [sT s, .d (.int .i64 d), .d (.box [.int .i64 _])] [] _ []
   unfold meI Me.d
   dsimp only
   refine l_bw Tryz.func79 0 [] ?_
   refine l_cw [] (c_i) rfl rfl rfl ?_
   refine l_cw [] (h1) rfl rfl rfl ?_
   refine k'43 (i0 := 12) (z := 13) (t0 := 8) rfl (by decide) rfl rfl rfl rfl rfl rfl rfl rfl rfl rfl ?_
   refine Z ?_
   refine x_cw [1] (c_2) rfl rfl rfl ?_
   rw [temp_i32]
   refine x_cw [1] (c_3) rfl rfl rfl ?_
   refine k'8 [1] (c) rfl rfl rfl ?_
   exact O
  have hp : ptsI k d L = (match k'7 (fun s => okSu s (d - 1)) 1 L with | none => none | some v => some ⟨[], [], [], v, 0, false, []⟩) := by unfold ptsI; rw [if_neg (by omega), if_neg (by omega), if_neg (by omega)]; cases k'7 (fun s => okSu s (d - 1)) 1 L <;> rfl
  rw [hp]
  cases e1 with
  | none =>
   obtain ⟨k0, a, g, v⟩ := t1.ok
   rw [k0, g]
   rw [List.map_id] at v
   subst v
   exact main
  | some er =>
   have hno : (match k't s d, (match k'7 (fun s => okSu s (d - 1)) 1 L with | none => none | some v => some (⟨[], [], [], v, 0, false, []⟩ : In)) with
    | none, some p => some (⟨p.nbs, p.his, p.ehs, p.sus, k'31 (k'a L 2).n, decide (0 < (k'a L 3).n), U⟩ : In)
    | _, _ => none) = none := by
    cases hr : k't s d with
    | some x => rfl
    | none =>
     rw [hr] at t1
     cases hp1 : k'7 (fun s => okSu s (d - 1)) 1 L with
     | none => rfl
     | some a =>
      rw [hp1] at t1
      have := t1.get.2; simp at this
   rw [hno]
   exact ⟨_, er, t1.ein (fun x hx => k'1a hx) er rfl, main⟩
theorem part_Me_calls : partP B 77 Me.d := k'3d B Tryz.func77
theorem Inner_Me_calls (hB : BOk B) (o : OneS) (f : Nat) (cap : List D) (x : Me) (er : Option Er) (e : Option Er) (u : List UInt8) (d n : Int) (l : List Fld) (hd1 : -9223372036854775808 < d) (hd2 : d < 9223372036854775808) (hl : o.all.flatten.length < big) (hn : o.all.length < big)
  (hf : k'5 (cx B) f ([sT o.all.flatten, .d (.int .i64 (d - 1))] ++ cap.map T.d) [] (.tup [.d x.d, .d (eD er)]) []) :
  k'5 (cx B) 22 [.ptr 0 0, .d o.d, .d (.fn f cap)] [rO e u d n l] (.d x.d) [rO (k'4c n o.num e er) u d n l] := by
 have h1 := Join_calls B o.all hl hn
 have h2 := part_Me_calls B hB f cap x er o.all.flatten e u d n l o.num hd1 hd2 hf
 refine l_bw Tryz.func22 1 [] ?_
 refine x_cw [] (h1) rfl rfl rfl ?_
 refine x_callq [0] (h2) rfl rfl rfl ?_
 exact O
theorem inner_step (hB : BOk B) (s : List UInt8) (d : Int) (hl : s.length < big) (hd1 : -9223372036854775808 ≤ d) (hd2 : d < 9223372036854775808) (h0 : (oneF onNs (knB tbM s d)).num ≠ 0) : ∃ (y : Me) (e1 : Option Er), k'5 (cx B) 22 [.ptr 0 0, .d (oneF onNs (knB tbM s d)).d, .d (.fn 79 [.box [.int .i64 (k'3m (oneF onNs (knB tbM s d)).num)]])] [rO (k't s d) (unB tbM s d) d s.length (knB tbM s d)] (.d y.d) [rO e1 (unB tbM s d) d s.length (knB tbM s d)] ∧
  Tells s.length (k't s d) (onO d (knB tbM s d)) (fun p => meI p.1 p.2) y e1 := by
 have hk : LOk (knB tbM s d) := k'x tbM s d hl
 obtain ⟨o1, o2, o3, o4⟩ := oneF_ok (ns := onNs) hk.1
 have o5 := oneF_len onNs (knB tbM s d)
 have hkl := hk.lenb
 have hkw := hk.2
 rcases o4 with o4 | ⟨o4, x, hx, -⟩
 ·exact absurd o4 h0
 have hpos : 0 ≤ d := k'2j hx
 obtain ⟨k1, -⟩ := kindK_ok o4
 have hf := I_read B hB k1.1 k1.2 (oneF onNs (knB tbM s d)).all.flatten (d - 1) (by omega) (by omega) (by omega)
 have hcall := fun (x : Me) (er : Option Er) h => Inner_Me_calls B hB (oneF onNs (knB tbM s d)) 79 [.box [.int .i64 (k'3m (oneF onNs (knB tbM s d)).num)]] x er (k't s d) (unB tbM s d) d s.length (knB tbM s d) (by omega) hd2 (by omega) (by omega) h
 have ho : onO d (knB tbM s d) = (match okI (k'3m (oneF onNs (knB tbM s d)).num) (oneF onNs (knB tbM s d)).all.flatten (d - 1) with | none => none | some x => some (k'3m (oneF onNs (knB tbM s d)).num, x)) := by unfold onO; rw [if_neg h0]; cases okI (k'3m (oneF onNs (knB tbM s d)).num) (oneF onNs (knB tbM s d)).all.flatten (d - 1) <;> rfl
 rw [ho]
 unfold RdAt at hf
 cases hi : okI (k'3m (oneF onNs (knB tbM s d)).num) (oneF onNs (knB tbM s d)).all.flatten (d - 1) with
 | some i =>
  rw [hi] at hf
  refine ⟨_, _, hcall _ none hf, ?_⟩
  rw [failE_nn]
  unfold Tells
  cases k't s d with
  | some x => rfl
  | none => exact ⟨rfl, rfl⟩
 | none =>
  rw [hi] at hf
  obtain ⟨y, er, hin, hf⟩ := hf
  refine ⟨_, _, hcall _ (some er) hf, ?_⟩
  unfold Tells
  cases k't s d with
  | some x => rfl
  | none =>
   obtain ⟨e1, g1, g2⟩ := fail_in s.length (oneF onNs (knB tbM s d)).num er hin.2
   exact ⟨e1, g1, g2⟩
theorem okMe_rd (s : List UInt8) (d : Int) : okMe s d = (match k't s d, k'1p 1 (knB tbM s d), k'1p 2 (knB tbM s d), k'1p 3 (knB tbM s d), onO d (knB tbM s d), k'7 (fun s => okK s (d - 1)) 12 (knB tbM s d) with
 | none, some name, some desc, some unit, some data, some mets => some ⟨name, desc, unit, data.1, data.2, mets, unB tbM s d⟩
 | _, _, _, _, _, _ => none) := by
 unfold okMe
 rw [okG_rd]
 cases k't s d with
 | some e => rfl
 | none =>
  unfold k'44
  simp only
  cases k'1p 1 (knB tbM s d) with
  | none => rfl
  | some name =>
   cases k'1p 2 (knB tbM s d) with
   | none => rfl
   | some desc =>
    cases k'1p 3 (knB tbM s d) with
    | none => rfl
    | some unit =>
     cases onO d (knB tbM s d) with
     | none => rfl
     | some data =>
      cases k'7 (fun s => okK s (d - 1)) 12 (knB tbM s d) with
      | none => rfl
      | some mets => rfl
set_option maxHeartbeats 8000000 in
theorem Me_read (hB : BOk B) (s : List UInt8) (d : Int) (hl : s.length < big) (hd1 : -9223372036854775808 ≤ d) (hd2 : d < 9223372036854775808) :
  RdZ B 6 Me.d noMe (okMe s d) s d ∧ (∀ e0, k't s d = some e0 → k'5 (cx B) 6 [sT s, .d (.int .i64 d)] [] (.tup [.d noMe.d, .d e0.d]) []) := by
 have h1 := k'1h B hB 19 tbM (tbM_calls B) s d hl hd1 hd2
 have hk : LOk (knB tbM s d) := k'x tbM s d hl
 have hm := k'2w hk
 have h3 := rOne_calls B (k't s d) (unB tbM s d) d s.length (knB tbM s d) false onNs (by decide) hk
 have hstep : ∃ (y : Me) (e1 : Option Er), Tells s.length (k't s d) (onO d (knB tbM s d)) (fun p => meI p.1 p.2) y e1 ∧ ∀ (v_name v_desc v_unit : List UInt8) (vs_mets : List KVs) (e2 e3 e4 e5 : Option Er),
   k'5 (cx B) 25 [.ptr 0 0, iT 1] [rO e1 (unB tbM s d) d s.length (knB tbM s d)] (sT v_name) [rO e2 (unB tbM s d) d s.length (knB tbM s d)] →
   k'5 (cx B) 25 [.ptr 0 0, iT 2] [rO e2 (unB tbM s d) d s.length (knB tbM s d)] (sT v_desc) [rO e3 (unB tbM s d) d s.length (knB tbM s d)] →
   k'5 (cx B) 25 [.ptr 0 0, iT 3] [rO e3 (unB tbM s d) d s.length (knB tbM s d)] (sT v_unit) [rO e4 (unB tbM s d) d s.length (knB tbM s d)] →
   k'5 (cx B) 26 [.ptr 0 0, iT 12, .d (.fn 27 [])] [rO e4 (unB tbM s d) d s.length (knB tbM s d)] (.d (slD (vs_mets.map KVs.d))) [rO e5 (unB tbM s d) d s.length (knB tbM s d)] →
   k'5 (cx B) 6 [sT s, .d (.int .i64 d)] [] (.tup [.d (orD e5 (.agg [.str v_name, .str v_desc, .str v_unit, .int .i64 y.kind, .int .i32 y.dat.temp, .bool y.dat.mono, slD (y.dat.nbs.map Nb.d), slD (y.dat.his.map Hi.d), slD (y.dat.ehs.map Eh.d), slD (y.dat.sus.map Su.d), slD (vs_mets.map KVs.d), .str y.dat.u, .str (unB tbM s d)]) noMe.d), .d (eD e5)]) [] := by
  generalize hO : oneF onNs (knB tbM s d) = o at *
  by_cases h0 : o.num = 0
  ·refine ⟨noMe, k't s d, ?_, fun v_name v_desc v_unit vs_mets e2 e3 e4 e5 c2 c3 c4 c5 => ?_⟩
   ·have ho : onO d (knB tbM s d) = some (0, noIn) := by unfold onO; rw [hO, if_pos h0]
    rw [ho]
    unfold Tells
    cases k't s d with
    | some x => rfl
    | none => exact ⟨rfl, rfl⟩
   ·have hz : decide ((o.num : Int) > 0) = false := decide_eq_false (by omega)
    refine l_bw Tryz.func6 0 [] ?_
    refine l_cw [] (h1) rfl rfl rfl ?_
    refine l_cw [] (k'q B 1) rfl rfl rfl ?_
    refine l_cw [] (k'q B 2) rfl rfl rfl ?_
    refine l_cw [] (k'q B 3) rfl rfl rfl ?_
    refine l_cw [] (k'q B 4) rfl rfl rfl ?_
    refine l_cw [] (k'q B 5) rfl rfl rfl ?_
    refine k'3 (.buildSlice (es := onNs.map iD) rfl rfl rfl rfl rfl rfl (by intro x hx; simp [iD, onNs] at hx; rcases hx with rfl | rfl | rfl | rfl | rfl <;> rfl) (by decide) (by decide) (by decide)) rfl rfl ?_
    refine Z ?_
    refine l_cw [1] (h3) rfl rfl rfl ?_
    rw [hz]
    refine Z ?_
    refine l_cw [1] (c2) rfl rfl rfl ?_
    refine l_cw [1] (c3) rfl rfl rfl ?_
    refine l_cw [1] (c4) rfl rfl rfl ?_
    refine x_cw [1] (c5) rfl rfl rfl ?_
    cases e5 with
    | none =>
     exact O
    | some er =>
     cases er <;> (
     exact O)
  ·have hst := inner_step B hB s d hl hd1 hd2 (by rw [hO]; exact h0)
   rw [hO] at hst
   obtain ⟨y, e1, c1, t1⟩ := hst
   refine ⟨y, e1, t1, fun v_name v_desc v_unit vs_mets e2 e3 e4 e5 c2 c3 c4 c5 => ?_⟩
   clear t1
   have hz : decide ((o.num : Int) > 0) = true := decide_eq_true (by omega)
   have c_k := kindOf_calls B o.num
   have c_r := read_calls B (k'3m o.num)
   refine l_bw Tryz.func6 0 [] ?_
   refine l_cw [] (h1) rfl rfl rfl ?_
   refine l_cw [] (k'q B 1) rfl rfl rfl ?_
   refine l_cw [] (k'q B 2) rfl rfl rfl ?_
   refine l_cw [] (k'q B 3) rfl rfl rfl ?_
   refine l_cw [] (k'q B 4) rfl rfl rfl ?_
   refine l_cw [] (k'q B 5) rfl rfl rfl ?_
   refine k'3 (.buildSlice (es := onNs.map iD) rfl rfl rfl rfl rfl rfl (by intro x hx; simp [iD, onNs] at hx; rcases hx with rfl | rfl | rfl | rfl | rfl <;> rfl) (by decide) (by decide) (by decide)) rfl rfl ?_
   refine Z ?_
   refine l_cw [1] (h3) rfl rfl rfl ?_
   rw [hz]
   refine Z ?_
   refine x_cw [] (c_k) rfl rfl rfl ?_
   refine x_cw [] (c_r) rfl rfl rfl ?_
   refine x_cw [1] (c1) rfl rfl rfl ?_
   refine l_cw [1] (c2) rfl rfl rfl ?_
   refine l_cw [1] (c3) rfl rfl rfl ?_
   refine l_cw [1] (c4) rfl rfl rfl ?_
   refine x_cw [1] (c5) rfl rfl rfl ?_
   cases e5 with
   | none =>
    exact O
   | some er =>
    cases er <;> (
    exact O)
 obtain ⟨y, e1, t1, hmain⟩ := hstep
 obtain ⟨vs_name, e2, c_name, t2, -⟩ := k'40 B hB e1 (unB tbM s d) d s.length (knB tbM s d) 1 hk
 obtain ⟨vs_desc, e3, c_desc, t3, -⟩ := k'40 B hB e2 (unB tbM s d) d s.length (knB tbM s d) 2 hk
 obtain ⟨vs_unit, e4, c_unit, t4, -⟩ := k'40 B hB e3 (unB tbM s d) d s.length (knB tbM s d) 3 hk
 obtain ⟨vs_mets, e5, c_mets, t5⟩ := k'1e B hB (fun s => okK s (d - 1)) Kv.sh noKV 27 [] e4 (unB tbM s d) d s.length (knB tbM s d) 12 hk (fun h => by have := k'25 h; omega) hd2 (fun x hx hn => k'1i B hB x.s (d - 1) (lok_s hk hx) (by have := k'2j hx; omega) (by omega))
 have hein : ∀ x, e5 = some x → EIn s.length x := t5.ein (t4.ein (t3.ein (t2.ein (t1.ein (fun x hx => k'1a hx)))))
 have main := hmain _ _ _ _ _ _ _ _ c_name c_desc c_unit c_mets
 constructor
 ·rw [okMe_rd]
  cases e5 with
  | none =>
   obtain ⟨k5, a5, g5, v5⟩ := t5.ok
   subst k5
   obtain ⟨k4, a4, g4, v4⟩ := t4.ok
   subst k4
   obtain ⟨k3, a3, g3, v3⟩ := t3.ok
   subst k3
   obtain ⟨k2, a2, g2, v2⟩ := t2.ok
   subst k2
   obtain ⟨k1, a1, g1, v1⟩ := t1.ok
   rw [k1, g1, g2, g3, g4, g5]
   simp only [id_eq] at v2 v3 v4
   subst v1; subst v2; subst v3; subst v4; subst v5
   rw [ks_map a5] at main
   exact main
  | some er =>
   have hno : (match k't s d, k'1p 1 (knB tbM s d), k'1p 2 (knB tbM s d), k'1p 3 (knB tbM s d), onO d (knB tbM s d), k'7 (fun s => okK s (d - 1)) 12 (knB tbM s d) with
    | none, some name, some desc, some unit, some data, some mets => some (⟨name, desc, unit, data.1, data.2, mets, unB tbM s d⟩ : Me)
    | _, _, _, _, _, _ => none) = none := by
    cases hr : k't s d with
    | some x => rfl
    | none =>
     rw [hr] at t1
     cases hp1 : onO d (knB tbM s d) with
     | none => (repeat' split) <;> simp_all
     | some a1 =>
      rw [hp1] at t1
      obtain ⟨-, q1⟩ := t1.get
      subst q1
      cases hp2 : k'1p 1 (knB tbM s d) with
      | none => rfl
      | some a2 =>
       rw [hp2] at t2
       obtain ⟨-, q2⟩ := t2.get
       subst q2
       cases hp3 : k'1p 2 (knB tbM s d) with
       | none => rfl
       | some a3 =>
        rw [hp3] at t3
        obtain ⟨-, q3⟩ := t3.get
        subst q3
        cases hp4 : k'1p 3 (knB tbM s d) with
        | none => rfl
        | some a4 =>
         rw [hp4] at t4
         obtain ⟨-, q4⟩ := t4.get
         subst q4
         cases hp5 : k'7 (fun s => okK s (d - 1)) 12 (knB tbM s d) with
         | none => rfl
         | some a5 =>
          rw [hp5] at t5
          have := t5.get.2; simp at this
   rw [hno]
   exact ⟨er, hein er rfl, main⟩
 ·intro e0 he
  rw [he] at t1
  have k1 := t1.keep
  subst k1
  have k2 := t2.keep
  subst k2
  have k3 := t3.keep
  subst k3
  have k4 := t4.keep
  subst k4
  have k5 := t5.keep
  subst k5
  exact main
