/- The walk of known, fourth part: Create and known. -/
import Derived.Test.YtmeieeekjhjgjaaGreatDoorCu
namespace Go.Proofs.YtmeieeekjhjgjaaGreatDoor.H
open Go.RowKit Go.Proofs.YtmeieeekjhjgjaaGreatDoorW.PrintWords Go.Proofs.YtmeieeekjhjgjaaGreatDoorW.PrintLast

theorem newOps_nil (n : ByteArray) : newOps n ⟨#[]⟩ = [⟨1, n, ⟨#[]⟩, ⟨#[]⟩⟩, ⟨3, n, ⟨#[]⟩, ⟨#[]⟩⟩] := by unfold newOps; rw [if_pos (by decide)]
set_option maxHeartbeats 2000000 in
set_option maxRecDepth 10000 in
theorem create36 (ad : Addr) (c : Nat) (w : World) (hg : Glob w) (hr : Kd.C k70 w (some ad) 1 [word1]) :
    Calls Tryz.prog 36 #[.slice (some ad) 1 c] w fun e w' => ∃ A0 c0, FinPost w.heap.size w A0 c0 [1, 3, 6, 1, 2, 3, 6, 4, 6] e w' := by
  have HR := Lib.hid hr
  have HG := Lib.hid hg
  clear hr hg
  go_enter Tryz.func36, Tryz.ntmps36
  go_wp2_with fail
  have hz0 := blk_new w (.cells #[.slice none 0 0, .int .i64 0, .int .i64 0, .slice none 0 0, .slice none 0 0] 27)
  have hb0 : Below w.heap.size w (w.alloc (.cells #[.slice none 0 0, .int .i64 0, .int .i64 0, .slice none 0 0, .slice none 0 0] 27)) := below_alloc (Below.refl _ _) _
  refine (clone63 ad 1 c [word1] _ (by decide) (Kd.C_below HR.out hb0)).mono ?_
  rintro e w1 ⟨v1, rfl, hR1, hb1⟩
  have hz1 := blk_below hz0 hb1
  have hb1' := hb0.trans (hb1.mono hb0.size)
  have HR1 := Lib.hid (Kd.R_lower hR1 hb0.size)
  obtain ⟨A1, c1, rfl, hc1, hC1⟩ := Kd.R_reads hR1
  change 1 ≤ c1 at hc1
  have HC1 := Lib.hid hC1
  have hs1 := hb1'.size
  have hlt1 := blk_lt hz1
  clear hC1 hR1 hz0 hb0 hb1
  go_wp2_with fail
  have hx1 := blk_new w1 (.cells #[.slice A1 1 c1, .int .i64 2, .int .i64 1, .slice none 0 0, .slice none 0 0] 27)
  refine (valid19 A1 none none c1 0 0 [word1] 2 1 [] 0 _ (Kd.C_below HC1.out (below_alloc (Below.refl _ _) _)) hc1 (by simp) ok1 ⟨rfl, by decide, fun h => absurd h (by decide)⟩ (by simp) (fun x hx => by cases hx)).mono ?_
  rw [valid1]
  rintro e w3 ⟨rfl, hb3⟩
  have hx3 := blk_below hx1 hb3
  have hb13 : Below w1.heap.size w1 w3 := below_then (below_alloc (Below.refl _ w1) _) (by simp) hb3
  have HZ := Lib.hid (blk_below hz1 hb13)
  have HC1' := Lib.hid (Kd.C_below HC1.out hb13)
  have HB3 := Lib.hid (hb1'.trans (hb13.mono hs1))
  have HGL : Hid (∀ V, Below w3.heap.size w3 V → Glob V) := Lib.hid fun V hV => HG.out.below' (HB3.out.trans (hV.mono HB3.out.size))
  have p0 := (blk_cell hx3 0).trans (show _ = some (Value.slice A1 1 c1) from rfl)
  have p1 := (blk_cell hx3 1).trans (show _ = some (Value.int .i64 2) from rfl)
  have p2 := (blk_cell hx3 2).trans (show _ = some (Value.int .i64 1) from rfl)
  have p3 := (blk_cell hx3 3).trans (show _ = some (Value.slice none 0 0) from rfl)
  have p4 := (blk_cell hx3 4).trans (show _ = some (Value.slice none 0 0) from rfl)
  clear hx1 hx3 hz1 hb3 hb13 HC1

  go_wp2_with fail
  refine start_ (n := 12) (S := fun w' => w'.cell? ⟨w1.heap.size, 0, none⟩ = some (.slice A1 1 c1) ∧ w'.cell? ⟨w1.heap.size, 1, none⟩ = some (.int .i64 2) ∧ w'.cell? ⟨w1.heap.size, 2, none⟩ = some (.int .i64 1) ∧ w'.cell? ⟨w1.heap.size, 3, none⟩ = some (.slice none 0 0) ∧ w'.cell? ⟨w1.heap.size, 4, none⟩ = some (.slice none 0 0)) (ds := [9]) #[false, false, false, false, false, false, false, false, false, false, false, false] (by kernel_rfl) rfl rfl ⟨p0, p1, p2, p3, p4⟩ (fun hHeld => ?_)
  refine pure_ (i := 1) (N := some 14) (v := ?_) (a' := ?_) #[false, true, false, false, false, false, false, false, false, false, false, false] rfl rfl (by kernel_rfl) (fun _ _ _ h => h) (Or.inl ⟨by rfl, ?_⟩) ?_ ?_
  rotate_left
  · intro w'
    go_simp
    with_reducible rfl
  rotate_left
  · simp only [Act.put, List.setIfInBounds_toArray, List.set_cons_zero, List.set_cons_succ, i64_w, i32_w]
    rfl
  refine pure_ (i := 2) (N := some 15) (v := ?_) (a' := ?_) #[false, true, true, false, false, false, false, false, false, false, false, false] rfl rfl (by kernel_rfl) (fun _ _ _ h => h) (Or.inl ⟨by rfl, ?_⟩) ?_ ?_
  rotate_left
  · intro w'
    go_simp
    with_reducible rfl
  rotate_left
  · simp only [Act.put, List.setIfInBounds_toArray, List.set_cons_zero, List.set_cons_succ, i64_w, i32_w]
    rfl
  refine take_ (i := 0) (N := some 13) (v := ?_) (a' := ?_) #[true, true, true, false, false, false, false, false, false, false, false, false] rfl rfl (by kernel_rfl) (fun _ _ _ h => h) (Or.inl ⟨by rfl, ?_⟩) hHeld ?_ ?_
  rotate_left
  · rintro w' ⟨s0, s1, s2, s3, s4⟩
    go_simp
    with_reducible rfl
  rotate_left
  · simp only [Act.put, List.setIfInBounds_toArray, List.set_cons_zero, List.set_cons_succ, i64_w, i32_w]
    rfl
  refine one_ (i := 3) (N := some 16) #[true, true, true, true, false, false, false, false, false, false, false, false] rfl rfl (by kernel_rfl) (by decide) (fun K hK => ?_)
  refine goes_ Tryz.func66 (by kernel_rfl) rfl #[.int .i64 1] (by rfl) rfl rfl (by simp only [List.map_toArray, List.map_cons, List.map_nil]; rfl) ?_
  with_reducible refine (journal66 1 (by decide) (by decide) _ (HGL.out _ (by exact below_drew (Below.refl _ w3)))).mono ?_
  rintro e w4 ⟨⟨jn, rfl⟩, hb4⟩
  refine ⟨_, rfl, ?_⟩
  have hb4' : Below w3.heap.size w3 w4 := below_then (below_drew (Below.refl _ w3)) (Nat.le_refl _) hb4
  clear hb4
  refine hK.out _ _ ⟨pw_cell_below hb4' p0, pw_cell_below hb4' p1, pw_cell_below hb4' p2, pw_cell_below hb4' p3, pw_cell_below hb4' p4⟩ (fun hHeld => ?_)
  clear hK K
  refine norm_ (a' := ?_) ?_ ?_
  rotate_left
  · show Act.put _ (some 16) _ = _
    simp only [Act.put, List.setIfInBounds_toArray, List.set_cons_zero, List.set_cons_succ, i64_w, i32_w]
    rfl
  refine one_ (i := 4) (N := some 17) #[true, true, true, true, true, false, false, false, false, false, false, false] rfl rfl (by kernel_rfl) (by decide) (fun K hK => ?_)
  refine goes_ Tryz.func65 (by kernel_rfl) rfl #[dir0, .string jn, .string ⟨#[]⟩] (by rfl) rfl rfl (by simp only [List.map_toArray, List.map_cons, List.map_nil]; rfl) ?_
  with_reducible refine (new65 jn ⟨#[]⟩ _).mono ?_
  rintro e w5 ⟨v5, rfl, hR5, hb5⟩
  refine ⟨_, rfl, ?_⟩
  have hb5' : Below w3.heap.size w3 w5 := hb4'.trans (hb5.mono hb4'.size)
  rw [newOps_nil] at hR5
  have HR5 : Hid (Ops w5 w3.heap.size v5 [⟨1, jn, ⟨#[]⟩, ⟨#[]⟩⟩, ⟨3, jn, ⟨#[]⟩, ⟨#[]⟩⟩]) := Lib.hid (Kd.R_lower hR5 hb4'.size)
  clear hb5 hR5
  refine hK.out _ _ ⟨pw_cell_below hb5' p0, pw_cell_below hb5' p1, pw_cell_below hb5' p2, pw_cell_below hb5' p3, pw_cell_below hb5' p4⟩ (fun hHeld => ?_)
  clear hK K
  refine norm_ (a' := ?_) ?_ ?_
  rotate_left
  · show Act.put _ (some 17) _ = _
    simp only [Act.put, List.setIfInBounds_toArray, List.set_cons_zero, List.set_cons_succ, i64_w, i32_w]
    rfl
  refine one_ (i := 5) (N := some 18) #[true, true, true, true, true, true, false, false, false, false, false, false] rfl rfl (by kernel_rfl) (by decide) (fun K hK => ?_)
  refine goes_ Tryz.func64 (by kernel_rfl) rfl #[store1 A1 c1, dir0, v5] (by rfl) rfl rfl (by simp only [List.map_toArray, List.map_cons, List.map_nil]; rfl) ?_
  with_reducible refine (finish64 A1 c1 v5 [⟨1, jn, ⟨#[]⟩, ⟨#[]⟩⟩, ⟨3, jn, ⟨#[]⟩, ⟨#[]⟩⟩] w3 _ (HGL.out _ hb5') hc1 (Kd.C_below HC1'.out hb5') HR5.out hb5' (by simp)).mono ?_
  rintro e w6 ⟨v6, xs6, rfl, hR6, hk6, hb6⟩
  refine ⟨_, rfl, ?_⟩
  unfold store1
  have HZ6 := Lib.hid (blk_below HZ.out hb6)
  have HR6 := Lib.hid (Kd.R_lower hR6 HB3.out.size)
  have HB6 := Lib.hid (HB3.out.trans (hb6.mono HB3.out.size))
  have HK6 : Hid (xs6.map (·.f0) = [1, 3, 6, 1, 2, 3, 6, 4, 6]) := Lib.hid (by rw [hk6]; rfl)
  have z0 := (blk_cell HZ6.out 0).trans (show _ = some (Value.slice none 0 0) from rfl)
  have z1 := (blk_cell HZ6.out 1).trans (show _ = some (Value.int .i64 0) from rfl)
  have z2 := (blk_cell HZ6.out 2).trans (show _ = some (Value.int .i64 0) from rfl)
  have z3 := (blk_cell HZ6.out 3).trans (show _ = some (Value.slice none 0 0) from rfl)
  have z4 := (blk_cell HZ6.out 4).trans (show _ = some (Value.slice none 0 0) from rfl)
  have f6 := fun i => blk_frozen HZ6.out i
  clear hR6 hk6
  refine hK.out _ _ ⟨pw_cell_below hb6 p0, pw_cell_below hb6 p1, pw_cell_below hb6 p2, pw_cell_below hb6 p3, pw_cell_below hb6 p4⟩ (fun hHeld => ?_)
  clear hK K
  refine norm_ (a' := ?_) ?_ ?_
  rotate_left
  · show Act.put _ (some 18) _ = _
    simp only [Act.put, List.setIfInBounds_toArray, List.set_cons_zero, List.set_cons_succ, i64_w, i32_w]
    rfl
  refine pure_ (i := 6) (N := some 19) (v := ?_) (a' := ?_) #[true, true, true, true, true, true, true, false, false, false, false, false] rfl rfl (by kernel_rfl) (fun _ _ _ h => h) (Or.inl ⟨by rfl, ?_⟩) ?_ ?_
  rotate_left
  · intro w'
    go_simp
    with_reducible rfl
  rotate_left
  · simp only [Act.put, List.setIfInBounds_toArray, List.set_cons_zero, List.set_cons_succ, i64_w, i32_w]
    rfl
  refine pure_ (i := 7) (N := some 20) (v := ?_) (a' := ?_) #[true, true, true, true, true, true, true, true, false, false, false, false] rfl rfl (by kernel_rfl) (fun _ _ _ h => h) (Or.inl ⟨by rfl, ?_⟩) ?_ ?_
  rotate_left
  · intro w'
    go_simp
    with_reducible rfl
  rotate_left
  · simp only [Act.put, List.setIfInBounds_toArray, List.set_cons_zero, List.set_cons_succ, i64_w, i32_w]
    rfl
  refine pure_ (i := 8) (N := some 21) (v := ?_) (a' := ?_) #[true, true, true, true, true, true, true, true, true, false, false, false] rfl rfl (by kernel_rfl) (fun _ _ _ h => h) (Or.inl ⟨by rfl, ?_⟩) ?_ ?_
  rotate_left
  · intro w'
    go_simp
    with_reducible rfl
  rotate_left
  · simp only [Act.put, List.setIfInBounds_toArray, List.set_cons_zero, List.set_cons_succ, i64_w, i32_w]
    rfl
  refine last_ (i := 9) (N := none) #[true, true, true, true, true, true, true, true, true, true, false, false] rfl rfl (by kernel_rfl) (by decide) (fun K hK => ?_)
  refine skip_ (w1 := ?_) (by rfl) rfl ?_ ?_
  rotate_left
  · go_simp
    rfl
  refine hK.out _ _ ?_
  clear hK K
  refine pure_ (i := 10) (N := some 3) (v := ?_) (a' := ?_) #[true, true, true, true, true, true, true, true, true, true, true, false] rfl rfl (by kernel_rfl) (fun _ _ _ h => h) (Or.inl ⟨by rfl, ?_⟩) ?_ ?_
  rotate_left
  · intro w'
    go_simp
    with_reducible rfl
  rotate_left
  · simp only [Act.put, List.setIfInBounds_toArray, List.set_cons_zero, List.set_cons_succ, i64_w, i32_w]
    rfl
  refine pure_ (i := 11) (N := some 4) (v := ?_) (a' := ?_) #[true, true, true, true, true, true, true, true, true, true, true, true] rfl rfl (by kernel_rfl) (fun _ _ _ h => h) (Or.inl ⟨by rfl, ?_⟩) ?_ ?_
  rotate_left
  · intro w'
    go_simp
    with_reducible rfl
  rotate_left
  · simp only [Act.put, List.setIfInBounds_toArray, List.set_cons_zero, List.set_cons_succ, i64_w, i32_w]
    rfl
  refine done_ (by kernel_rfl) ?_
  go_wp2_with fail
  obtain ⟨hxW, hoW, hbW⟩ := put5 HZ6.out (.slice A1 1 c1) (.int .i64 2) (.int .i64 1) (.slice none 0 0) (.slice none 0 0) _ rfl
  have g0 := (blk_cell hxW 0).trans (show _ = some (Value.slice A1 1 c1) from rfl)
  have g1 := (blk_cell hxW 1).trans (show _ = some (Value.int .i64 2) from rfl)
  have g2 := (blk_cell hxW 2).trans (show _ = some (Value.int .i64 1) from rfl)
  have g3 := (blk_cell hxW 3).trans (show _ = some (Value.slice none 0 0) from rfl)
  have g4 := (blk_cell hxW 4).trans (show _ = some (Value.slice none 0 0) from rfl)
  have hoW' := hoW _ _ _ HR6.out
  have hbW' := hbW w (Nat.le_refl _) HB6.out
  generalize (((((w6.setCell ⟨w.heap.size, 0, none⟩ (.slice A1 1 c1)).setCell ⟨w.heap.size, 1, none⟩ (.int .i64 2)).setCell ⟨w.heap.size, 2, none⟩ (.int .i64 1)).setCell ⟨w.heap.size, 3, none⟩ (.slice none 0 0)).setCell ⟨w.heap.size, 4, none⟩ (.slice none 0 0)) = WF at *
  refine bodyPost_ret (v := .tuple #[store1 A1 c1, v6, .int .i64 0]) (by simp [results, Tryz.results36, go_sem, g0, g1, g2, g3, g4, store1]) rfl ⟨A1, c1, _, _, rfl, hoW', HK6.out, hbW'⟩
theorem info22 : (Tryz.prog.info? 22).map (fun i => (i.zero, i.size, i.bytes)) = some (some (.slice none 0 0), 1, 24) := by kernel_rfl
set_option maxHeartbeats 2000000 in
set_option maxRecDepth 10000 in
theorem known12 (w : World) (hg : Glob w) : Calls Tryz.prog 12 #[] w fun e w' => e = .returned (.bool true) ∧ Below w.heap.size w w' := by
  have HG := Lib.hid hg
  clear hg
  go_enter Tryz.func12, Tryz.ntmps12
  go_wp2_with fail
  refine (attrs15 w).mono ?_
  rintro e w1 ⟨rfl, rfl⟩
  have hA : Kd.C k70 (w.alloc (.cells attrs3 70)) (some ⟨w.heap.size, 0, none⟩) 1 [word1] := by
    refine ⟨rfl, by decide, fun _ => ⟨_, rfl, fun j p hj => ?_⟩⟩
    rcases j with _ | j
    · cases hj
      refine ⟨_, rfl, Kd.K_of_M k70 (k70_M _ 0 any word1), fun i u hu => ?_⟩
      rw [add_plain, blk_cell (blk_new w _)]
      rcases i with _ | _ | i
      all_goals first | (cases hu; rfl) | (simp at hu)
    · simp at hj
  have hbA : Below w.heap.size w (w.alloc (.cells attrs3 70)) := below_alloc (Below.refl _ _) _
  generalize hWA : w.alloc (.cells attrs3 70) = wa at *
  go_wp2_with fail
  refine (create36 ⟨w.heap.size, 0, none⟩ 3 wa (HG.out.below' hbA) hA).mono ?_
  rintro e w2 ⟨A0, c0, v, xs, rfl, ho, hks, hb2⟩
  have hb2' := hbA.trans (hb2.mono hbA.size)
  have hlen : xs.length = 9 := by have := congrArg List.length hks; rw [List.length_map] at this; exact this
  obtain ⟨Av, cv, rfl, hcv, hC⟩ := Kd.R_reads ho
  have HLEN := Lib.hid hlen
  have HC := Lib.hid hC
  have HKS : Hid (∀ (k : Nat) x, xs[k]? = some x → [1, 3, 6, 1, 2, 3, 6, 4, 6][k]? = some x.f0) := Lib.hid fun k x hx => by rw [← hks, List.getElem?_map, hx]; rfl
  rw [hlen]
  clear ho hks hb2 hlen hC hA hWA
  unfold store1
  have hs2 := hb2'.size
  go_wp2_with fail
  have hx1 := blk_new (w2.alloc (.cells #[.slice A0 1 c0, .int .i64 2, .int .i64 1, .slice none 0 0, .slice none 0 0] 27)) (.cells #[.int .i64 1, .int .i64 3, .int .i64 6, .int .i64 1, .int .i64 2, .int .i64 3, .int .i64 6, .int .i64 4, .int .i64 6] 3)
  rw [World.size_alloc] at hx1
  have hbw : Below w2.heap.size w2 ((w2.alloc (.cells #[.slice A0 1 c0, .int .i64 2, .int .i64 1, .slice none 0 0, .slice none 0 0] 27)).alloc (.cells #[.int .i64 1, .int .i64 3, .int .i64 6, .int .i64 1, .int .i64 2, .int .i64 3, .int .i64 6, .int .i64 4, .int .i64 6] 3)) := below_alloc (below_alloc (Below.refl _ _) _) _
  generalize ((w2.alloc (.cells #[.slice A0 1 c0, .int .i64 2, .int .i64 1, .slice none 0 0, .slice none 0 0] 27)).alloc (.cells #[.int .i64 1, .int .i64 3, .int .i64 6, .int .i64 1, .int .i64 2, .int .i64 3, .int .i64 6, .int .i64 4, .int .i64 6] 3)) = W at *
  have hcl : ∀ (k : Nat) y, [1, 3, 6, 1, 2, 3, 6, 4, (6 : Int)][k]? = some y → W.cell? ⟨w2.heap.size + 1, k, none⟩ = some (.int .i64 y) := by
    intro k y hy
    rw [blk_cell hx1]
    have : (#[.int .i64 1, .int .i64 3, .int .i64 6, .int .i64 1, .int .i64 2, .int .i64 3, .int .i64 6, .int .i64 4, .int .i64 6] : Array Value) = ([1, 3, 6, 1, 2, 3, 6, 4, (6 : Int)].map (Value.int .i64)).toArray := rfl
    rw [this, List.getElem?_toArray, List.getElem?_map, hy]; rfl
  have HCL := Lib.hid hcl
  have HBW := Lib.hid hbw
  clear hx1 hcl hbw
  go_loopw [36] (fun i wr => ∃ k : Nat, k ≤ 9 ∧ i = .int .i64 k ∧ Below W.heap.size W wr) (fun i _ => 9 - (intOf i).toNat)
  case atStart => exact ⟨0, by omega, rfl, Below.refl _ _⟩
  case round =>
    obtain ⟨k, hk, rfl, hb⟩ := hrel
    by_cases hlt : k < 9
    · obtain ⟨ad, x, hA, hx, q0, q1, q2, q3⟩ := at84 (Kd.C_below HC.out (HBW.out.trans (hb.mono HBW.out.size))) k (by rw [HLEN.out]; exact hlt)
      subst hA
      have hkk := pw_cell_below hb (HCL.out k x.f0 (HKS.out k x hx))
      have hkk' := pw_cell_below (below_alloc (Below.refl _ wr) (.cells #[.int .i64 x.f0, .string x.f1, .string x.f2, .string x.f3] 84)) hkk
      clear hx
      go_wp2
      go_region
      go_wp2
      go_roundw
      case rel => exact ⟨k + 1, by omega, by go_num, below_drew (hb.alloc hb.size _)⟩
      case measure => simp [intOf]; omega
    · have : k = 9 := by omega
      subst this
      go_wp2
      go_ret
      exact ⟨rfl, (hb2'.trans (HBW.out.mono hs2)).trans (hb.mono (by have := HBW.out.size; omega))⟩
end Go.Proofs.YtmeieeekjhjgjaaGreatDoor.H
