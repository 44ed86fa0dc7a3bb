/- The walk of known, third part: Finish. -/
import Derived.Test.YtmeieeekjhjgjaaGreatDoorCt
import Derived.Test.YtmeieeekjhjgjaaGreatDoorWLast
namespace Go.Proofs.YtmeieeekjhjgjaaGreatDoor.H
open Go.RowKit Go.Proofs.YtmeieeekjhjgjaaGreatDoorW.PrintWords Go.Proofs.YtmeieeekjhjgjaaGreatDoorW.PrintLast

def store1 (A0 : Option Addr) (c0 : Nat) : Value := .agg #[.slice A0 1 c0, .int .i64 2, .int .i64 1, .slice none 0 0, .slice none 0 0]
def FinPost (B : Nat) (w : World) (A0 : Option Addr) (c0 : Nat) (ks : List Int) (e : Ending) (w' : World) : Prop := ∃ v xs, e = .returned (.tuple #[store1 A0 c0, v, .int .i64 0]) ∧ Ops w' B v xs ∧ xs.map (·.f0) = ks ∧ Below B w w'
theorem put5 {w : World} {b : Nat} (hx : w.heap[b]? = some (.cells zeroStore 27 (0, 0))) (v0 v1 v2 v3 v4 : Value) :
    ∀ W, W = (((((w.setCell ⟨b, 0, none⟩ v0).setCell ⟨b, 1, none⟩ v1).setCell ⟨b, 2, none⟩ v2).setCell ⟨b, 3, none⟩ v3).setCell ⟨b, 4, none⟩ v4) →
      W.heap[b]? = some (.cells #[v0, v1, v2, v3, v4] 27 (0, 0)) ∧ (∀ (B : Nat) (v : Value) (xs : List S84), Ops w B v xs → Ops W B v xs) ∧ ∀ w0 : World, w0.heap.size ≤ b → Below w0.heap.size w0 w → Below w0.heap.size w0 W := by
  rintro W rfl
  have x0 := blk_put hx 0 v0 (cs' := #[v0, .int .i64 0, .int .i64 0, .slice none 0 0, .slice none 0 0]) rfl
  have x1 := blk_put x0 1 v1 (cs' := #[v0, v1, .int .i64 0, .slice none 0 0, .slice none 0 0]) rfl
  have x2 := blk_put x1 2 v2 (cs' := #[v0, v1, v2, .slice none 0 0, .slice none 0 0]) rfl
  have x3 := blk_put x2 3 v3 (cs' := #[v0, v1, v2, v3, .slice none 0 0]) rfl
  refine ⟨blk_put x3 4 _ rfl, fun B v xs h => ?_, fun w0 h hb => below_set (below_set (below_set (below_set (below_set hb h) h) h) h) h⟩
  exact Kd.R_set (Kd.R_set (Kd.R_set (Kd.R_set (Kd.R_set h hx (by decide) 0 v0) x0 (by decide) 1 v1) x1 (by decide) 2 v2) x2 (by decide) 3 v3) x3 (by decide) 4 v4
theorem ops_apart {w w' : World} {B : Nat} {v v' : Value} {ys : List S84} (h : Ops w B v ys) (hv : ∀ k, v'.ownBlock = some k → k < B) (hg : w.grownBy w' v'.ownBlock) : Ops w' B v ys := by
  refine Kd.R_mono (Kd.R_grown (Kd.R_bound h) hg fun k hk he => ?_) (fun _ _ => trivial)
  have := hv k he.symm
  have := hk.2.1
  omega
theorem ops_reads {w : World} {B n c : Nat} {A : Option Addr} {ys : List S84} (h : Ops w B (.slice A n c) ys) : ReadsRow (k84.K w) k84.sz w A n ys := by
  obtain ⟨A', c', e, _, hC⟩ := Kd.R_reads h
  injection e with e1 e2 _
  subst e1; subst e2
  exact hC
set_option maxHeartbeats 2000000 in
set_option maxRecDepth 10000 in
theorem finish64 (A0 : Option Addr) (c0 : Nat) (v : Value) (xs : List S84) (w0 w : World) (hg : Glob w) (hc : 1 ≤ c0) (hr : Kd.C k70 w A0 1 [word1]) (ho : Ops w w0.heap.size v xs) (hb : Below w0.heap.size w0 w) (hl : xs.length ≤ 10) :
    Calls Tryz.prog 64 #[store1 A0 c0, dir0, v] w (FinPost w0.heap.size w0 A0 c0 (xs.map (·.f0) ++ [6, 1, 2, 3, 6, 4, 6])) := by
  have HR := Lib.hid hr
  have HG := Lib.hid hg
  obtain ⟨Av, cv, rfl, _, _⟩ := Kd.R_reads ho
  have HO := Lib.hid ho
  have HB := Lib.hid hb
  have HAP : Hid (∀ k, (Value.slice Av xs.length cv).ownBlock = some k → k < w.heap.size) := Lib.hid (by obtain ⟨_, inner, h, _⟩ := ho; exact fun k hk => own_lt h k hk)
  clear hr hg ho hb
  unfold dir0 store1
  go_enter Tryz.func64, Tryz.ntmps64
  go_wp2_with fail
  have hba : Below w.heap.size w (((w.alloc (.cells #[.slice A0 1 c0, .int .i64 2, .int .i64 1, .slice none 0 0, .slice none 0 0] 27)).alloc (.cells #[.slice none 0 0, .slice none 0 0, .slice none 0 0, .slice none 0 0] 32)).alloc (.cells #[.slice none 0 0, .int .i64 0, .int .i64 0, .slice none 0 0, .slice none 0 0] 27)) := below_alloc (below_alloc (below_alloc (Below.refl _ _) _) _) _
  have hx : (((w.alloc (.cells #[.slice A0 1 c0, .int .i64 2, .int .i64 1, .slice none 0 0, .slice none 0 0] 27)).alloc (.cells #[.slice none 0 0, .slice none 0 0, .slice none 0 0, .slice none 0 0] 32)).alloc (.cells #[.slice none 0 0, .int .i64 0, .int .i64 0, .slice none 0 0, .slice none 0 0] 27)).heap[w.heap.size]? = some (.cells #[.slice A0 1 c0, .int .i64 2, .int .i64 1, .slice none 0 0, .slice none 0 0] 27 (0, 0)) := blk_alloc (blk_alloc (blk_new w _) _) _
  have hz : (((w.alloc (.cells #[.slice A0 1 c0, .int .i64 2, .int .i64 1, .slice none 0 0, .slice none 0 0] 27)).alloc (.cells #[.slice none 0 0, .slice none 0 0, .slice none 0 0, .slice none 0 0] 32)).alloc (.cells #[.slice none 0 0, .int .i64 0, .int .i64 0, .slice none 0 0, .slice none 0 0] 27)).heap[w.heap.size + 1 + 1]? = some (.cells zeroStore 27 (0, 0)) := by
    have := blk_new ((w.alloc (.cells #[.slice A0 1 c0, .int .i64 2, .int .i64 1, .slice none 0 0, .slice none 0 0] 27)).alloc (.cells #[.slice none 0 0, .slice none 0 0, .slice none 0 0, .slice none 0 0] 32)) (.cells #[.slice none 0 0, .int .i64 0, .int .i64 0, .slice none 0 0, .slice none 0 0] 27)
    rwa [World.size_alloc, World.size_alloc] at this
  generalize (((w.alloc (.cells #[.slice A0 1 c0, .int .i64 2, .int .i64 1, .slice none 0 0, .slice none 0 0] 27)).alloc (.cells #[.slice none 0 0, .slice none 0 0, .slice none 0 0, .slice none 0 0] 32)).alloc (.cells #[.slice none 0 0, .int .i64 0, .int .i64 0, .slice none 0 0, .slice none 0 0] 27)) = Wa at *
  refine (mops106 A0 c0 Wa (HG.out.below' hba) hc (Kd.C_below HR.out hba)).mono ?_
  rintro e w1 ⟨v1, ys, rfl, hM, hks, hb1⟩
  have HKS := Lib.hid hks
  have HL : Hid (ys.length = 6) := Lib.hid (by have := congrArg List.length hks; rw [List.length_map] at this; exact this)
  obtain ⟨A1, c1, hv1, _, _⟩ := Kd.R_reads hM
  rw [HL.out] at hv1
  subst hv1
  have HX := Lib.hid (blk_below hx hb1)
  have HZ := Lib.hid (blk_below hz hb1)
  have hb1' := hba.trans (hb1.mono hba.size)
  have HM := Lib.hid (Kd.R_lower hM hba.size)
  have HO1 := Lib.hid (Kd.R_below HO.out hb1')
  have HB1 := Lib.hid (HB.out.trans (hb1'.mono HB.out.size))
  have p0 := (blk_cell HX.out 0).trans (show _ = some (Value.slice A0 1 c0) from rfl)
  have p1 := (blk_cell HX.out 1).trans (show _ = some (Value.int .i64 2) from rfl)
  have p2 := (blk_cell HX.out 2).trans (show _ = some (Value.int .i64 1) from rfl)
  have p3 := (blk_cell HX.out 3).trans (show _ = some (Value.slice none 0 0) from rfl)
  have p4 := (blk_cell HX.out 4).trans (show _ = some (Value.slice none 0 0) from rfl)
  clear hx hz hb1 hM hks hba
  go_wp2_with fail
  refine start_ (n := 10) (S := fun w' => w'.cell? ⟨w.heap.size, 0, none⟩ = some (.slice A0 1 c0) ∧ w'.cell? ⟨w.heap.size, 1, none⟩ = some (.int .i64 2) ∧ w'.cell? ⟨w.heap.size, 2, none⟩ = some (.int .i64 1) ∧ w'.cell? ⟨w.heap.size, 3, none⟩ = some (.slice none 0 0) ∧ w'.cell? ⟨w.heap.size, 4, none⟩ = some (.slice none 0 0)) (ds := [7]) #[false, false, false, false, false, false, false, false, false, false] (by kernel_rfl) rfl rfl ⟨p0, p1, p2, p3, p4⟩ (fun hHeld => ?_)
  refine pure_ (i := 1) (N := some 21) (v := ?_) (a' := ?_) #[false, true, false, false, false, false, false, false, false, false] rfl rfl (by kernel_rfl) (fun _ _ _ h => h) (Or.inl ⟨by rfl, ?_⟩) ?_ ?_
  rotate_left
  · intro w'
    go_simp
    with_reducible rfl
  rotate_left
  · simp only [Act.put, List.setIfInBounds_toArray, List.set_cons_zero, List.set_cons_succ, i64_w, i32_w]
    rfl
  refine pure_ (i := 5) (N := some 25) (v := ?_) (a' := ?_) #[false, true, false, false, false, true, false, false, false, false] rfl rfl (by kernel_rfl) (fun _ _ _ h => h) (Or.inl ⟨by rfl, ?_⟩) ?_ ?_
  rotate_left
  · intro w'
    go_simp
    with_reducible rfl
  rotate_left
  · simp only [Act.put, List.setIfInBounds_toArray, List.set_cons_zero, List.set_cons_succ, i64_w, i32_w]
    rfl
  refine take_ (i := 0) (N := some 20) (v := ?_) (a' := ?_) #[true, true, false, false, false, true, false, false, false, false] rfl rfl (by kernel_rfl) (fun _ _ _ h => h) (Or.inl ⟨by rfl, ?_⟩) hHeld ?_ ?_
  rotate_left
  · rintro w' ⟨s0, s1, s2, s3, s4⟩
    go_simp
    with_reducible rfl
  rotate_left
  · simp only [Act.put, List.setIfInBounds_toArray, List.set_cons_zero, List.set_cons_succ, i64_w, i32_w]
    rfl
  refine one_ (i := 2) (N := some 22) #[true, true, true, false, false, true, false, false, false, false] rfl rfl (by kernel_rfl) (by decide) (fun K hK => ?_)
  refine goes_ Tryz.func107 (by kernel_rfl) rfl #[] (by rfl) rfl rfl (by simp only [List.map_toArray, List.map_nil]) ?_
  with_reducible refine (sync107 _).mono ?_
  rintro e w3 ⟨rfl, hb3⟩
  refine ⟨_, rfl, ?_⟩
  have hb3' : Below w1.heap.size w1 w3 := below_then (below_drew (Below.refl _ w1)) (Nat.le_refl _) hb3
  clear hb3
  refine hK.out _ _ ⟨pw_cell_below hb3' p0, pw_cell_below hb3' p1, pw_cell_below hb3' p2, pw_cell_below hb3' p3, pw_cell_below hb3' p4⟩ (fun hHeld => ?_)
  clear hK K
  refine norm_ (a' := ?_) ?_ ?_
  rotate_left
  · show Act.put _ (some 22) _ = _
    simp only [Act.put, List.setIfInBounds_toArray, List.set_cons_zero, List.set_cons_succ, i64_w, i32_w]
    rfl
  refine one_ (i := 3) (N := some 23) #[true, true, true, true, false, true, false, false, false, false] rfl rfl (by kernel_rfl) (by decide) (fun K hK => ?_)
  refine value_ (w1 := ?_) (v := ?_) (by rfl) rfl ?_ ?_
  rotate_left 2
  · go_simp
    constructor
    · rfl
    · rfl
  refine hK.out _ _ ⟨pw_cell_below (hb3'.alloc hb3'.size _) p0, pw_cell_below (hb3'.alloc hb3'.size _) p1, pw_cell_below (hb3'.alloc hb3'.size _) p2, pw_cell_below (hb3'.alloc hb3'.size _) p3, pw_cell_below (hb3'.alloc hb3'.size _) p4⟩ (fun hHeld => ?_)
  clear hK K
  refine norm_ (a' := ?_) ?_ ?_
  rotate_left
  · show Act.put _ (some 23) _ = _
    simp only [Act.put, List.setIfInBounds_toArray, List.set_cons_zero, List.set_cons_succ, i64_w, i32_w]
    rfl
  refine one_ (i := 4) (N := some 24) #[true, true, true, true, true, true, false, false, false, false] rfl rfl (by kernel_rfl) (by decide) (fun K hK => ?_)
  have HO3 := Lib.hid (Kd.R_below HO1.out hb3')
  have HM3 := Lib.hid (Kd.R_below HM.out hb3')
  have HX3 := Lib.hid (blk_below HX.out hb3')
  have HZ3 := Lib.hid (blk_below HZ.out hb3')
  have HB3 := Lib.hid (HB1.out.trans (hb3'.mono HB1.out.size))
  refine Kd.R_append_step k84 (w0 := w0) (W := w3) w0.heap.size (by rfl) (.tmp 21) (.tmp 23) 30 84 (.agg #[.int .i64 0, .string ⟨#[]⟩, .string ⟨#[]⟩, .string ⟨#[]⟩]) 56 rfl Tryz.underlying30 info84 rfl (by decide) (by decide) (.slice Av xs.length cv) xs sync [.int .i64 6, .string ⟨#[]⟩, .string ⟨#[]⟩, .string ⟨#[]⟩] any (fun _ => False) rfl rfl (k84_M _ _ _ sync) (fun _ h => h.elim) (fun _ _ => trivial) HO3.out HB3.out HB3.out.size (by omega) ?_
  intro v5 w5 hR5 hb5 hg5 hat5
  obtain ⟨A5, c5, hv5, _, _⟩ := Kd.R_reads hR5
  generalize hn5 : (_ : List _).length = n5 at hv5
  subst hv5
  have HR5 := Lib.hid hR5
  have HB5 := Lib.hid hb5
  have HG5 := Lib.hid hg5
  have HX5 := Lib.hid (R_blk HX3.out HO3.out HG5.out (by decide))
  have HZ5 := Lib.hid (R_blk HZ3.out HO3.out HG5.out (by decide))
  have HM5 := Lib.hid (ops_apart HM3.out HAP.out hg5)
  clear hR5 hb5 hg5 hat5
  refine hK.out _ _ ⟨(blk_cell HX5.out 0).trans (show _ = some (Value.slice A0 1 c0) from rfl), (blk_cell HX5.out 1).trans (show _ = some (Value.int .i64 2) from rfl), (blk_cell HX5.out 2).trans (show _ = some (Value.int .i64 1) from rfl), (blk_cell HX5.out 3).trans (show _ = some (Value.slice none 0 0) from rfl), (blk_cell HX5.out 4).trans (show _ = some (Value.slice none 0 0) from rfl)⟩ (fun hHeld => ?_)
  clear hK K
  refine norm_ (a' := ?_) ?_ ?_
  rotate_left
  · show Act.put _ (some 24) _ = _
    simp only [Act.put, List.setIfInBounds_toArray, List.set_cons_zero, List.set_cons_succ, i64_w, i32_w]
    rfl
  refine one_ (i := 6) (N := some 26) #[true, true, true, true, true, true, true, false, false, false] rfl rfl (by kernel_rfl) (by decide) (fun K hK => ?_)
  obtain ⟨B1, d1, hv1, _, hC1⟩ := Kd.R_reads HM5.out
  refine Kd.R_append_rows_step k84 (Rr := k84.K w5) (w0 := w0) w0.heap.size (by rfl) (.tmp 24) (.tmp 25) 30 84 (.agg #[.int .i64 0, .string ⟨#[]⟩, .string ⟨#[]⟩, .string ⟨#[]⟩]) 56 rfl Tryz.underlying30 info84 rfl (by decide) (by decide) (.slice A5 n5 c5) (xs ++ [sync]) ys A1 6 c1 any (fun _ => False) rfl rfl HR5.out (ops_reads HM5.out) k84_KM (fun _ h => h.elim) (fun _ _ => trivial) HB5.out HB5.out.size (by have := HL.out; rw [List.length_append]; simp only [List.length_singleton]; omega) ?_
  intro v7 w7 hR7 hb7 hg7 hat7
  have HR7 := Lib.hid hR7
  have HB7 := Lib.hid hb7
  have HX7 := Lib.hid (R_blk HX5.out HR5.out hg7 (by decide))
  have HZ7 := Lib.hid (R_blk HZ5.out HR5.out hg7 (by decide))
  have z0 := (blk_cell HZ7.out 0).trans (show _ = some (Value.slice none 0 0) from rfl)
  have z1 := (blk_cell HZ7.out 1).trans (show _ = some (Value.int .i64 0) from rfl)
  have z2 := (blk_cell HZ7.out 2).trans (show _ = some (Value.int .i64 0) from rfl)
  have z3 := (blk_cell HZ7.out 3).trans (show _ = some (Value.slice none 0 0) from rfl)
  have z4 := (blk_cell HZ7.out 4).trans (show _ = some (Value.slice none 0 0) from rfl)
  have f7 := fun i => blk_frozen HZ7.out i
  clear hR7 hb7 hg7 hat7 hC1 hv1
  refine hK.out _ _ ⟨(blk_cell HX7.out 0).trans (show _ = some (Value.slice A0 1 c0) from rfl), (blk_cell HX7.out 1).trans (show _ = some (Value.int .i64 2) from rfl), (blk_cell HX7.out 2).trans (show _ = some (Value.int .i64 1) from rfl), (blk_cell HX7.out 3).trans (show _ = some (Value.slice none 0 0) from rfl), (blk_cell HX7.out 4).trans (show _ = some (Value.slice none 0 0) from rfl)⟩ (fun hHeld => ?_)
  clear hK K
  refine norm_ (a' := ?_) ?_ ?_
  rotate_left
  · show Act.put _ (some 26) _ = _
    simp only [Act.put, List.setIfInBounds_toArray, List.set_cons_zero, List.set_cons_succ, i64_w, i32_w]
    rfl
  refine last_ (i := 7) (N := none) #[true, true, true, true, true, true, true, true, false, false] rfl rfl (by kernel_rfl) (by decide) (fun K hK => ?_)
  refine skip_ (w1 := ?_) (by rfl) rfl ?_ ?_
  rotate_left
  · go_simp
    rfl
  refine hK.out _ _ ?_
  clear hK K
  refine pure_ (i := 8) (N := some 7) (v := ?_) (a' := ?_) #[true, true, true, true, true, true, true, true, true, false] rfl rfl (by kernel_rfl) (fun _ _ _ h => h) (Or.inl ⟨by rfl, ?_⟩) ?_ ?_
  rotate_left
  · intro w'
    go_simp
    with_reducible rfl
  rotate_left
  · simp only [Act.put, List.setIfInBounds_toArray, List.set_cons_zero, List.set_cons_succ, i64_w, i32_w]
    rfl
  refine pure_ (i := 9) (N := some 8) (v := ?_) (a' := ?_) #[true, true, true, true, true, true, true, true, true, true] rfl rfl (by kernel_rfl) (fun _ _ _ h => h) (Or.inl ⟨by rfl, ?_⟩) ?_ ?_
  rotate_left
  · intro w'
    go_simp
    with_reducible rfl
  rotate_left
  · simp only [Act.put, List.setIfInBounds_toArray, List.set_cons_zero, List.set_cons_succ, i64_w, i32_w]
    rfl
  refine done_ (by kernel_rfl) ?_
  go_wp2_with fail
  obtain ⟨hxW, hoW, hbW⟩ := put5 HZ7.out (.slice A0 1 c0) (.int .i64 2) (.int .i64 1) (.slice none 0 0) (.slice none 0 0) _ rfl
  have g0 := (blk_cell hxW 0).trans (show _ = some (Value.slice A0 1 c0) from rfl)
  have g1 := (blk_cell hxW 1).trans (show _ = some (Value.int .i64 2) from rfl)
  have g2 := (blk_cell hxW 2).trans (show _ = some (Value.int .i64 1) from rfl)
  have g3 := (blk_cell hxW 3).trans (show _ = some (Value.slice none 0 0) from rfl)
  have g4 := (blk_cell hxW 4).trans (show _ = some (Value.slice none 0 0) from rfl)
  have hoW' := hoW _ _ _ HR7.out
  have hbW' := hbW w0 (by have := HB.out.size; omega) HB7.out
  generalize (((((w7.setCell ⟨w.heap.size + 1 + 1, 0, none⟩ (.slice A0 1 c0)).setCell ⟨w.heap.size + 1 + 1, 1, none⟩ (.int .i64 2)).setCell ⟨w.heap.size + 1 + 1, 2, none⟩ (.int .i64 1)).setCell ⟨w.heap.size + 1 + 1, 3, none⟩ (.slice none 0 0)).setCell ⟨w.heap.size + 1 + 1, 4, none⟩ (.slice none 0 0)) = WF at *
  refine bodyPost_ret (v := .tuple #[store1 A0 c0, v7, .int .i64 0]) (by simp [results, Tryz.results64, go_sem, g0, g1, g2, g3, g4, store1]) rfl ⟨_, _, rfl, hoW', ?_, hbW'⟩
  rw [List.map_append, List.map_append, HKS.out]
  simp [sync]
end Go.Proofs.YtmeieeekjhjgjaaGreatDoor.H
