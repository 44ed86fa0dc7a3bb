/- The walk of the reference's may. -/
import Derived.Test.YtmeieeekjhjgjaaGreatDoorDa
import Derived.Test.YtmeieeekjhjgjaaGreatDoorCl
namespace Go.Proofs.YtmeieeekjhjgjaaGreatDoor.H
open Go.RowKit Go.Proofs.YtmeieeekjhjgjaaGreatDoorW.PrintWords

set_option maxHeartbeats 4000000 in
set_option maxRecDepth 100000 in
theorem may26_no (A0 A3 A4 : Option Addr) (c0 c3 c4 : Nat) (l0 : List S70) (next j : Int) (l3 : List S72) (n4 : Nat) (w : World) (hr0 : Kd.C k70 w A0 l0.length l0) (hc0 : l0.length ≤ c0) (hl0 : l0.length ≤ 9223372036854775807) (hs0 : OkNames l0)
    (h : ¬ (attrsB l0 = true ∧ next ≤ 1000000000 ∧ 1 ≤ j ∧ j < next ∧ l3.length ≤ 16)) :
    Calls Tryz.prog 26 #[.agg #[.slice A0 l0.length c0, .int .i64 next, .int .i64 j, .slice A3 l3.length c3, .slice A4 n4 c4]] w fun e w' => e = .returned (.bool (validB l0 next j l3)) ∧ Below w.heap.size w w' := by
  have HR0 := Lib.hid hr0
  have HV : Hid (validB l0 next j l3 = false) := Lib.hid (by
    rw [Bool.eq_false_iff]; intro hv; unfold validB at hv
    simp only [Bool.and_eq_true, decide_eq_true_eq] at hv
    exact h ⟨hv.1, hv.2.1, hv.2.2.1, hv.2.2.2.1, hv.2.2.2.2.1⟩)
  clear hr0
  generalize ha : attrsB l0 = f at *
  cases f
  · clear h
    go_enter Tryz.func26, Tryz.ntmps26
    go_wp2_with (go_at_call 57; refine (attributes57 A0 c0 l0 _ (Kd.C_below HR0.out (below_alloc (Below.refl _ _) _)) hc0 hl0 hs0).mono ?_; rw [ha]; rintro e w1 ⟨rfl, hb1⟩)
    go_ret
    exact ⟨ret_bool HV.out.symm, below_then (below_alloc (Below.refl _ _) _) (by simp) hb1⟩
  · by_cases h1 : next ≤ 1000000000
    · have h1' : ¬ (1000000000 : Int) < next := by omega
      by_cases h2 : 1 ≤ j
      · have h2' : ¬ j < 1 := by omega
        by_cases h3 : j < next
        · have h3' : ¬ next ≤ j := by omega
          have h4 : (16 : Int) < l3.length := by
            have : ¬ l3.length ≤ 16 := fun h4 => h ⟨rfl, h1, h2, h3, h4⟩
            omega
          clear h
          go_enter Tryz.func26, Tryz.ntmps26
          go_wp2_with (go_at_call 57; refine (attributes57 A0 c0 l0 _ (Kd.C_below HR0.out (below_alloc (Below.refl _ _) _)) hc0 hl0 hs0).mono ?_; rw [ha]; rintro e w1 ⟨rfl, hb1⟩; have hb1' := below_then (below_alloc (Below.refl _ w) _) (by simp) hb1; obtain ⟨q0, q1, q2, q3, q4⟩ := box5 hb1)
          go_ret
          exact ⟨ret_bool HV.out.symm, hb1'⟩
        · have h3' : next ≤ j := by omega
          clear h
          go_enter Tryz.func26, Tryz.ntmps26
          go_wp2_with (go_at_call 57; refine (attributes57 A0 c0 l0 _ (Kd.C_below HR0.out (below_alloc (Below.refl _ _) _)) hc0 hl0 hs0).mono ?_; rw [ha]; rintro e w1 ⟨rfl, hb1⟩; have hb1' := below_then (below_alloc (Below.refl _ w) _) (by simp) hb1; obtain ⟨q0, q1, q2, q3, q4⟩ := box5 hb1)
          go_ret
          exact ⟨ret_bool HV.out.symm, hb1'⟩
      · have h2' : j < 1 := by omega
        clear h
        go_enter Tryz.func26, Tryz.ntmps26
        go_wp2_with (go_at_call 57; refine (attributes57 A0 c0 l0 _ (Kd.C_below HR0.out (below_alloc (Below.refl _ _) _)) hc0 hl0 hs0).mono ?_; rw [ha]; rintro e w1 ⟨rfl, hb1⟩; have hb1' := below_then (below_alloc (Below.refl _ w) _) (by simp) hb1; obtain ⟨q0, q1, q2, q3, q4⟩ := box5 hb1)
        go_ret
        exact ⟨ret_bool HV.out.symm, hb1'⟩
    · have h1' : (1000000000 : Int) < next := by omega
      clear h
      go_enter Tryz.func26, Tryz.ntmps26
      go_wp2_with (go_at_call 57; refine (attributes57 A0 c0 l0 _ (Kd.C_below HR0.out (below_alloc (Below.refl _ _) _)) hc0 hl0 hs0).mono ?_; rw [ha]; rintro e w1 ⟨rfl, hb1⟩; have hb1' := below_then (below_alloc (Below.refl _ w) _) (by simp) hb1; obtain ⟨q0, q1, q2, q3, q4⟩ := box5 hb1)
      go_ret
      exact ⟨ret_bool HV.out.symm, hb1'⟩
theorem not_in_files {j : Int} {l : List S72} {x : Int} (h1 : x ≠ j) (h2 : (l.any fun y => decide (y.f0 = x)) = false) : decide (x ∈ files j l) = false := by
  rw [decide_eq_false_iff_not]
  unfold files
  intro h
  rcases List.mem_cons.1 h with h | h
  · exact h1 h
  · obtain ⟨y, hy, rfl⟩ := List.mem_map.1 h
    rw [List.any_eq_false] at h2
    exact h2 y hy (by simp)
theorem in_files {j : Int} {l : List S72} {k m : Nat} {x : Int} {y : S72} (hy : l[m]? = some y) (hm : m < k) (h : y.f0 = x) : decide (x ∈ files j (l.take k)) = true := by
  rw [decide_eq_true_eq]
  unfold files
  exact List.mem_cons_of_mem _ (List.mem_map.2 ⟨y, List.mem_of_getElem? (by rw [List.getElem?_take, if_pos hm]; exact hy), h⟩)
theorem any_f0 {l : List S72} {m : Nat} {y : S72} (x : Int) (hy : l[m]? = some y) : ((l.take (m + 1)).any fun y => decide (y.f0 = x)) = (((l.take m).any fun y => decide (y.f0 = x)) || decide (y.f0 = x)) := by
  rw [List.take_add_one, hy, List.any_append]; simp
set_option maxHeartbeats 4000000 in
set_option maxRecDepth 100000 in
theorem may26_yes (A0 A3 A4 : Option Addr) (c0 c3 c4 : Nat) (l0 : List S70) (next j : Int) (l3 : List S72) (n4 : Nat) (w : World) (hr0 : Kd.C k70 w A0 l0.length l0) (hc0 : l0.length ≤ c0) (hl0 : l0.length ≤ 9223372036854775807) (hs0 : OkNames l0) (hr3 : Kd.C k72 w A3 l3.length l3) (hc3 : l3.length ≤ c3) (hs3 : OkPieces l3)
    (ha : attrsB l0 = true) (h1 : next ≤ 1000000000) (h2 : 1 ≤ j) (h3 : j < next) (h4 : l3.length ≤ 16) :
    Calls Tryz.prog 26 #[.agg #[.slice A0 l0.length c0, .int .i64 next, .int .i64 j, .slice A3 l3.length c3, .slice A4 n4 c4]] w fun e w' => e = .returned (.bool (validB l0 next j l3)) ∧ Below w.heap.size w w' := by
  have HR0 := Lib.hid hr0
  have HR3 := Lib.hid hr3
  have HV : Hid (validB l0 next j l3 = piecesTo next j l3 l3.length) := Lib.hid (by
    unfold validB; rw [ha, decide_eq_true h1, decide_eq_true h2, decide_eq_true h3, decide_eq_true h4]; rfl)
  clear hr0 hr3
  have h1' : ¬ (1000000000 : Int) < next := by omega
  have h2' : ¬ j < 1 := by omega
  have h3' : ¬ next ≤ j := by omega
  have h4' : ¬ (16 : Int) < l3.length := by omega
  go_enter Tryz.func26, Tryz.ntmps26
  go_wp2_with (go_at_call 57; refine (attributes57 A0 c0 l0 _ (Kd.C_below HR0.out (below_alloc (Below.refl _ _) _)) hc0 hl0 hs0).mono ?_; rw [ha]; rintro e w1 ⟨rfl, hb1⟩; have hb1' := below_then (below_alloc (Below.refl _ w) _) (by simp) hb1; obtain ⟨q0, q1, q2, q3, q4⟩ := box5 hb1; have HBX := Lib.hid (blk_below (blk_new w _) hb1))
  go_loopw [39] (fun i wr => ∃ k : Nat, k ≤ l3.length ∧ i = .int .i64 k ∧ Below w1.heap.size w1 wr ∧ Hid (piecesTo next j l3 k = true)) (fun i _ => l3.length - (intOf i).toNat)
  case atStart => exact ⟨0, by omega, rfl, Below.refl _ _, Lib.hid rfl⟩
  case round =>
    obtain ⟨k, hk, rfl, hb, HK⟩ := hrel
    by_cases hlt : k < l3.length
    · have hbk := hb1'.trans (hb.mono hb1'.size)
      obtain ⟨ad, x, A1, c1, hA, hx, p0, p1, hc1, hd1⟩ := at72 (Kd.C_below HR3.out hbk) k hlt
      subst hA
      have HT := Lib.hid (piecesTo_succ next j l3 k x hx)
      have HOP := Lib.hid (hs3 x (List.mem_of_getElem? hx))
      have HBAD : Hid (piecesTo next j l3 (k + 1) = false → validB l0 next j l3 = false) := Lib.hid (fun h => by rw [HV.out]; exact piecesTo_bad next j l3 k hlt h)
      have HD1 := Lib.hid hd1
      clear hx hd1
      have hxb := blk_new wr (.cells #[.int .i64 x.f0, .slice A1 x.f1.length c1] 72)
      have hwb : Below w1.heap.size w1 (wr.alloc (.cells #[.int .i64 x.f0, .slice A1 x.f1.length c1] 72)) := hb.alloc hb.size _
      have HX := Lib.hid hxb
      have g1 := pw_cell_below hwb q1
      have g2 := pw_cell_below hwb q2
      have g3 := pw_cell_below hwb q3
      clear hxb
      by_cases t1 : 1 ≤ x.f0
      · have t1' : ¬ x.f0 < 1 := by omega
        by_cases t2 : x.f0 < next
        · have t2' : ¬ next ≤ x.f0 := by omega
          by_cases t3 : x.f0 = j
          · have t3' : (x.f0 == j) = true := beq_iff_eq.2 t3
            have HFIN : Hid (false = validB l0 next j l3) := Lib.hid (HBAD.out (by rw [HT.out, HK.out, show decide (x.f0 ∈ files j (l3.take k)) = true from decide_eq_true (by rw [t3]; exact List.mem_cons_self ..)]; simp)).symm
            clear t3
            go_wp2
            go_ret
            exact ⟨ret_bool HFIN.out, hb1'.trans (hwb.mono hb1'.size)⟩
          · have t3' : (x.f0 == j) = false := beq_eq_false_iff_ne.2 t3
            by_cases t4 : x.f1.length ≤ 64
            · have t4' : ¬ (64 : Int) < x.f1.length := by omega
              have hkc : k ≤ c3 := by omega
              have HT3 := Lib.hid t3
              clear t3
              go_wp2
              generalize hWg : wr.alloc (.cells #[.int .i64 x.f0, .slice A1 x.f1.length c1] 72) = Wg at *
              have hbs := hb.size
              have HD2 := Lib.hid (Kd.C_below HD1.out (show Below wr.heap.size wr Wg by rw [← hWg]; exact below_alloc (Below.refl _ _) _))
              generalize hbn : wr.heap.size = bn at *
              clear hWg hbn p0 p1
              have hwk := hb1'.trans (hwb.mono hb1'.size)
              go_loopw [72] (fun i wr => ∃ m : Nat, m ≤ k ∧ i = .int .i64 m ∧ Below Wg.heap.size Wg wr ∧ Hid (((l3.take m).any fun y => decide (y.f0 = x.f0)) = false)) (fun i _ => k - (intOf i).toNat)
              case atStart => exact ⟨0, by omega, rfl, Below.refl _ _, Lib.hid rfl⟩
              case round =>
                obtain ⟨m, hm, rfl, hb2, HM⟩ := hrel
                have e0 : wr.cell? ⟨bn, 0, none⟩ = some (.int .i64 x.f0) := by rw [blk_cell (blk_below HX.out hb2)]; rfl
                have e1 : wr.cell? ⟨bn, 1, none⟩ = some (.slice A1 x.f1.length c1) := by rw [blk_cell (blk_below HX.out hb2)]; rfl
                by_cases hmk : m < k
                · obtain ⟨ad', y, Ay, cy, hAy, hy, r0, r1, _, _⟩ := at72 (Kd.C_below HR3.out (hwk.trans (hb2.mono hwk.size))) m (by omega)
                  cases hAy
                  have HFF : Hid (y.f0 = x.f0 → false = validB l0 next j l3) := Lib.hid (fun he => (HBAD.out (by rw [HT.out, HK.out, in_files hy hmk he]; simp)).symm)
                  have HAN := Lib.hid (any_f0 x.f0 hy)
                  have e0' := pw_cell_below (below_alloc (Below.refl _ wr) (.cells #[.int .i64 y.f0, .slice Ay y.f1.length cy] 72)) e0
                  clear hy
                  by_cases he : y.f0 = x.f0
                  · have he' : (y.f0 == x.f0) = true := beq_iff_eq.2 he
                    have HFIN := Lib.hid (HFF.out he)
                    clear he
                    go_wp2
                    go_ret
                    exact ⟨ret_bool HFIN.out, (hwk.trans (hb2.mono hwk.size)).alloc (hwk.trans (hb2.mono hwk.size)).size _⟩
                  · have he' : (y.f0 == x.f0) = false := beq_eq_false_iff_ne.2 he
                    have HNE : Hid (decide (y.f0 = x.f0) = false) := Lib.hid (decide_eq_false he)
                    clear he
                    go_wp2
                    go_roundw
                    case rel => exact ⟨m + 1, by omega, by go_num, hb2.alloc hb2.size _, Lib.hid (by rw [HAN.out, HM.out, HNE.out]; rfl)⟩
                    case measure => simp [intOf]; omega
                · have : m = k := by omega
                  subst this
                  have HB2 := Lib.hid hb2
                  have HWK := Lib.hid (hwk.trans (hb2.mono hwk.size))
                  have HD3 := Lib.hid (Kd.C_below HD2.out hb2)
                  have HNF : Hid (decide (x.f0 ∈ files j (l3.take m)) = false) := Lib.hid (not_in_files HT3.out HM.out)
                  have hol := HOP.out.1
                  clear hb2
                  go_wp2
                  go_loop [85] (fun i => ∃ q : Nat, q ≤ x.f1.length ∧ i = .int .i64 q ∧ Hid (delTo x.f1 q = true)) (fun i => x.f1.length - (intOf i).toNat)
                  case atStart => exact ⟨0, by omega, rfl, Lib.hid rfl⟩
                  case round =>
                    obtain ⟨q, hq, rfl, HQ⟩ := hrel
                    by_cases hqt : q < x.f1.length
                    · obtain ⟨adq, y, hAq, hy, r0⟩ := atStr HD3.out q hqt
                      subst hAq
                      have HTQ := Lib.hid (delTo_succ x.f1 q)
                      have HXQ := Lib.hid (HOP.out.2 y (List.mem_of_getElem? hy))
                      have HBQ : Hid (delOk x.f1 q = false → false = validB l0 next j l3) := Lib.hid (fun h => (HBAD.out (by rw [HT.out, HK.out, delB_bad x.f1 q hqt h]; simp)).symm)
                      have HGX := Lib.hid (getD_of (d := ByteArray.empty) hy)
                      clear hy
                      generalize hn : nameB y = f at *
                      have HN := Lib.hid hn
                      cases f
                      · go_wp2_with (go_at_call 58; refine (validName58 y _ HXQ.out).mono ?_; rw [hn]; rintro e w9 ⟨rfl, rfl⟩)
                        go_ret
                        exact ⟨ret_bool (HBQ.out (by unfold delOk; rw [HGX.out, HN.out]; rfl)), HWK.out⟩
                      · by_cases h0 : q = 0
                        · subst h0
                          have r0' : wr.cell? adq = some (.string y) := r0
                          go_wp2_with (go_at_call 58; refine (validName58 y _ HXQ.out).mono ?_; rw [hn]; rintro e w9 ⟨rfl, rfl⟩)
                          go_round
                          case rel => exact ⟨1, by omega, by go_num, by rw [show (1 : Nat) = 0 + 1 from rfl, HTQ.out, HQ.out]; unfold delOk; rw [HGX.out, HN.out]; exact rfl⟩
                          case measure => simp [intOf]; omega
                        · obtain ⟨ad2, z, hA2, hz, r1⟩ := atStr HD3.out (q - 1) (by omega)
                          cases hA2
                          have HGY := Lib.hid (getD_of (d := ByteArray.empty) hz)
                          clear hz
                          have hk1 : ((q : Int) - 1).toNat = q - 1 := by omega
                          have r2 : wr.cell? (adq.add ((q : Int) - 1).toNat) = some (.string z) := by rw [hk1]; exact r1
                          have hb1 : (0 : Int) ≤ (q : Int) - 1 := by omega
                          have hb2 : (1 : Int) ≤ (q : Int) := by omega
                          have hb3 : (q : Int) - 1 < x.f1.length := by omega
                          have hb4 : (0 : Int) < (q : Int) := by omega
                          clear hk1
                          have HD : Hid (delOk x.f1 q = lessB z y) := Lib.hid (by unfold delOk; rw [HGX.out, HGY.out, HN.out, decide_eq_false h0]; simp)
                          have hlb : Op.bytesLess z.toList y.toList = lessB z y := rfl
                          generalize lessB z y = lb at *
                          cases lb
                          · go_wp2_with (go_at_call 58; refine (validName58 y _ HXQ.out).mono ?_; rw [hn]; rintro e w9 ⟨rfl, rfl⟩)
                            go_ret
                            exact ⟨ret_bool (HBQ.out HD.out), HWK.out⟩
                          · go_wp2_with (go_at_call 58; refine (validName58 y _ HXQ.out).mono ?_; rw [hn]; rintro e w9 ⟨rfl, rfl⟩)
                            go_round
                            case rel => exact ⟨q + 1, by omega, by go_num, by rw [HTQ.out, HQ.out, HD.out]; exact rfl⟩
                            case measure => simp [intOf]; omega
                    · have : q = x.f1.length := by omega
                      subst this
                      have HDB : Hid (delB x.f1 = true) := Lib.hid (by unfold delB; rw [HQ.out, decide_eq_true t4]; rfl)
                      have HPK : Hid (piecesTo next j l3 (m + 1) = true) := Lib.hid (by rw [HT.out, HK.out, HNF.out, HDB.out, decide_eq_true t1, decide_eq_true t2]; rfl)
                      go_wp2
                      go_roundw
                      case rel => exact ⟨m + 1, by omega, by go_num, hwb.trans (HB2.out.mono hwb.size), HPK⟩
                      case measure => simp [intOf]; omega
            · have t4' : (64 : Int) < x.f1.length := by omega
              have HFIN : Hid (false = validB l0 next j l3) := Lib.hid (HBAD.out (by rw [HT.out, HK.out]; unfold delB; rw [decide_eq_false t4]; simp)).symm
              clear t3
              go_wp2
              go_ret
              exact ⟨ret_bool HFIN.out, hb1'.trans (hwb.mono hb1'.size)⟩
        · have t2' : next ≤ x.f0 := by omega
          have HFIN : Hid (false = validB l0 next j l3) := Lib.hid (HBAD.out (by rw [HT.out, HK.out, decide_eq_false t2]; simp)).symm
          clear t2
          go_wp2
          go_ret
          exact ⟨ret_bool HFIN.out, hb1'.trans (hwb.mono hb1'.size)⟩
      · have t1' : x.f0 < 1 := by omega
        have HFIN : Hid (false = validB l0 next j l3) := Lib.hid (HBAD.out (by rw [HT.out, HK.out, decide_eq_false t1]; simp)).symm
        clear t1
        go_wp2
        go_ret
        exact ⟨ret_bool HFIN.out, hb1'.trans (hwb.mono hb1'.size)⟩
    · have : k = l3.length := by omega
      subst this
      go_wp2
      go_ret
      exact ⟨ret_bool (by rw [HV.out, HK.out]), hb1'.trans (hb.mono hb1'.size)⟩
theorem may26 (A0 A3 A4 : Option Addr) (c0 c3 c4 : Nat) (l0 : List S70) (next j : Int) (l3 : List S72) (n4 : Nat) (w : World) (hr0 : Kd.C k70 w A0 l0.length l0) (hc0 : l0.length ≤ c0) (hl0 : l0.length ≤ 9223372036854775807) (hs0 : OkNames l0) (hr3 : Kd.C k72 w A3 l3.length l3) (hc3 : l3.length ≤ c3) (hs3 : OkPieces l3) :
    Calls Tryz.prog 26 #[.agg #[.slice A0 l0.length c0, .int .i64 next, .int .i64 j, .slice A3 l3.length c3, .slice A4 n4 c4]] w fun e w' => e = .returned (.bool (validB l0 next j l3)) ∧ Below w.heap.size w w' := by
  by_cases h : attrsB l0 = true ∧ next ≤ 1000000000 ∧ 1 ≤ j ∧ j < next ∧ l3.length ≤ 16
  · exact may26_yes A0 A3 A4 c0 c3 c4 l0 next j l3 n4 w hr0 hc0 hl0 hs0 hr3 hc3 hs3 h.1 h.2.1 h.2.2.1 h.2.2.2.1 h.2.2.2.2
  · exact may26_no A0 A3 A4 c0 c3 c4 l0 next j l3 n4 w hr0 hc0 hl0 hs0 h
end Go.Proofs.YtmeieeekjhjgjaaGreatDoor.H
