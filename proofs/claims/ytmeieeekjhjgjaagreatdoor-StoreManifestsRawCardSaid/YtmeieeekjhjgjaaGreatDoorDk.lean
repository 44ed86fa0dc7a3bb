/- The walk of the reference's ParseManifest. -/
import Derived.Test.YtmeieeekjhjgjaaGreatDoorDj
import Derived.Test.YtmeieeekjhjgjaaGreatDoorCt
import Derived.Test.YtmeieeekjhjgjaaGreatDoorWLast
namespace Go.Proofs.YtmeieeekjhjgjaaGreatDoor.H
open Go.RowKit Go.Proofs.YtmeieeekjhjgjaaGreatDoorW.PrintWords Go.Proofs.YtmeieeekjhjgjaaGreatDoorW.PrintLast

/-- What the reference's ParseManifest answers. -/
def RefPost (w : World) (s : ByteArray) (e : Ending) (w' : World) : Prop := Below w.heap.size w w' ∧
  ((4 ≤ s.size ∧ validSt (parseR (headB s)) = true ∧ manSt (parseR (headB s)) = s ∧ ∃ A0 c0 A3 c3, e = .returned (.tuple #[.agg #[.slice A0 (parseR (headB s)).l0.length c0, .int .i64 (parseR (headB s)).next, .int .i64 (parseR (headB s)).j, .slice A3 (parseR (headB s)).l3.length c3, .slice none 0 0], .int .i64 0])
      ∧ Kd.C k70 w' A0 (parseR (headB s)).l0.length (parseR (headB s)).l0 ∧ (parseR (headB s)).l0.length ≤ c0 ∧ Kd.C k72 w' A3 (parseR (headB s)).l3.length (parseR (headB s)).l3 ∧ (parseR (headB s)).l3.length ≤ c3)
   ∨ (¬ (4 ≤ s.size ∧ validSt (parseR (headB s)) = true ∧ manSt (parseR (headB s)) = s) ∧ e = .returned (.tuple #[.agg zeroStore, .int .i64 9])))
theorem ownTop {w : World} {B : Nat} {v : Value} {xs : List ByteArray} (h : Kd.string.R 9 w B any v xs) : Kd.string.R 9 w B (fun k => B ≤ k) v xs := Kd.R_mono (Kd.R_bound h) fun k hk => hk.2.1
theorem lineR_cons (st : St) (w0 w1 : ByteArray) (r : List ByteArray) : lineR st (w0 :: w1 :: r) =
    if w0 = wordNext ∧ r.length = 0 then { st with next := numR w1 }
    else if w0 = wordJournal ∧ r.length = 0 then { st with j := numR w1 }
    else if w0 = wordAttribute ∧ r.length = 1 then { st with l0 := st.l0 ++ [⟨w1, decide (r.head? = some ⟨#[49]⟩)⟩] }
    else if w0 = wordPiece then { st with l3 := st.l3 ++ [⟨numR w1, r⟩] }
    else st := rfl
theorem rest_reads {W : World} {g2 : Nat} {w0 w1 : ByteArray} {r : List ByteArray} {cap : Nat} (hcap : r.length + 2 ≤ cap) (h : ∀ (k : Nat) y, (w0 :: w1 :: r)[k]? = some y → W.cell? ⟨g2, k, none⟩ = some (.string y)) (hl : r.length ≤ 100001) : ReadsRow (fun (x : ByteArray) cs => cs = [Value.string x]) Kd.string.sz W (if cap = 2 then some ⟨g2, 0, none⟩ else some ⟨g2, 2, none⟩) r.length r := by
  refine ⟨rfl, by omega, fun h0 => ?_⟩
  have hr : ¬ cap = 2 := by omega
  refine ⟨⟨g2, 2, none⟩, by rw [if_neg hr], fun j p hj => ⟨[Value.string p], rfl, rfl, fun i u hu => ?_⟩⟩
  rcases i with _ | i
  · cases hu
    rw [show j * Kd.string.sz + 0 = j from by show j * 1 + 0 = j; omega]
    have e : (⟨g2, 2, none⟩ : Addr).add j = ⟨g2, 2 + j, none⟩ := by
      unfold Addr.add
      split
      · rename_i h0; subst h0; rfl
      · rfl
    rw [e]
    exact h (2 + j) p (by rw [Nat.add_comm]; exact hj)
  · simp at hu
set_option maxRecDepth 100000 in
set_option maxHeartbeats 4000000 in
theorem parse13_short (s : ByteArray) (h4 : s.size < 4) (w : World) : Calls Tryz.prog 13 #[.string s] w (RefPost w s) := by
  have hx := blk_new w (.cells zeroStore 27)
  have z0 := zero_set hx 0 (.slice none 0 0) rfl
  have z1 := zero_set hx 1 (.int .i64 0) rfl
  have z2 := zero_set hx 2 (.int .i64 0) rfl
  have z3 := zero_set hx 3 (.slice none 0 0) rfl
  have z4 := zero_set hx 4 (.slice none 0 0) rfl
  unfold zeroStore at z0 z1 z2 z3 z4
  clear hx
  go_enter Tryz.func13, Tryz.ntmps13
  go_wp2_with fail
  refine bodyPost_ret (v := .tuple #[.agg zeroStore, .int .i64 9]) (by simp [results, Tryz.results13, go_sem, zeroStore]) rfl ⟨?_, .inr ⟨fun h => by omega, rfl⟩⟩
  exact below_alloc (Below.refl _ _) _
set_option maxRecDepth 100000 in
set_option maxHeartbeats 4000000 in
set_option pp.deepTerms true in
set_option pp.maxSteps 1000000 in
theorem parse13_long (s : ByteArray) (h4 : 4 ≤ s.size) (hs : s.size ≤ 100000) (w : World) : Calls Tryz.prog 13 #[.string s] w (RefPost w s) := by
  have h4' : ¬ (s.size : Int) < 4 := by omega
  have h4'' : (0 : Int) ≤ (s.size : Int) - 4 := by omega
  have h5 : (s.size : Int) - 4 ≤ s.size := by omega
  have h6 : ((s.size : Int) - 4).toNat = s.size - 4 := by omega
  have HHB : Hid ((headB s).size ≤ 100000) := Lib.hid (by unfold headB; rw [ByteArray.size_extract]; omega)
  go_enter Tryz.func13, Tryz.ntmps13
  go_wp2_with fail
  have hx0 : ((w.alloc (.cells #[.slice none 0 0, .int .i64 0, .int .i64 0, .slice none 0 0, .slice none 0 0] 27)).alloc (.cells #[.slice none 0 0, .int .i64 0, .int .i64 0, .slice none 0 0, .slice none 0 0] 27)).heap[w.heap.size]? = some (.cells zeroStore 27 (0, 0)) := blk_alloc (blk_new w _) _
  have hy0 : ((w.alloc (.cells #[.slice none 0 0, .int .i64 0, .int .i64 0, .slice none 0 0, .slice none 0 0] 27)).alloc (.cells #[.slice none 0 0, .int .i64 0, .int .i64 0, .slice none 0 0, .slice none 0 0] 27)).heap[w.heap.size + 1]? = some (.cells zeroStore 27 (0, 0)) := by
    have := blk_new (w.alloc (.cells #[.slice none 0 0, .int .i64 0, .int .i64 0, .slice none 0 0, .slice none 0 0] 27)) (.cells zeroStore 27)
    rw [World.size_alloc] at this; exact this
  have hb0 : Below w.heap.size w ((w.alloc (.cells #[.slice none 0 0, .int .i64 0, .int .i64 0, .slice none 0 0, .slice none 0 0] 27)).alloc (.cells #[.slice none 0 0, .int .i64 0, .int .i64 0, .slice none 0 0, .slice none 0 0] 27)) := below_alloc (below_alloc (Below.refl _ _) _) _
  refine (cut37 (headB s) 10 (by decide) HHB.out _).mono ?_
  rintro e w1 ⟨g, cap, L, cs, rfl, hcap, hlen, hcut, hg, hgb, hcs, hb1⟩
  have hgne : w.heap.size + 1 < g := by simp at hg; omega
  have HP0 : Hid (QS w.heap.size (w.heap.size + 1) g cs w w1 st0) := Lib.hid
    ⟨hb0.trans (hb1.mono hb0.size), ⟨none, 0, none, 0, blk_below hy0 hb1, Kd.R_nil .., Kd.R_nil ..⟩, blk_below hx0 hb1, hgb, by omega, by omega, by omega⟩
  generalize ((w.alloc (.cells #[.slice none 0 0, .int .i64 0, .int .i64 0, .slice none 0 0, .slice none 0 0] 27)).alloc (.cells #[.slice none 0 0, .int .i64 0, .int .i64 0, .slice none 0 0, .slice none 0 0] 27)) = W0 at *
  have HLL := Lib.hid (cut_bounds hcut HHB.out)
  have HPP : Hid (parseR (headB s) = rAt L L.length) := Lib.hid (by unfold parseR rAt; rw [cutR_of hcut, List.take_length])
  have HCS := Lib.hid hcs
  have hLL := HLL.out.1
  clear hx0 hy0 hb0 hcut hg hgb hcs hb1 hgne
  go_wp2_with fail
  go_loopw [21] (fun i wr => ∃ k : Nat, k ≤ L.length ∧ i = .int .i64 k ∧ Hid (QS w.heap.size (w.heap.size + 1) g cs w wr (rAt L k))) (fun i _ => L.length - (intOf i).toNat)
  case atStart => exact ⟨0, by omega, rfl, HP0⟩
  case round =>
    obtain ⟨k, hk, rfl, HP⟩ := hrel
    clear HP0
    by_cases hlt : k < L.length
    · have hx := List.getElem?_eq_getElem hlt
      have HXS := Lib.hid (HLL.out.2 _ (List.getElem_mem hlt))
      generalize L[k] = x at *
      have hcl : wr.cell? ⟨g, k, none⟩ = some (.string x) := (blk_cell HP.out.lines k).trans (HCS.out k x hx)
      have HSU := Lib.hid (rAt_succ L k x hx)
      have HSL := Lib.hid (rAt_le L k)
      generalize rAt L k = st at *
      clear hx
      go_wp2_with fail
      refine (cut37 x 32 (by decide) HXS.out wr).mono ?_
      rintro e W ⟨g2, cap2, ws, cs2, rfl, hcap2, hlen2, hcut2, hg2, hgb2, hcs2, hb2⟩
      have HPW := Lib.hid (HP.out.step hb2)
      have HWB := Lib.hid (cut_bounds hcut2 HXS.out)
      have HCW : Hid (∀ V, Below W.heap.size W V → ∀ (k : Nat) y, ws[k]? = some y → V.cell? ⟨g2, k, none⟩ = some (.string y)) := Lib.hid fun V hV k y hy => pw_cell_below hV ((blk_cell hgb2 k).trans (hcs2 k y hy))
      rw [cutR_of hcut2] at HSU
      clear hcut2 hgb2 hcs2 hb2 hcl HP
      obtain ⟨A0, a0, A3, a3, hbx, hR0, hR3⟩ := HPW.out.box
      have HBX := Lib.hid hbx
      have HR0 := Lib.hid hR0
      have HR3 := Lib.hid hR3
      clear hbx hR0 hR3
      rcases ws with _ | ⟨w0, r⟩
      · simp at hlen2
      have c0 := HCW.out W (Below.refl _ _) 0 w0 rfl
      have k1 : (w0.toList == [110, 101, 120, 116]) = decide (w0 = wordNext) := by rw [← toList_beq]; rw [ByteArray.toList_eq wordNext]; rfl
      have k2 : (w0.toList == [106, 111, 117, 114, 110, 97, 108]) = decide (w0 = wordJournal) := by rw [← toList_beq]; rw [ByteArray.toList_eq wordJournal]; rfl
      have k3 : (w0.toList == [97, 116, 116, 114, 105, 98, 117, 116, 101]) = decide (w0 = wordAttribute) := by rw [← toList_beq]; rw [ByteArray.toList_eq wordAttribute]; rfl
      have k4 : (w0.toList == [112, 105, 101, 99, 101]) = decide (w0 = wordPiece) := by rw [← toList_beq]; rw [ByteArray.toList_eq wordPiece]; rfl
      have hln : (w0 :: r).length = r.length + 1 := rfl
      rw [hln] at hcap2 hlen2
      have hpos : (0 : Int) < ↑r.length + 1 := by omega
      rcases r with _ | ⟨w1', r⟩
      · -- one word
        have HN : Hid (lineR st [w0] = st) := Lib.hid rfl
        generalize decide (w0 = wordNext) = t1 at *
        generalize decide (w0 = wordJournal) = t2 at *
        generalize decide (w0 = wordAttribute) = t3 at *
        generalize decide (w0 = wordPiece) = t4 at *
        cases t1 <;> cases t2 <;> cases t3 <;> cases t4
        all_goals
          go_wp2_with fail
          go_roundw
          case rel => exact ⟨k + 1, by omega, by go_num, by rw [HSU.out, HN.out]; exact HPW⟩
          case measure => simp [intOf]; omega
      · have hrl : r.length ≤ 100001 := by have := HWB.out.1; simp only [List.length_cons] at this; omega
        have HWS1 : w1'.size ≤ 100000 := HWB.out.2 w1' (by simp)
        have HWS1 := Lib.hid HWS1
        have c1 := HCW.out W (Below.refl _ _) 1 w1' rfl
        have HRD : Hid (∀ V, Below W.heap.size W V → ReadsRow (fun (x : ByteArray) cs => cs = [Value.string x]) Kd.string.sz V (if cap2 = 2 then some ⟨g2, 0, none⟩ else some ⟨g2, 2, none⟩) r.length r) := Lib.hid fun V hV => rest_reads (by simpa using hcap2) (HCW.out V hV) hrl
        have hl2 : (w0 :: w1' :: r).length = r.length + 2 := rfl
        have hl1 : (w1' :: r).length = r.length + 1 := rfl
        rw [hl2] at *
        rw [hl1] at *
        clear hl2 hl1 hln
        have hcap3 : r.length + 2 ≤ cap2 := hcap2
        have q0 := (blk_cell HBX.out 0).trans (show _ = some (Value.slice A0 st.l0.length a0) from rfl)
        have q1 := (blk_cell HBX.out 1).trans (show _ = some (Value.int .i64 st.next) from rfl)
        have q2 := (blk_cell HBX.out 2).trans (show _ = some (Value.int .i64 st.j) from rfl)
        have q3 := (blk_cell HBX.out 3).trans (show _ = some (Value.slice A3 st.l3.length a3) from rfl)
        have f1 := fun i => blk_frozen HBX.out i
        have b0 : (0 : Int) < ↑r.length + 2 := by omega
        have b1 : (1 : Int) < ↑r.length + 2 := by omega
        have b2 : (2 : Int) ≤ ↑r.length + 2 := by omega
        clear hpos hcap2 hlen2
        by_cases hw1 : w0 = wordNext
        · rw [decide_eq_true hw1] at k1
          rw [decide_eq_false (show ¬ w0 = wordJournal by rw [hw1]; decide)] at k2
          rw [decide_eq_false (show ¬ w0 = wordAttribute by rw [hw1]; decide)] at k3
          rw [decide_eq_false (show ¬ w0 = wordPiece by rw [hw1]; decide)] at k4
          by_cases hr0 : r = []
          · subst hr0
            have HN : Hid (lineR st [w0, w1'] = { st with next := numR w1' }) := Lib.hid (by rw [lineR_cons, if_pos ⟨hw1, rfl⟩])
            clear hw1
            have HP4 := Lib.hid (HPW.out.setNext (numR w1'))
            go_wp2_with (go_at_call 38; refine (number38 w1' HWS1.out W).mono ?_; rintro e w4 ⟨rfl, rfl⟩)
            go_roundw
            case rel => exact ⟨k + 1, by omega, by go_num, by rw [HSU.out, HN.out]; exact HP4⟩
            case measure => simp [intOf]; omega
          · have hrp : 1 ≤ r.length := List.length_pos_iff.2 hr0
            have hz2 : ((r.length : Int) + 2 == 2) = false := beq_eq_false_iff_ne.2 (by omega)
            have hz3 : ((r.length : Int) == 0) = false := beq_eq_false_iff_ne.2 (by omega)
            have HN : Hid (lineR st (w0 :: w1' :: r) = st) := Lib.hid (by rw [lineR_cons, if_neg (fun h => absurd h.2 (by omega)), if_neg (fun h => absurd h.1 (by rw [hw1]; decide)), if_neg (fun h => absurd h.1 (by rw [hw1]; decide)), if_neg (fun h => absurd h (by rw [hw1]; decide))])
            clear hw1 hr0
            go_wp2_with fail
            go_roundw
            case rel => exact ⟨k + 1, by omega, by go_num, by rw [HSU.out, HN.out]; exact HPW⟩
            case measure => simp [intOf]; omega
        by_cases hw2 : w0 = wordJournal
        · rw [decide_eq_true hw2] at k2
          rw [decide_eq_false (show ¬ w0 = wordNext by rw [hw2]; decide)] at k1
          rw [decide_eq_false (show ¬ w0 = wordAttribute by rw [hw2]; decide)] at k3
          rw [decide_eq_false (show ¬ w0 = wordPiece by rw [hw2]; decide)] at k4
          by_cases hr0 : r = []
          · subst hr0
            have HN : Hid (lineR st [w0, w1'] = { st with j := numR w1' }) := Lib.hid (by rw [lineR_cons, if_neg (fun h => absurd h.1 (by rw [hw2]; decide)), if_pos ⟨hw2, rfl⟩])
            clear hw2
            have HP4 := Lib.hid (HPW.out.setJ (numR w1'))
            go_wp2_with (go_at_call 38; refine (number38 w1' HWS1.out W).mono ?_; rintro e w4 ⟨rfl, rfl⟩)
            go_roundw
            case rel => exact ⟨k + 1, by omega, by go_num, by rw [HSU.out, HN.out]; exact HP4⟩
            case measure => simp [intOf]; omega
          · have hrp : 1 ≤ r.length := List.length_pos_iff.2 hr0
            have hz2 : ((r.length : Int) + 2 == 2) = false := beq_eq_false_iff_ne.2 (by omega)
            have hz3 : ((r.length : Int) == 0) = false := beq_eq_false_iff_ne.2 (by omega)
            have HN : Hid (lineR st (w0 :: w1' :: r) = st) := Lib.hid (by rw [lineR_cons, if_neg (fun h => absurd h.1 (by rw [hw2]; decide)), if_neg (fun h => absurd h.2 (by omega)), if_neg (fun h => absurd h.1 (by rw [hw2]; decide)), if_neg (fun h => absurd h (by rw [hw2]; decide))])
            clear hw2 hr0
            go_wp2_with fail
            go_roundw
            case rel => exact ⟨k + 1, by omega, by go_num, by rw [HSU.out, HN.out]; exact HPW⟩
            case measure => simp [intOf]; omega
        by_cases hw3 : w0 = wordAttribute
        · rw [decide_eq_true hw3] at k3
          rw [decide_eq_false (show ¬ w0 = wordNext by rw [hw3]; decide)] at k1
          rw [decide_eq_false (show ¬ w0 = wordJournal by rw [hw3]; decide)] at k2
          rw [decide_eq_false (show ¬ w0 = wordPiece by rw [hw3]; decide)] at k4
          by_cases hr1 : r.length = 1
          · rcases r with _ | ⟨r0, _ | ⟨r1, r⟩⟩
            · simp at hr1
            · have c2 := HCW.out W (Below.refl _ _) 2 r0 rfl
              have HDR : Hid (decide (([r0] : List ByteArray).head? = some ⟨#[49]⟩) = (r0.toList == [49])) := Lib.hid (by
                have k5 : (r0.toList == [49]) = decide (r0 = ⟨#[49]⟩) := by rw [← toList_beq]; rw [ByteArray.toList_eq ⟨#[49]⟩]
                rw [k5]; simp)
              have HN : Hid (lineR st [w0, w1', r0] = { st with l0 := st.l0 ++ [⟨w1', r0.toList == [49]⟩] }) := Lib.hid (by rw [lineR_cons, if_neg (fun h => absurd h.1 (by rw [hw3]; decide)), if_neg (fun h => absurd h.1 (by rw [hw3]; decide)), if_pos ⟨hw3, rfl⟩, HDR.out])
              clear hw3 hr1 HRD
              go_wp2_with fail
              refine start_ (n := 14) (S := fun w' => w'.cell? ⟨w.heap.size + 1, 0, none⟩ = some (.slice A0 st.l0.length a0) ∧ w'.cell? ⟨g2, 1, none⟩ = some (.string w1') ∧ w'.cell? ⟨g2, 2, none⟩ = some (.string r0)) (ds := [11, 13]) #[false, false, false, false, false, false, false, false, false, false, false, false, false, false] (by kernel_rfl) rfl rfl ⟨q0, c1, c2⟩ (fun hHeld => ?_)
              refine pure_ (i := 0) (N := some 67) (v := ?_) (a' := ?_) #[true, false, false, false, false, false, false, false, false, false, false, false, false, false] rfl rfl (by kernel_rfl) (fun _ _ _ h => h) (Or.inl ⟨by rfl, ?_⟩) ?_ ?_
              rotate_left
              · intro w'
                go_simp
                with_reducible rfl
              rotate_left
              · simp only [Act.put, List.setIfInBounds_toArray, List.set_cons_zero, List.set_cons_succ, i64_w, i32_w]
                rfl
              refine pure_ (i := 2) (N := some 69) (v := ?_) (a' := ?_) #[true, false, true, false, false, false, false, false, false, false, false, false, false, false] rfl rfl (by kernel_rfl) (fun _ _ _ h => h) (Or.inl ⟨by rfl, ?_⟩) ?_ ?_
              rotate_left
              · intro w'
                go_simp
                with_reducible rfl
              rotate_left
              · simp only [Act.put, List.setIfInBounds_toArray, List.set_cons_zero, List.set_cons_succ, i64_w, i32_w]
                rfl
              refine pure_ (i := 3) (N := some 70) (v := ?_) (a' := ?_) #[true, false, true, true, false, false, false, false, false, false, false, false, false, false] rfl rfl (by kernel_rfl) (fun _ _ _ h => h) (Or.inl ⟨by rfl, ?_⟩) ?_ ?_
              rotate_left
              · intro w'
                go_simp
                with_reducible rfl
              rotate_left
              · simp only [Act.put, List.setIfInBounds_toArray, List.set_cons_zero, List.set_cons_succ, i64_w, i32_w]
                rfl
              refine pure_ (i := 5) (N := some 72) (v := ?_) (a' := ?_) #[true, false, true, true, false, true, false, false, false, false, false, false, false, false] rfl rfl (by kernel_rfl) (fun _ _ _ h => h) (Or.inl ⟨by rfl, ?_⟩) ?_ ?_
              rotate_left
              · intro w'
                go_simp
                with_reducible rfl
              rotate_left
              · simp only [Act.put, List.setIfInBounds_toArray, List.set_cons_zero, List.set_cons_succ, i64_w, i32_w]
                rfl
              refine pure_ (i := 6) (N := some 73) (v := ?_) (a' := ?_) #[true, false, true, true, false, true, true, false, false, false, false, false, false, false] rfl rfl (by kernel_rfl) (fun _ _ _ h => h) (Or.inl ⟨by rfl, ?_⟩) ?_ ?_
              rotate_left
              · intro w'
                go_simp
                with_reducible rfl
              rotate_left
              · simp only [Act.put, List.setIfInBounds_toArray, List.set_cons_zero, List.set_cons_succ, i64_w, i32_w]
                rfl
              refine take_ (i := 1) (N := some 68) (v := ?_) (a' := ?_) #[true, true, true, true, false, true, true, false, false, false, false, false, false, false] rfl rfl (by kernel_rfl) (fun _ _ _ h => h) (Or.inl ⟨by rfl, ?_⟩) hHeld ?_ ?_
              rotate_left
              · rintro w' ⟨s0, s1, s2⟩
                go_simp
                with_reducible rfl
              rotate_left
              · simp only [Act.put, List.setIfInBounds_toArray, List.set_cons_zero, List.set_cons_succ, i64_w, i32_w]
                rfl
              refine take_ (i := 4) (N := some 71) (v := ?_) (a' := ?_) #[true, true, true, true, true, true, true, false, false, false, false, false, false, false] rfl rfl (by kernel_rfl) (fun _ _ _ h => h) (Or.inl ⟨by rfl, ?_⟩) hHeld ?_ ?_
              rotate_left
              · rintro w' ⟨s0, s1, s2⟩
                go_simp
                with_reducible rfl
              rotate_left
              · simp only [Act.put, List.setIfInBounds_toArray, List.set_cons_zero, List.set_cons_succ, i64_w, i32_w]
                rfl
              refine take_ (i := 7) (N := some 74) (v := ?_) (a' := ?_) #[true, true, true, true, true, true, true, true, false, false, false, false, false, false] rfl rfl (by kernel_rfl) (fun _ _ _ h => h) (Or.inl ⟨by rfl, ?_⟩) hHeld ?_ ?_
              rotate_left
              · rintro w' ⟨s0, s1, s2⟩
                go_simp
                with_reducible rfl
              rotate_left
              · simp only [Act.put, List.setIfInBounds_toArray, List.set_cons_zero, List.set_cons_succ, i64_w, i32_w]
                rfl
              refine pure_ (i := 8) (N := some 75) (v := ?_) (a' := ?_) #[true, true, true, true, true, true, true, true, true, false, false, false, false, false] rfl rfl (by kernel_rfl) (fun _ _ _ h => h) (Or.inl ⟨by rfl, ?_⟩) ?_ ?_
              rotate_left
              · intro w'
                go_simp
                with_reducible rfl
              rotate_left
              · simp only [Act.put, List.setIfInBounds_toArray, List.set_cons_zero, List.set_cons_succ, i64_w, i32_w]
                rfl
              refine pure_ (i := 9) (N := some 76) (v := ?_) (a' := ?_) #[true, true, true, true, true, true, true, true, true, true, false, false, false, false] rfl rfl (by kernel_rfl) (fun _ _ _ h => h) (Or.inl ⟨by rfl, ?_⟩) ?_ ?_
              rotate_left
              · intro w'
                go_simp
                with_reducible rfl
              rotate_left
              · simp only [Act.put, List.setIfInBounds_toArray, List.set_cons_zero, List.set_cons_succ, i64_w, i32_w]
                rfl
              refine one_ (i := 10) (N := some 77) #[true, true, true, true, true, true, true, true, true, true, true, false, false, false] rfl rfl (by kernel_rfl) (by decide) (fun K hK => ?_)
              refine value_ (w1 := ?_) (v := ?_) (by rfl) rfl ?_ ?_
              rotate_left 2
              · go_simp
                constructor
                · rfl
                · rfl
              refine hK.out _ _ ⟨pw_cell_below (below_alloc (Below.refl _ _) _) q0, pw_cell_below (below_alloc (Below.refl _ _) _) c1, pw_cell_below (below_alloc (Below.refl _ _) _) c2⟩ (fun hHeld => ?_)
              clear hK K
              refine norm_ (a' := ?_) ?_ ?_
              rotate_left
              · show Act.put _ (some 77) _ = _
                simp only [Act.put, List.setIfInBounds_toArray, List.set_cons_zero, List.set_cons_succ, i64_w, i32_w]
                rfl
              refine last_ (i := 11) (N := some 78) #[true, true, true, true, true, true, true, true, true, true, true, true, false, false] rfl rfl (by kernel_rfl) (by decide) (fun K hK => ?_)
              refine Kd.R_append_step k70 (w0 := w) (W := W.drew) w.heap.size (by rfl) (.tmp 68) (.tmp 77) 23 70 (.agg #[.string ⟨#[]⟩, .bool false]) 24 rfl Tryz.underlying23 info70 rfl (by decide) (by decide) (.slice A0 st.l0.length a0) st.l0 ⟨w1', (r0.toList == [49])⟩ [.string w1', .bool ((r0.toList == [49]))] any (fun _ => False) rfl rfl (k70_M _ _ _ ⟨w1', (r0.toList == [49])⟩) (fun _ h => h.elim) (fun _ _ => trivial) HR0.out (below_drew HPW.out.below) (by exact HPW.out.size) (by have := HSL.out.1; omega) ?_
              intro v1 w5 hR1 hb1 hg1 hat1
              obtain ⟨Av, cv, hv1, hcv, _⟩ := Kd.R_reads hR1
              generalize (_ : List _).length = nv at hv1
              subst hv1
              have HR1 := Lib.hid hR1
              have HB1 := Lib.hid hb1
              have HG1 := Lib.hid hg1
              have HX1 := Lib.hid (R_blk (w := W.drew) HBX.out HR0.out HG1.out (by decide))
              have q5 := (blk_cell HX1.out 0).trans (show _ = some (Value.slice A0 st.l0.length a0) from rfl)
              have f5 := fun i => blk_frozen HX1.out i
              clear hR1 hb1 hg1 hat1
              refine hK.out _ _ ?_
              clear hK K
              refine norm_ (a' := ?_) ?_ ?_
              rotate_left
              · show Act.put _ (some 78) _ = _
                simp only [Act.put, List.setIfInBounds_toArray, List.set_cons_zero, List.set_cons_succ, i64_w, i32_w]
                rfl
              refine pure_ (i := 12) (N := some 79) (v := ?_) (a' := ?_) #[true, true, true, true, true, true, true, true, true, true, true, true, true, false] rfl rfl (by kernel_rfl) (fun _ _ _ h => h) (Or.inl ⟨by rfl, ?_⟩) ?_ ?_
              rotate_left
              · intro w'
                go_simp
                with_reducible rfl
              rotate_left
              · simp only [Act.put, List.setIfInBounds_toArray, List.set_cons_zero, List.set_cons_succ, i64_w, i32_w]
                rfl
              refine last_ (i := 13) (N := none) #[true, true, true, true, true, true, true, true, true, true, true, true, true, true] rfl rfl (by kernel_rfl) (by decide) (fun K hK => ?_)
              refine skip_ (w1 := ?_) (by rfl) rfl ?_ ?_
              rotate_left
              · go_simp
                rfl
              refine hK.out _ _ ?_
              clear hK K
              refine done_ (by kernel_rfl) ?_
              go_wp2_with fail
              go_roundw
              case rel => exact ⟨k + 1, by omega, by go_num, by rw [HSU.out, HN.out]; exact Lib.hid ((HPW.out.step (below_drew (Below.refl _ W))).put0 ⟨_, _, _, _, HBX.out⟩ HR1.out HB1.out HG1.out)⟩
              case measure => simp [intOf]; omega
            · simp at hr1
          · have hz2 : ((r.length : Int) + 2 == 3) = false := beq_eq_false_iff_ne.2 (by omega)
            have HN : Hid (lineR st (w0 :: w1' :: r) = st) := Lib.hid (by rw [lineR_cons, if_neg (fun h => absurd h.1 (by rw [hw3]; decide)), if_neg (fun h => absurd h.1 (by rw [hw3]; decide)), if_neg (fun h => hr1 h.2), if_neg (fun h => absurd h (by rw [hw3]; decide))])
            clear hw3 hr1
            go_wp2_with fail
            go_roundw
            case rel => exact ⟨k + 1, by omega, by go_num, by rw [HSU.out, HN.out]; exact HPW⟩
            case measure => simp [intOf]; omega
        by_cases hw4 : w0 = wordPiece
        · rw [decide_eq_true hw4] at k4
          rw [decide_eq_false (show ¬ w0 = wordNext by rw [hw4]; decide)] at k1
          rw [decide_eq_false (show ¬ w0 = wordJournal by rw [hw4]; decide)] at k2
          rw [decide_eq_false (show ¬ w0 = wordAttribute by rw [hw4]; decide)] at k3
          have HN : Hid (lineR st (w0 :: w1' :: r) = { st with l3 := st.l3 ++ [⟨numR w1', r⟩] }) := Lib.hid (by rw [lineR_cons, if_neg (fun h => absurd h.1 (by rw [hw4]; decide)), if_neg (fun h => absurd h.1 (by rw [hw4]; decide)), if_neg (fun h => absurd h.1 (by rw [hw4]; decide)), if_pos hw4])
          clear hw4
          go_wp2_with fail
          refine start_ (n := 15) (S := fun w' => w'.cell? ⟨w.heap.size + 1, 3, none⟩ = some (.slice A3 st.l3.length a3) ∧ w'.cell? ⟨g2, 1, none⟩ = some (.string w1')) (ds := [12, 14]) #[false, false, false, false, false, false, false, false, false, false, false, false, false, false, false] (by kernel_rfl) rfl rfl ⟨q3, c1⟩ (fun hHeld => ?_)
          refine pure_ (i := 0) (N := some 90) (v := ?_) (a' := ?_) #[true, false, false, false, false, false, false, false, false, false, false, false, false, false, false] rfl rfl (by kernel_rfl) (fun _ _ _ h => h) (Or.inl ⟨by rfl, ?_⟩) ?_ ?_
          rotate_left
          · intro w'
            go_simp
            with_reducible rfl
          rotate_left
          · simp only [Act.put, List.setIfInBounds_toArray, List.set_cons_zero, List.set_cons_succ, i64_w, i32_w]
            rfl
          refine pure_ (i := 2) (N := some 92) (v := ?_) (a' := ?_) #[true, false, true, false, false, false, false, false, false, false, false, false, false, false, false] rfl rfl (by kernel_rfl) (fun _ _ _ h => h) (Or.inl ⟨by rfl, ?_⟩) ?_ ?_
          rotate_left
          · intro w'
            go_simp
            with_reducible rfl
          rotate_left
          · simp only [Act.put, List.setIfInBounds_toArray, List.set_cons_zero, List.set_cons_succ, i64_w, i32_w]
            rfl
          refine pure_ (i := 3) (N := some 93) (v := ?_) (a' := ?_) #[true, false, true, true, false, false, false, false, false, false, false, false, false, false, false] rfl rfl (by kernel_rfl) (fun _ _ _ h => h) (Or.inl ⟨by rfl, ?_⟩) ?_ ?_
          rotate_left
          · intro w'
            go_simp
            with_reducible rfl
          rotate_left
          · simp only [Act.put, List.setIfInBounds_toArray, List.set_cons_zero, List.set_cons_succ, i64_w, i32_w]
            rfl
          refine pure_ (i := 7) (N := some 97) (v := ?_) (a' := ?_) #[true, false, true, true, false, false, false, true, false, false, false, false, false, false, false] rfl rfl (by kernel_rfl) (fun _ _ _ h => h) (Or.inl ⟨by rfl, ?_⟩) ?_ ?_
          rotate_left
          · intro w'
            go_simp
            with_reducible rfl
          rotate_left
          · simp only [Act.put, List.setIfInBounds_toArray, List.set_cons_zero, List.set_cons_succ, i64_w, i32_w]
            rfl
          refine pure_ (i := 8) (N := some 98) (v := ?_) (a' := ?_) #[true, false, true, true, false, false, false, true, true, false, false, false, false, false, false] rfl rfl (by kernel_rfl) (fun _ _ _ h => h) (Or.inl ⟨by rfl, ?_⟩) ?_ ?_
          rotate_left
          · intro w'
            go_simp
            with_reducible rfl
          rotate_left
          · simp only [Act.put, List.setIfInBounds_toArray, List.set_cons_zero, List.set_cons_succ, i64_w, i32_w]
            rfl
          refine take_ (i := 1) (N := some 91) (v := ?_) (a' := ?_) #[true, true, true, true, false, false, false, true, true, false, false, false, false, false, false] rfl rfl (by kernel_rfl) (fun _ _ _ h => h) (Or.inl ⟨by rfl, ?_⟩) hHeld ?_ ?_
          rotate_left
          · rintro w' ⟨s0, s1⟩
            go_simp
            with_reducible rfl
          rotate_left
          · simp only [Act.put, List.setIfInBounds_toArray, List.set_cons_zero, List.set_cons_succ, i64_w, i32_w]
            rfl
          refine take_ (i := 4) (N := some 94) (v := ?_) (a' := ?_) #[true, true, true, true, true, false, false, true, true, false, false, false, false, false, false] rfl rfl (by kernel_rfl) (fun _ _ _ h => h) (Or.inl ⟨by rfl, ?_⟩) hHeld ?_ ?_
          rotate_left
          · rintro w' ⟨s0, s1⟩
            go_simp
            with_reducible rfl
          rotate_left
          · simp only [Act.put, List.setIfInBounds_toArray, List.set_cons_zero, List.set_cons_succ, i64_w, i32_w]
            rfl
          refine join_ (σ := Unit) 6 #[true, true, true, true, true, true, true, true, true, false, false, false, false, false, false] (fun _ => [(95, .int .i64 ↑(numTo w1' (min w1'.size 10))), (96, .slice (some ⟨W.heap.size, 0, none⟩) 0 0)]) (fun _ w' => w' = (W.drew.alloc (.cells #[] 9))) ?_ ?_
          rotate_left
          · intro hCont
            refine two_ (i := 5) (j := 6) (Ni := some 95) (Nj := some 96) #[true, true, true, true, true, true, false, true, true, false, false, false, false, false, false] #[true, true, true, true, true, false, true, true, true, false, false, false, false, false, false] rfl rfl rfl rfl (by kernel_rfl) (by decide) (by decide) (fun K hK => ?_) (fun K hK => ?_)
            · skip
              refine goes_ Tryz.func38 (by kernel_rfl) rfl #[.string w1'] (by rfl) rfl rfl (by simp only [List.map_toArray, List.map_cons, List.map_nil]; rfl) ?_
              with_reducible refine (number38 w1' HWS1.out _).mono ?_
              rintro e w5 ⟨rfl, rfl⟩
              refine ⟨_, rfl, ?_⟩
              refine hK.out _ _ ⟨q3, c1⟩ (fun hHeld => ?_)
              clear hK K
              refine norm_ (a' := ?_) ?_ ?_
              rotate_left
              · show Act.put _ (some 95) _ = _
                simp only [Act.put, List.setIfInBounds_toArray, List.set_cons_zero, List.set_cons_succ, i64_w, i32_w]
                rfl
              refine one_ (i := 6) (N := some 96) #[true, true, true, true, true, true, true, true, true, false, false, false, false, false, false] rfl rfl (by kernel_rfl) (by decide) (fun K hK => ?_)
              refine value_ (w1 := ?_) (v := ?_) (by rfl) rfl ?_ ?_
              rotate_left 2
              · go_simp
                constructor
                · rfl
                · rfl
              refine hK.out _ _ ⟨pw_cell_below (below_alloc (Below.refl _ _) _) q3, pw_cell_below (below_alloc (Below.refl _ _) _) c1⟩ (fun hHeld => ?_)
              clear hK K
              refine norm_ (a' := ?_) ?_ ?_
              rotate_left
              · show Act.put _ (some 96) _ = _
                simp only [Act.put, List.setIfInBounds_toArray, List.set_cons_zero, List.set_cons_succ, i64_w, i32_w]
                rfl
              exact norm_ (by simp only [putAll, Act.put, List.setIfInBounds_toArray, List.set_cons_zero, List.set_cons_succ]) (hCont () _ rfl)
            · skip
              refine value_ (w1 := ?_) (v := ?_) (by rfl) rfl ?_ ?_
              rotate_left 2
              · go_simp
                constructor
                · rfl
                · rfl
              refine hK.out _ _ ⟨pw_cell_below (below_alloc (Below.refl _ _) _) q3, pw_cell_below (below_alloc (Below.refl _ _) _) c1⟩ (fun hHeld => ?_)
              clear hK K
              refine norm_ (a' := ?_) ?_ ?_
              rotate_left
              · show Act.put _ (some 96) _ = _
                simp only [Act.put, List.setIfInBounds_toArray, List.set_cons_zero, List.set_cons_succ, i64_w, i32_w]
                rfl
              refine one_ (i := 5) (N := some 95) #[true, true, true, true, true, true, true, true, true, false, false, false, false, false, false] rfl rfl (by kernel_rfl) (by decide) (fun K hK => ?_)
              refine goes_ Tryz.func38 (by kernel_rfl) rfl #[.string w1'] (by rfl) rfl rfl (by simp only [List.map_toArray, List.map_cons, List.map_nil]; rfl) ?_
              with_reducible refine (number38 w1' HWS1.out _).mono ?_
              rintro e w5 ⟨rfl, rfl⟩
              refine ⟨_, rfl, ?_⟩
              refine hK.out _ _ ⟨pw_cell_below (below_alloc (Below.refl _ _) _) q3, pw_cell_below (below_alloc (Below.refl _ _) _) c1⟩ (fun hHeld => ?_)
              clear hK K
              refine norm_ (a' := ?_) ?_ ?_
              rotate_left
              · show Act.put _ (some 95) _ = _
                simp only [Act.put, List.setIfInBounds_toArray, List.set_cons_zero, List.set_cons_succ, i64_w, i32_w]
                rfl
              exact norm_ (by simp only [putAll, Act.put, List.setIfInBounds_toArray, List.set_cons_zero, List.set_cons_succ]) (hCont () _ rfl)
          rintro ⟨⟩ w7 rfl
          have hb7 : Below W.heap.size W (W.drew.alloc (.cells #[] 9)) := below_alloc (below_drew (Below.refl _ W)) _
          have HP7 := Lib.hid (HPW.out.step hb7)
          have HX7 := Lib.hid (blk_below HBX.out hb7)
          have HR37 := Lib.hid (Kd.R_below HR3.out hb7)
          have hHeld : (W.drew.alloc (.cells #[] 9)).cell? ⟨w.heap.size + 1, 3, none⟩ = some (.slice A3 st.l3.length a3) ∧ (W.drew.alloc (.cells #[] 9)).cell? ⟨g2, 1, none⟩ = some (.string w1') := ⟨pw_cell_below hb7 q3, pw_cell_below hb7 c1⟩
          refine norm_ (a' := ?_) ?_ ?_
          rotate_left
          · simp only [putAll, Act.put, List.setIfInBounds_toArray, List.set_cons_zero, List.set_cons_succ]
            rfl
          refine one_ (i := 9) (N := some 99) #[true, true, true, true, true, true, true, true, true, true, false, false, false, false, false] rfl rfl (by kernel_rfl) (by decide) (fun K hK => ?_)
          refine Kd.R_append_rows_step Kd.string (Rr := fun (x : ByteArray) cs => cs = [Value.string x]) (w0 := W) W.heap.size (by rfl) (.tmp 96) (.tmp 98) 61 9 (.string ⟨#[]⟩) 16 rfl Tryz.underlying61 info9 rfl (by decide) (by decide) (.slice (some ⟨W.heap.size, 0, none⟩) 0 0) [] r (if cap2 = 2 then some ⟨g2, 0, none⟩ else some ⟨g2, 2, none⟩) r.length (cap2 - 2) any (fun _ => False) rfl rfl (by exact emptyR Kd.string 9 W.drew W.heap.size (Nat.le_refl _)) (HRD.out _ hb7) (fun x cs h => h) (fun _ h => h.elim) (fun _ _ => trivial) hb7 hb7.size (by simp; omega) ?_
          intro v6 w6 hR6 hb6 hg6 _
          rw [List.nil_append] at hR6
          obtain ⟨A6, c6, hv6, _, _⟩ := Kd.R_reads hR6
          generalize (List.length _) = n6 at hv6
          subst hv6
          have HR6 := Lib.hid (Kd.R_lower (ownTop hR6) HPW.out.size)
          have HP6 := Lib.hid (HPW.out.step hb6)
          have HX6 := Lib.hid (blk_below HBX.out hb6)
          have HR36 := Lib.hid (Kd.R_below HR3.out hb6)
          have HAP : Hid (∀ k, W.heap.size ≤ k → some k ≠ (Value.slice A3 st.l3.length a3).ownBlock) := Lib.hid (fun k hk he => by obtain ⟨_, inner, ho, _⟩ := HR3.out; have := own_lt ho k he.symm; omega)
          clear hR6 hg6
          refine hK.out _ _ ⟨pw_cell_below hb6 q3, pw_cell_below hb6 c1⟩ (fun hHeld => ?_)
          clear hK K
          refine norm_ (a' := ?_) ?_ ?_
          rotate_left
          · show Act.put _ (some 99) _ = _
            simp only [Act.put, List.setIfInBounds_toArray, List.set_cons_zero, List.set_cons_succ, i64_w, i32_w]
            rfl
          refine pure_ (i := 10) (N := some 100) (v := ?_) (a' := ?_) #[true, true, true, true, true, true, true, true, true, true, true, false, false, false, false] rfl rfl (by kernel_rfl) (fun _ _ _ h => h) (Or.inl ⟨by rfl, ?_⟩) ?_ ?_
          rotate_left
          · intro w'
            go_simp
            with_reducible rfl
          rotate_left
          · simp only [Act.put, List.setIfInBounds_toArray, List.set_cons_zero, List.set_cons_succ, i64_w, i32_w]
            rfl
          refine one_ (i := 11) (N := some 101) #[true, true, true, true, true, true, true, true, true, true, true, true, false, false, false] rfl rfl (by kernel_rfl) (by decide) (fun K hK => ?_)
          refine value_ (w1 := ?_) (v := ?_) (by rfl) rfl ?_ ?_
          rotate_left 2
          · go_simp
            constructor
            · rfl
            · rfl
          refine hK.out _ _ ⟨pw_cell_below (hb6.alloc hb6.size _) q3, pw_cell_below (hb6.alloc hb6.size _) c1⟩ (fun hHeld => ?_)
          clear hK K
          refine norm_ (a' := ?_) ?_ ?_
          rotate_left
          · show Act.put _ (some 101) _ = _
            simp only [Act.put, List.setIfInBounds_toArray, List.set_cons_zero, List.set_cons_succ, i64_w, i32_w]
            rfl
          refine last_ (i := 12) (N := some 102) #[true, true, true, true, true, true, true, true, true, true, true, true, true, false, false] rfl rfl (by kernel_rfl) (by decide) (fun K hK => ?_)
          refine Kd.R_append_step k72 (w0 := w) (W := w6) w.heap.size (by rfl) (.tmp 91) (.tmp 101) 24 72 (.agg #[.int .i64 0, .slice none 0 0]) 32 rfl Tryz.underlying24 info72 rfl (by decide) (by decide) (.slice A3 st.l3.length a3) st.l3 ⟨numR w1', r⟩ [.int .i64 (numR w1'), .slice A6 n6 c6] any (fun k => W.heap.size ≤ k) rfl rfl (k72_M ⟨numR w1', r⟩ HR6.out) (fun k h => ⟨trivial, HAP.out k h⟩) (fun _ _ => trivial) HR36.out HP6.out.below (by exact HP6.out.size) (by have := HSL.out.2; omega) ?_
          intro v1 w7 hR1 hb1 hg1 hat1
          obtain ⟨Av, cv, hv1, hcv, _⟩ := Kd.R_reads hR1
          generalize (_ : List _).length = nv at hv1
          subst hv1
          have HR1 := Lib.hid hR1
          have HB1 := Lib.hid hb1
          have HG1 := Lib.hid hg1
          have HX1 := Lib.hid (R_blk HX6.out HR36.out HG1.out (by decide))
          have q5 := (blk_cell HX1.out 3).trans (show _ = some (Value.slice A3 st.l3.length a3) from rfl)
          have f5 := fun i => blk_frozen HX1.out i
          clear hR1 hb1 hg1 hat1
          refine hK.out _ _ ?_
          clear hK K
          refine norm_ (a' := ?_) ?_ ?_
          rotate_left
          · show Act.put _ (some 102) _ = _
            simp only [Act.put, List.setIfInBounds_toArray, List.set_cons_zero, List.set_cons_succ, i64_w, i32_w]
            rfl
          refine pure_ (i := 13) (N := some 103) (v := ?_) (a' := ?_) #[true, true, true, true, true, true, true, true, true, true, true, true, true, true, false] rfl rfl (by kernel_rfl) (fun _ _ _ h => h) (Or.inl ⟨by rfl, ?_⟩) ?_ ?_
          rotate_left
          · intro w'
            go_simp
            with_reducible rfl
          rotate_left
          · simp only [Act.put, List.setIfInBounds_toArray, List.set_cons_zero, List.set_cons_succ, i64_w, i32_w]
            rfl
          refine last_ (i := 14) (N := none) #[true, true, true, true, true, true, true, true, true, true, true, true, true, true, true] rfl rfl (by kernel_rfl) (by decide) (fun K hK => ?_)
          refine skip_ (w1 := ?_) (by rfl) rfl ?_ ?_
          rotate_left
          · go_simp
            rfl
          refine hK.out _ _ ?_
          clear hK K
          refine done_ (by kernel_rfl) ?_
          go_wp2_with fail
          go_roundw
          case rel => exact ⟨k + 1, by omega, by go_num, by rw [HSU.out, HN.out]; exact Lib.hid (HP6.out.put3 ⟨_, _, _, _, HX6.out⟩ HR1.out HB1.out HG1.out)⟩
          case measure => simp [intOf]; omega
        rw [decide_eq_false hw1] at k1
        rw [decide_eq_false hw2] at k2
        rw [decide_eq_false hw3] at k3
        rw [decide_eq_false hw4] at k4
        have HN : Hid (lineR st (w0 :: w1' :: r) = st) := Lib.hid (by rw [lineR_cons, if_neg (fun h => hw1 h.1), if_neg (fun h => hw2 h.1), if_neg (fun h => hw3 h.1), if_neg hw4])
        clear hw1 hw2 hw3 hw4
        go_wp2_with fail
        go_roundw
        case rel => exact ⟨k + 1, by omega, by go_num, by rw [HSU.out, HN.out]; exact HPW⟩
        case measure => simp [intOf]; omega
    · have : k = L.length := by omega
      subst this
      have HOK := Lib.hid (rAt_ok L L.length HLL.out.2)
      have HSL := Lib.hid (rAt_le L L.length)
      have HPE : Hid (parseR (headB s) = rAt L L.length) := HPP
      generalize rAt L L.length = st at *
      obtain ⟨A0, a0, A3, a3, hbx, hR0, hR3⟩ := HP.out.box
      obtain ⟨B0, d0, e0, hd0, hC0⟩ := Kd.R_reads hR0
      injection e0 with e01 _ e02; subst e01; subst e02
      obtain ⟨B3, d3, e3, hd3, hC3⟩ := Kd.R_reads hR3
      injection e3 with e31 _ e32; subst e31; subst e32
      have HBX := Lib.hid hbx
      have HC0 := Lib.hid hC0
      have HC3 := Lib.hid hC3
      have HR0 := Lib.hid hR0
      have HR3 := Lib.hid hR3
      have q0 := (blk_cell hbx 0).trans (show _ = some (Value.slice A0 st.l0.length a0) from rfl)
      have q1 := (blk_cell hbx 1).trans (show _ = some (Value.int .i64 st.next) from rfl)
      have q2 := (blk_cell hbx 2).trans (show _ = some (Value.int .i64 st.j) from rfl)
      have q3 := (blk_cell hbx 3).trans (show _ = some (Value.slice A3 st.l3.length a3) from rfl)
      have q4 := (blk_cell hbx 4).trans (show _ = some (Value.slice none 0 0) from rfl)
      clear hbx hR0 hR3 hC0 hC3
      have hl0 := HSL.out.1
      have hl3 := HSL.out.2
      cases hvs : validSt st with
      | false =>
        have HNO : Hid (¬ (4 ≤ s.size ∧ validSt (parseR (headB s)) = true ∧ manSt (parseR (headB s)) = s)) := Lib.hid (by rw [HPE.out, hvs]; exact fun h => by cases h.2.1)
        go_wp2_with fail
        refine (manifest8_no A0 A3 none a0 a3 0 st.l0 st.next st.j st.l3 0 _ HC0.out hd0 (by omega) HOK.out.1 HC3.out hd3 HOK.out.2 hvs).mono ?_
        rintro e w5 ⟨rfl, hb5⟩
        have HX := Lib.hid (blk_below HP.out.res hb5)
        have z0 := zero_set HX.out 0 (.slice none 0 0) rfl
        have z1 := zero_set HX.out 1 (.int .i64 0) rfl
        have z2 := zero_set HX.out 2 (.int .i64 0) rfl
        have z3 := zero_set HX.out 3 (.slice none 0 0) rfl
        have z4 := zero_set HX.out 4 (.slice none 0 0) rfl
        have y0 := (blk_cell HX.out 0).trans (show _ = some (Value.slice none 0 0) from rfl)
        have y1 := (blk_cell HX.out 1).trans (show _ = some (Value.int .i64 0) from rfl)
        have y2 := (blk_cell HX.out 2).trans (show _ = some (Value.int .i64 0) from rfl)
        have y3 := (blk_cell HX.out 3).trans (show _ = some (Value.slice none 0 0) from rfl)
        have y4 := (blk_cell HX.out 4).trans (show _ = some (Value.slice none 0 0) from rfl)
        have f0 := fun i => blk_frozen HX.out i
        go_wp2_with fail
        refine bodyPost_ret (v := .tuple #[.agg zeroStore, .int .i64 9]) (by simp [results, Tryz.results13, go_sem, y0, y1, y2, y3, y4, zeroStore]) rfl ⟨(HP.out.step hb5).below, .inr ⟨HNO.out, rfl⟩⟩
      | true =>
        have HMN : Hid (manB st.l0 st.next st.j st.l3 = manSt st) := Lib.hid rfl
        go_wp2_with fail
        refine (manifest8_yes A0 A3 none a0 a3 0 st.l0 st.next st.j st.l3 0 _ HC0.out hd0 (by omega) HOK.out.1 HC3.out hd3 HOK.out.2 hvs).mono ?_
        rw [HMN.out]
        generalize hmt : manSt st = mt at *
        rintro e w5 ⟨rfl, hb5⟩
        have HP5 := Lib.hid (HP.out.step hb5)
        have HX := Lib.hid HP5.out.res
        have f0 := fun i => blk_frozen HX.out i
        have y0 := (blk_cell HX.out 0).trans (show _ = some (Value.slice none 0 0) from rfl)
        have y1 := (blk_cell HX.out 1).trans (show _ = some (Value.int .i64 0) from rfl)
        have y2 := (blk_cell HX.out 2).trans (show _ = some (Value.int .i64 0) from rfl)
        have y3 := (blk_cell HX.out 3).trans (show _ = some (Value.slice none 0 0) from rfl)
        have y4 := (blk_cell HX.out 4).trans (show _ = some (Value.slice none 0 0) from rfl)
        have p0 := pw_cell_below hb5 q0
        have p1 := pw_cell_below hb5 q1
        have p2 := pw_cell_below hb5 q2
        have p3 := pw_cell_below hb5 q3
        have p4 := pw_cell_below hb5 q4
        by_cases hm : mt = s
        · subst hm
          go_wp2_with fail
          have HR05 := Lib.hid (Kd.R_below HR0.out hb5)
          have HR35 := Lib.hid (Kd.R_below HR3.out hb5)
          obtain ⟨hbW, hxW, hrW, htW⟩ := result_box (n := st.next) (j := st.j) HP5.out.below (Nat.le_refl _) HX.out HR05.out HR35.out _ rfl
          have g0 := (blk_cell hxW 0).trans (show _ = some (Value.slice A0 st.l0.length a0) from rfl)
          have g1 := (blk_cell hxW 1).trans (show _ = some (Value.int .i64 st.next) from rfl)
          have g2 := (blk_cell hxW 2).trans (show _ = some (Value.int .i64 st.j) from rfl)
          have g3 := (blk_cell hxW 3).trans (show _ = some (Value.slice A3 st.l3.length a3) from rfl)
          have g4 := (blk_cell hxW 4).trans (show _ = some (Value.slice none 0 0) from rfl)
          obtain ⟨B0, d0, e0, hd0', hC0⟩ := Kd.R_reads hrW
          injection e0 with e01 _ e02; subst e01; subst e02
          obtain ⟨B3, d3, e3, hd3', hC3⟩ := Kd.R_reads htW
          injection e3 with e31 _ e32; subst e31; subst e32
          generalize (((((w5.setCell ⟨w.heap.size, 0, none⟩ (.slice A0 st.l0.length a0)).setCell ⟨w.heap.size, 1, none⟩ (.int .i64 st.next)).setCell ⟨w.heap.size, 2, none⟩ (.int .i64 st.j)).setCell ⟨w.heap.size, 3, none⟩ (.slice A3 st.l3.length a3)).setCell ⟨w.heap.size, 4, none⟩ (.slice none 0 0)) = WF at *
          refine bodyPost_ret (v := .tuple #[.agg #[.slice A0 st.l0.length a0, .int .i64 st.next, .int .i64 st.j, .slice A3 st.l3.length a3, .slice none 0 0], .int .i64 0]) (by simp [results, Tryz.results13, go_sem, g0, g1, g2, g3, g4]) rfl ⟨hbW, .inl ?_⟩
          rw [HPE.out]
          exact ⟨h4, hvs, hmt, A0, a0, A3, a3, rfl, hC0, hd0', hC3, hd3'⟩
        · have ht : (mt.toList == s.toList) = false := by rw [toList_beq]; exact decide_eq_false hm
          have z0 := zero_set HX.out 0 (.slice none 0 0) rfl
          have z1 := zero_set HX.out 1 (.int .i64 0) rfl
          have z2 := zero_set HX.out 2 (.int .i64 0) rfl
          have z3 := zero_set HX.out 3 (.slice none 0 0) rfl
          have z4 := zero_set HX.out 4 (.slice none 0 0) rfl
          go_wp2_with fail
          refine bodyPost_ret (v := .tuple #[.agg zeroStore, .int .i64 9]) (by simp [results, Tryz.results13, go_sem, y0, y1, y2, y3, y4, zeroStore]) rfl ⟨HP5.out.below, .inr ⟨fun h => hm (by have := h.2.2; rw [HPE.out, hmt] at this; exact this), rfl⟩⟩
end Go.Proofs.YtmeieeekjhjgjaaGreatDoor.H
