/- The walk of valid. -/
import Derived.Test.YtmeieeekjhjgjaaGreatDoorCj
import Derived.KernelRfl
namespace Go.Proofs.YtmeieeekjhjgjaaGreatDoor.H
open Go.RowKit Go.Proofs.YtmeieeekjhjgjaaGreatDoorW.PrintWords

def files (j : Int) (l : List S72) : List Int := j :: l.map (·.f0)
def pieceOk (next j : Int) (l : List S72) (i : Nat) : Bool :=
  decide (1 ≤ (l.getD i z72).f0) && (decide ((l.getD i z72).f0 < next) && (!decide ((l.getD i z72).f0 ∈ files j (l.take i)) && delB (l.getD i z72).f1))
def piecesTo (next j : Int) (l : List S72) (k : Nat) : Bool := (List.range k).all (pieceOk next j l)
/-- A store whose manifest is valid. -/
def validB (at_ : List S70) (next j : Int) (l : List S72) : Bool :=
  attrsB at_ && (decide (next ≤ 1000000000) && (decide (1 ≤ j) && (decide (j < next) && (decide (l.length ≤ 16) && piecesTo next j l l.length))))
theorem piecesTo_succ (next j : Int) (l : List S72) (k : Nat) (x : S72) (h : l[k]? = some x) : piecesTo next j l (k + 1) = (piecesTo next j l k && (decide (1 ≤ x.f0) && (decide (x.f0 < next) && (!decide (x.f0 ∈ files j (l.take k)) && delB x.f1)))) := by
  unfold piecesTo
  rw [List.range_succ, List.all_append]
  simp only [List.all_cons, List.all_nil, Bool.and_true, pieceOk, getD_of h]
theorem piecesTo_bad (next j : Int) (l : List S72) (k : Nat) (h : k < l.length) (hb : piecesTo next j l (k + 1) = false) : piecesTo next j l l.length = false := by
  rw [Bool.eq_false_iff] at hb ⊢
  intro ha
  exact hb (List.all_eq_true.2 fun i hi => List.all_eq_true.1 ha i (List.mem_range.2 (by have := List.mem_range.1 hi; omega)))
def OkPieces (l : List S72) : Prop := ∀ x ∈ l, x.f1.length ≤ 9223372036854775807 ∧ OkStrs x.f1

theorem box5 {w w1 : World} {v0 v1 v2 v3 v4 : Value} {t : TypeId} (hb : Below (w.alloc (.cells #[v0, v1, v2, v3, v4] t)).heap.size (w.alloc (.cells #[v0, v1, v2, v3, v4] t)) w1) :
    w1.cell? ⟨w.heap.size, 0, none⟩ = some v0 ∧ w1.cell? ⟨w.heap.size, 1, none⟩ = some v1 ∧ w1.cell? ⟨w.heap.size, 2, none⟩ = some v2 ∧ w1.cell? ⟨w.heap.size, 3, none⟩ = some v3 ∧ w1.cell? ⟨w.heap.size, 4, none⟩ = some v4 := by
  have h := blk_below (blk_new w _) hb
  exact ⟨by rw [blk_cell h]; rfl, by rw [blk_cell h]; rfl, by rw [blk_cell h]; rfl, by rw [blk_cell h]; rfl, by rw [blk_cell h]; rfl⟩
theorem info3 : (Tryz.prog.info? 3).map (fun i => (i.zero, i.size, i.bytes)) = some (some (.int .i64 0), 1, 8) := by kernel_rfl
set_option maxHeartbeats 2000000 in
theorem valid19_no (A0 A3 A4 : Option Addr) (c0 c3 c4 : Nat) (l0 : List S70) (next j : Int) (l3 : List S72) (n4 : Nat) (w : World) (hr0 : Kd.C k70 w A0 l0.length l0) (hc0 : l0.length ≤ c0) (hl0 : l0.length ≤ 9223372036854775807) (hs0 : OkNames l0) (hl3 : l3.length ≤ 9223372036854775807)
    (h : ¬ (attrsB l0 = true ∧ next ≤ 1000000000 ∧ 1 ≤ j ∧ j < next ∧ l3.length ≤ 16)) :
    Calls Tryz.prog 19 #[.agg #[.slice A0 l0.length c0, .int .i64 next, .int .i64 j, .slice A3 l3.length c3, .slice A4 n4 c4]] w fun e w' => e = .returned (.bool (validB l0 next j l3)) ∧ Below w.heap.size w w' := by
  have HR0 := Lib.hid hr0
  have HV : Hid (validB l0 next j l3 = false) := Lib.hid (by
    rw [Bool.eq_false_iff]; intro hv; unfold validB at hv
    simp only [Bool.and_eq_true, decide_eq_true_eq] at hv
    exact h ⟨hv.1, hv.2.1, hv.2.2.1, hv.2.2.2.1, hv.2.2.2.2.1⟩)
  clear hr0
  generalize ha : attrsB l0 = f at *
  cases f
  · clear h
    go_enter Tryz.func19, Tryz.ntmps19
    go_wp2_with (go_at_call 49; refine (attrs49 A0 c0 l0 _ (Kd.C_below HR0.out (below_alloc (Below.refl _ _) _)) hc0 hl0 hs0).mono ?_; rw [ha]; rintro e w1 ⟨rfl, hb1⟩)
    go_ret
    exact ⟨ret_bool HV.out.symm, below_then (below_alloc (Below.refl _ _) _) (by simp) hb1⟩
  · by_cases h1 : next ≤ 1000000000
    · by_cases h2 : 1 ≤ j
      · by_cases h3 : j < next
        · have h4 : ¬ l3.length ≤ 16 := fun h4 => h ⟨rfl, h1, h2, h3, h4⟩
          clear h
          go_enter Tryz.func19, Tryz.ntmps19
          go_wp2_with (go_at_call 49; refine (attrs49 A0 c0 l0 _ (Kd.C_below HR0.out (below_alloc (Below.refl _ _) _)) hc0 hl0 hs0).mono ?_; rw [ha]; rintro e w1 ⟨rfl, hb1⟩; have hb1' := below_then (below_alloc (Below.refl _ w) _) (by simp) hb1; obtain ⟨q0, q1, q2, q3, q4⟩ := box5 hb1)
          go_ret
          exact ⟨ret_bool HV.out.symm, hb1'⟩
        · clear h
          go_enter Tryz.func19, Tryz.ntmps19
          go_wp2_with (go_at_call 49; refine (attrs49 A0 c0 l0 _ (Kd.C_below HR0.out (below_alloc (Below.refl _ _) _)) hc0 hl0 hs0).mono ?_; rw [ha]; rintro e w1 ⟨rfl, hb1⟩; have hb1' := below_then (below_alloc (Below.refl _ w) _) (by simp) hb1; obtain ⟨q0, q1, q2, q3, q4⟩ := box5 hb1)
          go_ret
          exact ⟨ret_bool HV.out.symm, hb1'⟩
      · clear h
        go_enter Tryz.func19, Tryz.ntmps19
        go_wp2_with (go_at_call 49; refine (attrs49 A0 c0 l0 _ (Kd.C_below HR0.out (below_alloc (Below.refl _ _) _)) hc0 hl0 hs0).mono ?_; rw [ha]; rintro e w1 ⟨rfl, hb1⟩; have hb1' := below_then (below_alloc (Below.refl _ w) _) (by simp) hb1; obtain ⟨q0, q1, q2, q3, q4⟩ := box5 hb1)
        go_ret
        exact ⟨ret_bool HV.out.symm, hb1'⟩
    · clear h
      go_enter Tryz.func19, Tryz.ntmps19
      go_wp2_with (go_at_call 49; refine (attrs49 A0 c0 l0 _ (Kd.C_below HR0.out (below_alloc (Below.refl _ _) _)) hc0 hl0 hs0).mono ?_; rw [ha]; rintro e w1 ⟨rfl, hb1⟩; have hb1' := below_then (below_alloc (Below.refl _ w) _) (by simp) hb1; obtain ⟨q0, q1, q2, q3, q4⟩ := box5 hb1)
      go_ret
      exact ⟨ret_bool HV.out.symm, hb1'⟩

set_option maxRecDepth 100000 in
set_option maxHeartbeats 2000000 in
theorem valid19_yes (A0 A3 A4 : Option Addr) (c0 c3 c4 : Nat) (l0 : List S70) (next j : Int) (l3 : List S72) (n4 : Nat) (w : World) (hr0 : Kd.C k70 w A0 l0.length l0) (hc0 : l0.length ≤ c0) (hl0 : l0.length ≤ 9223372036854775807) (hs0 : OkNames l0) (hr3 : Kd.C k72 w A3 l3.length l3) (hs3 : OkPieces l3)
    (ha : attrsB l0 = true) (h1 : next ≤ 1000000000) (h2 : 1 ≤ j) (h3 : j < next) (h4 : l3.length ≤ 16) :
    Calls Tryz.prog 19 #[.agg #[.slice A0 l0.length c0, .int .i64 next, .int .i64 j, .slice A3 l3.length c3, .slice A4 n4 c4]] w fun e w' => e = .returned (.bool (validB l0 next j l3)) ∧ Below w.heap.size w w' := by
  have HR0 := Lib.hid hr0
  have HR3 := Lib.hid hr3
  have HV : Hid (validB l0 next j l3 = piecesTo next j l3 l3.length) := Lib.hid (by
    unfold validB; rw [ha, decide_eq_true h1, decide_eq_true h2, decide_eq_true h3, decide_eq_true h4]; rfl)
  clear hr0 hr3
  go_enter Tryz.func19, Tryz.ntmps19
  go_wp2_with (go_at_call 49; refine (attrs49 A0 c0 l0 _ (Kd.C_below HR0.out (below_alloc (Below.refl _ _) _)) hc0 hl0 hs0).mono ?_; rw [ha]; rintro e w1 ⟨rfl, hb1⟩; have hb1' := below_then (below_alloc (Below.refl _ w) _) (by simp) hb1; obtain ⟨q0, q1, q2, q3, q4⟩ := box5 hb1; have q3' := fun o => pw_cell_below (below_alloc (Below.refl _ w1) o) q3; have HBX := Lib.hid (blk_below (blk_new w _) hb1))
  go_loopw [3, 39] (fun vu i wr => ∃ k : Nat, k ≤ l3.length ∧ i = .int .i64 k ∧ Below w.heap.size w wr ∧ Hid (wr.heap[w.heap.size]? = some (.cells #[.slice A0 l0.length c0, .int .i64 next, .int .i64 j, .slice A3 l3.length c3, .slice A4 n4 c4] 27 (0, 0))) ∧ Hid (wr.ownsRow w.heap.size 3 1 vu (files j (l3.take k)).length (nums .i64 (files j (l3.take k)))) ∧ Hid (piecesTo next j l3 k = true)) (fun _ i _ => l3.length - (intOf i).toNat)
  case atStart => exact ⟨0, by omega, rfl, below_alloc hb1' _, Lib.hid (blk_alloc HBX.out _), Lib.hid (own_lit w1 w.heap.size 3 .i64 [j] hb1'.size (by simp)), Lib.hid rfl⟩
  case round =>
    obtain ⟨k, hk, rfl, hb, HBK, HOU, HK⟩ := hrel
    clear hb1 hb1' q0 q1 q2 q3 q4 q3' HBX
    by_cases hlt : k < l3.length
    · obtain ⟨ad, x, A1, c1, hA, hx, p0, p1, hc1, hd1⟩ := at72 (Kd.C_below HR3.out hb) k hlt
      subst hA
      have HT := Lib.hid (piecesTo_succ next j l3 k x hx)
      have HOP := Lib.hid (hs3 x (List.mem_of_getElem? hx))
      have HBAD : Hid (piecesTo next j l3 (k + 1) = false → validB l0 next j l3 = false) := Lib.hid (fun h => by rw [HV.out]; exact piecesTo_bad next j l3 k hlt h)
      have HFS : Hid (files j (l3.take (k + 1)) = files j (l3.take k) ++ [x.f0]) := Lib.hid (by unfold files; rw [List.take_add_one, hx]; simp)
      have HLF : Hid ((files j (l3.take k)).length = k + 1) := Lib.hid (by unfold files; simp; omega)
      have HD1 := Lib.hid hd1
      clear hx hd1
      generalize files j (l3.take k) = fs at *
      have hfl : fs.length ≤ 100 := by have := HLF.out; omega
      obtain ⟨Au, cu, rfl, hru⟩ := own_reads HOU.out
      have HRU := Lib.hid hru
      clear hru
      have q1 : wr.cell? ⟨w.heap.size, 1, none⟩ = some (.int .i64 next) := by rw [blk_cell HBK.out]; rfl
      have q1' := fun o => pw_cell_below (below_alloc (Below.refl _ wr) o) q1
      by_cases t1 : 1 ≤ x.f0
      · by_cases t2 : x.f0 < next
        · generalize hm : decide (x.f0 ∈ fs) = m at *
          cases m
          · generalize hd : delB x.f1 = dd at *
            cases dd
            · go_wp2_with (first | (go_at_call 50; refine (contains50 Au cu fs x.f0 _ (by exact ReadsInt.below HRU.out (below_alloc (Below.refl _ _) _)) (by omega)).mono ?_; rw [hm]; rintro e w2 ⟨rfl, rfl⟩) | (go_at_call 51; refine (deleted51 A1 c1 x.f1 _ (by exact Kd.C_below HD1.out (below_alloc (Below.refl _ _) _)) HOP.out.1 HOP.out.2).mono ?_; rw [hd]; rintro e w3 ⟨rfl, rfl⟩))
              go_ret
              exact ⟨ret_bool (HBAD.out (by rw [HT.out, HK.out]; simp)).symm, hb.alloc hb.size _⟩
            · go_wp2_with (first | (go_at_call 50; refine (contains50 Au cu fs x.f0 _ (by exact ReadsInt.below HRU.out (below_alloc (Below.refl _ _) _)) (by omega)).mono ?_; rw [hm]; rintro e w2 ⟨rfl, rfl⟩) | (go_at_call 51; refine (deleted51 A1 c1 x.f1 _ (by exact Kd.C_below HD1.out (below_alloc (Below.refl _ _) _)) HOP.out.1 HOP.out.2).mono ?_; rw [hd]; rintro e w3 ⟨rfl, rfl⟩) | ((with_reducible refine gate_dst (N := 69) rfl ?_); refine print_append_num (w0 := w) w.heap.size rfl (.tmp 65) (.tmp 68) 22 3 .i64 8 rfl Tryz.underlying22 info3 (by decide) (.slice Au fs.length cu) fs x.f0 rfl ?hx ?hO ?hB ?hba ?hl ?_; (case hx => simp [Act.eval]); (case hO => exact pw_own_below HOU.out (below_alloc (Below.refl _ _) _)); (case hB => exact hb.alloc hb.size _); (case hba => have := hb.size; simp; omega); (case hl => omega); intro v1 w4 hown4 hb4 hg4 _; have HO4 := Lib.hid hown4; have HB4 := Lib.hid hb4; have HX4 := Lib.hid (blk_grown (blk_alloc HBK.out _) hg4 (own_ne HOU.out HBK.out (by decide))); clear hown4 hb4 hg4))
              go_roundw
              case rel => exact ⟨k + 1, by omega, by go_num, HB4.out, HX4, by rw [HFS.out]; exact HO4, by rw [HT.out, HK.out, decide_eq_true t1, decide_eq_true t2]; exact rfl⟩
              case measure => simp [intOf]; omega
          · go_wp2_with (first | (go_at_call 50; refine (contains50 Au cu fs x.f0 _ (by exact ReadsInt.below HRU.out (below_alloc (Below.refl _ _) _)) (by omega)).mono ?_; rw [hm]; rintro e w2 ⟨rfl, rfl⟩) | (go_at_call 51; refine (deleted51 A1 c1 x.f1 _ (by exact Kd.C_below HD1.out (below_alloc (Below.refl _ _) _)) HOP.out.1 HOP.out.2).mono ?_; rw [hd]; rintro e w3 ⟨rfl, rfl⟩))
            go_ret
            exact ⟨ret_bool (HBAD.out (by rw [HT.out, HK.out]; simp)).symm, hb.alloc hb.size _⟩
        · go_wp2
          go_ret
          exact ⟨ret_bool (HBAD.out (by rw [HT.out, HK.out, decide_eq_false (show ¬ x.f0 < next by omega)]; simp)).symm, hb.alloc hb.size _⟩
      · go_wp2
        go_ret
        exact ⟨ret_bool (HBAD.out (by rw [HT.out, HK.out, decide_eq_false (show ¬ 1 ≤ x.f0 by omega)]; simp)).symm, hb.alloc hb.size _⟩
    · have : k = l3.length := by omega
      subst this
      go_wp2
      go_ret
      exact ⟨ret_bool (by rw [HV.out, HK.out]), hb⟩
theorem valid19 (A0 A3 A4 : Option Addr) (c0 c3 c4 : Nat) (l0 : List S70) (next j : Int) (l3 : List S72) (n4 : Nat) (w : World) (hr0 : Kd.C k70 w A0 l0.length l0) (hc0 : l0.length ≤ c0) (hl0 : l0.length ≤ 9223372036854775807) (hs0 : OkNames l0) (hr3 : Kd.C k72 w A3 l3.length l3) (hl3 : l3.length ≤ 9223372036854775807) (hs3 : OkPieces l3) :
    Calls Tryz.prog 19 #[.agg #[.slice A0 l0.length c0, .int .i64 next, .int .i64 j, .slice A3 l3.length c3, .slice A4 n4 c4]] w fun e w' => e = .returned (.bool (validB l0 next j l3)) ∧ Below w.heap.size w w' := by
  by_cases h : attrsB l0 = true ∧ next ≤ 1000000000 ∧ 1 ≤ j ∧ j < next ∧ l3.length ≤ 16
  · exact valid19_yes A0 A3 A4 c0 c3 c4 l0 next j l3 n4 w hr0 hc0 hl0 hs0 hr3 hs3 h.1 h.2.1 h.2.2.1 h.2.2.2.1 h.2.2.2.2
  · exact valid19_no A0 A3 A4 c0 c3 c4 l0 next j l3 n4 w hr0 hc0 hl0 hs0 hl3 h
end Go.Proofs.YtmeieeekjhjgjaaGreatDoor.H
