/- The walk of the reference's Attributes: a corpus of attributes alone. -/
import Derived.Test.YtmeieeekjhjgjaaGreatDoorCi
namespace Go.Proofs.YtmeieeekjhjgjaaGreatDoor.H
open Go.RowKit Go.Proofs.YtmeieeekjhjgjaaGreatDoorW.PrintWords

def corp (A : Option Addr) (n c : Nat) : Value := .agg #[.slice A n c, .slice none 0 0, .slice none 0 0, .slice none 0 0, .slice none 0 0, .slice none 0 0, .slice none 0 0]
def ok00 : Value := .tuple #[.int .i64 0, .int .i64 0]
set_option maxHeartbeats 2000000 in
set_option maxRecDepth 100000 in
theorem nil133 (A : Option Addr) (n c : Nat) (w : World) : Calls Tryz.prog 133 #[corp A n c] w fun e w' => e = .returned ok00 ∧ Below w.heap.size w w' := by
  unfold corp ok00
  go_enter Tryz.func133, Tryz.ntmps133
  go_wp2
  go_loopw [16] (fun i wr => i = .int .i64 0 ∧ Below w.heap.size w wr) (fun _ _ => 0)
  case atStart => exact ⟨rfl, by first | exact below_alloc (Below.refl _ _) _ | exact below_alloc (below_alloc (Below.refl _ _) _) _⟩
  case round =>
    obtain ⟨rfl, hb⟩ := hrel
    go_wp2
    go_ret2
    exact ⟨rfl, hb⟩
set_option maxHeartbeats 2000000 in
set_option maxRecDepth 100000 in
theorem nil134 (A : Option Addr) (n c : Nat) (w : World) : Calls Tryz.prog 134 #[corp A n c] w fun e w' => e = .returned ok00 ∧ Below w.heap.size w w' := by
  unfold corp ok00
  go_enter Tryz.func134, Tryz.ntmps134
  go_wp2
  go_loopw [28] (fun i wr => i = .int .i64 0 ∧ Below w.heap.size w wr) (fun _ _ => 0)
  case atStart => exact ⟨rfl, by first | exact below_alloc (Below.refl _ _) _ | exact below_alloc (below_alloc (Below.refl _ _) _) _⟩
  case round =>
    obtain ⟨rfl, hb⟩ := hrel
    go_wp2
    go_ret2
    exact ⟨rfl, hb⟩
set_option maxHeartbeats 2000000 in
set_option maxRecDepth 100000 in
theorem nil135 (A : Option Addr) (n c : Nat) (w : World) : Calls Tryz.prog 135 #[corp A n c] w fun e w' => e = .returned ok00 ∧ Below w.heap.size w w' := by
  unfold corp ok00
  go_enter Tryz.func135, Tryz.ntmps135
  go_wp2
  go_loopw [17] (fun i wr => i = .int .i64 0 ∧ Below w.heap.size w wr) (fun _ _ => 0)
  case atStart => exact ⟨rfl, by first | exact below_alloc (Below.refl _ _) _ | exact below_alloc (below_alloc (Below.refl _ _) _) _⟩
  case round =>
    obtain ⟨rfl, hb⟩ := hrel
    go_wp2
    go_ret2
    exact ⟨rfl, hb⟩
set_option maxHeartbeats 2000000 in
set_option maxRecDepth 100000 in
theorem nil136 (A : Option Addr) (n c : Nat) (w : World) : Calls Tryz.prog 136 #[.slice none 0 0, corp A n c] w fun e w' => e = .returned ok00 ∧ Below w.heap.size w w' := by
  unfold corp ok00
  have hmk : ∀ w, (Instr.makeSlice 22 (.int .i64 0) (.int .i64 0)).run Tryz.prog w = .ok (.slice (some ⟨w.heap.size, 0, none⟩) 0 0) (w.alloc (.cells #[] 3)) := fun w => by kernel_rfl
  go_enter Tryz.func136, Tryz.ntmps136
  go_wp2
  go_loopw [20] (fun i wr => i = .int .i64 0 ∧ Below w.heap.size w wr) (fun _ _ => 0)
  case atStart => exact ⟨rfl, by first | exact below_alloc (Below.refl _ _) _ | exact below_alloc (below_alloc (Below.refl _ _) _) _⟩
  case round =>
    obtain ⟨rfl, hb⟩ := hrel
    go_wp2
    go_ret2
    exact ⟨rfl, hb⟩
set_option maxHeartbeats 2000000 in
set_option maxRecDepth 100000 in
theorem nil137 (A : Option Addr) (n c : Nat) (w : World) : Calls Tryz.prog 137 #[corp A n c] w fun e w' => e = .returned ok00 ∧ Below w.heap.size w w' := by
  unfold corp ok00
  go_enter Tryz.func137, Tryz.ntmps137
  go_wp2
  go_loopw [38] (fun i wr => i = .int .i64 0 ∧ Below w.heap.size w wr) (fun _ _ => 0)
  case atStart => exact ⟨rfl, by first | exact below_alloc (Below.refl _ _) _ | exact below_alloc (below_alloc (Below.refl _ _) _) _⟩
  case round =>
    obtain ⟨rfl, hb⟩ := hrel
    go_wp2
    go_ret2
    exact ⟨rfl, hb⟩
theorem any_named (l : List S70) (t : ByteArray) (k : Nat) (hk : k ≤ l.length) (j : Nat) (x : S70) (hj : l[j]? = some x) (hjk : j < k) (h : x.f0 = t) : (l.take k).any (named t) = true := by
  rw [List.any_eq_true]
  exact ⟨x, List.mem_of_getElem? (by rw [List.getElem?_take, if_pos hjk]; exact hj), decide_eq_true h⟩
def CodePost (b : Bool) (w : World) (e : Ending) (w' : World) : Prop := ∃ n c : Int, e = .returned (.tuple #[.int .i64 n, .int .i64 c]) ∧ (decide (c = 0) = b) ∧ Below w.heap.size w w'
set_option maxHeartbeats 2000000 in
set_option maxRecDepth 100000 in
theorem attrs132 (A : Option Addr) (c : Nat) (l : List S70) (w : World) (hr : Kd.C k70 w A l.length l) (hcap : l.length ≤ c) (hl : l.length ≤ 9223372036854775807) (hs : OkNames l) :
    Calls Tryz.prog 132 #[.slice A l.length c] w (CodePost (attrsB l) w) := by
  have HR := Lib.hid hr
  have HS := Lib.hid hs
  clear hr hs
  by_cases h8 : l.length = 0 ∨ 8 < l.length
  · have HB : Hid (attrsB l = false) := Lib.hid (by
      unfold attrsB
      rcases h8 with h | h
      · rw [h]; simp
      · rw [decide_eq_false (show ¬ l.length ≤ 8 by omega)]; simp)
    rcases h8 with h | h
    · go_enter Tryz.func132, Tryz.ntmps132
      go_wp2
      go_ret2
      exact ⟨_, _, rfl, by rw [HB.out]; rfl, Below.refl _ _⟩
    · have h0 : ¬ l.length = 0 := by omega
      go_enter Tryz.func132, Tryz.ntmps132
      go_wp2
      go_ret2
      exact ⟨_, _, rfl, by rw [HB.out]; rfl, Below.refl _ _⟩
  · have h0 : ¬ l.length = 0 := by omega
    have h1 : l.length ≤ 8 := by omega
    clear h8
    have hz : ((l.length : Int) == 0) = false := beq_eq_false_iff_ne.2 (by omega)
    have h8' : ¬ (8 : Int) < l.length := by omega
    go_enter Tryz.func132, Tryz.ntmps132
    go_wp2
    go_loopw [16] (fun i wr => ∃ k : Nat, k ≤ l.length ∧ i = .int .i64 k ∧ Below w.heap.size w wr ∧ Hid (attrsTo l k = true)) (fun i _ => l.length - (intOf i).toNat)
    case atStart => exact ⟨0, by omega, rfl, Below.refl _ _, Lib.hid rfl⟩
    case round =>
      obtain ⟨k, hk, rfl, hb, HK⟩ := hrel
      by_cases hlt : k < l.length
      · obtain ⟨ad, x, hA, hx, q0, q1⟩ := at70 (Kd.C_below HR.out hb) k hlt
        subst hA
        have HT := Lib.hid (attrsTo_succ l k x hx)
        have HX := Lib.hid (HS.out x (List.mem_of_getElem? hx))
        have HB := Lib.hid (attrsB_bad l k hlt)
        clear hx
        have hkc : k ≤ c := by omega
        generalize hn : nameB x.f0 = f at *
        cases f
        · go_wp2_with (go_at_call 58; refine (validName58 x.f0 _ HX.out).mono ?_; rw [hn]; rintro e w1 ⟨rfl, rfl⟩)
          go_ret2
          exact ⟨_, _, rfl, by rw [HB.out (by rw [HT.out, HK.out]; rfl)]; rfl, hb.alloc hb.size _⟩
        · go_wp2_with (go_at_call 58; refine (validName58 x.f0 _ HX.out).mono ?_; rw [hn]; rintro e w1 ⟨rfl, rfl⟩)
          have hxb := blk_new wr (.cells #[.string x.f0, .bool x.f1] 70)
          have hwb : Below w.heap.size w (wr.alloc (.cells #[.string x.f0, .bool x.f1] 70)) := hb.alloc hb.size _
          generalize hWg : wr.alloc (.cells #[.string x.f0, .bool x.f1] 70) = Wg at *
          have HXB := Lib.hid hxb
          have hsz := hb.size
          clear hxb
          generalize hbn : wr.heap.size = bn at *
          go_loopw [30] (fun i wr => ∃ j : Nat, j ≤ k ∧ i = .int .i64 j ∧ Below Wg.heap.size Wg wr ∧ Hid ((l.take j).any (named x.f0) = false)) (fun i _ => k - (intOf i).toNat)
          case atStart => exact ⟨0, by omega, rfl, Below.refl _ _, Lib.hid rfl⟩
          case round =>
            obtain ⟨j, hj, rfl, hb2, HJ⟩ := hrel
            have t0 : wr.cell? ⟨bn, 0, none⟩ = some (.string x.f0) := by rw [blk_cell (blk_below HXB.out hb2)]; rfl
            have hb2' := hwb.trans (hb2.mono hwb.size)
            by_cases hjk : j < k
            · obtain ⟨ad', y, hA', hy, r0, r1⟩ := at70 (Kd.C_below HR.out hb2') j (by omega)
              cases hA'
              have t0' := pw_cell_below (below_alloc (Below.refl _ wr) (.cells #[.string y.f0, .bool y.f1] 70)) t0
              have hcase : (x.f0.toList == y.f0.toList) = decide (x.f0 = y.f0) := toList_beq _ _
              have HN := Lib.hid (any_named l x.f0 k hk j y hy hjk)
              have HTK := Lib.hid (any_take l x.f0 j y hy)
              clear hy
              by_cases he : x.f0 = y.f0
              · rw [decide_eq_true he] at hcase
                go_wp2
                go_ret2
                exact ⟨_, _, rfl, by rw [HB.out (by rw [HT.out, HK.out, HN.out he.symm]; rfl)]; rfl, hb2'.alloc hb2'.size _⟩
              · rw [decide_eq_false he] at hcase
                go_wp2
                go_roundw
                case rel => exact ⟨j + 1, by omega, by go_num, hb2.alloc hb2.size _, Lib.hid (by rw [HTK.out, HJ.out]; exact decide_eq_false (fun h => he h.symm))⟩
                case measure => simp [intOf]; omega
            · have : j = k := by omega
              subst this
              go_wp2
              go_roundw
              case rel => exact ⟨j + 1, by omega, by go_num, hb2', Lib.hid (by rw [HT.out, HK.out, HJ.out]; rfl)⟩
              case measure => simp [intOf]; omega
      · have : k = l.length := by omega
        subst this
        go_wp2
        go_ret2
        exact ⟨_, _, rfl, by unfold attrsB; rw [HK.out, decide_eq_true h1, decide_eq_true (show 1 ≤ l.length by omega)]; rfl, hb⟩
theorem box7 {w w1 : World} {A : Option Addr} {n c : Nat} (hb : Below (w.alloc (.cells #[.slice A n c, .slice none 0 0, .slice none 0 0, .slice none 0 0, .slice none 0 0, .slice none 0 0, .slice none 0 0] 96)).heap.size (w.alloc (.cells #[.slice A n c, .slice none 0 0, .slice none 0 0, .slice none 0 0, .slice none 0 0, .slice none 0 0, .slice none 0 0] 96)) w1) :
    w1.heap[w.heap.size]? = some (.cells #[.slice A n c, .slice none 0 0, .slice none 0 0, .slice none 0 0, .slice none 0 0, .slice none 0 0, .slice none 0 0] 96 (0, 0)) := blk_below (blk_new w _) hb
def Box7 (b : Nat) (A : Option Addr) (n c : Nat) (w : World) : Prop := w.cell? ⟨b, 0, none⟩ = some (.slice A n c) ∧ w.cell? ⟨b, 1, none⟩ = some (.slice none 0 0) ∧ w.cell? ⟨b, 2, none⟩ = some (.slice none 0 0) ∧ w.cell? ⟨b, 3, none⟩ = some (.slice none 0 0) ∧ w.cell? ⟨b, 4, none⟩ = some (.slice none 0 0) ∧ w.cell? ⟨b, 5, none⟩ = some (.slice none 0 0) ∧ w.cell? ⟨b, 6, none⟩ = some (.slice none 0 0)
theorem Box7.of {b : Nat} {A : Option Addr} {n c : Nat} {w : World} (h : w.heap[b]? = some (.cells #[.slice A n c, .slice none 0 0, .slice none 0 0, .slice none 0 0, .slice none 0 0, .slice none 0 0, .slice none 0 0] 96 (0, 0))) : Box7 b A n c w :=
  ⟨by rw [blk_cell h]; rfl, by rw [blk_cell h]; rfl, by rw [blk_cell h]; rfl, by rw [blk_cell h]; rfl, by rw [blk_cell h]; rfl, by rw [blk_cell h]; rfl, by rw [blk_cell h]; rfl⟩
def ValPost (b : Bool) (w : World) (e : Ending) (w' : World) : Prop := ∃ m n c : Int, e = .returned (.tuple #[.int .i64 m, .int .i64 n, .int .i64 c]) ∧ (decide (c = 0) = b) ∧ Below w.heap.size w w'
set_option maxHeartbeats 4000000 in
set_option maxRecDepth 100000 in
theorem validate97 (A : Option Addr) (c : Nat) (l : List S70) (w : World) (hr : Kd.C k70 w A l.length l) (hcap : l.length ≤ c) (hl : l.length ≤ 9223372036854775807) (hs : OkNames l) :
    Calls Tryz.prog 97 #[corp A l.length c] w (ValPost (attrsB l) w) := by
  have HR := Lib.hid hr
  clear hr
  unfold corp
  go_enter Tryz.func97, Tryz.ntmps97
  go_wp2_with fail
  refine (attrs132 A c l _ (Kd.C_below HR.out (below_alloc (Below.refl _ _) _)) hcap hl hs).mono ?_
  rintro e w1 ⟨n1, cc, rfl, hcc, hb1⟩
  have hb1' := below_then (below_alloc (Below.refl _ w) _) (by simp) hb1
  have HX1 := Lib.hid (box7 hb1)
  have HCC := Lib.hid hcc
  clear hb1 hcc
  by_cases hz : cc = 0
  · subst hz
    obtain ⟨p0, p1, p2, p3, p4, p5, p6⟩ := Box7.of HX1.out
    go_wp2_with fail
    refine (nil133 A l.length c _).mono ?_
    unfold ok00
    rintro e w2 ⟨rfl, hb2⟩
    obtain ⟨q0, q1, q2, q3, q4, q5, q6⟩ := Box7.of (blk_below HX1.out hb2)
    clear p0 p1 p2 p3 p4 p5 p6
    have HX2 := Lib.hid (blk_below HX1.out hb2)
    have hb2' := below_then hb1' hb1'.size hb2
    clear HX1 hb2
    go_wp2_with fail
    refine (nil134 A l.length c _).mono ?_
    unfold ok00
    rintro e w3 ⟨rfl, hb3⟩
    clear q0 q1 q2 q3 q4 q5 q6
    obtain ⟨p0, p1, p2, p3, p4, p5, p6⟩ := Box7.of (blk_below HX2.out hb3)
    have HX3 := Lib.hid (blk_below HX2.out hb3)
    have hb3' := below_then hb2' hb2'.size hb3
    clear HX2 hb3
    go_wp2_with fail
    refine (nil135 A l.length c _).mono ?_
    unfold ok00
    rintro e w4 ⟨rfl, hb4⟩
    clear p0 p1 p2 p3 p4 p5 p6
    obtain ⟨q0, q1, q2, q3, q4, q5, q6⟩ := Box7.of (blk_below HX3.out hb4)
    have HX4 := Lib.hid (blk_below HX3.out hb4)
    have hb4' := below_then hb3' hb3'.size hb4
    clear HX3 hb4
    go_wp2_with fail
    refine (nil136 A l.length c _).mono ?_
    unfold ok00
    rintro e w5 ⟨rfl, hb5⟩
    clear q0 q1 q2 q3 q4 q5 q6
    obtain ⟨p0, p1, p2, p3, p4, p5, p6⟩ := Box7.of (blk_below HX4.out hb5)
    have HX5 := Lib.hid (blk_below HX4.out hb5)
    have hb5' := below_then hb4' hb4'.size hb5
    clear HX4 hb5
    go_wp2_with fail
    refine (nil137 A l.length c _).mono ?_
    unfold ok00
    rintro e w6 ⟨rfl, hb6⟩
    have hb6' := below_then hb5' hb5'.size hb6
    go_wp2_with fail
    refine bodyPost_ret (v := .tuple #[.int .i64 0, .int .i64 0, .int .i64 0]) (by simp [results, Tryz.results97, go_sem]) rfl ⟨_, _, _, rfl, ?_, hb6'⟩
    rw [← HCC.out]; simp
  · have hzb : (cc == 0) = false := beq_eq_false_iff_ne.2 hz
    go_wp2_with fail
    refine bodyPost_ret (v := .tuple #[.int .i64 1, .int .i64 n1, .int .i64 cc]) (by simp [results, Tryz.results97, go_sem]) rfl ⟨_, _, _, rfl, ?_, hb1'⟩
    rw [← HCC.out]
theorem attributes57 (A : Option Addr) (c : Nat) (l : List S70) (w : World) (hr : Kd.C k70 w A l.length l) (hcap : l.length ≤ c) (hl : l.length ≤ 9223372036854775807) (hs : OkNames l) :
    Calls Tryz.prog 57 #[.slice A l.length c] w fun e w' => e = .returned (.bool (attrsB l)) ∧ Below w.heap.size w w' := by
  have HR := Lib.hid hr
  clear hr
  go_enter Tryz.func57, Tryz.ntmps57
  go_wp2_with fail
  refine (validate97 A c l _ HR.out hcap hl hs).mono ?_
  rintro e w1 ⟨m, n, cc, rfl, hcc, hb1⟩
  go_wp2_with fail
  go_ret
  exact ⟨ret_bool (by rw [← hcc]; by_cases h : cc = 0 <;> simp [h]), hb1⟩
end Go.Proofs.YtmeieeekjhjgjaaGreatDoor.H
