/- The walk of the law StoreManifestsRaw. -/
import Derived.Test.YtmeieeekjhjgjaaGreatDoorEa
namespace Go.Proofs.YtmeieeekjhjgjaaGreatDoor.H
open Go.RowKit Go.Proofs.YtmeieeekjhjgjaaGreatDoorW.PrintWords

set_option maxHeartbeats 4000000 in
set_option maxRecDepth 100000 in
theorem law4 (A0 A3 A4 : Option Addr) (c0 c3 c4 : Nat) (l0 : List S70) (next j : Int) (l3 : List S72) (n4 : Nat) (s : ByteArray) (w : World) (hg : Glob w) (hr0 : Kd.C k70 w A0 l0.length l0) (hc0 : l0.length ≤ c0) (hs0 : OkNames l0) (hr3 : Kd.C k72 w A3 l3.length l3) (hc3 : l3.length ≤ c3) (hs3 : OkPieces l3) :
    Calls Tryz.prog 4 #[.agg #[.slice A0 l0.length c0, .int .i64 next, .int .i64 j, .slice A3 l3.length c3, .slice A4 n4 c4], .string s] w fun e w' => e = .returned (.bool true) ∧ Below w.heap.size w w' := by
  have HR0 := Lib.hid hr0
  have HR3 := Lib.hid hr3
  have HG := Lib.hid hg
  have hl0 := hr0.2.1
  have hl3 := hr3.2.1
  clear hr0 hr3 hg
  by_cases g1 : 9 < l0.length
  · have g1' : (9 : Int) < l0.length := by omega
    go_enter Tryz.func4, Tryz.ntmps4
    go_wp2
    go_ret
    exact ⟨rfl, below_alloc (Below.refl _ _) _⟩
  · have g1' : ¬ (9 : Int) < l0.length := by omega
    by_cases g2 : 18 < l3.length
    · have g2' : (18 : Int) < l3.length := by omega
      go_enter Tryz.func4, Tryz.ntmps4
      go_wp2
      go_ret
      exact ⟨rfl, below_alloc (Below.refl _ _) _⟩
    · have g2' : ¬ (18 : Int) < l3.length := by omega
      by_cases g3 : 300 < s.size
      · have g3' : (300 : Int) < s.size := by omega
        go_enter Tryz.func4, Tryz.ntmps4
        go_wp2
        go_ret
        exact ⟨rfl, below_alloc (Below.refl _ _) _⟩
      · have g3' : ¬ (300 : Int) < s.size := by omega
        go_enter Tryz.func4, Tryz.ntmps4
        go_wp2_with fail
        refine (man7 A0 A3 A4 c0 c3 c4 l0 next j l3 n4 _ (HG.out.below' (below_alloc (Below.refl _ _) _)) (Kd.C_below HR0.out (below_alloc (Below.refl _ _) _)) hc0 (by omega) hs0 (Kd.C_below HR3.out (below_alloc (Below.refl _ _) _)) (by omega) hs3).mono ?_
        generalize hT : manT l0 next j l3 = T at *
        generalize hE : manE l0 next j l3 = E at *
        rintro e w1 ⟨rfl, hb1⟩
        have hb1' := below_then (below_alloc (Below.refl _ w) _) (by simp) hb1
        obtain ⟨q0, q1, q2, q3, q4⟩ := box5 hb1
        clear hb1
        go_wp2_with fail
        refine (man8 A0 A3 A4 c0 c3 c4 l0 next j l3 n4 w1 (Kd.C_below HR0.out hb1') hc0 (by omega) hs0 (Kd.C_below HR3.out hb1') hc3 hs3).mono ?_
        rw [hT, hE]
        rintro e w2 ⟨rfl, hb2⟩
        have hb2' := hb1'.trans (hb2.mono hb1'.size)
        clear hT hE q0 q1 q2 q3 q4 hb2
        go_wp2_with fail
        refine (parse9 s (by omega) w2 (HG.out.below' hb2')).mono ?_
        rintro e w3 ⟨hb3, hcase⟩
        have hb3' := hb2'.trans (hb3.mono hb2'.size)
        clear hb3
        rcases hcase with ⟨h1, h2, h3, B0, b0, B3, b3, rfl, hC0, hb0, hC3, hb3l⟩ | ⟨hno, rfl⟩
        · have HAG := Lib.hid ((agree s).1 ⟨h1, h2, h3⟩)
          have HST := Lib.hid (agree_st s ⟨h1, h2, h3⟩)
          have OK := Ok.of h2
          generalize hst : parseP (headB s) = st at *
          have HC0 := Lib.hid hC0
          have HC3 := Lib.hid hC3
          clear hC0 hC3 hst h1 h2 h3
          go_wp2_with fail
          have hx4 := blk_new w3 (.cells #[.slice B0 st.l0.length b0, .int .i64 st.next, .int .i64 st.j, .slice B3 st.l3.length b3, .slice none 0 0] 27)
          have hb4 : Below w3.heap.size w3 (w3.alloc (.cells #[.slice B0 st.l0.length b0, .int .i64 st.next, .int .i64 st.j, .slice B3 st.l3.length b3, .slice none 0 0] 27)) := below_alloc (Below.refl _ _) _
          refine (parse13 s (by omega) _).mono ?_
          rintro e w5 ⟨hb5, hcase5⟩
          rcases hcase5 with ⟨_, _, _, D0, d0, D3, d3, rfl, hD0, hd0, hD3, hd3⟩ | ⟨hno, _⟩
          case inr => exact absurd HAG.out hno
          rw [HST.out] at *
          have hb35 : Below w3.heap.size w3 w5 := hb4.trans (hb5.mono hb4.size)
          have hx5 := blk_below hx4 hb5
          have x0 := (blk_cell hx5 0).trans (show _ = some (Value.slice B0 st.l0.length b0) from rfl)
          have x1 := (blk_cell hx5 1).trans (show _ = some (Value.int .i64 st.next) from rfl)
          have x2 := (blk_cell hx5 2).trans (show _ = some (Value.int .i64 st.j) from rfl)
          have x3 := (blk_cell hx5 3).trans (show _ = some (Value.slice B3 st.l3.length b3) from rfl)
          have x4 := (blk_cell hx5 4).trans (show _ = some (Value.slice none 0 0) from rfl)
          have HD0 := Lib.hid hD0
          have HD3 := Lib.hid hD3
          have hb5' := hb3'.trans (hb35.mono hb3'.size)
          clear hx4 hb4 hb5 hx5 hD0 hD3
          have hTT : (T.toList == T.toList) = true := by simp
          have hEE : (E == E) = true := by simp
          have bq : Below w5.heap.size w5 (w5.alloc (.cells #[.slice D0 st.l0.length d0, .int .i64 st.next, .int .i64 st.j, .slice D3 st.l3.length d3, .slice none 0 0] 27)) := below_alloc (Below.refl _ _) _
          have y0 := pw_cell_below bq x0
          have y1 := pw_cell_below bq x1
          have y2 := pw_cell_below bq x2
          have y3 := pw_cell_below bq x3
          have y4 := pw_cell_below bq x4
          have n0 := OK.n0
          have n3 := OK.n3
          have p3 := fun x hx => (OK.p3 x hx).2.2.1
          go_wp2_with fail
          refine (same10 B0 B3 D0 D3 b0 b3 d0 d3 st.l0 st.next st.j st.l3 _ (Kd.C_below HC0.out (hb35.trans (bq.mono hb35.size))) (Kd.C_below HD0.out bq) (Kd.C_below HC3.out (hb35.trans (bq.mono hb35.size))) (Kd.C_below HD3.out bq) (by omega) (by omega) (fun x hx => by have := p3 x hx; omega)).mono ?_
          rintro e w6 ⟨rfl, hb6⟩
          have hb6' := (hb5'.trans (bq.mono hb5'.size)).trans (hb6.mono (hb5'.trans (bq.mono hb5'.size)).size)
          go_wp2_with fail
          refine (known12 w6 (HG.out.below' hb6')).mono ?_
          rintro e w7 ⟨rfl, hb7⟩
          go_wp2_with fail
          go_ret
          exact ⟨rfl, hb6'.trans (hb7.mono hb6'.size)⟩
        · have hno' : ¬ (4 ≤ s.size ∧ validSt (parseR (headB s)) = true ∧ manSt (parseR (headB s)) = s) := fun h => hno ((agree s).2 h)
          have HNO := Lib.hid hno'
          clear hno hno'
          unfold zeroStore
          go_wp2_with fail
          have hx4 := blk_new w3 (.cells #[.slice none 0 0, .int .i64 0, .int .i64 0, .slice none 0 0, .slice none 0 0] 27)
          have hb4 : Below w3.heap.size w3 (w3.alloc (.cells #[.slice none 0 0, .int .i64 0, .int .i64 0, .slice none 0 0, .slice none 0 0] 27)) := below_alloc (Below.refl _ _) _
          refine (parse13 s (by omega) _).mono ?_
          rintro e w5 ⟨hb5, hcase5⟩
          rcases hcase5 with ⟨a1, a2, a3, _⟩ | ⟨_, rfl⟩
          · exact absurd ⟨a1, a2, a3⟩ HNO.out
          have hb35 : Below w3.heap.size w3 w5 := hb4.trans (hb5.mono hb4.size)
          have hx5 := blk_below hx4 hb5
          have x0 := (blk_cell hx5 0).trans (show _ = some (Value.slice none 0 0) from rfl)
          have x1 := (blk_cell hx5 1).trans (show _ = some (Value.int .i64 0) from rfl)
          have x2 := (blk_cell hx5 2).trans (show _ = some (Value.int .i64 0) from rfl)
          have x3 := (blk_cell hx5 3).trans (show _ = some (Value.slice none 0 0) from rfl)
          have x4 := (blk_cell hx5 4).trans (show _ = some (Value.slice none 0 0) from rfl)
          have hb5' := hb3'.trans (hb35.mono hb3'.size)
          clear hx4 hb4 hb5 hx5
          have hTT : (T.toList == T.toList) = true := by simp
          have hEE : (E == E) = true := by simp
          have bq : Below w5.heap.size w5 (w5.alloc (.cells #[.slice none 0 0, .int .i64 0, .int .i64 0, .slice none 0 0, .slice none 0 0] 27)) := below_alloc (Below.refl _ _) _
          have y0 := pw_cell_below bq x0
          have y1 := pw_cell_below bq x1
          have y2 := pw_cell_below bq x2
          have y3 := pw_cell_below bq x3
          have y4 := pw_cell_below bq x4
          unfold zeroStore
          go_wp2_with fail
          have e0 : ∀ V, Kd.C k70 V none 0 [] := fun V => ⟨rfl, by omega, fun h => absurd h (by omega)⟩
          have e3 : ∀ V, Kd.C k72 V none 0 [] := fun V => ⟨rfl, by omega, fun h => absurd h (by omega)⟩
          refine (same10 none none none none 0 0 0 0 [] 0 0 [] _ (e0 _) (e0 _) (e3 _) (e3 _) (by simp) (by simp) (fun x hx => by cases hx)).mono ?_
          rintro e w6 ⟨rfl, hb6⟩
          have hb6' := (hb5'.trans (bq.mono hb5'.size)).trans (hb6.mono (hb5'.trans (bq.mono hb5'.size)).size)
          go_wp2_with fail
          refine (known12 w6 (HG.out.below' hb6')).mono ?_
          rintro e w7 ⟨rfl, hb7⟩
          go_wp2_with fail
          go_ret
          exact ⟨rfl, hb6'.trans (hb7.mono hb6'.size)⟩
end Go.Proofs.YtmeieeekjhjgjaaGreatDoor.H
