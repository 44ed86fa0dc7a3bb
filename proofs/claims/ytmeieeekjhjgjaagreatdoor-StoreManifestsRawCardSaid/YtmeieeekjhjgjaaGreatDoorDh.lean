/- The walk of the reference's Same: of two stores that read alike. -/
import Derived.Test.YtmeieeekjhjgjaaGreatDoorDg
namespace Go.Proofs.YtmeieeekjhjgjaaGreatDoor.H
open Go.RowKit Go.Proofs.YtmeieeekjhjgjaaGreatDoorW.PrintWords

set_option maxHeartbeats 2000000 in
set_option maxRecDepth 100000 in
theorem same10 (A0 A3 B0 B3 : Option Addr) (a0 a3 b0 b3 : Nat) (l0 : List S70) (n j : Int) (l3 : List S72) (w : World) (h0 : Kd.C k70 w A0 l0.length l0) (h0' : Kd.C k70 w B0 l0.length l0) (h3 : Kd.C k72 w A3 l3.length l3) (h3' : Kd.C k72 w B3 l3.length l3) (hl : l0.length ≤ 100000000) (hl3 : l3.length ≤ 100000000) (hs : ∀ x ∈ l3, x.f1.length ≤ 100000000) :
    Calls Tryz.prog 10 #[.agg #[.slice A0 l0.length a0, .int .i64 n, .int .i64 j, .slice A3 l3.length a3, .slice none 0 0], .agg #[.slice B0 l0.length b0, .int .i64 n, .int .i64 j, .slice B3 l3.length b3, .slice none 0 0]] w fun e w' => e = .returned (.bool true) ∧ Below w.heap.size w w' := by
  have H0 := Lib.hid h0
  have H0' := Lib.hid h0'
  have H3 := Lib.hid h3
  have H3' := Lib.hid h3'
  clear h0 h0' h3 h3'
  go_enter Tryz.func10, Tryz.ntmps10
  go_wp2_with fail
  have hx := blk_alloc (blk_new w (.cells #[.slice A0 l0.length a0, .int .i64 n, .int .i64 j, .slice A3 l3.length a3, .slice none 0 0] 27)) (.cells #[.slice B0 l0.length b0, .int .i64 n, .int .i64 j, .slice B3 l3.length b3, .slice none 0 0] 27)
  have hy := blk_new (w.alloc (.cells #[.slice A0 l0.length a0, .int .i64 n, .int .i64 j, .slice A3 l3.length a3, .slice none 0 0] 27)) (.cells #[.slice B0 l0.length b0, .int .i64 n, .int .i64 j, .slice B3 l3.length b3, .slice none 0 0] 27)
  rw [World.size_alloc] at hy
  have hb : Below w.heap.size w ((w.alloc (.cells #[.slice A0 l0.length a0, .int .i64 n, .int .i64 j, .slice A3 l3.length a3, .slice none 0 0] 27)).alloc (.cells #[.slice B0 l0.length b0, .int .i64 n, .int .i64 j, .slice B3 l3.length b3, .slice none 0 0] 27)) := below_alloc (below_alloc (Below.refl _ _) _) _
  generalize ((w.alloc (.cells #[.slice A0 l0.length a0, .int .i64 n, .int .i64 j, .slice A3 l3.length a3, .slice none 0 0] 27)).alloc (.cells #[.slice B0 l0.length b0, .int .i64 n, .int .i64 j, .slice B3 l3.length b3, .slice none 0 0] 27)) = W at *
  refine (same33 A0 B0 a0 b0 l0 W (Kd.C_below H0.out hb) (Kd.C_below H0'.out hb) hl).mono ?_
  rintro e w1 ⟨rfl, hb1⟩
  have hx1 := blk_below hx hb1
  have hy1 := blk_below hy hb1
  have hb1' := hb.trans (hb1.mono hb.size)
  have HX := Lib.hid hx1
  have HY := Lib.hid hy1
  have x1 := (blk_cell hx1 1).trans (show _ = some (Value.int .i64 n) from rfl)
  have x2 := (blk_cell hx1 2).trans (show _ = some (Value.int .i64 j) from rfl)
  have x3 := (blk_cell hx1 3).trans (show _ = some (Value.slice A3 l3.length a3) from rfl)
  have y1 := (blk_cell hy1 1).trans (show _ = some (Value.int .i64 n) from rfl)
  have y2 := (blk_cell hy1 2).trans (show _ = some (Value.int .i64 j) from rfl)
  have y3 := (blk_cell hy1 3).trans (show _ = some (Value.slice B3 l3.length b3) from rfl)
  clear hx hy hb hb1 hx1 hy1
  go_wp2_with fail
  refine (pieces34 A3 B3 a3 b3 l3 w1 (Kd.C_below H3.out hb1') (Kd.C_below H3'.out hb1') hl3 hs).mono ?_
  rintro e w2 ⟨rfl, hb2⟩
  have hx2 := blk_below HX.out hb2
  have hy2 := blk_below HY.out hb2
  have x4 := (blk_cell hx2 4).trans (show _ = some (Value.slice none 0 0) from rfl)
  have y4 := (blk_cell hy2 4).trans (show _ = some (Value.slice none 0 0) from rfl)
  clear hx2 hy2 x1 x2 x3 y1 y2 y3
  go_wp2_with fail
  refine (same35 w2).mono ?_
  rintro e w3 ⟨rfl, rfl⟩
  go_wp2_with fail
  go_ret
  exact ⟨rfl, hb1'.trans (hb2.mono hb1'.size)⟩
end Go.Proofs.YtmeieeekjhjgjaaGreatDoor.H
