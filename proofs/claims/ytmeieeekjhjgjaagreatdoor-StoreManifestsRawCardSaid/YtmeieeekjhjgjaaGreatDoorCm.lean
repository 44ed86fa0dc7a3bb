/- The closure that writes a line. -/
import Derived.Test.YtmeieeekjhjgjaaGreatDoorSh
import Derived.Test.YtmeieeekjhjgjaaGreatDoorSw
import Derived.Test.YtmeieeekjhjgjaaGreatDoorCl
namespace Go.Proofs.YtmeieeekjhjgjaaGreatDoor.H
open Go.RowKit Go.Proofs.YtmeieeekjhjgjaaGreatDoorW.PrintWords

def lineL (xs : List ByteArray) : List UInt8 := Lib.join (xs.map (·.data.toList)) [32] ++ [10]
theorem others_below {b : Option Nat} {w w1 : World} (h : Below w.heap.size w w1) : Lib.OthersKept 5 b w w1 := fun k o hk _ _ => blk_below hk h
/-- A Builder that is older than what a call made. -/
theorem IsB_below {T e : TypeId} {B b : Nat} {bs : List Value} {w w1 : World} (h : Lib.IsBuilderF T e B b bs w) (hb : b < w.heap.size) (hB : Below w.heap.size w w1) : Lib.IsBuilderF T e B b bs w1 := by
  rcases h with h | h
  · obtain ⟨h1, v, h2, h3, h4⟩ := h
    exact .inl ⟨h1, v, blk_below h2 hB, h3.kept (grown_of_below hB none) (by cases h : v.ownBlock with | none => exact .inl rfl | some k => exact .inr (fun e => by cases e)), h4⟩
  · obtain ⟨h1, v, h2, h3, h4⟩ := h
    exact .inr ⟨h1, v, blk_below h2 hB, h3.kept (grown_of_below hB none) (by cases h : v.ownBlock with | none => exact .inl rfl | some k => exact .inr (fun e => by cases e)), h4⟩
set_option maxHeartbeats 2000000 in
theorem line20 (bk c b : Nat) (xs : List ByteArray) (l : List UInt8) (w : World) (hcells : ∀ (j : Nat) x, xs[j]? = some x → w.cell? ⟨bk, 0 + j, none⟩ = some (.string x)) (hbk : bk < w.heap.size) (hN : xs.length ≤ 1000000) (hcap : xs.length ≤ c)
    (hb : Lib.IsBuilderF 60 5 b b (Lib.byteCells l) w) (hbw : b < w.heap.size) (hlen : l.length + (lineL xs).length ≤ 140737488355328) :
    Calls Tryz.prog 20 #[.slice (some ⟨bk, 0, none⟩) xs.length c, .pointer (some ⟨b, 0, none⟩)] w fun e w' => e = .returned (.tuple #[]) ∧ Lib.IsBuilderF 60 5 b b (Lib.byteCells (l ++ lineL xs)) w' ∧ Below b w w' ∧ Lib.OthersKept 5 (some b) w w' := by
  have HJ : Hid ((Lib.join (xs.map (·.data.toList)) (⟨#[32]⟩ : ByteArray).data.toList).length ≤ 140737488355328) := Lib.hid (by
    have : (lineL xs).length = (Lib.join (xs.map (·.data.toList)) [32]).length + 1 := by unfold lineL; rw [List.length_append]; rfl
    show (Lib.join (xs.map (·.data.toList)) [32]).length ≤ _
    omega)
  have HC := Lib.hid hcells
  have HB := Lib.hid hb
  have hL : (Lib.byteCells l).length = l.length := by simp [Lib.byteCells]
  have HW : Hid ((Lib.byteCells l).length + (⟨(Lib.join (xs.map (·.data.toList)) (⟨#[32]⟩ : ByteArray).data.toList).toArray⟩ ++ ⟨#[10]⟩ : ByteArray).size ≤ 140737488355328) := Lib.hid (by
    have e : (⟨(Lib.join (xs.map (·.data.toList)) (⟨#[32]⟩ : ByteArray).data.toList).toArray⟩ ++ ⟨#[10]⟩ : ByteArray).size = (lineL xs).length := by
      rw [ByteArray.size_append]; unfold lineL; rw [List.length_append]; rfl
    rw [hL, e]; exact hlen)
  have HE : Hid (Lib.byteCells l ++ Lib.strCells (⟨(Lib.join (xs.map (·.data.toList)) (⟨#[32]⟩ : ByteArray).data.toList).toArray⟩ ++ ⟨#[10]⟩ : ByteArray) = Lib.byteCells (l ++ lineL xs)) := Lib.hid (by
    unfold Lib.byteCells Lib.strCells lineL
    rw [List.map_append, List.map_append, ByteArray.data_append, Array.toList_append, List.map_append])
  have hj2 : ¬ 9223372036854775807 < (Lib.join (xs.map (·.data.toList)) [32]).length + 1 := by
    have := HJ.out
    have e : (Lib.join (xs.map (·.data.toList)) (⟨#[32]⟩ : ByteArray).data.toList).length = (Lib.join (xs.map (·.data.toList)) [32]).length := rfl
    omega
  clear hcells hb hL
  go_enter Tryz.func20, Tryz.ntmps20
  go_wp2_with (first | (go_at_call 22; refine (Tryz.strings_Join bk 0 c xs ⟨#[32]⟩ _ HC.out hbk (by omega) hcap HJ.out).mono ?_; rintro e w1 ⟨rfl, hb1⟩) | (go_at_call 21; refine (Tryz.Builder_WriteString_k b b _ _ _ (by exact IsB_below HB.out hbw hb1) HW.out (by have := hb1.size; omega)).mono ?_; rintro e w2 ⟨rfl, hB2, hb2, hk2⟩))
  go_end0
  have HB2 := Lib.hid hB2
  exact ⟨rfl, .inr (by have := HB2.out; rwa [HE.out] at this), (hb1.mono (by omega)).trans hb2, (others_below hb1).trans hk2⟩
end Go.Proofs.YtmeieeekjhjgjaaGreatDoor.H
