/- The walk of validAttributes, with the closure that looks for a name. -/
import Derived.Test.YtmeieeekjhjgjaaGreatDoorCf
import Derived.Test.YtmeieeekjhjgjaaGreatDoorCk
namespace Go.Proofs.YtmeieeekjhjgjaaGreatDoor.H
open Go.RowKit Go.Proofs.YtmeieeekjhjgjaaGreatDoorW.PrintWords

theorem toList_eq (a b : ByteArray) (h : a.toList = b.toList) : a = b := by
  rw [ByteArray.toList_eq, ByteArray.toList_eq] at h
  obtain ⟨⟨x⟩⟩ := a
  obtain ⟨⟨y⟩⟩ := b
  simp at h
  rw [h]
theorem toList_beq (a b : ByteArray) : (a.toList == b.toList) = decide (a = b) := by
  rw [Bool.eq_iff_iff]
  simp only [beq_iff_eq, decide_eq_true_eq]
  exact ⟨toList_eq a b, fun h => by rw [h]⟩
def named (t : ByteArray) (x : S70) : Bool := decide (x.f0 = t)
set_option maxHeartbeats 1000000 in
theorem same91 (s t : ByteArray) (b : Bool) (g off : Nat) (w : World) (hc : w.cell? ⟨g, off, none⟩ = some (.string t)) :
    Calls Tryz.prog 91 #[.agg #[.string s, .bool b], .pointer (some ⟨g, off, none⟩)] w fun e w' => e = .returned (.bool (decide (s = t))) ∧ Below w.heap.size w w' := by
  have h2 := fun o => pw_cell_below (below_alloc (Below.refl _ w) o) hc
  go_enter Tryz.func91, Tryz.ntmps91
  go_wp2
  go_ret
  exact ⟨ret_bool (toList_beq s t), below_alloc (Below.refl _ _) _⟩

def foundAt (l : List S70) (t : ByteArray) (r : Int) : Prop := decide (0 ≤ r) = l.any (named t)
def IndexPost (l : List S70) (t : ByteArray) (w : World) (e : Ending) (w' : World) : Prop := ∃ r : Int, e = .returned (.int .i64 r) ∧ foundAt l t r ∧ Below w.heap.size w w'
theorem any_take (l : List S70) (t : ByteArray) (k : Nat) (x : S70) (h : l[k]? = some x) : (l.take (k + 1)).any (named t) = ((l.take k).any (named t) || named t x) := by
  rw [List.take_add_one, h, List.any_append]; simp
set_option maxHeartbeats 1000000 in
theorem index126 (A : Option Addr) (c g off : Nat) (l : List S70) (t : ByteArray) (w : World) (hr : Kd.C k70 w A l.length l) (hl : l.length ≤ 9223372036854775807) (hc : w.cell? ⟨g, off, none⟩ = some (.string t)) :
    Calls Tryz.prog 126 #[.slice A l.length c, .func (.func 91) #[] #[.pointer (some ⟨g, off, none⟩)]] w (IndexPost l t w) := by
  have HR := Lib.hid hr
  have HC := Lib.hid hc
  clear hr hc
  go_enter Tryz.func126, Tryz.ntmps126
  go_wp2
  go_loopw [8] (fun i wr => ∃ k : Nat, k ≤ l.length ∧ i = .int .i64 k ∧ Below w.heap.size w wr ∧ Hid ((l.take k).any (named t) = false)) (fun i _ => l.length - (intOf i).toNat)
  case atStart => exact ⟨0, by omega, rfl, Below.refl _ _, Lib.hid rfl⟩
  case round =>
    obtain ⟨k, hk, rfl, hb, HK⟩ := hrel
    by_cases hlt : k < l.length
    · obtain ⟨ad, x, hA, hx, q0, q1⟩ := at70 (Kd.C_below HR.out hb) k hlt
      subst hA
      have HT := Lib.hid (any_take l t k x hx)
      have HF : Hid (named t x = true → l.any (named t) = true) := Lib.hid (fun h => List.any_eq_true.2 ⟨x, List.mem_of_getElem? hx, h⟩)
      clear hx
      have hn : decide (x.f0 = t) = named t x := rfl
      have HN := Lib.hid hn
      clear hn
      go_wp2_with (go_at_call 91; refine (same91 x.f0 t x.f1 g off _ (pw_cell_below hb HC.out)).mono ?_; rw [HN.out]; rintro e w1 ⟨rfl, hb1⟩)
      · have hy : named t x = true := by assumption
        go_ret
        exact ⟨_, rfl, by unfold foundAt; rw [HF.out hy]; simp, below_then hb hb.size hb1⟩
      · have hy : named t x = false := by assumption
        go_roundw
        case rel => exact ⟨k + 1, by omega, by go_num, below_then hb hb.size hb1, by rw [HT.out, HK.out, hy]; exact rfl⟩
        case measure => simp [intOf]; omega
    · have : k = l.length := by omega
      subst this
      have HA : Hid (l.any (named t) = false) := Lib.hid (by have := HK.out; rwa [List.take_length] at this)
      clear HK
      go_wp2
      go_ret
      exact ⟨_, rfl, by unfold foundAt; rw [HA.out]; simp, hb⟩
set_option maxHeartbeats 1000000 in
theorem contains90 (A : Option Addr) (c g off : Nat) (l : List S70) (t : ByteArray) (w : World) (hr : Kd.C k70 w A l.length l) (hl : l.length ≤ 9223372036854775807) (hc : w.cell? ⟨g, off, none⟩ = some (.string t)) :
    Calls Tryz.prog 90 #[.slice A l.length c, .func (.func 91) #[] #[.pointer (some ⟨g, off, none⟩)]] w fun e w' => e = .returned (.bool (l.any (named t))) ∧ Below w.heap.size w w' := by
  have HR := Lib.hid hr
  have HC := Lib.hid hc
  clear hr hc
  go_enter Tryz.func90, Tryz.ntmps90
  go_wp2_with (go_at_call 126; refine (index126 A c g off l t _ HR.out hl HC.out).mono ?_; rintro e w1 ⟨r, rfl, hf, hb1⟩; have HF := Lib.hid hf; clear hf)
  go_ret
  exact ⟨ret_bool HF.out, hb1⟩
end Go.Proofs.YtmeieeekjhjgjaaGreatDoor.H
