/- The walks of the check sums. -/
import Derived.Test.YtmeieeekjhjgjaaGreatDoorProg
import Derived.Test.YtmeieeekjhjgjaaGreatDoorCa
import Derived.WalkKit
import Derived.LoopTactic
import Derived.Outline
import Derived.WalkLawsBesides
import Derived.Laws.BitsAllLaws
import Derived.Lib.Hide
namespace Go.Proofs.YtmeieeekjhjgjaaGreatDoor.H
open Go.RowKit

theorem crc1_odd {v : Nat} (h : v % 2 = 1) : crc1 v = (v / 2) ^^^ 2197175160 := by unfold crc1; rw [if_pos h]
theorem crc1_even {v : Nat} (h : ¬ v % 2 = 1) : crc1 v = v / 2 := by unfold crc1; rw [if_neg h]

theorem u32and1 (v : Nat) (h : v < 4294967296) : bits .and .u32 (v : Int) 1 = ((v % 2 : Nat) : Int) := by
  rw [show (1 : Int) = ((1 : Nat) : Int) from rfl, u32_and_nat v 1 h (by omega), nat_mask1]
theorem u32xorP (v : Nat) (h : v < 4294967296) : bits .xor .u32 (v : Int) 2197175160 = ((v ^^^ 2197175160 : Nat) : Int) := by
  rw [show (2197175160 : Int) = ((2197175160 : Nat) : Int) from rfl, u32_xor_nat v 2197175160 h (by omega)]
theorem half_nat (x : Nat) : ((x : Int) / 2) = ((x / 2 : Nat) : Int) := rfl
theorem ret_u32 {a b : Int} (h : a = b) : Ending.returned (.int .u32 a) = .returned (.int .u32 b) := by rw [h]
theorem slot_u32 {a b : Int} (h : a = b) : Value.int .u32 a = .int .u32 b := by rw [h]
theorem odd_of {x : Nat} (h : ((x : Int) % 2 == 1) = true) : x % 2 = 1 := by simp at h; omega
theorem even_of {x : Nat} (h : ((x : Int) % 2 == 1) = false) : ¬ x % 2 = 1 := by simp at h; omega
set_option maxHeartbeats 1000000 in
theorem step96 (v n : Nat) (w : World) (hv : v < 4294967296) (hn : n < 1000) :
    Calls Tryz.prog 96 #[.int .u32 v, .int .i64 n] w fun e w' => e = .returned (.int .u32 (crcN n v)) ∧ w = w' := by
  go_enter Tryz.func96, Tryz.ntmps96
  go_wp2
  go_loop [0, 6] (fun a i => ∃ k : Nat, k ≤ n ∧ i = .int .i64 k ∧ a = .int .u32 (crcN k v)) (fun _ i => n - (intOf i).toNat)
  case atStart => exact ⟨0, Nat.zero_le _, rfl, rfl⟩
  case round =>
    obtain ⟨k, hk, rfl, rfl⟩ := hrel
    by_cases hlt : k < n
    · have hb := @crcN_lt k v hv
      have HS := Lib.hid (crcN_snoc k v)
      have h1 := u32and1 (crcN k v) hb
      generalize crcN k v = x at *
      go_wp2
      · go_round
        case rel => exact ⟨k + 1, by omega, by go_num, by rw [HS.out, crc1_odd (odd_of ‹_›)]; exact slot_u32 (u32xorP (x / 2) (by omega))⟩
        case measure => simp [intOf]; omega
      · go_round
        case rel => exact ⟨k + 1, by omega, by go_num, by rw [HS.out, crc1_even (even_of ‹_›)]; rfl⟩
        case measure => simp [intOf]; omega
    · have : k = n := by omega
      subst this
      go_wp2
      go_ret
      exact ⟨rfl, rfl⟩
set_option maxHeartbeats 1000000 in
theorem step100 (v : Nat) (w : World) (hv : v < 4294967296) :
    Calls Tryz.prog 100 #[.int .u32 v] w fun e w' => e = .returned (.int .u32 (crcN 8 v)) ∧ w = w' := by
  go_enter Tryz.func100, Tryz.ntmps100
  go_wp2
  go_loop [0, 3] (fun a i => ∃ k : Nat, k ≤ 8 ∧ i = .int .i64 k ∧ a = .int .u32 (crcN k v)) (fun _ i => 8 - (intOf i).toNat)
  case atStart => exact ⟨0, Nat.zero_le _, rfl, rfl⟩
  case round =>
    obtain ⟨k, hk, rfl, rfl⟩ := hrel
    by_cases hlt : k < 8
    · have hb := @crcN_lt k v hv
      have HS := Lib.hid (crcN_snoc k v)
      have h1 := u32and1 (crcN k v) hb
      generalize crcN k v = x at *
      go_wp2
      · go_round
        case rel => exact ⟨k + 1, by omega, by go_num, by rw [HS.out, crc1_odd (odd_of ‹_›)]; exact slot_u32 (u32xorP (x / 2) (by omega))⟩
        case measure => simp [intOf]; omega
      · go_round
        case rel => exact ⟨k + 1, by omega, by go_num, by rw [HS.out, crc1_even (even_of ‹_›)]; rfl⟩
        case measure => simp [intOf]; omega
    · have : k = 8 := by omega
      subst this
      go_wp2
      go_ret
      exact ⟨rfl, rfl⟩
end Go.Proofs.YtmeieeekjhjgjaaGreatDoor.H
