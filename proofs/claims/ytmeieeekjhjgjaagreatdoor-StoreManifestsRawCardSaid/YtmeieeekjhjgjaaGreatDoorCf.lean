/- The walks of the names, in both texts. -/
import Derived.Test.YtmeieeekjhjgjaaGreatDoorCc
namespace Go.Proofs.YtmeieeekjhjgjaaGreatDoor.H
open Go.RowKit Go.Proofs.YtmeieeekjhjgjaaGreatDoorW.PrintWords

def firstB (n : Nat) : Bool := decide (65 ≤ n ∧ n ≤ 90) || (decide (97 ≤ n ∧ n ≤ 122) || decide (n = 95))
def nextB (n : Nat) : Bool := firstB n || (decide (48 ≤ n ∧ n ≤ 57) || decide (n = 45))
/-- A valid name. -/
def nameL (l : List Nat) : Bool := decide (1 ≤ l.length ∧ l.length ≤ 32) && (firstB (l.getD 0 0) && l.all nextB)
def nameB (s : ByteArray) : Bool := nameL (nats s)

theorem ret_bool {a b : Bool} (h : a = b) : Ending.returned (.bool a) = .returned (.bool b) := by rw [h]
set_option maxHeartbeats 1000000 in
theorem begins124 (n : Nat) (hn : n < 256) (w : World) : Calls Tryz.prog 124 #[.int .u8 n] w fun e w' => e = .returned (.bool (firstB n)) ∧ w = w' := by
  go_enter Tryz.func124, Tryz.ntmps124
  go_wp2
  all_goals
    go_ret
    exact ⟨ret_bool (by unfold firstB; rw [Bool.eq_iff_iff]; simp; omega), rfl⟩
set_option maxHeartbeats 1000000 in
theorem first98 (n : Nat) (hn : n < 256) (w : World) : Calls Tryz.prog 98 #[.int .u8 n] w fun e w' => e = .returned (.bool (firstB n)) ∧ w = w' := by
  go_enter Tryz.func98, Tryz.ntmps98
  go_wp2
  all_goals
    go_ret
    exact ⟨ret_bool (by unfold firstB; rw [Bool.eq_iff_iff]; simp; omega), rfl⟩
theorem firstB_of {n : Nat} {b : Bool} (h : firstB n = b) : nextB n = (b || (decide (48 ≤ n ∧ n ≤ 57) || decide (n = 45))) := by unfold nextB; rw [h]
set_option maxHeartbeats 1000000 in
theorem goesOn125 (n : Nat) (hn : n < 256) (w : World) : Calls Tryz.prog 125 #[.int .u8 n] w fun e w' => e = .returned (.bool (nextB n)) ∧ w = w' := by
  have HF := Lib.hid (@firstB_of n _ rfl)
  generalize hf : firstB n = f at *
  cases f <;> simp only [Bool.true_or, Bool.false_or] at HF
  all_goals
    go_enter Tryz.func125, Tryz.ntmps125
    go_wp2_with (go_at_call 124; refine (begins124 n hn _).mono ?_; rw [hf]; rintro e w' ⟨rfl, rfl⟩)
    all_goals
      go_ret
      exact ⟨ret_bool (by rw [HF.out]; try (rw [Bool.eq_iff_iff]; simp; omega)), rfl⟩
set_option maxHeartbeats 1000000 in
theorem next99 (n : Nat) (hn : n < 256) (w : World) : Calls Tryz.prog 99 #[.int .u8 n] w fun e w' => e = .returned (.bool (nextB n)) ∧ w = w' := by
  have HF := Lib.hid (@firstB_of n _ rfl)
  generalize hf : firstB n = f at *
  cases f <;> simp only [Bool.true_or, Bool.false_or] at HF
  all_goals
    go_enter Tryz.func99, Tryz.ntmps99
    go_wp2_with (go_at_call 98; refine (first98 n hn _).mono ?_; rw [hf]; rintro e w' ⟨rfl, rfl⟩)
    all_goals
      go_ret
      exact ⟨ret_bool (by rw [HF.out]; try (rw [Bool.eq_iff_iff]; simp; omega)), rfl⟩

theorem nameL_take (s : ByteArray) (k b : Nat) (h : (nats s)[k]? = some b) : ((nats s).take (k + 1)).all nextB = (((nats s).take k).all nextB && nextB b) := by
  rw [take_snoc_nat h, List.all_append]; simp
theorem str_at (s : ByteArray) (k : Nat) (hk : k < s.size) : ∃ b : Nat, b < 256 ∧ (nats s)[k]? = some b ∧ s[k].toNat = b := by
  obtain ⟨b, h1, h2, h3⟩ := nats_get s k hk
  refine ⟨b, h1, h2, ?_⟩
  have := bt_at s k (by simpa using hk)
  rw [h3] at this
  have t2 : ((s[k]'hk).toNat : Int) = b := by simpa using this
  exact Int.ofNat_inj.1 t2
set_option maxHeartbeats 1000000 in
theorem validName89_out (s : ByteArray) (w : World) (h : s.size < 1 ∨ 32 < s.size) (hs : s.size ≤ 9223372036854775807) : Calls Tryz.prog 89 #[.string s] w fun e w' => e = .returned (.bool (nameB s)) ∧ w = w' := by
  have HN : Hid (nameB s = false) := Lib.hid (by unfold nameB nameL; rw [nats_length, decide_eq_false (by omega), Bool.false_and])
  rcases h with h | h
  all_goals
    go_enter Tryz.func89, Tryz.ntmps89
    go_wp2
    go_ret
    exact ⟨ret_bool HN.out.symm, rfl⟩
set_option maxHeartbeats 1000000 in
theorem validName89 (s : ByteArray) (w : World) (hs : s.size ≤ 9223372036854775807) : Calls Tryz.prog 89 #[.string s] w fun e w' => e = .returned (.bool (nameB s)) ∧ w = w' := by
  by_cases hx : s.size < 1 ∨ 32 < s.size
  · exact validName89_out s w hx hs
  · have h1 : 0 < s.size := by omega
    have h2 : s.size ≤ 32 := by omega
    clear hx
    obtain ⟨b0, hb0, hg0, he0⟩ := str_at s 0 h1
    have HG0 := Lib.hid hg0
    clear hg0
    have HN : Hid (nameB s = (firstB b0 && (nats s).all nextB)) := Lib.hid (by unfold nameB nameL; rw [nats_length, decide_eq_true ⟨h1, h2⟩, Bool.true_and, List.getD_eq_getElem?_getD, HG0.out]; rfl)
    have HN1 : Hid (firstB b0 = false → nameB s = false) := Lib.hid (fun h => by rw [HN.out, h]; rfl)
    have HN2 : Hid (firstB b0 = true → nameB s = (nats s).all nextB) := Lib.hid (fun h => by rw [HN.out, h]; rfl)
    have HS1 : Hid (firstB b0 = true → ((nats s).take 1).all nextB = true) := Lib.hid (fun h => by
      rw [show (1 : Nat) = 0 + 1 from rfl, nameL_take s 0 b0 HG0.out]
      unfold nextB; rw [h]; rfl)
    generalize hf : firstB b0 = f at *
    cases f
    · go_enter Tryz.func89, Tryz.ntmps89
      go_wp2_with (go_at_call 124; refine (begins124 b0 hb0 _).mono ?_; rw [hf]; rintro e w' ⟨rfl, rfl⟩)
      go_ret
      exact ⟨ret_bool (HN1.out (by simp)).symm, rfl⟩
    · go_enter Tryz.func89, Tryz.ntmps89
      go_wp2_with (go_at_call 124; refine (begins124 b0 hb0 _).mono ?_; rw [hf]; rintro e w' ⟨rfl, rfl⟩)
      go_loop [20] (fun i => ∃ k : Nat, 0 ≤ k ∧ k ≤ s.size ∧ i = .int .i64 k ∧ Hid (((nats s).take k).all nextB = true)) (fun i => s.size - (intOf i).toNat)
      case atStart => exact ⟨0, by omega, by omega, rfl, Lib.hid rfl⟩
      case round =>
        obtain ⟨k, hk0, hk, rfl, HK⟩ := hrel
        by_cases hlt : k < s.size
        · obtain ⟨b, hb, hg, he⟩ := str_at s k hlt
          have HT := Lib.hid (nameL_take s k b hg)
          have HF : Hid (nextB b = false → (nats s).all nextB = false) := Lib.hid (fun h => by
            rw [Bool.eq_false_iff]; intro hall
            have := List.all_eq_true.1 hall b (List.mem_of_getElem? hg)
            rw [h] at this; cases this)
          clear hg
          generalize hf2 : nextB b = f at *
          cases f
          · go_wp2_with (go_at_call 125; refine (goesOn125 b hb _).mono ?_; rw [hf2]; rintro e w' ⟨rfl, rfl⟩)
            go_ret
            exact ⟨ret_bool ((HN2.out (by simp)).trans (HF.out (by simp))).symm, rfl⟩
          · go_wp2_with (go_at_call 125; refine (goesOn125 b hb _).mono ?_; rw [hf2]; rintro e w' ⟨rfl, rfl⟩)
            go_round
            case rel => exact ⟨k + 1, by omega, by omega, by go_num, by rw [HT.out, HK.out]; exact rfl⟩
            case measure => simp [intOf]; omega
        · have : k = s.size := by omega
          subst this
          have HA : Hid ((nats s).all nextB = true) := Lib.hid (by have := HK.out; rwa [List.take_of_length_le (by rw [nats_length]; omega)] at this)
          clear HK
          go_wp2
          go_ret
          exact ⟨ret_bool ((HN2.out (by simp)).trans HA.out).symm, rfl⟩
set_option maxHeartbeats 1000000 in
theorem validName58_out (s : ByteArray) (w : World) (h : s.size < 1 ∨ 32 < s.size) (hs : s.size ≤ 9223372036854775807) : Calls Tryz.prog 58 #[.string s] w fun e w' => e = .returned (.bool (nameB s)) ∧ w = w' := by
  have HN : Hid (nameB s = false) := Lib.hid (by unfold nameB nameL; rw [nats_length, decide_eq_false (by omega), Bool.false_and])
  rcases h with h | h
  all_goals
    go_enter Tryz.func58, Tryz.ntmps58
    go_wp2
    go_ret
    exact ⟨ret_bool HN.out.symm, rfl⟩
set_option maxHeartbeats 1000000 in
theorem validName58 (s : ByteArray) (w : World) (hs : s.size ≤ 9223372036854775807) : Calls Tryz.prog 58 #[.string s] w fun e w' => e = .returned (.bool (nameB s)) ∧ w = w' := by
  by_cases hx : s.size < 1 ∨ 32 < s.size
  · exact validName58_out s w hx hs
  · have h1 : 0 < s.size := by omega
    have h2 : s.size ≤ 32 := by omega
    clear hx
    obtain ⟨b0, hb0, hg0, he0⟩ := str_at s 0 h1
    have HG0 := Lib.hid hg0
    clear hg0
    have HN : Hid (nameB s = (firstB b0 && (nats s).all nextB)) := Lib.hid (by unfold nameB nameL; rw [nats_length, decide_eq_true ⟨h1, h2⟩, Bool.true_and, List.getD_eq_getElem?_getD, HG0.out]; rfl)
    have HN1 : Hid (firstB b0 = false → nameB s = false) := Lib.hid (fun h => by rw [HN.out, h]; rfl)
    have HN2 : Hid (firstB b0 = true → nameB s = (nats s).all nextB) := Lib.hid (fun h => by rw [HN.out, h]; rfl)
    have HS1 : Hid (firstB b0 = true → ((nats s).take 1).all nextB = true) := Lib.hid (fun h => by
      rw [show (1 : Nat) = 0 + 1 from rfl, nameL_take s 0 b0 HG0.out]
      unfold nextB; rw [h]; rfl)
    generalize hf : firstB b0 = f at *
    cases f
    · go_enter Tryz.func58, Tryz.ntmps58
      go_wp2_with (go_at_call 98; refine (first98 b0 hb0 _).mono ?_; rw [hf]; rintro e w' ⟨rfl, rfl⟩)
      go_ret
      exact ⟨ret_bool (HN1.out (by simp)).symm, rfl⟩
    · go_enter Tryz.func58, Tryz.ntmps58
      go_wp2_with (go_at_call 98; refine (first98 b0 hb0 _).mono ?_; rw [hf]; rintro e w' ⟨rfl, rfl⟩)
      go_loop [3] (fun i => ∃ k : Nat, 1 ≤ k ∧ k ≤ s.size ∧ i = .int .i64 k ∧ Hid (((nats s).take k).all nextB = true)) (fun i => s.size - (intOf i).toNat)
      case atStart => exact ⟨1, by omega, by omega, rfl, Lib.hid (HS1.out (by simp))⟩
      case round =>
        obtain ⟨k, hk0, hk, rfl, HK⟩ := hrel
        by_cases hlt : k < s.size
        · obtain ⟨b, hb, hg, he⟩ := str_at s k hlt
          have HT := Lib.hid (nameL_take s k b hg)
          have HF : Hid (nextB b = false → (nats s).all nextB = false) := Lib.hid (fun h => by
            rw [Bool.eq_false_iff]; intro hall
            have := List.all_eq_true.1 hall b (List.mem_of_getElem? hg)
            rw [h] at this; cases this)
          clear hg
          generalize hf2 : nextB b = f at *
          cases f
          · go_wp2_with (go_at_call 99; refine (next99 b hb _).mono ?_; rw [hf2]; rintro e w' ⟨rfl, rfl⟩)
            go_ret
            exact ⟨ret_bool ((HN2.out (by simp)).trans (HF.out (by simp))).symm, rfl⟩
          · go_wp2_with (go_at_call 99; refine (next99 b hb _).mono ?_; rw [hf2]; rintro e w' ⟨rfl, rfl⟩)
            go_round
            case rel => exact ⟨k + 1, by omega, by omega, by go_num, by rw [HT.out, HK.out]; exact rfl⟩
            case measure => simp [intOf]; omega
        · have : k = s.size := by omega
          subst this
          have HA : Hid ((nats s).all nextB = true) := Lib.hid (by have := HK.out; rwa [List.take_of_length_le (by rw [nats_length]; omega)] at this)
          clear HK
          go_wp2
          go_ret
          exact ⟨ret_bool ((HN2.out (by simp)).trans HA.out).symm, rfl⟩
end Go.Proofs.YtmeieeekjhjgjaaGreatDoor.H
