/- The walk of the reference's number. -/
import Derived.Test.YtmeieeekjhjgjaaGreatDoorDd
namespace Go.Proofs.YtmeieeekjhjgjaaGreatDoor.H
open Go.RowKit Go.Proofs.YtmeieeekjhjgjaaGreatDoorW.PrintWords

def numStep (n b : Nat) : Nat := 10 * n + (b + 208) % 256
def numTo (s : ByteArray) (k : Nat) : Nat := ((nats s).take k).foldl numStep 0
theorem numTo_succ (s : ByteArray) (k b : Nat) (h : (nats s)[k]? = some b) : numTo s (k + 1) = 10 * numTo s k + (b + 208) % 256 := by
  unfold numTo; rw [List.take_add_one, h]; simp [numStep]
theorem numTo_le (s : ByteArray) (k : Nat) : numTo s k + 30 ≤ 30 * 10 ^ k := by
  induction k with
  | zero => simp [numTo]
  | succ k ih =>
    cases h : (nats s)[k]? with
    | none =>
      have : numTo s (k + 1) = numTo s k := by unfold numTo; rw [List.take_add_one, h]; simp
      rw [this, Nat.pow_succ]; omega
    | some b => rw [numTo_succ s k b h, Nat.pow_succ]; omega
theorem pow_le (k : Nat) (h : k ≤ 10) : 10 ^ k ≤ 10000000000 := Nat.pow_le_pow_right (by decide) h
set_option maxHeartbeats 2000000 in
theorem number38 (s : ByteArray) (hs : s.size ≤ 100000) (w : World) : Calls Tryz.prog 38 #[.string s] w fun e w' => e = .returned (.int .i64 (numTo s (min s.size 10))) ∧ w = w' := by
  go_enter Tryz.func38, Tryz.ntmps38
  go_wp2
  go_loop [3, 4] (fun n i => ∃ (k m : Nat), k ≤ s.size ∧ k ≤ 10 ∧ i = .int .i64 k ∧ n = .int .i64 m ∧ Hid (m = numTo s k) ∧ m ≤ 300000000000) (fun _ i => s.size - (intOf i).toNat)
  case atStart => exact ⟨0, 0, by omega, by omega, rfl, rfl, Lib.hid rfl, by omega⟩
  case round =>
    obtain ⟨k, m, hk, hk10, rfl, rfl, HM, hm⟩ := hrel
    by_cases hlt : k < s.size
    · by_cases hlt10 : k < 10
      · obtain ⟨b, hb1, hg, hbe⟩ := str_at s k hlt
        have HN := Lib.hid (numTo_succ s k b hg)
        have HLE := Lib.hid (numTo_le s (k + 1))
        have HPW := Lib.hid (pow_le (k + 1) (by omega))
        clear hg
        go_wp2
        have hmn : m = numTo s k := HM.out
        have hle := HLE.out
        have hpw := HPW.out
        have hst := HN.out
        go_round
        case rel => exact ⟨k + 1, 10 * m + (b + 208) % 256, by omega, by omega, by go_num, by congr 1; omega, Lib.hid (by rw [HN.out, HM.out]), by rw [hst, ← hmn] at hle; omega⟩
        case measure => simp [intOf]; omega
      · have : k = 10 := by omega
        subst this
        have hmn : min s.size 10 = 10 := by omega
        go_wp2
        go_ret
        exact ⟨by rw [← HM.out]; rfl, rfl⟩
    · have : k = s.size := by omega
      subst this
      have hmn : min s.size 10 = s.size := by omega
      go_wp2
      go_ret
      exact ⟨by rw [← HM.out]; rfl, rfl⟩
end Go.Proofs.YtmeieeekjhjgjaaGreatDoor.H
