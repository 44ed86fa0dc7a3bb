/- The walk of the reference's Decimal. -/
import Derived.Test.YtmeieeekjhjgjaaGreatDoorCo
import Derived.Lib.ItoaMem
import Derived.IntWalk
namespace Go.Proofs.YtmeieeekjhjgjaaGreatDoor.H
open Go.RowKit Go.Proofs.YtmeieeekjhjgjaaGreatDoorW.PrintWords

theorem itoaB_small (n : Nat) (h : n < 10) : itoaB n = ⟨#[UInt8.ofNat (48 + n)]⟩ := by
  unfold itoaB; rw [Lib.itoa_nonneg, Lib.decDigits_one h]
theorem itoaB_big (n : Nat) (h : ¬ n < 10) : itoaB n = itoaB ((n / 10 : Nat) : Int) ++ itoaB ((n % 10 : Nat) : Int) := by
  unfold itoaB
  rw [Lib.itoa_nonneg, Lib.itoa_nonneg, Lib.itoa_nonneg, Lib.decDigits_one (Nat.mod_lt _ (by decide)), Lib.decDigits, dif_neg h]
  apply ByteArray.ext
  rw [ByteArray.data_append]
  simp
theorem one_byte (w : World) (b : Int) (s : ByteArray) (h0 : 0 ≤ b) (h1 : b < 256) (hs : s = ⟨#[UInt8.ofNat b.toNat]⟩) : (convert 43 9 (.slice (some ⟨w.heap.size, 0, none⟩) 1 1)).run Tryz.prog (w.alloc (.cells #[.int .u8 b] 5)) = .ok (.string s) (w.alloc (.cells #[.int .u8 b] 5)) := by
  subst hs
  refine RV.str (s := ⟨#[UInt8.ofNat b.toNat]⟩) ⟨_, _, rfl, Nat.le_refl _, ?_⟩
  refine ⟨rfl, by show 1 ≤ _; omega, fun _ => ⟨_, rfl, fun j hj => ?_⟩⟩
  have : j = 0 := by
    have hj' : j < 1 := hj
    omega
  subst this
  rw [add_plain, blk_cell (blk_new w _)]
  simp [bytesOf]
  omega
set_option maxHeartbeats 2000000 in
theorem decimal27 (n : Nat) : n ≤ 1000000000 → ∀ w : World, Calls Tryz.prog 27 #[.int .i64 n] w fun e w' => e = .returned (.string (itoaB n)) ∧ Below w.heap.size w w' := by
  induction n using Nat.strongRecOn with
  | _ n ih =>
    intro hn w
    by_cases h : n < 10
    · have HS := Lib.hid (itoaB_small n h)
      have hk := one_byte w (48 + (n : Int)) (itoaB n) (by omega) (by omega) (by rw [HS.out]; congr 3 <;> omega)
      generalize itoaB n = sn at *
      have h0 : (0 : Int) ≤ n := by omega
      have h1 : ¬ (n : Int) < 0 := by omega
      have h2 : (n : Int) < 10 := by omega
      clear ih HS h hn
      generalize (n : Int) = m at *
      go_enter Tryz.func27, Tryz.ntmps27
      go_wp2_with fail
      go_ret
      exact ⟨rfl, below_alloc (Below.refl _ _) _⟩
    · have HS := Lib.hid (itoaB_big n h)
      have s1 := itoaB_size ((n / 10 : Nat) : Int) (by omega) (by omega)
      have s2 := itoaB_size ((n % 10 : Nat) : Int) (by omega) (by omega)
      have i1 := ih (n / 10) (by omega) (by omega)
      have i2 := ih (n % 10) (by omega) (by omega)
      rw [show ((n / 10 : Nat) : Int) = (n : Int) / 10 by omega] at *
      rw [show ((n % 10 : Nat) : Int) = (n : Int) % 10 by omega] at *
      generalize itoaB ((n : Int) / 10) = t1 at *
      generalize itoaB ((n : Int) % 10) = t2 at *
      generalize itoaB n = sn at *
      have s3 : ¬ 9223372036854775807 < t1.size + t2.size := by omega
      have h0 : (0 : Int) ≤ n := by omega
      have h1 : ¬ (n : Int) < 0 := by omega
      have h2 : ¬ (n : Int) < 10 := by omega
      have hmx : (n : Int) ≤ 1000000000 := by omega
      clear ih h hn
      generalize (n : Int) = m at *
      have q1 : wrap64 (m.tdiv 10) = m / 10 := by rw [Int.tdiv_eq_ediv_of_nonneg h0]; unfold wrap64; omega
      have q2 : wrap64 (m.tmod 10) = m % 10 := by rw [Int.tmod_eq_emod_of_nonneg h0]; unfold wrap64; omega
      have q3 : m.tmod 10 = m % 10 := Int.tmod_eq_emod_of_nonneg h0
      have I1 := Lib.hid i1
      have I2 := Lib.hid i2
      clear i1 i2
      go_enter Tryz.func27, Tryz.ntmps27
      go_wp2_with fail
      refine (I1.out w).mono ?_
      rintro e w1 ⟨rfl, hb1⟩
      go_wp2_with fail
      refine (I2.out w1).mono ?_
      rintro e w2 ⟨rfl, hb2⟩
      go_wp2_with fail
      go_ret
      exact ⟨by rw [HS.out]; rfl, below_then hb1 hb1.size hb2⟩
end Go.Proofs.YtmeieeekjhjgjaaGreatDoor.H
