/- The plain law of the two parsers, second part: names and numbers. -/
import Derived.Test.YtmeieeekjhjgjaaGreatDoorDl
namespace Go.Proofs.YtmeieeekjhjgjaaGreatDoor.H
open Go.RowKit Go.Proofs.YtmeieeekjhjgjaaGreatDoorW.PrintWords

/-- A word without a blank and without a line feed. -/
def plainW (s : ByteArray) : Prop := ∀ b ∈ nats s, b ≠ 32 ∧ b ≠ 10
theorem name_plain {s : ByteArray} (h : nameB s = true) : plainW s := by
  intro b hb
  unfold nameB nameL at h
  simp only [Bool.and_eq_true] at h
  have hn := List.all_eq_true.1 h.2.2 b hb
  constructor
  · rintro rfl; revert hn; decide
  · rintro rfl; revert hn; decide
theorem dig_bytes (n : Nat) : ∀ b ∈ Lib.decDigits n, 48 ≤ b.toNat ∧ b.toNat ≤ 57 := by
  induction n using Nat.strongRecOn with
  | _ n ih =>
    intro b hb
    rw [Lib.decDigits] at hb
    split at hb
    · rename_i h
      rw [List.mem_singleton.1 hb, UInt8.toNat_ofNat']
      omega
    · rename_i h
      rcases List.mem_append.1 hb with hb | hb
      · exact ih (n / 10) (by omega) b hb
      · rw [List.mem_singleton.1 hb, UInt8.toNat_ofNat']
        omega
theorem itoa_plain (n : Nat) : plainW (itoaB n) := by
  intro b hb
  unfold itoaB nats at hb
  rw [Lib.itoa_nonneg] at hb
  obtain ⟨c, hc, rfl⟩ := List.mem_map.1 hb
  have := dig_bytes n c (by simpa using hc)
  omega
theorem parse_snoc (d : UInt8) (hd : 48 ≤ d.toNat ∧ d.toNat ≤ 57) : ∀ (l : List UInt8) (acc u : Nat), Lib.parseUint10 acc l = .ok u → u < 1844674407370955161 → Lib.parseUint10 acc (l ++ [d]) = .ok (u * 10 + (d.toNat - 48))
  | [], acc, u, h, hu => by
    simp only [Lib.parseUint10] at h
    cases h
    simp only [List.nil_append, Lib.parseUint10]
    rw [if_pos hd, if_neg (by omega), if_neg (by omega)]
  | c :: r, acc, u, h, hu => by
    simp only [Lib.parseUint10] at h
    simp only [List.cons_append, Lib.parseUint10]
    split at h
    · rename_i hc
      rw [if_pos hc]
      split at h
      · cases h
      · rename_i h1
        rw [if_neg h1]
        split at h
        · cases h
        · rename_i h2
          rw [if_neg h2]
          exact parse_snoc d hd r _ u h hu
    · cases h
theorem parse_dec (n : Nat) : n ≤ 1000000000 → Lib.parseUint10 0 (Lib.decDigits n) = .ok n := by
  induction n using Nat.strongRecOn with
  | _ n ih =>
    intro hn
    rw [Lib.decDigits]
    split
    · rename_i h
      have e : (UInt8.ofNat (48 + n)).toNat = 48 + n := by rw [UInt8.toNat_ofNat']; omega
      simp only [Lib.parseUint10, e]
      rw [if_pos (by omega), if_neg (by omega), if_neg (by omega)]
      congr 1; omega
    · rename_i h
      have e : (UInt8.ofNat (48 + n % 10)).toNat = 48 + n % 10 := by rw [UInt8.toNat_ofNat']; omega
      rw [parse_snoc _ (by rw [e]; omega) _ _ _ (ih (n / 10) (by omega) (by omega)) (by omega), e]
      congr 1; omega
theorem dec_ne (n : Nat) : ∃ c r, Lib.decDigits n = c :: r ∧ 48 ≤ c.toNat ∧ c.toNat ≤ 57 := by
  cases h : Lib.decDigits n with
  | nil =>
    have := Lib.decDigits_length n
    rw [h] at this
    have := Lib.nDigits_pos n
    simp at *; omega
  | cons c r => exact ⟨c, r, rfl, dig_bytes n c (by rw [h]; exact List.mem_cons_self ..)⟩
theorem numB_itoa (n : Nat) (hn : n ≤ 1000000000) : numB (itoaB n) = n := by
  have hd : (itoaB n).data.toList = Lib.decDigits n := by unfold itoaB; rw [Lib.itoa_nonneg]
  obtain ⟨c, r, he, h1, h2⟩ := dec_ne n
  have hp := parse_dec n hn
  unfold numB
  rw [hd]
  have ha : Lib.atoiAll (Lib.decDigits n) = .ok n := by
    rw [he] at hp ⊢
    unfold Lib.atoiAll
    have hc : ¬ (c.toNat = 43 ∨ c.toNat = 45) := by omega
    have hm : Lib.parseMag (c :: r) = .ok n := by unfold Lib.parseMag; rw [if_neg (by simp), hp]
    simp only [if_neg hc, hm]
    rw [if_neg (by omega), if_neg (by omega), if_neg (by omega)]
  rw [ha]
theorem num_fold (n : Nat) : ((Lib.decDigits n).map (·.toNat)).foldl numStep 0 = n := by
  induction n using Nat.strongRecOn with
  | _ n ih =>
    rw [Lib.decDigits]
    split
    · rename_i h
      have e : (UInt8.ofNat (48 + n)).toNat = 48 + n := by rw [UInt8.toNat_ofNat']; omega
      simp [numStep, e]; omega
    · rename_i h
      have e : (UInt8.ofNat (48 + n % 10)).toNat = 48 + n % 10 := by rw [UInt8.toNat_ofNat']; omega
      rw [List.map_append, List.foldl_append, ih (n / 10) (by omega)]
      simp [numStep, e]; omega
theorem nd_le (k : Nat) : ∀ n : Nat, n < 10 ^ (k + 1) → Lib.nDigits n ≤ k + 1 := by
  induction k with
  | zero => intro n h; rw [Lib.nDigits_small (by simpa using h)]; omega
  | succ k ih =>
    intro n h
    by_cases h10 : n < 10
    · rw [Lib.nDigits_small h10]; omega
    · rw [Lib.nDigits_big h10]
      have := ih (n / 10) (by rw [Nat.pow_succ] at h; omega)
      omega
theorem numR_itoa (n : Nat) (hn : n ≤ 1000000000) : numR (itoaB n) = n := by
  have hd : nats (itoaB n) = (Lib.decDigits n).map (·.toNat) := by unfold nats itoaB; rw [Lib.itoa_nonneg]
  have hl : (itoaB n).size ≤ 10 := by
    rw [← nats_length, hd, List.length_map, Lib.decDigits_length]
    exact nd_le 9 n (by omega)
  unfold numR numTo
  rw [Nat.min_eq_left hl, List.take_of_length_le (by rw [nats_length]; exact Nat.le_refl _), hd, num_fold]
end Go.Proofs.YtmeieeekjhjgjaaGreatDoor.H
