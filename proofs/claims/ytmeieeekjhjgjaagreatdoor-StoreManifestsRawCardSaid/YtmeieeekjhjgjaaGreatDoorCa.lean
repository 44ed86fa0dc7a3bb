/- The plain arithmetic of the check sum. -/
namespace Go.Proofs.YtmeieeekjhjgjaaGreatDoor.H

/-- One bit of the check sum's shift register. -/
def crc1 (v : Nat) : Nat := if v % 2 = 1 then (v / 2) ^^^ 2197175160 else v / 2
def crcN : Nat → Nat → Nat
  | 0, v => v
  | n + 1, v => crcN n (crc1 v)
theorem crcN_snoc (n v : Nat) : crcN (n + 1) v = crc1 (crcN n v) := by
  induction n generalizing v with
  | zero => rfl
  | succ n ih => rw [crcN, ih (crc1 v)]; rfl
theorem xor_lt32 {a b : Nat} (ha : a < 4294967296) (hb : b < 4294967296) : a ^^^ b < 4294967296 := by
  have := Nat.xor_lt_two_pow (x := a) (y := b) (n := 32) (by omega) (by omega)
  omega
theorem crc1_lt {v : Nat} (h : v < 4294967296) : crc1 v < 4294967296 := by
  unfold crc1; split
  · exact xor_lt32 (by omega) (by omega)
  · omega
theorem crcN_lt {n v : Nat} (h : v < 4294967296) : crcN n v < 4294967296 := by
  induction n generalizing v with
  | zero => exact h
  | succ n ih => exact ih (crc1_lt h)
theorem crcN_add (m n v : Nat) : crcN (m + n) v = crcN n (crcN m v) := by
  induction m generalizing v with
  | zero => rw [Nat.zero_add]; rfl
  | succ m ih => rw [Nat.succ_add]; exact ih (crc1 v)

theorem xor_mod2 (a b : Nat) : (a ^^^ b) % 2 = (a % 2 + b % 2) % 2 := by
  have h := Nat.xor_mod_two_pow (a := a) (b := b) (n := 1)
  simp only [Nat.pow_one] at h
  rw [h]
  have ha : a % 2 = 0 ∨ a % 2 = 1 := by omega
  have hb : b % 2 = 0 ∨ b % 2 = 1 := by omega
  rcases ha with ha | ha <;> rcases hb with hb | hb <;> rw [ha, hb] <;> rfl
theorem xor_div2 (a b : Nat) : (a ^^^ b) / 2 = (a / 2) ^^^ (b / 2) := Nat.xor_div_two

/-- The register is linear. -/
theorem crc1_xor (a b : Nat) : crc1 (a ^^^ b) = crc1 a ^^^ crc1 b := by
  unfold crc1
  rw [xor_mod2, xor_div2]
  have ha : a % 2 = 0 ∨ a % 2 = 1 := by omega
  have hb : b % 2 = 0 ∨ b % 2 = 1 := by omega
  rcases ha with ha | ha <;> rcases hb with hb | hb <;> simp [ha, hb]
  · rw [Nat.xor_assoc]
  · rw [Nat.xor_assoc, Nat.xor_assoc, Nat.xor_comm 2197175160]
  · rw [Nat.xor_assoc, ← Nat.xor_assoc 2197175160, Nat.xor_comm 2197175160 (b / 2), Nat.xor_assoc, Nat.xor_self, Nat.xor_zero]
theorem crcN_xor (n a b : Nat) : crcN n (a ^^^ b) = crcN n a ^^^ crcN n b := by
  induction n generalizing a b with
  | zero => rfl
  | succ n ih => rw [crcN, crc1_xor, ih]; rfl
theorem crcN_shift (n v : Nat) : crcN n (v * 2 ^ n) = v := by
  induction n generalizing v with
  | zero => simp [crcN]
  | succ n ih =>
    have h : crc1 (v * 2 ^ (n + 1)) = v * 2 ^ n := by
      unfold crc1
      have e : v * 2 ^ (n + 1) = 2 * (v * 2 ^ n) := by rw [Nat.pow_succ]; rw [Nat.mul_comm _ 2, Nat.mul_left_comm]
      rw [e, if_neg (by omega)]; omega
    rw [crcN, h, ih]
/-- A table of sixteen values serves for four bits. -/
theorem crc4_table (v : Nat) : crcN 4 v = (v / 16) ^^^ crcN 4 (v % 16) := by
  have e : v = (v / 16 * 2 ^ 4) ^^^ (v % 16) := by
    apply Nat.eq_of_testBit_eq
    intro i
    rw [Nat.testBit_xor, show (16 : Nat) = 2 ^ 4 from rfl, Nat.testBit_mod_two_pow, Nat.testBit_mul_two_pow, Nat.testBit_div_two_pow]
    by_cases h : i < 4
    · simp [h, show ¬ (4 ≤ i) by omega]
    · simp [h, show 4 ≤ i by omega]
  conv => lhs; rw [e]
  rw [crcN_xor, crcN_shift]
theorem crc8_table (v : Nat) : crcN 8 v = (((v / 16) ^^^ crcN 4 (v % 16)) / 16) ^^^ crcN 4 (((v / 16) ^^^ crcN 4 (v % 16)) % 16) := by
  rw [show (8 : Nat) = 4 + 4 from rfl, crcN_add, crc4_table v, crc4_table]
/-- The register over a list of bytes. -/
def crcL (v : Nat) : List Nat → Nat
  | [] => v
  | b :: l => crcL (crcN 8 (v ^^^ b)) l
theorem crcL_snoc (v : Nat) (l : List Nat) (b : Nat) : crcL v (l ++ [b]) = crcN 8 (crcL v l ^^^ b) := by
  induction l generalizing v with
  | nil => rfl
  | cons a l ih => exact ih _
theorem crcL_append (v : Nat) (l m : List Nat) : crcL v (l ++ m) = crcL (crcL v l) m := by
  induction l generalizing v with
  | nil => rfl
  | cons a l ih => exact ih _
theorem crcL_lt {v : Nat} {l : List Nat} (h : v < 4294967296) (hl : ∀ b ∈ l, b < 256) : crcL v l < 4294967296 := by
  induction l generalizing v with
  | nil => exact h
  | cons a l ih => exact ih (crcN_lt (xor_lt32 h (by have := hl a (by simp); omega))) (fun b hb => hl b (by simp [hb]))
/-- The check sum. -/
def crcSum (l : List Nat) : Nat := 4294967295 ^^^ crcL 4294967295 l
theorem crcSum_lt {l : List Nat} (hl : ∀ b ∈ l, b < 256) : crcSum l < 4294967296 := xor_lt32 (by omega) (crcL_lt (by omega) hl)
/-- The four bytes of a sum. -/
def sumBytes (v : Nat) : List Nat := [v % 256, v / 256 % 256, v / 65536 % 256, v / 16777216 % 256]
def sealL (l : List Nat) : List Nat := l ++ sumBytes (crcSum l)
end Go.Proofs.YtmeieeekjhjgjaaGreatDoor.H
