/- The walks of the two functions Sum. -/
import Derived.Test.YtmeieeekjhjgjaaGreatDoorCb
import Derived.Test.YtmeieeekjhjgjaaGreatDoorWWords
import Derived.Deep.LoopGhost
namespace Go.Proofs.YtmeieeekjhjgjaaGreatDoor.H
open Go.RowKit Go.Proofs.YtmeieeekjhjgjaaGreatDoorW.PrintWords

/-- The slice at A reads as the bytes of s. -/
def RB (w : World) (A : Option Addr) (s : ByteArray) : Prop := ReadsInt w .u8 A s.size (bytesOf s)
def nats (s : ByteArray) : List Nat := s.data.toList.map UInt8.toNat

theorem nats_length (s : ByteArray) : (nats s).length = s.size := by unfold nats; rw [List.length_map, Array.length_toList]; rfl
theorem nats_get (s : ByteArray) (k : Nat) (hk : k < s.size) : ∃ b : Nat, b < 256 ∧ (nats s)[k]? = some b ∧ bt s k = b := by
  refine ⟨(s[k]'hk).toNat, (s[k]'hk).toNat_lt, ?_, ?_⟩
  · unfold nats
    rw [List.getElem?_map, List.getElem?_eq_getElem (by rw [Array.length_toList]; exact hk)]
    rfl
  · unfold bt
    rw [dif_pos (by simpa using hk)]
    simp
theorem RB.at_ {w : World} {A : Option Addr} {s : ByteArray} (h : RB w A s) (k : Nat) (hk : k < s.size) :
    ∃ (ad : Addr) (b : Nat), A = some ad ∧ b < 256 ∧ (nats s)[k]? = some b ∧ w.cell? (ad.add k) = some (.int .u8 (b : Int)) := by
  obtain ⟨ad, hA, hc⟩ := ReadsInt.at_ h (k : Int) (by omega) (by omega)
  obtain ⟨b, hb, hg, he⟩ := nats_get s k hk
  rw [rd_bytesOf, he, Int.toNat_natCast] at hc
  exact ⟨ad, b, hA, hb, hg, hc⟩
theorem RB.below {w w' : World} {A : Option Addr} {s : ByteArray} (h : RB w A s) (hb : Below w.heap.size w w') : RB w' A s := ReadsInt.below h hb
theorem take_snoc_nat {l : List Nat} {k b : Nat} (h : l[k]? = some b) : l.take (k + 1) = l.take k ++ [b] := by
  rw [List.take_add_one, h]; rfl
theorem nats_lt (s : ByteArray) : ∀ b ∈ nats s, b < 256 := by
  intro b hb
  obtain ⟨u, _, rfl⟩ := List.mem_map.1 hb
  exact u.toNat_lt
theorem crc_take (s : ByteArray) (k b : Nat) (h : (nats s)[k]? = some b) : crcL 4294967295 ((nats s).take (k + 1)) = crcN 8 (crcL 4294967295 ((nats s).take k) ^^^ b) := by
  rw [take_snoc_nat h, crcL_snoc]
theorem crc_take_lt (s : ByteArray) (k : Nat) : crcL 4294967295 ((nats s).take k) < 4294967296 := crcL_lt (by omega) fun b hb => nats_lt s b (List.mem_of_mem_take hb)
theorem tab_cell (w : World) (cs : Array Value) (t : TypeId) (j : Nat) (v : Value) (h : cs[j]? = some v) : (w.alloc (.cells cs t)).cell? ⟨w.heap.size, j, none⟩ = some v := by
  rw [blk_cell (blk_new w _) _]; exact h
theorem u32not (v : Nat) (hv : v < 4294967296) : bits .xor .u32 IntKind.u32.max (v : Int) = ((4294967295 ^^^ v : Nat) : Int) := u32_xor_nat 4294967295 v (by omega) hv
theorem u32and15 (y : Nat) (hy : y < 4294967296) : bits .and .u32 (y : Int) 15 = (y : Int) % 16 := by
  rw [show (15 : Int) = ((15 : Nat) : Int) from rfl, u32_and_nat y 15 hy (by omega), nat_mask4]; rfl
theorem u32xor16 (y m : Nat) (hy : y < 4294967296) (hm : m < 4294967296) : bits .xor .u32 ((y : Int) / 16) (m : Int) = (((y / 16) ^^^ m : Nat) : Int) := u32_xor_nat (y / 16) m (by omega) hm
theorem step96_4 (v : Nat) (w : World) (hv : v < 4294967296) :
    Calls Tryz.prog 96 #[.int .u32 v, .int .i64 4] w fun e w' => e = .returned (.int .u32 (crcN 4 v)) ∧ w = w' := step96 v 4 w hv (by omega)
set_option maxHeartbeats 1000000 in
theorem sum56 (A : Option Addr) (c : Nat) (s : ByteArray) (w : World) (hr : RB w A s) (hs : s.size ≤ 140737488351232) :
    Calls Tryz.prog 56 #[.slice A s.size c] w fun e w' => e = .returned (.int .u32 (crcSum (nats s))) ∧ Below w.heap.size w w' := by
  have HR := Lib.hid hr
  clear hr
  go_enter Tryz.func56, Tryz.ntmps56
  go_wp2
  go_loopw [8] (fun i wr => ∃ (k : Nat) (cs : Array Value), k ≤ 16 ∧ i = .int .i64 k ∧ wr = w.alloc (.cells cs 158) ∧ cs.size = 16 ∧ (∀ j, j < 16 → ∃ u : Nat, cs[j]? = some (.int .u32 u)) ∧ ∀ j, j < k → cs[j]? = some (.int .u32 (crcN 4 j))) (fun i _ => 16 - (intOf i).toNat)
  case atStart => exact ⟨0, _, by omega, rfl, rfl, rfl, fun j hj => ⟨0, by rcases j with _|_|_|_|_|_|_|_|_|_|_|_|_|_|_|_|j <;> first | rfl | omega⟩, fun j hj => by omega⟩
  case round =>
    obtain ⟨k, cs, hk, rfl, rfl, hcs, hold, htab⟩ := hrel
    have HT := Lib.hid (And.intro hold htab)
    have HC := Lib.hid hcs
    clear hold htab hcs
    by_cases hlt : k < 16
    · obtain ⟨u, hu⟩ := HT.out.1 k hlt
      go_wp2_with (go_at_call 96; refine (step96_4 k _ (by omega)).mono ?_; rintro e w' ⟨rfl, rfl⟩)
      go_roundw
      case rel =>
        refine ⟨k + 1, _, by omega, by go_num, rfl, by simp [HC.out], fun j hj => ?_, fun j hj => ?_⟩
        · by_cases e : j = k
          · subst e; exact ⟨_, by rw [Array.getElem?_setIfInBounds_self_of_lt (by rw [HC.out]; omega)]⟩
          · obtain ⟨u', hu'⟩ := HT.out.1 j hj; exact ⟨u', by rw [Array.getElem?_setIfInBounds_ne (Ne.symm e)]; exact hu'⟩
        · by_cases e : j = k
          · subst e; rw [Array.getElem?_setIfInBounds_self_of_lt (by rw [HC.out]; omega)]
          · rw [Array.getElem?_setIfInBounds_ne (Ne.symm e)]; exact HT.out.2 j (by omega)
      case measure => simp [intOf]; omega
    · have hk16 : k = 16 := by omega
      subst hk16
      go_wp2
      go_loop [5, 19] (fun a i => ∃ k : Nat, k ≤ s.size ∧ i = .int .i64 k ∧ a = .int .u32 (crcL 4294967295 ((nats s).take k))) (fun _ i => s.size - (intOf i).toNat)
      case atStart => exact ⟨0, by omega, rfl, rfl⟩
      case round =>
        obtain ⟨k, hk, rfl, rfl⟩ := hrel
        by_cases hk2 : k < s.size
        · obtain ⟨ad, b, hA, hb2, hget, hcell⟩ := RB.at_ (RB.below (w' := w.alloc (.cells cs 158)) HR.out (below_alloc (Below.refl _ _) _)) k hk2
          subst hA
          have HG := Lib.hid hget
          clear hget
          have hx := crc_take_lt s k
          have HS := Lib.hid (crc_take s k b HG.out)
          generalize crcL 4294967295 ((nats s).take k) = x at *
          have h1 := u32_xor_nat x b hx (by omega)
          have hy := xor_lt32 hx (show b < 4294967296 by omega)
          have HT8 := Lib.hid (crc8_table (x ^^^ b))
          generalize x ^^^ b = y at *
          have h2 := u32and15 y hy
          have t1 := tab_cell w cs 158 (y % 16) _ (HT.out.2 (y % 16) (by omega))
          have c1 := @crcN_lt 4 (y % 16) (by omega)
          generalize crcN 4 (y % 16) = m at *
          have h3 := u32xor16 y m hy c1
          have hz := xor_lt32 (show y / 16 < 4294967296 by omega) c1
          generalize (y / 16) ^^^ m = z at *
          have h4 := u32and15 z hz
          have t2 := tab_cell w cs 158 (z % 16) _ (HT.out.2 (z % 16) (by omega))
          have c2 := @crcN_lt 4 (z % 16) (by omega)
          generalize crcN 4 (z % 16) = q at *
          have h5 := u32xor16 z q hz c2
          go_wp2
          go_round
          case rel => exact ⟨k + 1, by omega, by go_num, by rw [HS.out, HT8.out]⟩
          case measure => simp [intOf]; omega
        · have : k = s.size := by omega
          subst this
          have hx := crc_take_lt s s.size
          have HE := Lib.hid (show (nats s).take s.size = nats s from List.take_of_length_le (by rw [nats_length]; omega))
          have hn := u32not _ hx
          have HC2 := Lib.hid (show crcSum (nats s) = 4294967295 ^^^ crcL 4294967295 ((nats s).take s.size) by rw [HE.out]; rfl)
          generalize crcL 4294967295 ((nats s).take s.size) = x at *
          go_wp2
          go_ret
          exact ⟨ret_u32 (by rw [HC2.out]), below_alloc (Below.refl _ _) _⟩
end Go.Proofs.YtmeieeekjhjgjaaGreatDoor.H
