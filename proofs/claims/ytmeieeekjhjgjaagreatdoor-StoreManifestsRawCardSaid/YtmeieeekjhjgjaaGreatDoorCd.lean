/- The walks of Seal, in both texts, and of the reference's Sum. -/
import Derived.Test.YtmeieeekjhjgjaaGreatDoorCc
import Derived.Deep.RegionLawGrows
import Derived.Deep.AppendLies
import Derived.KernelRfl
namespace Go.Proofs.YtmeieeekjhjgjaaGreatDoor.H
open Go.RowKit Go.Proofs.YtmeieeekjhjgjaaGreatDoorW.PrintWords

set_option maxHeartbeats 1000000 in
theorem sum59 (A : Option Addr) (c : Nat) (s : ByteArray) (w : World) (hr : RB w A s) (hs : s.size ≤ 140737488351232) :
    Calls Tryz.prog 59 #[.slice A s.size c] w fun e w' => e = .returned (.int .u32 (crcSum (nats s))) ∧ w = w' := by
  have HR := Lib.hid hr
  clear hr
  go_enter Tryz.func59, Tryz.ntmps59
  go_wp2
  go_loop [3, 8] (fun a i => ∃ k : Nat, k ≤ s.size ∧ i = .int .i64 k ∧ a = .int .u32 (crcL 4294967295 ((nats s).take k))) (fun _ i => s.size - (intOf i).toNat)
  case atStart => exact ⟨0, by omega, rfl, rfl⟩
  case round =>
    obtain ⟨k, hk, rfl, rfl⟩ := hrel
    by_cases hk2 : k < s.size
    · obtain ⟨ad, b, hA, hb2, hget, hcell⟩ := RB.at_ HR.out k hk2
      subst hA
      have HG := Lib.hid hget
      clear hget
      have hx := crc_take_lt s k
      have HS := Lib.hid (crc_take s k b HG.out)
      generalize crcL 4294967295 ((nats s).take k) = x at *
      have h1 := u32_xor_nat x b hx (by omega)
      have hy := xor_lt32 hx (show b < 4294967296 by omega)
      generalize x ^^^ b = y at *
      go_wp2_with (go_at_call 100; refine (step100 y _ hy).mono ?_; rintro e w' ⟨rfl, rfl⟩)
      go_round
      case rel => exact ⟨k + 1, by omega, by go_num, by rw [HS.out]⟩
      case measure => simp [intOf]; omega
    · have : k = s.size := by omega
      subst this
      have hx := crc_take_lt s s.size
      have HE := Lib.hid (show (nats s).take s.size = nats s from List.take_of_length_le (by rw [nats_length]; omega))
      have hn := u32not _ hx
      have HC2 := Lib.hid (show crcSum (nats s) = 4294967295 ^^^ crcL 4294967295 ((nats s).take s.size) by rw [HE.out]; rfl)
      generalize crcL 4294967295 ((nats s).take s.size) = x at *
      go_wp2
      go_ret
      exact ⟨ret_u32 (by rw [HC2.out]), rfl⟩

/-- The four bytes of a sum, as the program's array holds them. -/
theorem bytes55 (v : Nat) (w : World) (hv : v < 4294967296) :
    Calls Tryz.prog 55 #[.int .u32 v] w fun e w' => e = .returned (.agg #[.int .u8 ((v : Int) % 256), .int .u8 ((v : Int) / 256 % 256), .int .u8 ((v : Int) / 65536 % 256), .int .u8 ((v : Int) / 16777216)]) ∧ Below w.heap.size w w' := by
  go_enter Tryz.func55, Tryz.ntmps55
  go_wp2
  exact bodyPost_ret (v := .agg #[.int .u8 ((v : Int) % 256), .int .u8 ((v : Int) / 256 % 256), .int .u8 ((v : Int) / 65536 % 256), .int .u8 ((v : Int) / 16777216)]) (by simp [results, Tryz.results55, go_sem]) rfl ⟨rfl, (Below.refl _ _).alloc (Nat.le_refl _) _⟩

def valB (b : Nat) : Value := .int .u8 (b : Int)
def sealB (s : ByteArray) : ByteArray := ⟨((sealL (nats s)).map fun b => b.toUInt8).toArray⟩
/-- The slice value reads as the bytes of s. -/
def RV (w : World) (v : Value) (s : ByteArray) : Prop := ∃ A c, v = .slice A s.size c ∧ s.size ≤ c ∧ RB w A s
theorem sum_cells (v : Nat) (hv : v < 4294967296) : (sumBytes v).map valB = [.int .u8 ((v : Int) % 256), .int .u8 ((v : Int) / 256 % 256), .int .u8 ((v : Int) / 65536 % 256), .int .u8 ((v : Int) / 16777216)] := by
  unfold sumBytes valB
  rw [show v / 16777216 % 256 = v / 16777216 by omega]
  rfl
theorem valB_nums (s : ByteArray) : (nats s).map valB = nums .u8 (bytesOf s) := by
  unfold nats nums bytesOf valB; rw [List.map_map, List.map_map]; rfl
theorem nats_mk (l : List Nat) (h : ∀ b ∈ l, b < 256) : nats ⟨(l.map fun b => b.toUInt8).toArray⟩ = l := by
  unfold nats
  simp only [List.map_map]
  conv => rhs; rw [← List.map_id l]
  refine List.map_congr_left fun b hb => ?_
  have := h b hb
  simp [Nat.toUInt8, Nat.mod_eq_of_lt this]
theorem sumBytes_lt (v : Nat) : ∀ b ∈ sumBytes v, b < 256 := by
  intro b hb
  simp only [sumBytes, List.mem_cons, List.not_mem_nil, or_false] at hb
  omega
theorem sealL_lt (s : ByteArray) : ∀ b ∈ sealL (nats s), b < 256 := by
  intro b hb
  rcases List.mem_append.1 hb with h | h
  · exact nats_lt s b h
  · exact sumBytes_lt _ b h
theorem nats_sealB (s : ByteArray) : nats (sealB s) = sealL (nats s) := nats_mk _ (sealL_lt s)
theorem sealB_size (s : ByteArray) : (sealB s).size = s.size + 4 := by
  rw [← nats_length, nats_sealB, sealL, List.length_append, nats_length]; rfl
/-- An owned row of bytes reads as the string of these bytes. -/
theorem RV_of_own {w : World} {base n : Nat} {v : Value} {xs : List Value} {s : ByteArray} (h : w.ownsRow base 5 1 v n xs) (hx : xs = (nats s).map valB) : RV w v s := by
  subst hx
  rw [valB_nums] at h
  have hn : n = s.size := by have := h.1; rw [nums_length, bytesOf_length] at this; omega
  subst hn
  obtain ⟨A, c, rfl, hr⟩ := own_reads h
  exact ⟨A, c, rfl, own_le h, hr⟩
theorem RB.cells {w : World} {A : Option Addr} {s : ByteArray} (h : RB w A s) : (A = none → s.size = 0 ∧ s.size = 0) ∧ ((nats s).map valB).length = s.size * 1 ∧ ∀ b, A = some b → ∀ j u, ((nats s).map valB)[j]? = some u → w.cell? (b.add j) = some u := by
  refine ⟨fun e => ?_, by rw [List.length_map, nats_length, Nat.mul_one], fun b e j u hu => ?_⟩
  · subst e
    rcases Nat.eq_zero_or_pos s.size with h0 | h0
    · exact ⟨h0, h0⟩
    · obtain ⟨ad, h1, _⟩ := h.2.2 h0; cases h1
  · have hj : j < s.size := by
      have := (List.getElem?_eq_some_iff.1 hu).1
      rwa [List.length_map, nats_length] at this
    obtain ⟨ad, x, e1, _, hx, hc⟩ := RB.at_ h j hj
    cases e.symm.trans e1
    rw [List.getElem?_map, hx] at hu
    cases hu
    exact hc
theorem info5 : (Tryz.prog.info? 5).map (fun i => (i.zero, i.size, i.bytes)) = some (some (.int .u8 0), 1, 1) := by kernel_rfl
theorem seal_cells (s : ByteArray) : (nats s).map valB ++ (sumBytes (crcSum (nats s))).map valB = (nats (sealB s)).map valB := by
  rw [nats_sealB, sealL, List.map_append]

set_option maxHeartbeats 1000000 in
theorem seal24 (A : Option Addr) (c : Nat) (s : ByteArray) (w : World) (hr : RB w A s) (hc : s.size ≤ c) (hs : s.size ≤ 140737488351232) :
    Calls Tryz.prog 24 #[.slice A s.size c] w fun e w' => ∃ v, e = .returned v ∧ RV w' v (sealB s) ∧ Below w.heap.size w w' := by
  have HR := Lib.hid hr
  clear hr
  obtain ⟨i0, hi, hzz⟩ := Option.map_eq_some_iff.1 info5
  simp only [Prod.mk.injEq] at hzz
  obtain ⟨hz0, hz1, hz2⟩ := hzz
  have hv := crcSum_lt (nats_lt s)
  have HSC := Lib.hid (sum_cells _ hv)
  have HFIN := Lib.hid (seal_cells s)
  generalize hcv : crcSum (nats s) = cv at *
  go_enter Tryz.func24, Tryz.ntmps24
  go_wp2_with (first | (go_at_call 56; refine (sum56 A c s _ HR.out hs).mono ?_; rw [hcv]; rintro e w1 ⟨rfl, hb1⟩) | (go_at_call 55; refine (bytes55 cv _ hv).mono ?_; rintro e w2 ⟨rfl, hb2⟩))
  have HB3 := Lib.hid (show Below w.heap.size w w2 from below_then hb1 hb1.size hb2)
  clear hb1 hb2
  have HR2 := Lib.hid (RB.cells (RB.below HR.out (HB3.out.alloc HB3.out.size (.cells ((sumBytes cv).map valB).toArray 104))))
  have HN : Hid (∀ (j : Nat) u, ((sumBytes cv).map valB)[j]? = some u → (w2.alloc (.cells ((sumBytes cv).map valB).toArray 104)).cell? ((⟨w2.heap.size, 0, none⟩ : Addr).add j) = some u) := Lib.hid (by
    intro j u hu
    rw [add_plain, blk_cell (blk_new w2 _) j]; simpa using hu)
  rw [HSC.out] at HR2 HN
  go_region_law (refine step_append_grows rfl (.tmp 12) (.tmp 13) 43 rfl 5 i0 (.int .u8 0) 1 1 Tryz.underlying43 hi hz0 hz1 hz2 rfl (by decide) A s.size s.size ((nats s).map valB) (by simp [Act.eval, Act.put]) HR2.out.1 HR2.out.2.1 (by exact HR2.out.2.2) ⟨w2.heap.size, 0, none⟩ 4 4 ((sumBytes cv).map valB) (by simp [Act.eval, Act.put]) (by simp [sumBytes]) (by rw [HSC.out]; exact HN.out) (by rw [HSC.out]; intro u hu; simp at hu; rcases hu with rfl | rfl | rfl | rfl <;> rfl) (by omega) (by unfold maxLen; omega) (by omega) ?_; intro v' w' hown hgrow)
  go_wp2
  go_ret
  rw [HFIN.out] at hown
  refine ⟨v', rfl, RV_of_own hown rfl, ?_⟩
  exact pw_below_grown (below_drew (below_alloc HB3.out _)) none (by have := HB3.out.size; simp; omega) hgrow (by intro k hk; cases hk)
end Go.Proofs.YtmeieeekjhjgjaaGreatDoor.H
