/- The walks of Unseal and of the reference's Seal. -/
import Derived.Test.YtmeieeekjhjgjaaGreatDoorCd
import Derived.Deep.RegionWith
import Derived.BigRegion
import Derived.Deep.RegionHeld3
import Derived.Laws.Cover3
import Derived.Test.YtmeieeekjhjgjaaGreatDoorCg
namespace Go.Proofs.YtmeieeekjhjgjaaGreatDoor.H
open Go.RowKit Go.Proofs.YtmeieeekjhjgjaaGreatDoorW.PrintWords

def headB (s : ByteArray) : ByteArray := s.extract 0 (s.size - 4)

theorem reads4 (w : World) (a b c d : Int) (t : TypeId) : ReadsInt (w.alloc (.cells #[.int .u8 a, .int .u8 b, .int .u8 c, .int .u8 d] t)) .u8 (some ⟨w.heap.size, 0, none⟩) 4 [a, b, c, d] := by
  refine ⟨rfl, by omega, fun _ => ⟨_, rfl, fun j hj => ?_⟩⟩
  rw [add_plain, blk_cell (blk_new w _) j]
  rcases j with _ | _ | _ | _ | j
  · rfl
  · rfl
  · rfl
  · rfl
  · omega
theorem seal_nums (s : ByteArray) (hv : crcSum (nats s) < 4294967296) : nums .u8 (bytesOf s ++ [((crcSum (nats s)) : Int) % 256, (crcSum (nats s) : Int) / 256 % 256, (crcSum (nats s) : Int) / 65536 % 256, (crcSum (nats s) : Int) / 16777216]) = (nats (sealB s)).map valB := by
  rw [nums_append, ← valB_nums, ← seal_cells, sum_cells _ hv]; rfl

set_option maxRecDepth 100000 in
set_option maxHeartbeats 1000000 in
theorem seal28 (A : Option Addr) (c : Nat) (s : ByteArray) (w : World) (hr : RB w A s) (hs : s.size ≤ 140737488351232) :
    Calls Tryz.prog 28 #[.slice A s.size c] w fun e w' => ∃ v, e = .returned v ∧ RV w' v (sealB s) ∧ Below w.heap.size w w' := by
  have HR := Lib.hid hr
  clear hr
  have hv := crcSum_lt (nats_lt s)
  have HFIN := Lib.hid (seal_nums s hv)
  have hl := bytesOf_length s
  have HL := Lib.hid (show ((bytesOf s).length + 4) * 1 ≤ 140737488355328 by omega)
  have HL0 := Lib.hid (show (([] : List Int).length + s.size) * 1 ≤ 140737488355328 by simp; omega)
  clear hl
  generalize hcv : crcSum (nats s) = cv at *
  go_enter Tryz.func28, Tryz.ntmps28
  go_wp2_with (first | (go_at_call 59; refine (sum59 A c s _ HR.out hs).mono ?_; rw [hcv]; rintro e w1 ⟨rfl, rfl⟩) | ((with_reducible refine gate_dst (N := 7) rfl ?_); refine print_append_row w.heap.size rfl (.const (.slice none 0 0)) (.tmp 6) 43 5 .u8 1 rfl Tryz.underlying43 info5 (by decide) (.slice none 0 0) [] (bytesOf s) A s.size c rfl rfl (own_nil _ _ _ _) HR.out (Below.refl _ _) (Nat.le_refl _) HL0.out ?_; intro v1 w1 hown1 hb1 hg1 _; have HO1 := Lib.hid hown1; have HB1 := Lib.hid hb1; clear hown1 hb1 hg1) | ((with_reducible refine gate_dst (N := 20) rfl ?_); refine print_append_row w.heap.size rfl (.tmp 7) (.tmp 19) 43 5 .u8 1 rfl Tryz.underlying43 info5 (by decide) v1 (bytesOf s) [(cv : Int) % 256, (cv : Int) / 256 % 256, (cv : Int) / 65536 % 256, (cv : Int) / 16777216] (some ⟨w1.heap.size, 0, none⟩) 4 4 rfl rfl (by exact pw_own_below HO1.out (below_alloc (Below.refl _ _) _)) (by exact reads4 _ _ _ _ _ _) (by exact HB1.out.alloc HB1.out.size _) (by have := HB1.out.size; simp; omega) HL.out ?_; intro v2 w2 hown2 hb2 hg2 _; have HO2 := Lib.hid hown2; have HB2 := Lib.hid hb2; clear hown2 hb2 hg2))
  go_ret
  exact ⟨v2, rfl, RV_of_own HO2.out HFIN.out, HB2.out⟩

set_option maxHeartbeats 1000000 in
theorem unseal29_short (A : Option Addr) (c : Nat) (s : ByteArray) (w : World) (h4 : s.size < 4) :
    Calls Tryz.prog 29 #[.slice A s.size c] w fun e w' => e = .returned (.tuple #[.slice none 0 0, .int .i64 10]) ∧ w = w' := by
  go_enter Tryz.func29, Tryz.ntmps29
  go_wp2
  go_ret2
  exact ⟨rfl, rfl⟩
theorem headB_size (s : ByteArray) (h : 4 ≤ s.size) : (headB s).size = s.size - 4 := by
  unfold headB; rw [ByteArray.size_extract]; omega
theorem nats_headB (s : ByteArray) : nats (headB s) = (nats s).take (s.size - 4) := by
  unfold headB nats; rw [ByteArray.data_extract, Array.toList_extract, List.map_take]; rfl
theorem add_of_cell {w : World} {ad : Addr} {n : Nat} {v : Value} (h : w.cell? (ad.add n) = some v) : ∃ b off, ad.add n = ⟨b, off, none⟩ ∧ ∀ j, ad.add (n + j) = ⟨b, off + j, none⟩ := by
  have hs : (ad.add n).spot = none := by
    unfold World.cell? at h
    split at h
    · split at h
      · cases h
      · rename_i hn; simpa using hn
    · cases h
  refine ⟨(ad.add n).block, (ad.add n).off, ?_, fun j => ?_⟩
  · cases hx : ad.add n; rw [hx] at hs; simp_all
  · rcases Nat.eq_zero_or_pos j with rfl | hj
    · cases hx : ad.add n; rw [hx] at hs; simp_all
    · exact add_field ad n j hj
theorem nats_tail (s : ByteArray) (n : Nat) (h : s.size = n + 4) : ∃ b0 b1 b2 b3 : Nat, b0 < 256 ∧ b1 < 256 ∧ b2 < 256 ∧ b3 < 256 ∧ nats s = (nats s).take n ++ [b0, b1, b2, b3] ∧ bt s n = b0 ∧ bt s (n + 1 : Nat) = b1 ∧ bt s (n + 2 : Nat) = b2 ∧ bt s (n + 3 : Nat) = b3 := by
  obtain ⟨b0, h0, g0, e0⟩ := nats_get s n (by omega)
  obtain ⟨b1, h1, g1, e1⟩ := nats_get s (n + 1) (by omega)
  obtain ⟨b2, h2, g2, e2⟩ := nats_get s (n + 2) (by omega)
  obtain ⟨b3, h3, g3, e3⟩ := nats_get s (n + 3) (by omega)
  refine ⟨b0, b1, b2, b3, h0, h1, h2, h3, ?_, e0, e1, e2, e3⟩
  have hl : (nats s).take (n + 3 + 1) = nats s := List.take_of_length_le (by rw [nats_length]; omega)
  conv => lhs; rw [← hl]
  rw [take_snoc_nat g3, take_snoc_nat g2, take_snoc_nat g1, take_snoc_nat g0]
  simp
theorem RB.tail {w : World} {ad : Addr} {s : ByteArray} {n : Nat} (hr : RB w (some ad) s) (h : s.size = n + 4) : ∃ (b off b0 b1 b2 b3 : Nat), ad.add n = ⟨b, off, none⟩ ∧ b0 < 256 ∧ b1 < 256 ∧ b2 < 256 ∧ b3 < 256 ∧ nats s = (nats s).take n ++ [b0, b1, b2, b3] ∧
    ∀ W : World, Below w.heap.size w W → W.cell? ⟨b, off, none⟩ = some (.int .u8 (b0 : Int)) ∧ W.cell? ⟨b, off + 1, none⟩ = some (.int .u8 (b1 : Int)) ∧ W.cell? ⟨b, off + 2, none⟩ = some (.int .u8 (b2 : Int)) ∧ W.cell? ⟨b, off + 3, none⟩ = some (.int .u8 (b3 : Int)) := by
  obtain ⟨b0, b1, b2, b3, h0, h1, h2, h3, hx, e0, e1, e2, e3⟩ := nats_tail s n h
  have hc : ∀ j : Nat, j < s.size → w.cell? (ad.add j) = some (.int .u8 (bt s j)) := fun j hj => by
    obtain ⟨a, ea, hc⟩ := ReadsInt.at_ hr (j : Int) (by omega) (by omega)
    cases ea
    rwa [rd_bytesOf, Int.toNat_natCast] at hc
  obtain ⟨b, off, ha, hj⟩ := add_of_cell (hc n (by omega))
  refine ⟨b, off, b0, b1, b2, b3, ha, h0, h1, h2, h3, hx, fun W hb => ⟨?_, ?_, ?_, ?_⟩⟩
  · have := hc n (by omega); rw [e0, ha] at this; exact pw_cell_below hb this
  · have := hc (n + 1) (by omega); rw [e1, hj] at this; exact pw_cell_below hb this
  · have := hc (n + 2) (by omega); rw [e2, hj] at this; exact pw_cell_below hb this
  · have := hc (n + 3) (by omega); rw [e3, hj] at this; exact pw_cell_below hb this
theorem bytesOf_headB (s : ByteArray) : bytesOf (headB s) = (bytesOf s).take (s.size - 4) := by
  unfold headB bytesOf; rw [ByteArray.data_extract, Array.toList_extract, List.map_take]; rfl
theorem RB.head {w : World} {A : Option Addr} {s : ByteArray} (h4 : 4 ≤ s.size) (hr : RB w A s) : RB w A (headB s) := by
  unfold RB
  rw [headB_size s h4, bytesOf_headB]
  exact ReadsInt.take_ hr _ (by omega)
/-- What Unseal answers: the head of what is sealed, or an error. -/
def UnsealPost (w : World) (s : ByteArray) (e : Ending) (w' : World) : Prop := Below w.heap.size w w' ∧ ((sealB (headB s) = s ∧ ∃ v, e = .returned (.tuple #[v, .int .i64 0]) ∧ RV w' v (headB s)) ∨ (sealB (headB s) ≠ s ∧ e = .returned (.tuple #[.slice none 0 0, .int .i64 9])))
theorem nats_inj {s t : ByteArray} (h : nats s = nats t) : s = t := by
  obtain ⟨⟨a⟩⟩ := s
  obtain ⟨⟨b⟩⟩ := t
  unfold nats at h
  have : a = b := by
    have h2 := congrArg (List.map UInt8.ofNat) h
    simp only [List.map_map] at h2
    have e : (UInt8.ofNat ∘ UInt8.toNat) = id := by funext x; simp
    simpa [e] using h2
  rw [this]
theorem same_iff (s : ByteArray) (n cv b0 b1 b2 b3 : Nat) (hs : s.size = n + 4) (hv : cv < 4294967296) (hc : crcSum (nats (headB s)) = cv) (hx : nats s = (nats s).take n ++ [b0, b1, b2, b3]) :
    sealB (headB s) = s ↔ ((cv : Int) % 256 == b0 && ((cv : Int) / 256 % 256 == b1 && ((cv : Int) / 65536 % 256 == b2 && (cv : Int) / 16777216 == b3))) = true := by
  have e1 : nats (sealB (headB s)) = (nats s).take n ++ sumBytes cv := by
    rw [nats_sealB, sealL, hc, nats_headB, hs]; rfl
  have e2 : sealB (headB s) = s ↔ sumBytes cv = [b0, b1, b2, b3] := by
    constructor
    · intro h
      have := congrArg nats h
      rw [e1] at this
      exact List.append_cancel_left (this.trans hx)
    · intro h
      apply nats_inj
      rw [e1, h, ← hx]
  rw [e2]
  simp only [Bool.and_eq_true, beq_iff_eq, sumBytes, List.cons.injEq, and_true]
  omega
set_option maxRecDepth 100000 in
set_option maxHeartbeats 1000000 in
theorem unseal29 (ad : Addr) (c : Nat) (s : ByteArray) (w : World) (hr : RB w (some ad) s) (hc : s.size ≤ c) (hs : s.size ≤ 140737488351232) (h4 : 4 ≤ s.size) :
    Calls Tryz.prog 29 #[.slice (some ad) s.size c] w (UnsealPost w s) := by
  have HR := Lib.hid hr
  clear hr
  obtain ⟨n, hn⟩ : ∃ n, s.size = n + 4 := ⟨s.size - 4, by omega⟩
  have HN := Lib.hid hn
  have HH := Lib.hid (RB.head h4 HR.out)
  have HHS := Lib.hid (headB_size s h4)
  have hne : ¬ c = n := by omega
  have hcn : n + 4 ≤ c := by omega
  have hnb : n ≤ 140737488351232 := by omega
  have h4b : decide ((n : Int) + 4 < 4) = false := decide_eq_false (by omega)
  have hhs : (headB s).size = n := by rw [HHS.out]; omega
  rw [hn]
  clear hn
  have HSUM : ∀ w1 : World, Below w.heap.size w w1 → Calls Tryz.prog 56 #[.slice (some ad) n c] w1 fun e w' => e = .returned (.int .u32 (crcSum (nats (headB s)))) ∧ Below w1.heap.size w1 w' := fun w1 hb => by
    have := sum56 (some ad) c (headB s) w1 (RB.below HH.out hb) (by omega)
    rwa [hhs] at this
  have HS2 := Lib.hid HSUM
  clear HSUM hhs
  have hv := crcSum_lt (nats_lt (headB s))
  generalize hcv : crcSum (nats (headB s)) = cv at *
  obtain ⟨b, off, b0, b1, b2, b3, ha, hb0, hb1, hb2, hb3, hx, hcc⟩ := RB.tail HR.out HN.out
  have HX := Lib.hid hx
  have HC := Lib.hid hcc
  have HCV := Lib.hid hcv
  have HSAME := Lib.hid (same_iff s n cv b0 b1 b2 b3 HN.out hv HCV.out HX.out)
  clear hx hcc hcv
  have hat : ∀ W k, (Instr.arrayAt 104 (.slice (some ⟨b, off, none⟩) 4 k)).run Tryz.prog W = .ok (.pointer (some ⟨b, off, none⟩)) W := fun W k => run_arrayAt W 104 5 4 _ 4 k Tryz.underlying104 (by omega)
  obtain ⟨g0, g1, g2, g3⟩ := HC.out w (Below.refl _ _)
  have hI1 : (n : Int) ≤ 140737488351232 := by omega
  have hI2 : (0 : Int) ≤ n := by omega
  have hI3 : (n : Int) ≤ c := by omega
  have hI4 : (n : Int) + 4 ≤ c := by omega
  have hI5 : (n : Int) ≤ (n : Int) + 4 := by omega
  have heq : ∀ W, (Op.equalIn 10000 104 (.agg #[.int .u8 ((cv : Int) % 256), .int .u8 ((cv : Int) / 256 % 256), .int .u8 ((cv : Int) / 65536 % 256), .int .u8 ((cv : Int) / 16777216)]) (.agg #[.int .u8 (b0 : Int), .int .u8 (b1 : Int), .int .u8 (b2 : Int), .int .u8 (b3 : Int)])).run Tryz.prog W = .ok ((cv : Int) % 256 == b0 && ((cv : Int) / 256 % 256 == b1 && ((cv : Int) / 65536 % 256 == b2 && (cv : Int) / 16777216 == b3))) W := fun W => eq_arr4 W _ _ _ _ _ _ _ _
  generalize heq0 : ((cv : Int) % 256 == b0 && ((cv : Int) / 256 % 256 == b1 && ((cv : Int) / 65536 % 256 == b2 && (cv : Int) / 16777216 == b3))) = same at heq
  have HEQ := Lib.hid heq0
  clear heq0
  have HOWN : Hid (∀ W : World, Below w.heap.size w W → (W.alloc (.cells #[] 5)).ownsRow w.heap.size 5 1 (.slice (some ⟨W.heap.size, 0, none⟩) 0 0) 0 (nums .u8 [])) := Lib.hid fun W hb => own_lit W w.heap.size 5 .u8 [] hb.size (by simp)
  have HRH : Hid (∀ W : World, Below w.heap.size w W → ReadsInt W .u8 (some ad) n (bytesOf (headB s))) := Lib.hid fun W hb => by
    have := RB.below HH.out hb
    unfold RB at this
    rwa [HHS.out, show s.size - 4 = n by have := HN.out; omega] at this
  have HLEN := Lib.hid (show (([] : List Int).length + n) * 1 ≤ 140737488355328 by simp; omega)
  go_enter Tryz.func29, Tryz.ntmps29
  go_wp2_with fail
  go_region_held3 (fun w' => w'.cell? ⟨b, off, none⟩ = some (.int .u8 (b0 : Int)) ∧ w'.cell? ⟨b, off + 1, none⟩ = some (.int .u8 (b1 : Int)) ∧ w'.cell? ⟨b, off + 2, none⟩ = some (.int .u8 (b2 : Int)) ∧ w'.cell? ⟨b, off + 3, none⟩ = some (.int .u8 (b3 : Int)) ∧ Below w.heap.size w w') (first | exact ⟨g0, g1, g2, g3, below_drew (Below.refl _ _)⟩ | exact ⟨q0, q1, q2, q3, hb1'⟩ | exact ⟨p0, p1, p2, p3, hb2'⟩) (first | (go_at_call 56; have hH := ‹_ ∧ _ ∧ _ ∧ _ ∧ Below w.heap.size w _›; refine (HS2.out _ hH.2.2.2.2).mono ?_; rintro e w1 ⟨rfl, hb1⟩; have hb1' := below_then hH.2.2.2.2 hH.2.2.2.2.size hb1; clear hb1 hH; obtain ⟨q0, q1, q2, q3⟩ := HC.out w1 hb1') | (go_at_call 55; have hH := ‹_ ∧ _ ∧ _ ∧ _ ∧ Below w.heap.size w _›; refine (bytes55 cv _ hv).mono ?_; rintro e w2 ⟨rfl, hb2⟩; have hb2' := below_then hH.2.2.2.2 hH.2.2.2.2.size hb2; clear hb2 hH; obtain ⟨p0, p1, p2, p3⟩ := HC.out w2 hb2'))
  all_goals
    go_wp2_with ((with_reducible refine gate_dst (N := 26) rfl ?_); refine print_append_row w.heap.size rfl (.tmp 22) (.tmp 25) 43 5 .u8 1 rfl Tryz.underlying43 info5 (by decide) (.slice (some ⟨w2.heap.size, 0, none⟩) 0 0) [] (bytesOf (headB s)) (some ad) n c rfl rfl (by exact HOWN.out w2 hb2') (by exact HRH.out _ (below_alloc hb2' _)) (by exact below_alloc hb2' _) (by have := hb2'.size; simp; omega) HLEN.out ?_; intro v1 w3 hown3 hb3 hg3 _; have HO3 := Lib.hid hown3; have HB3 := Lib.hid hb3; clear hown3 hb3 hg3)
    · have hsame : same = false := by first | assumption | (have h := ‹(!same) = true›; simpa using h)
      go_ret2
      exact ⟨hb2', .inr ⟨(fun h => Bool.noConfusion (((HSAME.out.1 h).symm.trans HEQ.out).trans hsame)), rfl⟩⟩
    · have hsame : same = true := by first | assumption | (have h := ‹(!same) = false›; simpa using h)
      go_ret2
      exact ⟨HB3.out, .inl ⟨HSAME.out.2 (by rw [HEQ.out, hsame]), v1, rfl, RV_of_own HO3.out (by rw [List.nil_append, valB_nums])⟩⟩
end Go.Proofs.YtmeieeekjhjgjaaGreatDoor.H
