/- The walk of the reference's Manifest. -/
import Derived.Test.YtmeieeekjhjgjaaGreatDoorDb
import Derived.Test.YtmeieeekjhjgjaaGreatDoorDc
import Derived.Test.YtmeieeekjhjgjaaGreatDoorWLast
namespace Go.Proofs.YtmeieeekjhjgjaaGreatDoor.H
open Go.RowKit Go.Proofs.YtmeieeekjhjgjaaGreatDoorW.PrintWords Go.Proofs.YtmeieeekjhjgjaaGreatDoorW.PrintLast

theorem decI (n : Int) (h0 : 0 ≤ n) (h1 : n ≤ 1000000000) (w : World) : Calls Tryz.prog 27 #[.int .i64 n] w fun e w' => e = .returned (.string (itoaB n)) ∧ Below w.heap.size w w' := by
  obtain ⟨k, rfl⟩ := Int.eq_ofNat_of_zero_le h0
  exact decimal27 k (by omega) w
theorem strB_append (a b : List UInt8) : strB a ++ strB b = strB (a ++ b) := by
  apply ByteArray.ext
  rw [ByteArray.data_append]
  simp [strB]
theorem strB_self (s : ByteArray) : strB s.data.toList = s := by
  apply ByteArray.ext
  simp [strB]
theorem strB_size (l : List UInt8) : (strB l).size = l.length := by show l.toArray.size = _; simp
set_option maxHeartbeats 4000000 in
set_option maxRecDepth 100000 in
theorem manifest8_no (A0 A3 A4 : Option Addr) (c0 c3 c4 : Nat) (l0 : List S70) (next j : Int) (l3 : List S72) (n4 : Nat) (w : World) (hr0 : Kd.C k70 w A0 l0.length l0) (hc0 : l0.length ≤ c0) (hl0 : l0.length ≤ 9223372036854775807) (hs0 : OkNames l0) (hr3 : Kd.C k72 w A3 l3.length l3) (hc3 : l3.length ≤ c3) (hs3 : OkPieces l3) (hv : validB l0 next j l3 = false) :
    Calls Tryz.prog 8 #[.agg #[.slice A0 l0.length c0, .int .i64 next, .int .i64 j, .slice A3 l3.length c3, .slice A4 n4 c4]] w fun e w' => e = .returned (.tuple #[.string ⟨#[]⟩, .int .i64 1]) ∧ Below w.heap.size w w' := by
  have HR0 := Lib.hid hr0
  have HR3 := Lib.hid hr3
  clear hr0 hr3
  go_enter Tryz.func8, Tryz.ntmps8
  go_wp2_with (go_at_call 26; refine (may26 A0 A3 A4 c0 c3 c4 l0 next j l3 n4 _ (Kd.C_below HR0.out (below_alloc (Below.refl _ _) _)) hc0 hl0 hs0 (Kd.C_below HR3.out (below_alloc (Below.refl _ _) _)) hc3 hs3).mono ?_; rw [hv]; rintro e w1 ⟨rfl, hb1⟩)
  go_ret2
  exact ⟨rfl, below_then (below_alloc (Below.refl _ _) _) (by simp) hb1⟩
theorem head_text (next j : Int) : (⟨#[99, 111, 114, 112, 111, 114, 97, 32, 49, 10, 110, 101, 120, 116, 32]⟩ : ByteArray) ++ itoaB next ++ ⟨#[10, 106, 111, 117, 114, 110, 97, 108, 32]⟩ ++ itoaB j ++ ⟨#[10]⟩ = strB (headL next j) := by
  have e1 : (⟨#[99, 111, 114, 112, 111, 114, 97, 32, 49, 10, 110, 101, 120, 116, 32]⟩ : ByteArray) = strB [99, 111, 114, 112, 111, 114, 97, 32, 49, 10, 110, 101, 120, 116, 32] := rfl
  have e2 : (⟨#[10, 106, 111, 117, 114, 110, 97, 108, 32]⟩ : ByteArray) = strB [10, 106, 111, 117, 114, 110, 97, 108, 32] := rfl
  have e3 : (⟨#[10]⟩ : ByteArray) = strB [10] := rfl
  rw [e1, e2, e3, ← strB_self (itoaB next), ← strB_self (itoaB j), strB_append, strB_append, strB_append, strB_append]
  congr 1
  unfold headL lineL
  simp [Lib.join_cons, Lib.join_nil, Lib.joinTail, wordCorpora, wordNext, wordJournal, strB]
theorem attr_text (L : List UInt8) (s n : ByteArray) (b : Bool) (hs : s = strB L) : s ++ ((⟨#[97, 116, 116, 114, 105, 98, 117, 116, 101, 32]⟩ : ByteArray) ++ n) ++ (if b then ⟨#[32, 49, 10]⟩ else ⟨#[32, 48, 10]⟩) = strB (L ++ attrL ⟨n, b⟩) := by
  subst hs
  have e1 : (⟨#[97, 116, 116, 114, 105, 98, 117, 116, 101, 32]⟩ : ByteArray) = strB [97, 116, 116, 114, 105, 98, 117, 116, 101, 32] := rfl
  have e2 : (if b then (⟨#[32, 49, 10]⟩ : ByteArray) else ⟨#[32, 48, 10]⟩) = strB (if b then [32, 49, 10] else [32, 48, 10]) := by cases b <;> rfl
  rw [e1, e2, ← strB_self n, strB_append, strB_append, strB_append]
  congr 1
  rw [List.append_assoc]
  congr 1
  unfold attrL lineL setB
  cases b <;> simp [Lib.join_cons, Lib.joinTail, wordAttribute, strB]
theorem attr_text1 (L : List UInt8) (s : ByteArray) (x : S70) (hf : x.f1 = true) (hs : s = strB L) : s ++ ((⟨#[97, 116, 116, 114, 105, 98, 117, 116, 101, 32]⟩ : ByteArray) ++ x.f0) ++ ⟨#[32, 49, 10]⟩ = strB (L ++ attrL x) := by
  obtain ⟨n, b⟩ := x
  cases hf
  exact attr_text L s n true hs
theorem attr_text0 (L : List UInt8) (s : ByteArray) (x : S70) (hf : x.f1 = false) (hs : s = strB L) : s ++ ((⟨#[97, 116, 116, 114, 105, 98, 117, 116, 101, 32]⟩ : ByteArray) ++ x.f0) ++ ⟨#[32, 48, 10]⟩ = strB (L ++ attrL x) := by
  obtain ⟨n, b⟩ := x
  cases hf
  exact attr_text L s n false hs
theorem names_length (l : List ByteArray) (h : ∀ y ∈ l, y.size ≤ 32) : (Lib.joinTail [32] (l.map (·.data.toList))).length ≤ 33 * l.length := by
  induction l with
  | nil => simp [Lib.joinTail]
  | cons a l ih =>
    have := ih fun y hy => h y (List.mem_cons_of_mem _ hy)
    have ha : a.data.toList.length ≤ 32 := by rw [Array.length_toList]; exact h a (List.mem_cons_self ..)
    unfold Lib.joinTail at this ⊢
    simp only [List.map_cons, List.flatten_cons, List.length_append, List.length_cons, List.length_nil] at this ⊢
    omega
theorem sz_step {s s' : ByteArray} {L M : List UInt8} {m : Nat} (hs : s = strB L) (h : s' = strB (L ++ M)) (hM : M.length ≤ m) : s'.size ≤ s.size + m := by
  rw [hs, h, strB_size, strB_size, List.length_append]; omega
def pT (x : S72) (m : Nat) : List UInt8 := [112, 105, 101, 99, 101, 32] ++ (itoaB x.f0).data.toList ++ Lib.joinTail [32] ((x.f1.take m).map (·.data.toList))
theorem pT_length (x : S72) (m : Nat) (hm : m ≤ 64) (hz : (itoaB x.f0).size ≤ 40) (h : ∀ y ∈ x.f1, y.size ≤ 32) : (pT x m).length ≤ 2300 := by
  unfold pT
  have h1 := names_length (x.f1.take m) (fun y hy => h y (List.mem_of_mem_take hy))
  have h2 : (itoaB x.f0).data.toList.length ≤ 40 := by rw [Array.length_toList]; exact hz
  rw [List.length_take] at h1
  simp only [List.length_append, List.length_cons, List.length_nil]
  omega
theorem pT_end (x : S72) : pT x x.f1.length ++ [10] = pieceL x := by
  unfold pT pieceL lineL
  rw [List.take_length]
  simp [Lib.join_cons, Lib.joinTail, wordPiece]
theorem pT_zero (L : List UInt8) (s : ByteArray) (x : S72) (hs : s = strB L) : s ++ ((⟨#[112, 105, 101, 99, 101, 32]⟩ : ByteArray) ++ itoaB x.f0) = strB (L ++ pT x 0) := by
  subst hs
  have e1 : (⟨#[112, 105, 101, 99, 101, 32]⟩ : ByteArray) = strB [112, 105, 101, 99, 101, 32] := rfl
  rw [e1, ← strB_self (itoaB x.f0), strB_append, strB_append]
  congr 1
  unfold pT
  simp [Lib.joinTail, strB]
theorem pT_succ (L : List UInt8) (s n : ByteArray) (x : S72) (m : Nat) (hs : s = strB (L ++ pT x m)) (hn : x.f1[m]? = some n) : s ++ ((⟨#[32]⟩ : ByteArray) ++ n) = strB (L ++ pT x (m + 1)) := by
  subst hs
  have e1 : (⟨#[32]⟩ : ByteArray) = strB [32] := rfl
  rw [e1, ← strB_self n, strB_append, strB_append]
  congr 1
  rw [List.append_assoc]
  congr 1
  unfold pT
  rw [List.take_add_one, hn]
  simp [Lib.joinTail, strB]
theorem nl_text (l : List UInt8) (s : ByteArray) (hs : s = strB l) : s ++ (⟨#[10]⟩ : ByteArray) = strB (l ++ [10]) := by
  subst hs
  exact strB_append l [10]
set_option maxHeartbeats 4000000 in
set_option maxRecDepth 100000 in
theorem manifest8_yes (A0 A3 A4 : Option Addr) (c0 c3 c4 : Nat) (l0 : List S70) (next j : Int) (l3 : List S72) (n4 : Nat) (w : World) (hr0 : Kd.C k70 w A0 l0.length l0) (hc0 : l0.length ≤ c0) (hl0 : l0.length ≤ 9223372036854775807) (hs0 : OkNames l0) (hr3 : Kd.C k72 w A3 l3.length l3) (hc3 : l3.length ≤ c3) (hs3 : OkPieces l3) (hv : validB l0 next j l3 = true) :
    Calls Tryz.prog 8 #[.agg #[.slice A0 l0.length c0, .int .i64 next, .int .i64 j, .slice A3 l3.length c3, .slice A4 n4 c4]] w fun e w' => e = .returned (.tuple #[.string (manB l0 next j l3), .int .i64 0]) ∧ Below w.heap.size w w' := by
  have HR0 := Lib.hid hr0
  have HR3 := Lib.hid hr3
  have OK := Ok.of hv
  have h1 := OK.hn
  have h2 := OK.hj
  clear hr0 hr3
  go_enter Tryz.func8, Tryz.ntmps8
  go_wp2_with (go_at_call 26; refine (may26 A0 A3 A4 c0 c3 c4 l0 next j l3 n4 _ (Kd.C_below HR0.out (below_alloc (Below.refl _ _) _)) hc0 hl0 hs0 (Kd.C_below HR3.out (below_alloc (Below.refl _ _) _)) hc3 hs3).mono ?_; rw [hv]; rintro e w1 ⟨rfl, hb1⟩)
  have hb1' := below_then (below_alloc (Below.refl _ w) _) (by simp) hb1
  have HBX := Lib.hid (blk_below (blk_new w _) hb1)
  obtain ⟨q0, q1, q2, q3, q4⟩ := box5 hb1
  clear hb1
  have OKN : Hid (0 ≤ next ∧ next ≤ 1000000000) := Lib.hid (by omega)
  have OKJ : Hid (0 ≤ j ∧ j ≤ 1000000000) := Lib.hid (by omega)
  have HLH := Lib.hid (headL_length next j (by omega) h1 (by omega) (by omega))
  have HHT := Lib.hid (head_text next j)
  have HZN := Lib.hid (itoaB_size next (by omega) h1)
  have HZJ := Lib.hid (itoaB_size j (by omega) (by omega))
  have HMX : Hid (manB l0 next j l3 = sealB (strB (manL l0 next j l3))) := Lib.hid rfl
  have f1 : ¬ 9223372036854775807 < 15 + (itoaB next).size := by have := HZN.out; omega
  have f2 : ¬ 9223372036854775807 < 15 + (itoaB next).size + 9 := by have := HZN.out; omega
  have f3 : ¬ 9223372036854775807 < 15 + (itoaB next).size + 9 + (itoaB j).size := by have := HZN.out; have := HZJ.out; omega
  have f4 : ¬ 9223372036854775807 < 15 + (itoaB next).size + 9 + (itoaB j).size + 1 := by have := HZN.out; have := HZJ.out; omega
  go_wp2_with fail
  refine start_ (n := 11) (S := fun w' => w'.cell? ⟨w.heap.size, 1, none⟩ = some (.int .i64 next) ∧ w'.cell? ⟨w.heap.size, 2, none⟩ = some (.int .i64 j)) (ds := []) #[false, false, false, false, false, false, false, false, false, false, false] (by kernel_rfl) rfl rfl ⟨q1, q2⟩ (fun hHeld => ?_)
  refine pure_ (i := 0) (N := some 14) (v := ?_) (a' := ?_) #[true, false, false, false, false, false, false, false, false, false, false] rfl rfl (by kernel_rfl) (fun _ _ _ h => h) (Or.inl ⟨by rfl, ?_⟩) ?_ ?_
  rotate_left
  · intro w'
    go_simp
    with_reducible rfl
  rotate_left
  · simp only [Act.put, List.setIfInBounds_toArray, List.set_cons_zero, List.set_cons_succ, i64_w, i32_w]
    rfl
  refine pure_ (i := 5) (N := some 19) (v := ?_) (a' := ?_) #[true, false, false, false, false, true, false, false, false, false, false] rfl rfl (by kernel_rfl) (fun _ _ _ h => h) (Or.inl ⟨by rfl, ?_⟩) ?_ ?_
  rotate_left
  · intro w'
    go_simp
    with_reducible rfl
  rotate_left
  · simp only [Act.put, List.setIfInBounds_toArray, List.set_cons_zero, List.set_cons_succ, i64_w, i32_w]
    rfl
  refine take_ (i := 1) (N := some 15) (v := ?_) (a' := ?_) #[true, true, false, false, false, true, false, false, false, false, false] rfl rfl (by kernel_rfl) (fun _ _ _ h => h) (Or.inl ⟨by rfl, ?_⟩) hHeld ?_ ?_
  rotate_left
  · rintro w' ⟨s0, s1⟩
    go_simp
    with_reducible rfl
  rotate_left
  · simp only [Act.put, List.setIfInBounds_toArray, List.set_cons_zero, List.set_cons_succ, i64_w, i32_w]
    rfl
  refine take_ (i := 6) (N := some 20) (v := ?_) (a' := ?_) #[true, true, false, false, false, true, true, false, false, false, false] rfl rfl (by kernel_rfl) (fun _ _ _ h => h) (Or.inl ⟨by rfl, ?_⟩) hHeld ?_ ?_
  rotate_left
  · rintro w' ⟨s0, s1⟩
    go_simp
    with_reducible rfl
  rotate_left
  · simp only [Act.put, List.setIfInBounds_toArray, List.set_cons_zero, List.set_cons_succ, i64_w, i32_w]
    rfl
  refine one_ (i := 2) (N := some 16) #[true, true, true, false, false, true, true, false, false, false, false] rfl rfl (by kernel_rfl) (by decide) (fun K hK => ?_)
  refine goes_ Tryz.func27 (by kernel_rfl) rfl #[.int .i64 next] (by rfl) rfl rfl (by simp only [List.map_toArray, List.map_cons, List.map_nil]; rfl) ?_
  with_reducible refine (decI next OKN.out.1 OKN.out.2 _).mono ?_
  rintro e w5 ⟨rfl, hb5⟩
  refine ⟨_, rfl, ?_⟩
  have hb5' : Below w1.heap.size w1 w5 := below_then (below_drew (Below.refl _ w1)) (Nat.le_refl _) hb5
  clear hb5
  refine hK.out _ _ ⟨pw_cell_below hb5' q1, pw_cell_below hb5' q2⟩ (fun hHeld => ?_)
  clear hK K
  refine norm_ (a' := ?_) ?_ ?_
  rotate_left
  · show Act.put _ (some 16) _ = _
    simp only [Act.put, List.setIfInBounds_toArray, List.set_cons_zero, List.set_cons_succ, i64_w, i32_w]
    rfl
  refine pure_ (i := 3) (N := some 17) (v := ?_) (a' := ?_) #[true, true, true, true, false, true, true, false, false, false, false] rfl rfl (by kernel_rfl) (fun _ _ _ h => h) (Or.inl ⟨by rfl, ?_⟩) ?_ ?_
  rotate_left
  · intro w'
    go_simp
    with_reducible rfl
  rotate_left
  · simp only [Act.put, List.setIfInBounds_toArray, List.set_cons_zero, List.set_cons_succ, i64_w, i32_w]
    rfl
  refine pure_ (i := 4) (N := some 18) (v := ?_) (a' := ?_) #[true, true, true, true, true, true, true, false, false, false, false] rfl rfl (by kernel_rfl) (fun _ _ _ h => h) (Or.inl ⟨by rfl, ?_⟩) ?_ ?_
  rotate_left
  · intro w'
    go_simp
    with_reducible rfl
  rotate_left
  · simp only [Act.put, List.setIfInBounds_toArray, List.set_cons_zero, List.set_cons_succ, i64_w, i32_w]
    rfl
  refine one_ (i := 7) (N := some 21) #[true, true, true, true, true, true, true, true, false, false, false] rfl rfl (by kernel_rfl) (by decide) (fun K hK => ?_)
  refine goes_ Tryz.func27 (by kernel_rfl) rfl #[.int .i64 j] (by rfl) rfl rfl (by simp only [List.map_toArray, List.map_cons, List.map_nil]; rfl) ?_
  with_reducible refine (decI j OKJ.out.1 OKJ.out.2 _).mono ?_
  rintro e w6 ⟨rfl, hb6⟩
  refine ⟨_, rfl, ?_⟩
  have hb6' : Below w1.heap.size w1 w6 := hb5'.trans (hb6.mono hb5'.size)
  clear hb6
  refine hK.out _ _ ⟨pw_cell_below hb6' q1, pw_cell_below hb6' q2⟩ (fun hHeld => ?_)
  clear hK K
  refine norm_ (a' := ?_) ?_ ?_
  rotate_left
  · show Act.put _ (some 21) _ = _
    simp only [Act.put, List.setIfInBounds_toArray, List.set_cons_zero, List.set_cons_succ, i64_w, i32_w]
    rfl
  refine pure_ (i := 8) (N := some 22) (v := ?_) (a' := ?_) #[true, true, true, true, true, true, true, true, true, false, false] rfl rfl (by kernel_rfl) (fun _ _ _ h => h) (Or.inl ⟨by rfl, ?_⟩) ?_ ?_
  rotate_left
  · intro w'
    go_simp
    with_reducible rfl
  rotate_left
  · simp only [Act.put, List.setIfInBounds_toArray, List.set_cons_zero, List.set_cons_succ, i64_w, i32_w]
    rfl
  refine pure_ (i := 9) (N := some 23) (v := ?_) (a' := ?_) #[true, true, true, true, true, true, true, true, true, true, false] rfl rfl (by kernel_rfl) (fun _ _ _ h => h) (Or.inl ⟨by rfl, ?_⟩) ?_ ?_
  rotate_left
  · intro w'
    go_simp
    with_reducible rfl
  rotate_left
  · simp only [Act.put, List.setIfInBounds_toArray, List.set_cons_zero, List.set_cons_succ, i64_w, i32_w]
    rfl
  refine pure_ (i := 10) (N := some 4) (v := ?_) (a' := ?_) #[true, true, true, true, true, true, true, true, true, true, true] rfl rfl (by kernel_rfl) (fun _ _ _ h => h) (Or.inl ⟨by rfl, ?_⟩) ?_ ?_
  rotate_left
  · intro w'
    go_simp
    with_reducible rfl
  rotate_left
  · simp only [Act.put, List.setIfInBounds_toArray, List.set_cons_zero, List.set_cons_succ, i64_w, i32_w]
    rfl
  refine done_ (by kernel_rfl) ?_
  rw [HHT.out]
  clear f1 f2 f3 f4
  have q0' := pw_cell_below hb6' q0
  have q3' := pw_cell_below hb6' q3
  have HBX6 := Lib.hid (blk_below HBX.out hb6')
  have hb6'' := hb1'.trans (hb6'.mono hb1'.size)
  have HHS := Lib.hid (strB_size (headL next j))
  clear q0 q1 q2 q3 q4 hb5' hb6' HBX hb1'
  generalize ht0 : strB (headL next j) = t0 at *
  have HT0 := Lib.hid ht0
  clear ht0
  go_wp2_with fail
  clear hHeld
  have hsz6 := blk_lt HBX6.out
  go_loopw [4, 27] (fun t i wr => ∃ (k : Nat) (s : ByteArray), k ≤ l0.length ∧ i = .int .i64 k ∧ t = .string s ∧ Below w6.heap.size w6 wr ∧ Hid (s = strB (headL next j ++ ((l0.take k).map attrL).flatten)) ∧ s.size ≤ 500 + 200 * k) (fun _ i _ => l0.length - (intOf i).toNat)
  case atStart => exact ⟨0, t0, by omega, rfl, rfl, Below.refl _ _, Lib.hid (by rw [← HT0.out]; simp), by have := HHS.out; have := HLH.out; omega⟩
  case round =>
    obtain ⟨k, s, hk, rfl, rfl, hb, HS, hss⟩ := hrel
    have hk8 := OK.n0.2
    by_cases hlt : k < l0.length
    · obtain ⟨ad, x, hA, hx, r0, r1⟩ := at70 (Kd.C_below HR0.out (hb6''.trans (hb.mono hb6''.size))) k hlt
      subst hA
      have HT := Lib.hid (flat_take attrL l0 k x hx)
      have hxs := OK.a0 x (List.mem_of_getElem? hx)
      clear hx
      have g1 : ¬ 9223372036854775807 < 10 + x.f0.size := by omega
      have g2 : ¬ 9223372036854775807 < s.size + (10 + x.f0.size) := by omega
      have g3 : ¬ 9223372036854775807 < s.size + (10 + x.f0.size) + 3 := by omega
      cases hf : x.f1
      case false =>
        have HAT := Lib.hid (attr_text0 _ s x hf HS.out)
        have HSZ := Lib.hid (sz_step HS.out HAT.out (attrL_length x hxs))
        rw [hf] at r1
        go_wp2
        go_roundw
        case rel => exact ⟨k + 1, _, by omega, by go_num, rfl, hb.alloc hb.size _, Lib.hid (by rw [HT.out, ← List.append_assoc]; exact HAT.out), by have := HSZ.out; omega⟩
        case measure => simp [intOf]; omega
      case true =>
        have HAT := Lib.hid (attr_text1 _ s x hf HS.out)
        have HSZ := Lib.hid (sz_step HS.out HAT.out (attrL_length x hxs))
        rw [hf] at r1
        go_wp2
        go_roundw
        case rel => exact ⟨k + 1, _, by omega, by go_num, rfl, hb.alloc hb.size _, Lib.hid (by rw [HT.out, ← List.append_assoc]; exact HAT.out), by have := HSZ.out; omega⟩
        case measure => simp [intOf]; omega
    · have : k = l0.length := by omega
      subst this
      rw [List.take_length] at HS
      have hsk : s.size ≤ 2100 := by omega
      clear hss hk hlt
      have q3w := pw_cell_below hb q3'
      have hbw := hb6''.trans (hb.mono hb6''.size)
      clear hb6'' q3' q0' HT0 HHS HHT
      go_wp2
      generalize hL : headL next j ++ (l0.map attrL).flatten = L at *
      have HLQ := Lib.hid hL
      clear hL
      go_loopw [4, 46] (fun t i wr => ∃ (k : Nat) (s : ByteArray), k ≤ l3.length ∧ i = .int .i64 k ∧ t = .string s ∧ Below w.heap.size w wr ∧ Hid (s = strB (L ++ ((l3.take k).map pieceL).flatten)) ∧ s.size ≤ 2100 + 3000 * k) (fun _ i _ => l3.length - (intOf i).toNat)
      case atStart => exact ⟨0, s, by omega, rfl, rfl, hbw, Lib.hid (by simpa using HS.out), by omega⟩
      case round =>
        clear HS hb hbw q3w hsk
        obtain ⟨k, s, hk, rfl, rfl, hb, HS, hss⟩ := hrel
        have hk16 := OK.n3
        by_cases hlt : k < l3.length
        · obtain ⟨ad, x, A1, c1, hA, hx, r0, r1, hc1, hd1⟩ := at72 (Kd.C_below HR3.out hb) k hlt
          subst hA
          have HT := Lib.hid (flat_take pieceL l3 k x hx)
          have HOP := Lib.hid (OK.p3 x (List.mem_of_getElem? hx))
          have hf0 : 1 ≤ x.f0 := HOP.out.1
          have hf1 : x.f0 < next := HOP.out.2.1
          have hml : x.f1.length ≤ 64 := HOP.out.2.2.1
          have hiz := itoaB_size x.f0 (by omega) (by omega)
          have HPL := Lib.hid (fun m hm => pT_length x m hm hiz HOP.out.2.2.2)
          have HPZ := Lib.hid (pT_zero _ s x HS.out)
          have HSZ := Lib.hid (sz_step HS.out HPZ.out (HPL.out 0 (by omega)))
          clear hx
          have g1 : ¬ 9223372036854775807 < 6 + (itoaB x.f0).size := by omega
          have g2 : ¬ 9223372036854775807 < s.size + (6 + (itoaB x.f0).size) := by omega
          have hxb := blk_new wr (.cells #[.int .i64 x.f0, .slice A1 x.f1.length c1] 72)
          have hwb : Below w.heap.size w (wr.alloc (.cells #[.int .i64 x.f0, .slice A1 x.f1.length c1] 72)) := hb.alloc hb.size _
          have HD1 := Lib.hid (Kd.C_below hd1 (below_alloc (Below.refl _ wr) (.cells #[.int .i64 x.f0, .slice A1 x.f1.length c1] 72)))
          clear hd1
          go_wp2_with fail
          generalize hWg : wr.alloc (.cells #[.int .i64 x.f0, .slice A1 x.f1.length c1] 72) = Wg at *
          generalize hbn : wr.heap.size = bn at *
          refine (decI x.f0 (by omega) (by omega) Wg).mono ?_
          rintro e w9 ⟨rfl, hb9⟩
          have hx9 := blk_below hxb hb9
          have HD9 := Lib.hid (Kd.C_below HD1.out hb9)
          have hb9' := hwb.trans (hb9.mono hwb.size)
          have e1 : w9.cell? ⟨bn, 1, none⟩ = some (.slice A1 x.f1.length c1) := by rw [blk_cell hx9]; rfl
          clear hxb hWg hb9 hx9 HD1 hwb hb r0 r1
          go_wp2_with fail
          rw [HPZ.out] at *
          go_loop [4, 59] (fun t i => ∃ (m : Nat) (s2 : ByteArray), m ≤ x.f1.length ∧ i = .int .i64 m ∧ t = .string s2 ∧ Hid (s2 = strB ((L ++ ((l3.take k).map pieceL).flatten) ++ pT x m)) ∧ s2.size ≤ 60000) (fun _ i => x.f1.length - (intOf i).toNat)
          case atStart => exact ⟨0, _, by omega, rfl, rfl, Lib.hid HPZ.out, by have := HSZ.out; omega⟩
          case round =>
            obtain ⟨m, s2, hm, rfl, rfl, HS2, hs2⟩ := hrel
            by_cases hmt : m < x.f1.length
            · obtain ⟨ady, y, hAy, hy, r2⟩ := atStr HD9.out m hmt
              subst hAy
              have hys := HOP.out.2.2.2 y (List.mem_of_getElem? hy)
              have HPS := Lib.hid (pT_succ _ s2 y x m HS2.out hy)
              have HS3 := Lib.hid (sz_step HS.out HPS.out (HPL.out (m + 1) (by omega)))
              clear hy
              have g3 : ¬ 9223372036854775807 < 1 + y.size := by omega
              have g4 : ¬ 9223372036854775807 < s2.size + (1 + y.size) := by omega
              go_wp2
              go_round
              case rel => exact ⟨m + 1, _, by omega, by go_num, rfl, HPS, by have := HS3.out; omega⟩
              case measure => simp [intOf]; omega
            · have : m = x.f1.length := by omega
              subst this
              have HNL := Lib.hid (nl_text _ s2 HS2.out)
              have HEQ : Hid (s2 ++ (⟨#[10]⟩ : ByteArray) = strB ((L ++ ((l3.take k).map pieceL).flatten) ++ pieceL x)) := Lib.hid (by rw [HNL.out, List.append_assoc, pT_end])
              have HS3 := Lib.hid (sz_step HS.out HEQ.out (pieceL_length x (by omega) (by omega) HOP.out.2.2.1 HOP.out.2.2.2))
              have g3 : ¬ 9223372036854775807 < s2.size + 1 := by omega
              go_wp2
              go_roundw
              case rel => exact ⟨k + 1, _, by omega, by go_num, rfl, hb9', Lib.hid (by rw [HT.out, ← List.append_assoc]; exact HEQ.out), by have := HS3.out; omega⟩
              case measure => simp [intOf]; omega
        · have : k = l3.length := by omega
          subst this
          rw [List.take_length] at HS
          have HMAN : Hid (s = strB (manL l0 next j l3)) := Lib.hid (by rw [HS.out, ← HLQ.out]; unfold manL; rw [List.append_assoc])
          have HFIN : Hid (sealB s = manB l0 next j l3) := Lib.hid (by rw [HMAN.out]; rfl)
          have kc := fun (s : ByteArray) W => print_bytes (P := Tryz.prog) 9 43 5 Tryz.underlying9 Tryz.underlying43 Tryz.underlying5 s W
          have hsz : s.size ≤ 100000 := by omega
          clear hss hk hlt
          go_wp2_with fail
          refine (seal28 _ _ s _ (bytes_reads wr 5 s (by omega)) (by omega)).mono ?_
          rintro e w9 ⟨v9, rfl, hv9, hb9⟩
          have kb := RV.str hv9
          have hb9' : Below w.heap.size w w9 := (bytes_below hb hb.size 5 s).trans (hb9.mono (by rw [Lib.bytesWorld_size]; have := hb.size; omega))
          go_wp2_with fail
          go_ret2
          exact ⟨by rw [← HFIN.out]; rfl, hb9'⟩
theorem manifest8_all (A0 A3 A4 : Option Addr) (c0 c3 c4 : Nat) (l0 : List S70) (next j : Int) (l3 : List S72) (n4 : Nat) (w : World) (hr0 : Kd.C k70 w A0 l0.length l0) (hc0 : l0.length ≤ c0) (hl0 : l0.length ≤ 9223372036854775807) (hs0 : OkNames l0) (hr3 : Kd.C k72 w A3 l3.length l3) (hc3 : l3.length ≤ c3) (hs3 : OkPieces l3) :
    Calls Tryz.prog 8 #[.agg #[.slice A0 l0.length c0, .int .i64 next, .int .i64 j, .slice A3 l3.length c3, .slice A4 n4 c4]] w fun e w' => e = .returned (if validB l0 next j l3 = true then .tuple #[.string (manB l0 next j l3), .int .i64 0] else .tuple #[.string ⟨#[]⟩, .int .i64 1]) ∧ Below w.heap.size w w' := by
  cases hv : validB l0 next j l3 with
  | true => rw [if_pos rfl]; exact manifest8_yes A0 A3 A4 c0 c3 c4 l0 next j l3 n4 w hr0 hc0 hl0 hs0 hr3 hc3 hs3 hv
  | false => rw [if_neg (by decide)]; exact manifest8_no A0 A3 A4 c0 c3 c4 l0 next j l3 n4 w hr0 hc0 hl0 hs0 hr3 hc3 hs3 hv
end Go.Proofs.YtmeieeekjhjgjaaGreatDoor.H
