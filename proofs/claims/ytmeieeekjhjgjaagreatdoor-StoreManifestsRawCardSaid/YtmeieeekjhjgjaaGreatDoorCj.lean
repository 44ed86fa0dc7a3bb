/- The walks of validDeleted and of Contains. -/
import Derived.Test.YtmeieeekjhjgjaaGreatDoorCi
namespace Go.Proofs.YtmeieeekjhjgjaaGreatDoor.H
open Go.RowKit Go.Proofs.YtmeieeekjhjgjaaGreatDoorW.PrintWords

def lessB (a b : ByteArray) : Bool := Op.bytesLess a.toList b.toList
def delOk (l : List ByteArray) (i : Nat) : Bool := nameB (l.getD i ByteArray.empty) && (decide (i = 0) || lessB (l.getD (i - 1) ByteArray.empty) (l.getD i ByteArray.empty))
def delTo (l : List ByteArray) (k : Nat) : Bool := (List.range k).all (delOk l)
/-- The names of deleted texts: at most 64, valid, strictly ascending. -/
def delB (l : List ByteArray) : Bool := decide (l.length ≤ 64) && delTo l l.length
theorem delTo_succ (l : List ByteArray) (k : Nat) : delTo l (k + 1) = (delTo l k && delOk l k) := by
  unfold delTo
  rw [List.range_succ, List.all_append]
  simp
theorem delB_bad (l : List ByteArray) (k : Nat) (h : k < l.length) (hb : delOk l k = false) : delB l = false := by
  have : delTo l l.length = false := by
    rw [Bool.eq_false_iff] at hb ⊢
    intro ha
    exact hb (List.all_eq_true.1 ha k (List.mem_range.2 h))
  unfold delB; rw [this]; simp
theorem atStr {w : World} {A : Option Addr} {l : List ByteArray} (h : Kd.C Kd.string w A l.length l) (k : Nat) (hk : k < l.length) : ∃ ad x, A = some ad ∧ l[k]? = some x ∧ w.cell? (ad.add k) = some (.string x) := by
  obtain ⟨ad, c, e, _, hK, hc⟩ := Kd.C_get h ByteArray.empty (k : Int) (by omega) (by omega)
  have hx := List.getElem?_eq_getElem hk
  rw [Int.toNat_natCast, getD_of hx] at hK
  refine ⟨ad, _, e, hx, ?_⟩
  have hK' : c = [Value.string l[k]] := hK
  subst hK'
  have := hc 0 _ rfl
  rwa [Int.toNat_natCast, show k * Kd.string.sz + 0 = k from by show k * 1 + 0 = k; omega] at this
def OkStrs (l : List ByteArray) : Prop := ∀ x ∈ l, x.size ≤ 9223372036854775807

set_option maxHeartbeats 2000000 in
theorem deleted51 (A : Option Addr) (c : Nat) (l : List ByteArray) (w : World) (hr : Kd.C Kd.string w A l.length l) (hl : l.length ≤ 9223372036854775807) (hs : OkStrs l) :
    Calls Tryz.prog 51 #[.slice A l.length c] w fun e w' => e = .returned (.bool (delB l)) ∧ w = w' := by
  have HR := Lib.hid hr
  have HS := Lib.hid hs
  clear hr hs
  go_enter Tryz.func51, Tryz.ntmps51
  go_wp2
  go_loop [7] (fun i => ∃ k : Nat, k ≤ l.length ∧ i = .int .i64 k ∧ Hid (delTo l k = true)) (fun i => l.length - (intOf i).toNat)
  case atStart => exact ⟨0, by omega, rfl, Lib.hid rfl⟩
  case round =>
    obtain ⟨k, hk, rfl, HK⟩ := hrel
    by_cases hlt : k < l.length
    · obtain ⟨ad, x, hA, hx, q0⟩ := atStr HR.out k hlt
      subst hA
      have HT := Lib.hid (delTo_succ l k)
      have HX := Lib.hid (HS.out x (List.mem_of_getElem? hx))
      have HB := Lib.hid (delB_bad l k hlt)
      have HGX := Lib.hid (getD_of (d := ByteArray.empty) hx)
      clear hx
      generalize hn : nameB x = f at *
      have HN := Lib.hid hn
      cases f
      · go_wp2_with (go_at_call 89; refine (validName89 x _ HX.out).mono ?_; rw [hn]; rintro e w1 ⟨rfl, rfl⟩)
        go_ret
        exact ⟨ret_bool (HB.out (by unfold delOk; rw [HGX.out, HN.out]; rfl)).symm, rfl⟩
      · by_cases h0 : k = 0
        · subst h0
          have q0' : w.cell? ad = some (.string x) := q0
          go_wp2_with (go_at_call 89; refine (validName89 x _ HX.out).mono ?_; rw [hn]; rintro e w1 ⟨rfl, rfl⟩)
          go_round
          case rel => exact ⟨1, by omega, by go_num, by rw [show (1 : Nat) = 0 + 1 from rfl, HT.out, HK.out]; unfold delOk; rw [HGX.out, HN.out]; exact rfl⟩
          case measure => simp [intOf]; omega
        · obtain ⟨ad2, y, hA2, hy, q1⟩ := atStr HR.out (k - 1) (by omega)
          cases hA2
          have HGY := Lib.hid (getD_of (d := ByteArray.empty) hy)
          clear hy
          have hk1 : ((k : Int) - 1).toNat = k - 1 := by omega
          have q2 : w.cell? (ad.add ((k : Int) - 1).toNat) = some (.string y) := by rw [hk1]; exact q1
          have hb1 : (0 : Int) ≤ (k : Int) - 1 := by omega
          have hb2 : (1 : Int) ≤ (k : Int) := by omega
          have hb3 : (k : Int) - 1 < l.length := by omega
          have hb4 : (0 : Int) < (k : Int) := by omega
          clear hk1
          have HD : Hid (delOk l k = lessB y x) := Lib.hid (by unfold delOk; rw [HGX.out, HGY.out, HN.out, decide_eq_false h0]; simp)
          have hlb : Op.bytesLess y.toList x.toList = lessB y x := rfl
          generalize lessB y x = lb at *
          go_wp2_with (go_at_call 89; refine (validName89 x _ HX.out).mono ?_; rw [hn]; rintro e w1 ⟨rfl, rfl⟩)
          · have hb' : lb = false := by have h := ‹(!lb) = true›; simpa using h
            go_ret
            exact ⟨ret_bool (HB.out (by rw [HD.out, hb'])).symm, rfl⟩
          · have hb' : lb = true := by have h := ‹(!lb) = false›; simpa using h
            go_round
            case rel => exact ⟨k + 1, by omega, by go_num, by rw [HT.out, HK.out, HD.out, hb']; exact rfl⟩
            case measure => simp [intOf]; omega
    · have : k = l.length := by omega
      subst this
      have HFIN : Hid (delB l = decide (l.length ≤ 64)) := Lib.hid (by unfold delB; rw [HK.out]; simp)
      clear HK
      go_wp2
      go_ret
      exact ⟨ret_bool (by rw [HFIN.out, Bool.eq_iff_iff]; simp; omega), rfl⟩

theorem atInt {w : World} {A : Option Addr} {l : List Int} (h : ReadsInt w .i64 A l.length l) (k : Nat) (hk : k < l.length) : ∃ ad x, A = some ad ∧ l[k]? = some x ∧ w.cell? (ad.add k) = some (.int .i64 x) := by
  obtain ⟨ad, e, hc⟩ := h.2.2 (by omega)
  have hx := List.getElem?_eq_getElem hk
  have := hc k hk
  rw [getD_of hx] at this
  exact ⟨ad, _, e, hx, this⟩
def foundInt (l : List Int) (t : Int) (r : Int) : Prop := decide (0 ≤ r) = decide (t ∈ l)
def IndexIntPost (l : List Int) (t : Int) (w : World) (e : Ending) (w' : World) : Prop := ∃ r : Int, e = .returned (.int .i64 r) ∧ foundInt l t r ∧ w = w'
set_option maxHeartbeats 1000000 in
theorem index92 (A : Option Addr) (c : Nat) (l : List Int) (t : Int) (w : World) (hr : ReadsInt w .i64 A l.length l) (hl : l.length ≤ 9223372036854775807) :
    Calls Tryz.prog 92 #[.slice A l.length c, .int .i64 t] w (IndexIntPost l t w) := by
  have HR := Lib.hid hr
  clear hr
  go_enter Tryz.func92, Tryz.ntmps92
  go_wp2
  go_loop [8] (fun i => ∃ k : Nat, k ≤ l.length ∧ i = .int .i64 k ∧ Hid (¬ t ∈ l.take k)) (fun i => l.length - (intOf i).toNat)
  case atStart => exact ⟨0, by omega, rfl, Lib.hid (by simp)⟩
  case round =>
    obtain ⟨k, hk, rfl, HK⟩ := hrel
    by_cases hlt : k < l.length
    · obtain ⟨ad, x, hA, hx, q0⟩ := atInt HR.out k hlt
      subst hA
      have HX := Lib.hid hx
      clear hx
      by_cases he : t = x
      · subst he
        have ht : (t == t) = true := by simp
        go_wp2
        go_ret
        exact ⟨_, rfl, by unfold foundInt; rw [decide_eq_true (List.mem_of_getElem? HX.out)]; simp, rfl⟩
      · have ht : (t == x) = false := by simpa using he
        have HE := Lib.hid he
        clear he
        go_wp2
        go_round
        case rel => exact ⟨k + 1, by omega, by go_num, Lib.hid (by rw [List.take_add_one, HX.out]; simp; exact ⟨HK.out, HE.out⟩)⟩
        case measure => simp [intOf]; omega
    · have : k = l.length := by omega
      subst this
      have HA := Lib.hid (show ¬ t ∈ l by have := HK.out; rwa [List.take_length] at this)
      clear HK
      go_wp2
      go_ret
      exact ⟨_, rfl, by unfold foundInt; rw [decide_eq_false HA.out]; simp, rfl⟩
set_option maxHeartbeats 1000000 in
theorem contains50 (A : Option Addr) (c : Nat) (l : List Int) (t : Int) (w : World) (hr : ReadsInt w .i64 A l.length l) (hl : l.length ≤ 9223372036854775807) :
    Calls Tryz.prog 50 #[.slice A l.length c, .int .i64 t] w fun e w' => e = .returned (.bool (decide (t ∈ l))) ∧ w = w' := by
  have HR := Lib.hid hr
  clear hr
  go_enter Tryz.func50, Tryz.ntmps50
  go_wp2_with (go_at_call 92; refine (index92 A c l t _ HR.out hl).mono ?_; rintro e w1 ⟨r, rfl, hf, rfl⟩; have HF := Lib.hid hf; clear hf)
  go_ret
  exact ⟨ret_bool HF.out, rfl⟩
end Go.Proofs.YtmeieeekjhjgjaaGreatDoor.H
