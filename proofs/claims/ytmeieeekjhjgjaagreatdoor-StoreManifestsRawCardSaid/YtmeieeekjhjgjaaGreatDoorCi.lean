/- The walk of validAttributes. -/
import Derived.Test.YtmeieeekjhjgjaaGreatDoorCh
namespace Go.Proofs.YtmeieeekjhjgjaaGreatDoor.H
open Go.RowKit Go.Proofs.YtmeieeekjhjgjaaGreatDoorW.PrintWords

theorem C_take_ {α : Type} {d : Kd α} {w : World} {A : Option Addr} {l : List α} (h : d.C w A l.length l) (k : Nat) (hk : k ≤ l.length) : d.C w A (l.take k).length (l.take k) := by
  obtain ⟨h1, h2, h3⟩ := h
  have e : (l.take k).length = k := by rw [List.length_take]; omega
  refine ⟨rfl, by omega, fun h0 => ?_⟩
  obtain ⟨ad, ha, hc⟩ := h3 (by omega)
  exact ⟨ad, ha, fun j p hj => hc j p (by rw [List.getElem?_take] at hj; split at hj; exact hj; cases hj)⟩
def attrOk (l : List S70) (i : Nat) : Bool := nameB (l.getD i z70).f0 && !((l.take i).any (named (l.getD i z70).f0))
def attrsTo (l : List S70) (k : Nat) : Bool := (List.range k).all (attrOk l)
/-- The attributes of a store: one to eight, with valid and distinct names. -/
def attrsB (l : List S70) : Bool := decide (1 ≤ l.length) && (decide (l.length ≤ 8) && attrsTo l l.length)
theorem attrsTo_succ (l : List S70) (k : Nat) (x : S70) (h : l[k]? = some x) : attrsTo l (k + 1) = (attrsTo l k && (nameB x.f0 && !((l.take k).any (named x.f0)))) := by
  unfold attrsTo
  rw [List.range_succ, List.all_append]
  simp only [List.all_cons, List.all_nil, Bool.and_true, attrOk, getD_of h]
theorem attrsB_bad (l : List S70) (k : Nat) (h : k < l.length) (hb : attrsTo l (k + 1) = false) : attrsB l = false := by
  have : attrsTo l l.length = false := by
    rw [Bool.eq_false_iff] at hb ⊢
    intro ha
    exact hb (List.all_eq_true.2 fun i hi => List.all_eq_true.1 ha i (List.mem_range.2 (by have := List.mem_range.1 hi; omega)))
  unfold attrsB; rw [this]; simp
theorem contains90' (A : Option Addr) (n c g off : Nat) (l : List S70) (t : ByteArray) (w : World) (hn : l.length = n) (hr : Kd.C k70 w A l.length l) (hl : n ≤ 9223372036854775807) (hc : w.cell? ⟨g, off, none⟩ = some (.string t)) :
    Calls Tryz.prog 90 #[.slice A n c, .func (.func 91) #[] #[.pointer (some ⟨g, off, none⟩)]] w fun e w' => e = .returned (.bool (l.any (named t))) ∧ Below w.heap.size w w' := by
  subst hn; exact contains90 A c g off l t w hr hl hc

/-- A list that is read; the strings in it are no longer than a string may be. -/
def OkNames (l : List S70) : Prop := ∀ x ∈ l, x.f0.size ≤ 9223372036854775807
set_option maxHeartbeats 2000000 in
theorem attrs49 (A : Option Addr) (c : Nat) (l : List S70) (w : World) (hr : Kd.C k70 w A l.length l) (hcap : l.length ≤ c) (hl : l.length ≤ 9223372036854775807) (hs : OkNames l) :
    Calls Tryz.prog 49 #[.slice A l.length c] w fun e w' => e = .returned (.bool (attrsB l)) ∧ Below w.heap.size w w' := by
  have HR := Lib.hid hr
  have HS := Lib.hid hs
  clear hr hs
  go_enter Tryz.func49, Tryz.ntmps49
  go_wp2
  go_loopw [7] (fun i wr => ∃ k : Nat, k ≤ l.length ∧ i = .int .i64 k ∧ Below w.heap.size w wr ∧ Hid (attrsTo l k = true)) (fun i _ => l.length - (intOf i).toNat)
  case atStart => exact ⟨0, by omega, rfl, Below.refl _ _, Lib.hid rfl⟩
  case round =>
    obtain ⟨k, hk, rfl, hb, HK⟩ := hrel
    by_cases hlt : k < l.length
    · obtain ⟨ad, x, hA, hx, q0, q1⟩ := at70 (Kd.C_below HR.out hb) k hlt
      subst hA
      have HT := Lib.hid (attrsTo_succ l k x hx)
      have HX := Lib.hid (HS.out x (List.mem_of_getElem? hx))
      have HB := Lib.hid (attrsB_bad l k hlt)
      have HTK : Hid ((l.take k).length = k ∧ ∀ W, Below w.heap.size w W → Kd.C k70 W (some ad) (l.take k).length (l.take k)) := Lib.hid ⟨by rw [List.length_take]; omega, fun W hW => C_take_ (Kd.C_below HR.out hW) k hk⟩
      clear hx
      have hkc : k ≤ c := by omega
      generalize hn : nameB x.f0 = f at *
      cases f
      · go_wp2_with (go_at_call 89; refine (validName89 x.f0 _ HX.out).mono ?_; rw [hn]; rintro e w1 ⟨rfl, rfl⟩)
        go_ret
        exact ⟨ret_bool (HB.out (by rw [HT.out, HK.out]; rfl)).symm, hb.alloc hb.size _⟩
      · generalize hany : (l.take k).any (named x.f0) = f2 at *
        cases f2
        · go_wp2_with (first | (go_at_call 89; refine (validName89 x.f0 _ HX.out).mono ?_; rw [hn]; rintro e w1 ⟨rfl, rfl⟩) | (go_at_call 90; refine (contains90' (some ad) k c _ 0 (l.take k) x.f0 _ HTK.out.1 (by exact HTK.out.2 _ (hb.alloc hb.size _)) (by omega) (by simp)).mono ?_; rw [hany]; rintro e w2 ⟨rfl, hb2⟩; have hb2' := below_then (hb.alloc hb.size _) (by have := hb.size; simp; omega) hb2; clear hb2))
          go_roundw
          case rel => exact ⟨k + 1, by omega, by go_num, hb2', by rw [HT.out, HK.out]; exact rfl⟩
          case measure => simp [intOf]; omega
        · go_wp2_with (first | (go_at_call 89; refine (validName89 x.f0 _ HX.out).mono ?_; rw [hn]; rintro e w1 ⟨rfl, rfl⟩) | (go_at_call 90; refine (contains90' (some ad) k c _ 0 (l.take k) x.f0 _ HTK.out.1 (by exact HTK.out.2 _ (hb.alloc hb.size _)) (by omega) (by simp)).mono ?_; rw [hany]; rintro e w2 ⟨rfl, hb2⟩; have hb2' := below_then (hb.alloc hb.size _) (by have := hb.size; simp; omega) hb2; clear hb2))
          go_ret
          exact ⟨ret_bool (HB.out (by rw [HT.out, HK.out]; rfl)).symm, hb2'⟩
    · have : k = l.length := by omega
      subst this
      have HFIN : Hid (attrsB l = (decide (1 ≤ l.length) && decide (l.length ≤ 8))) := Lib.hid (by unfold attrsB; rw [HK.out]; simp)
      clear HK
      by_cases c1 : 1 ≤ l.length
      · go_wp2
        go_ret
        exact ⟨ret_bool (by rw [HFIN.out, Bool.eq_iff_iff]; simp; omega), hb⟩
      · go_wp2
        go_ret
        exact ⟨ret_bool (by rw [HFIN.out, Bool.eq_iff_iff]; simp; omega), hb⟩
end Go.Proofs.YtmeieeekjhjgjaaGreatDoor.H
