/- The walks of the reference's Same: of two stores that read alike. -/
import Derived.Test.YtmeieeekjhjgjaaGreatDoorCq
import Derived.BigQuiet
import Derived.Deep.QuietTactic
namespace Go.Proofs.YtmeieeekjhjgjaaGreatDoor.H
open Go.RowKit Go.Proofs.YtmeieeekjhjgjaaGreatDoorW.PrintWords

set_option maxHeartbeats 2000000 in
theorem texts62 (A B : Option Addr) (c c' : Nat) (l : List ByteArray) (w : World) (hr : Kd.C Kd.string w A l.length l) (hr' : Kd.C Kd.string w B l.length l) (hl : l.length ≤ 100000000) :
    Calls Tryz.prog 62 #[.slice A l.length c, .slice B l.length c'] w fun e w' => e = .returned (.bool true) ∧ Below w.heap.size w w' := by
  have HR := Lib.hid hr
  have HR' := Lib.hid hr'
  clear hr hr'
  go_enter Tryz.func62, Tryz.ntmps62
  go_wp2
  go_loopw [13] (fun i wr => ∃ k : Nat, k ≤ l.length ∧ i = .int .i64 k ∧ Below w.heap.size w wr) (fun i _ => l.length - (intOf i).toNat)
  case atStart => exact ⟨0, by omega, rfl, Below.refl _ _⟩
  case round =>
    obtain ⟨k, hk, rfl, hb⟩ := hrel
    by_cases hlt : k < l.length
    · obtain ⟨ad, x, hA, hx, q0⟩ := atStr (Kd.C_below HR.out hb) k hlt
      obtain ⟨ad', x', hA', hx', q0'⟩ := atStr (Kd.C_below HR'.out hb) k hlt
      cases hx.symm.trans hx'
      subst hA; subst hA'
      clear hx hx'
      go_wp2
      go_region
      go_wp2
      go_roundw
      case rel => exact ⟨k + 1, by omega, by go_num, below_drew hb⟩
      case measure => simp [intOf]; omega
    · have : k = l.length := by omega
      subst this
      go_wp2
      go_ret
      exact ⟨rfl, hb⟩
set_option maxHeartbeats 2000000 in
theorem same33 (A B : Option Addr) (c c' : Nat) (l : List S70) (w : World) (hr : Kd.C k70 w A l.length l) (hr' : Kd.C k70 w B l.length l) (hl : l.length ≤ 100000000) :
    Calls Tryz.prog 33 #[.slice A l.length c, .slice B l.length c'] w fun e w' => e = .returned (.bool true) ∧ Below w.heap.size w w' := by
  have HR := Lib.hid hr
  have HR' := Lib.hid hr'
  clear hr hr'
  go_enter Tryz.func33, Tryz.ntmps33
  go_wp2
  go_loopw [13] (fun i wr => ∃ k : Nat, k ≤ l.length ∧ i = .int .i64 k ∧ Below w.heap.size w wr) (fun i _ => l.length - (intOf i).toNat)
  case atStart => exact ⟨0, by omega, rfl, Below.refl _ _⟩
  case round =>
    obtain ⟨k, hk, rfl, hb⟩ := hrel
    by_cases hlt : k < l.length
    · obtain ⟨ad, x, hA, hx, q0, q1⟩ := at70 (Kd.C_below HR.out hb) k hlt
      obtain ⟨ad', x', hA', hx', q0', q1'⟩ := at70 (Kd.C_below HR'.out hb) k hlt
      cases hx.symm.trans hx'
      subst hA; subst hA'
      clear hx hx'
      go_wp2
      go_region
      go_wp2
      go_roundw
      case rel => exact ⟨k + 1, by omega, by go_num, below_drew hb⟩
      case measure => simp [intOf]; omega
    · have : k = l.length := by omega
      subst this
      go_wp2
      go_ret
      exact ⟨rfl, hb⟩
set_option maxHeartbeats 2000000 in
theorem same35 (w : World) : Calls Tryz.prog 35 #[.slice none 0 0, .slice none 0 0] w fun e w' => e = .returned (.bool true) ∧ w' = w := by
  go_enter Tryz.func35, Tryz.ntmps35
  go_wp2
  go_loop [13] (fun i => i = .int .i64 0) (fun _ => 0)
  case atStart => rfl
  case round =>
    obtain rfl := hrel
    go_wp2
    go_ret
    exact ⟨rfl, rfl⟩
end Go.Proofs.YtmeieeekjhjgjaaGreatDoor.H
