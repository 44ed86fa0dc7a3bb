/- The walk of the law StoreManifestsRaw. -/
import Derived.Test.YtmeieeekjhjgjaaGreatDoorDo
import Derived.Test.YtmeieeekjhjgjaaGreatDoorDk
import Derived.Test.YtmeieeekjhjgjaaGreatDoorDh
import Derived.Test.YtmeieeekjhjgjaaGreatDoorCv
namespace Go.Proofs.YtmeieeekjhjgjaaGreatDoor.H
open Go.RowKit Go.Proofs.YtmeieeekjhjgjaaGreatDoorW.PrintWords

/-- What both Manifests answer. -/
def manT (l0 : List S70) (next j : Int) (l3 : List S72) : ByteArray := if validB l0 next j l3 = true then manB l0 next j l3 else ⟨#[]⟩
def manE (l0 : List S70) (next j : Int) (l3 : List S72) : Int := if validB l0 next j l3 = true then 0 else 1
theorem man7 (A0 A3 A4 : Option Addr) (c0 c3 c4 : Nat) (l0 : List S70) (next j : Int) (l3 : List S72) (n4 : Nat) (w : World) (hg : Glob w) (hr0 : Kd.C k70 w A0 l0.length l0) (hc0 : l0.length ≤ c0) (hl0 : l0.length ≤ 9223372036854775807) (hs0 : OkNames l0) (hr3 : Kd.C k72 w A3 l3.length l3) (hl3 : l3.length ≤ 9223372036854775807) (hs3 : OkPieces l3) :
    Calls Tryz.prog 7 #[.agg #[.slice A0 l0.length c0, .int .i64 next, .int .i64 j, .slice A3 l3.length c3, .slice A4 n4 c4]] w fun e w' => e = .returned (.tuple #[.string (manT l0 next j l3), .int .i64 (manE l0 next j l3)]) ∧ Below w.heap.size w w' := by
  unfold manT manE
  cases hv : validB l0 next j l3 with
  | true => simpa using manifest7_yes A0 A3 A4 c0 c3 c4 l0 next j l3 n4 w hg hr0 hc0 hl0 hs0 hr3 hl3 hs3 hv
  | false => simpa using manifest7_no A0 A3 A4 c0 c3 c4 l0 next j l3 n4 w hr0 hc0 hl0 hs0 hr3 hl3 hs3 hv
theorem man8 (A0 A3 A4 : Option Addr) (c0 c3 c4 : Nat) (l0 : List S70) (next j : Int) (l3 : List S72) (n4 : Nat) (w : World) (hr0 : Kd.C k70 w A0 l0.length l0) (hc0 : l0.length ≤ c0) (hl0 : l0.length ≤ 9223372036854775807) (hs0 : OkNames l0) (hr3 : Kd.C k72 w A3 l3.length l3) (hc3 : l3.length ≤ c3) (hs3 : OkPieces l3) :
    Calls Tryz.prog 8 #[.agg #[.slice A0 l0.length c0, .int .i64 next, .int .i64 j, .slice A3 l3.length c3, .slice A4 n4 c4]] w fun e w' => e = .returned (.tuple #[.string (manT l0 next j l3), .int .i64 (manE l0 next j l3)]) ∧ Below w.heap.size w w' := by
  unfold manT manE
  cases hv : validB l0 next j l3 with
  | true => simpa using manifest8_yes A0 A3 A4 c0 c3 c4 l0 next j l3 n4 w hr0 hc0 hl0 hs0 hr3 hc3 hs3 hv
  | false => simpa using manifest8_no A0 A3 A4 c0 c3 c4 l0 next j l3 n4 w hr0 hc0 hl0 hs0 hr3 hc3 hs3 hv
theorem parse13 (s : ByteArray) (hs : s.size ≤ 100000) (w : World) : Calls Tryz.prog 13 #[.string s] w (RefPost w s) := by
  by_cases h : s.size < 4
  · exact parse13_short s h w
  · exact parse13_long s (by omega) hs w
end Go.Proofs.YtmeieeekjhjgjaaGreatDoor.H
