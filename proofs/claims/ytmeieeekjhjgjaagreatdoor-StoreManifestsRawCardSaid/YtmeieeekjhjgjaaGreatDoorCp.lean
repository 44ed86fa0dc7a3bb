/- The walk of number, and the plain facts of the parsing. -/
import Derived.Test.YtmeieeekjhjgjaaGreatDoorCn
import Derived.Lib.SplitLaws
import Derived.Lib.ReplaceLaws
import Derived.Lib.AtoiAll
namespace Go.Proofs.YtmeieeekjhjgjaaGreatDoor.H
open Go.RowKit Go.Proofs.YtmeieeekjhjgjaaGreatDoorW.PrintWords

/-- What number answers. -/
def numB (s : ByteArray) : Int := match Lib.atoiAll s.data.toList with
  | .ok v => v
  | .range => Lib.atoiSat s.data.toList
  | _ => 0
set_option maxHeartbeats 2000000 in
theorem number31 (s : ByteArray) (hs : s.size ≤ 281474976710656) (w : World) (hg : Glob w) :
    Calls Tryz.prog 31 #[.string s] w fun e w' => e = .returned (.int .i64 (numB s)) ∧ Below w.heap.size w w' := by
  unfold numB
  cases ha : Lib.atoiAll s.data.toList with
  | ok v =>
    go_enter Tryz.func31, Tryz.ntmps31
    go_wp2_with fail
    refine (Tryz.strconv_Atoi_ok s (by omega) v ha _).mono ?_
    rintro e w1 ⟨rfl, hw⟩
    have hb : Below w.heap.size w w1 := by
      rcases hw with rfl | ⟨t, rfl⟩
      · exact Below.refl _ _
      · exact bytes_below (Below.refl _ _) (Nat.le_refl _) 5 t
    go_wp2_with fail
    go_ret
    exact ⟨rfl, hb⟩
  | range =>
    obtain ⟨ev, h1, h2⟩ := hg.rng
    go_enter Tryz.func31, Tryz.ntmps31
    go_wp2_with fail
    refine (Tryz.strconv_Atoi_range s hs ha ev _ h1 h2).mono ?_
    rintro e w1 ⟨n, rfl, _, _, hb⟩
    go_wp2_with fail
    go_ret
    exact ⟨rfl, hb⟩
  | _ =>
    obtain ⟨ev, h1, h2⟩ := hg.syn
    go_enter Tryz.func31, Tryz.ntmps31
    go_wp2_with fail
    refine (Tryz.strconv_Atoi_syntax s hs (ha.trans rfl) ev _ h1 h2).mono ?_
    rintro e w1 ⟨n, rfl, _, _, hb⟩
    go_wp2_with fail
    go_ret
    exact ⟨rfl, hb⟩
def sp : ByteArray := ⟨#[32]⟩
def lf : ByteArray := ⟨#[10]⟩
def cutAt (sep s : ByteArray) : List ByteArray := Lib.splitB sep 0 (Lib.countB s sep) s
theorem cutAt_length (sep s : ByteArray) (h : 1 ≤ sep.size) : (cutAt sep s).length = Lib.countB s sep + 1 := Lib.splitB_all sep h 0 _ s rfl
theorem splitB_sizes (sep : ByteArray) : ∀ (k : Nat) (s : ByteArray), ∀ x ∈ Lib.splitB sep 0 k s, x.size ≤ s.size
  | 0, s, x, h => by rw [Lib.splitB_zero] at h; rw [List.mem_singleton.1 h]; exact Nat.le_refl _
  | k + 1, s, x, h => by
    unfold Lib.splitB at h
    split at h
    · rw [List.mem_singleton.1 h]; exact Nat.le_refl _
    · rcases List.mem_cons.1 h with rfl | h
      · rw [ByteArray.size_extract]; omega
      · have := splitB_sizes sep k _ x h
        rw [ByteArray.size_extract] at this; omega
theorem cutAt_sizes (sep s : ByteArray) : ∀ x ∈ cutAt sep s, x.size ≤ s.size := splitB_sizes sep _ s
theorem countB_le (sep s : ByteArray) (h : 1 ≤ sep.size) : Lib.countB s sep ≤ s.size := by
  have := Lib.countB_mul_le sep h s.size s (Nat.le_refl _)
  exact Nat.le_trans (Nat.le_mul_of_pos_right _ h) this
structure St where
  l0 : List S70
  next : Int
  j : Int
  l3 : List S72
def st0 : St := ⟨[], 0, 0, []⟩
/-- One line's doing. -/
def lineP (st : St) (ws : List ByteArray) : St :=
  match ws with
  | w0 :: w1 :: r =>
    if w0 = wordNext then { st with next := numB w1 }
    else if w0 = wordJournal then { st with j := numB w1 }
    else if w0 = wordAttribute then { st with l0 := st.l0 ++ [⟨w1, decide (r.head? = some ⟨#[49]⟩)⟩] }
    else if w0 = wordPiece then { st with l3 := st.l3 ++ [⟨numB w1, r⟩] }
    else st
  | _ => st
def parseP (body : ByteArray) : St := (cutAt lf body).foldl (fun st line => lineP st (cutAt sp line)) st0
def manSt (st : St) : ByteArray := manB st.l0 st.next st.j st.l3
def validSt (st : St) : Bool := validB st.l0 st.next st.j st.l3
end Go.Proofs.YtmeieeekjhjgjaaGreatDoor.H
