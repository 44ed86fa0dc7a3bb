/- The plain law of the two parsers, last part: both answers agree. -/
import Derived.Test.YtmeieeekjhjgjaaGreatDoorDn
namespace Go.Proofs.YtmeieeekjhjgjaaGreatDoor.H
open Go.RowKit Go.Proofs.YtmeieeekjhjgjaaGreatDoorW.PrintWords

theorem setB_head (b : Bool) : decide ([setB b].head? = some (⟨#[49]⟩ : ByteArray)) = b := by cases b <;> decide
theorem lineR_c (st : St) (w0 w1 : ByteArray) (r : List ByteArray) : lineR st (w0 :: w1 :: r) =
    if w0 = wordNext ∧ r.length = 0 then { st with next := numR w1 }
    else if w0 = wordJournal ∧ r.length = 0 then { st with j := numR w1 }
    else if w0 = wordAttribute ∧ r.length = 1 then { st with l0 := st.l0 ++ [⟨w1, decide (r.head? = some ⟨#[49]⟩)⟩] }
    else if w0 = wordPiece then { st with l3 := st.l3 ++ [⟨numR w1, r⟩] }
    else st := rfl
theorem lineP_c (st : St) (w0 w1 : ByteArray) (r : List ByteArray) : lineP st (w0 :: w1 :: r) =
    if w0 = wordNext then { st with next := numB w1 }
    else if w0 = wordJournal then { st with j := numB w1 }
    else if w0 = wordAttribute then { st with l0 := st.l0 ++ [⟨w1, decide (r.head? = some ⟨#[49]⟩)⟩] }
    else if w0 = wordPiece then { st with l3 := st.l3 ++ [⟨numB w1, r⟩] }
    else st := rfl
theorem stepR : Step lineR := by
  refine ⟨fun _ _ => rfl, fun st => ?_, fun st n hn => ?_, fun st n hn => ?_, fun st x => ?_, fun st n ws hn => ?_⟩
  · rw [lineR_c, if_neg (by decide), if_neg (by decide), if_neg (by decide), if_neg (by decide)]
  · rw [lineR_c, if_pos ⟨rfl, rfl⟩, numR_itoa n hn]
  · rw [lineR_c, if_neg (by decide), if_pos ⟨rfl, rfl⟩, numR_itoa n hn]
  · rw [lineR_c, if_neg (fun h => absurd h.1 (by decide)), if_neg (fun h => absurd h.1 (by decide)), if_pos ⟨rfl, rfl⟩, setB_head]
  · rw [lineR_c, if_neg (fun h => absurd h.1 (by decide)), if_neg (fun h => absurd h.1 (by decide)), if_neg (fun h => absurd h.1 (by decide)), if_pos rfl, numR_itoa n hn]
theorem stepP : Step lineP := by
  refine ⟨fun _ _ => rfl, fun st => ?_, fun st n hn => ?_, fun st n hn => ?_, fun st x => ?_, fun st n ws hn => ?_⟩
  · rw [lineP_c, if_neg (by decide), if_neg (by decide), if_neg (by decide), if_neg (by decide)]
  · rw [lineP_c, if_pos rfl, numB_itoa n hn]
  · rw [lineP_c, if_neg (by decide), if_pos rfl, numB_itoa n hn]
  · rw [lineP_c, if_neg (by decide), if_neg (by decide), if_pos rfl, setB_head]
  · rw [lineP_c, if_neg (by decide), if_neg (by decide), if_neg (by decide), if_pos rfl, numB_itoa n hn]
theorem parseP_eq (s : ByteArray) : parseP s = (cutR 10 s).foldl (fun st line => lineP st (cutR 32 line)) st0 := by
  unfold parseP
  rw [cut_lf]
  have : (fun st line => lineP st (cutAt sp line)) = (fun st line => lineP st (cutR 32 line)) := by funext st line; rw [cut_sp]
  rw [this]
theorem headB_seal (s : ByteArray) : headB (sealB s) = s := by
  apply nats_inj
  rw [nats_headB, sealB_size, nats_sealB, sealL, Nat.add_sub_cancel]
  rw [List.take_left' (by rw [nats_length])]
/-- The text of a valid store: its head, and what both parsers make of it. -/
theorem text_back {st : St} (hv : validSt st = true) : sealB (headB (manSt st)) = manSt st ∧ parseP (headB (manSt st)) = st ∧ parseR (headB (manSt st)) = st ∧ 4 ≤ (manSt st).size := by
  have OK := OkN.of hv
  have e : headB (manSt st) = strB (manL st.l0 st.next st.j st.l3) := by unfold manSt manB; exact headB_seal _
  rw [e]
  refine ⟨rfl, ?_, ?_, ?_⟩
  · rw [parseP_eq]; exact parse_back stepP OK
  · unfold parseR; exact parse_back stepR OK
  · unfold manSt manB; rw [sealB_size]; omega
/-- Both conditions agree, and so do the stores. -/
theorem agree (s : ByteArray) : (sealB (headB s) = s ∧ validSt (parseP (headB s)) = true ∧ manSt (parseP (headB s)) = s) ↔ (4 ≤ s.size ∧ validSt (parseR (headB s)) = true ∧ manSt (parseR (headB s)) = s) := by
  constructor
  · rintro ⟨_, h1, h2⟩
    obtain ⟨_, b, c, d⟩ := text_back h1
    rw [h2] at b c d
    rw [← h2] at c
    have c' : parseR (headB s) = parseP (headB s) := by rw [h2] at c; exact c
    rw [c']
    exact ⟨d, h1, h2⟩
  · rintro ⟨_, h1, h2⟩
    obtain ⟨a, b, _, _⟩ := text_back h1
    rw [h2] at a b
    rw [b]
    exact ⟨a, h1, h2⟩
theorem agree_st (s : ByteArray) (h : sealB (headB s) = s ∧ validSt (parseP (headB s)) = true ∧ manSt (parseP (headB s)) = s) : parseR (headB s) = parseP (headB s) := by
  obtain ⟨_, _, c, _⟩ := text_back h.2.1
  rw [h.2.2] at c
  exact c
end Go.Proofs.YtmeieeekjhjgjaaGreatDoor.H
