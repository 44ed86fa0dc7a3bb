/- The walks of the reference's split and number. -/
import Derived.Test.YtmeieeekjhjgjaaGreatDoorDc
import Derived.Test.YtmeieeekjhjgjaaGreatDoorCq
import Derived.Test.YtmeieeekjhjgjaaGreatDoorCf
namespace Go.Proofs.YtmeieeekjhjgjaaGreatDoor.H
open Go.RowKit Go.Proofs.YtmeieeekjhjgjaaGreatDoorW.PrintWords

section
variable {α : Type} [DecidableEq α]
/-- A list cut at every c. -/
def cutL (c : α) : List α → List (List α)
  | [] => [[]]
  | x :: r => if x = c then [] :: cutL c r else match cutL c r with
    | [] => [[x]]
    | y :: ys => (x :: y) :: ys
theorem cutL_mid (c : α) : ∀ (a b : List α), (∀ x ∈ a, x ≠ c) → cutL c (a ++ c :: b) = a :: cutL c b
  | [], b, _ => by simp [cutL]
  | x :: a, b, h => by
    have ih := cutL_mid c a b fun y hy => h y (List.mem_cons_of_mem _ hy)
    rw [List.cons_append, cutL, if_neg (h x (List.mem_cons_self ..)), ih]
theorem cutL_end (c : α) : ∀ (a : List α), (∀ x ∈ a, x ≠ c) → cutL c a = [a]
  | [], _ => rfl
  | x :: a, h => by
    have ih := cutL_end c a fun y hy => h y (List.mem_cons_of_mem _ hy)
    rw [cutL, if_neg (h x (List.mem_cons_self ..)), ih]
end
theorem nats_extract (s : ByteArray) (f k : Nat) : nats (s.extract f k) = ((nats s).take k).drop f := by
  unfold nats
  rw [ByteArray.data_extract, Array.toList_extract]
  simp [List.extract_eq_take_drop, List.map_take, List.map_drop, List.drop_take]
theorem take_split {α : Type} (l : List α) (f k : Nat) (x : α) (hf : f ≤ k) (hx : l[k]? = some x) : l.drop f = (l.take k).drop f ++ x :: l.drop (k + 1) := by
  have hk := (List.getElem?_eq_some_iff.1 hx).1
  have e1 : l.drop k = x :: l.drop (k + 1) := by
    rw [List.drop_eq_getElem_cons hk, (List.getElem?_eq_some_iff.1 hx).2]
  have e2 : l.take k ++ x :: l.drop (k + 1) = l := by rw [← e1, List.take_append_drop]
  have e3 : l.drop f = (l.take k ++ x :: l.drop (k + 1)).drop f := by rw [e2]
  rw [e3, List.drop_append_of_le_length (by rw [List.length_take]; omega)]
/-- What the reference's split keeps, up to place k. -/
structure SI (s : ByteArray) (c : Nat) (k f : Nat) (done : List ByteArray) : Prop where
  hf : f ≤ k
  eq : cutL c (nats s) = done.map nats ++ cutL c ((nats s).drop f)
  no : ∀ x ∈ ((nats s).take k).drop f, x ≠ c
  len : done.length ≤ k
theorem SI.zero (s : ByteArray) (c : Nat) : SI s c 0 0 [] := ⟨Nat.le_refl _, by simp, by simp, by simp⟩
theorem SI.cut {s : ByteArray} {c k f : Nat} {done : List ByteArray} (h : SI s c k f done) (hx : (nats s)[k]? = some c) : SI s c (k + 1) (k + 1) (done ++ [s.extract f k]) := by
  refine ⟨Nat.le_refl _, ?_, ?_, ?_⟩
  · rw [h.eq, take_split _ _ _ _ h.hf hx, cutL_mid c _ _ h.no, List.map_append, List.append_assoc]
    simp [nats_extract]
  · intro x hm
    rw [List.drop_eq_nil_of_le (by rw [List.length_take]; omega)] at hm
    cases hm
  · have := h.len
    simp; omega
theorem SI.go {s : ByteArray} {c k f b : Nat} {done : List ByteArray} (h : SI s c k f done) (hx : (nats s)[k]? = some b) (hb : b ≠ c) : SI s c (k + 1) f done := by
  refine ⟨by have := h.hf; omega, h.eq, fun x hm => ?_, by have := h.len; omega⟩
  have hk := (List.getElem?_eq_some_iff.1 hx).1
  rw [List.take_add_one, hx, List.drop_append_of_le_length (by rw [List.length_take]; have := h.hf; omega)] at hm
  rcases List.mem_append.1 hm with hm | hm
  · exact h.no x hm
  · simp at hm; rw [hm]; exact hb
theorem SI.fin {s : ByteArray} {c f : Nat} {done : List ByteArray} (h : SI s c s.size f done) : cutL c (nats s) = (done ++ [s.extract f s.size]).map nats := by
  have hno := h.no
  have e : (nats s).take s.size = nats s := List.take_of_length_le (by rw [nats_length]; exact Nat.le_refl _)
  rw [e] at hno
  rw [h.eq, cutL_end c _ hno, List.map_append]
  simp [nats_extract, e]
def SplitPost (s : ByteArray) (c : Nat) (w : World) (e : Ending) (w' : World) : Prop := ∃ v ws, e = .returned v ∧ cutL c (nats s) = ws.map nats ∧ Kd.string.R 9 w' w.heap.size any v ws ∧ Below w.heap.size w w'
set_option maxHeartbeats 2000000 in
theorem split37 (s : ByteArray) (c : Nat) (hc : c < 256) (hs : s.size ≤ 100000) (w : World) : Calls Tryz.prog 37 #[.string s, .int .u8 c] w (SplitPost s c w) := by
  go_enter Tryz.func37, Tryz.ntmps37
  go_wp2
  go_loopw [5, 6, 7] (fun v fv i wr => ∃ (k f : Nat) (done : List ByteArray), k ≤ s.size + 1 ∧ i = .int .i64 k ∧ fv = .int .i64 f ∧ Hid (k ≤ s.size → SI s c k f done) ∧ Hid (k = s.size + 1 → cutL c (nats s) = done.map nats) ∧ Hid (Kd.string.R 9 wr w.heap.size any v done) ∧ Below w.heap.size w wr) (fun _ _ i _ => s.size + 1 - (intOf i).toNat)
  case atStart => exact ⟨0, 0, [], by omega, rfl, rfl, Lib.hid fun _ => SI.zero s c, Lib.hid fun h => by omega, Lib.hid (Kd.R_nil ..), Below.refl _ _⟩
  case round =>
    obtain ⟨k, f, done, hk, rfl, rfl, HI, HE, HR, hb⟩ := hrel
    obtain ⟨A, cp, rfl, _, _⟩ := Kd.R_reads HR.out
    by_cases hlt : k ≤ s.size
    · have hi := HI.out hlt
      have HSI := Lib.hid hi
      have hfk := hi.hf
      have hdl := hi.len
      clear hi HI HE
      by_cases he : k = s.size
      · subst he
        have HFIN := Lib.hid HSI.out.fin
        go_wp2_with (first | ((with_reducible refine gate_dst (N := 31) rfl ?_); refine Kd.R_append Kd.string (w0 := w) w.heap.size rfl (.tmp 25) (.tmp 30) 61 9 (.string ⟨#[]⟩) 16 rfl Tryz.underlying61 info9 rfl (by decide) (by decide) (.slice A done.length cp) done (s.extract f s.size) [.string (s.extract f s.size)] any (fun _ => False) rfl ?hx rfl (fun _ h => h.elim) (fun _ _ => trivial) HR.out hb hb.size ?hl ?_; (case hx => rfl); (case hl => omega); intro v2 w2 hR2 hb2 _ _; have HR2 := Lib.hid hR2; have HB2 := Lib.hid hb2; clear hR2 hb2))
        go_roundw
        case rel => exact ⟨s.size + 1, s.size + 1, _, by omega, by go_num, by go_num, Lib.hid fun h => by omega, Lib.hid fun _ => HFIN.out, HR2, HB2.out⟩
        case measure => simp [intOf]
      · have hlt2 : k < s.size := by omega
        obtain ⟨b, hb1, hg, hbe⟩ := str_at s k hlt2
        have hkne : ((k : Int) == s.size) = false := beq_eq_false_iff_ne.2 (by omega)
        clear he
        by_cases hbc : b = c
        · subst hbc
          have HN := Lib.hid (HSI.out.cut hg)
          clear hg
          go_wp2_with (first | ((with_reducible refine gate_dst (N := 31) rfl ?_); refine Kd.R_append Kd.string (w0 := w) w.heap.size rfl (.tmp 25) (.tmp 30) 61 9 (.string ⟨#[]⟩) 16 rfl Tryz.underlying61 info9 rfl (by decide) (by decide) (.slice A done.length cp) done (s.extract f k) [.string (s.extract f k)] any (fun _ => False) rfl ?hx rfl (fun _ h => h.elim) (fun _ _ => trivial) HR.out hb hb.size ?hl ?_; (case hx => rfl); (case hl => omega); intro v2 w2 hR2 hb2 _ _; have HR2 := Lib.hid hR2; have HB2 := Lib.hid hb2; clear hR2 hb2))
          go_roundw
          case rel => exact ⟨k + 1, k + 1, _, by omega, by go_num, by go_num, Lib.hid fun _ => HN.out, Lib.hid fun h => by omega, HR2, HB2.out⟩
          case measure => simp [intOf]; omega
        · have HN := Lib.hid (HSI.out.go hg hbc)
          clear hg
          have hbc' : ((b : Int) == c) = false := beq_eq_false_iff_ne.2 (by omega)
          clear hbc
          go_wp2_with fail
          go_roundw
          case rel => exact ⟨k + 1, f, done, by omega, by go_num, rfl, Lib.hid fun _ => HN.out, Lib.hid fun h => by omega, HR, hb⟩
          case measure => simp [intOf]; omega
    · have : k = s.size + 1 := by omega
      subst this
      have HEE := Lib.hid (HE.out rfl)
      go_wp2
      go_ret
      exact ⟨_, done, rfl, HEE.out, HR.out, hb⟩
end Go.Proofs.YtmeieeekjhjgjaaGreatDoor.H
