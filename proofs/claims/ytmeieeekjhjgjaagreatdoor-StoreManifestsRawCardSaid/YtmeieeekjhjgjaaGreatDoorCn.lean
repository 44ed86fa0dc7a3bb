/- The walk of Manifest. -/
import Derived.Test.YtmeieeekjhjgjaaGreatDoorCm
import Derived.Test.YtmeieeekjhjgjaaGreatDoorCe
import Derived.Lib.ItoaLen
import Derived.Lib.AppendIntMem
import Derived.WalkSmall
namespace Go.Proofs.YtmeieeekjhjgjaaGreatDoor.H
open Go.RowKit Go.Proofs.YtmeieeekjhjgjaaGreatDoorW.PrintWords

/-- What the world holds in the library's own variables. -/
structure Glob (w : World) : Prop where
  size : 8 ≤ w.heap.size
  pow : Lib.TabIs Tryz.prog w "internal/strconv.uint64pow10" .u64 Lib.pow10Tab
  max : ∃ m, w.cell? ⟨0, 0, none⟩ = some (.int .i64 m)
  syn : ∃ ev, w.cell? ⟨2, 0, none⟩ = some ev ∧ (ev = .nilIface ∨ ∃ te pe, ev = .iface te pe)
  rng : ∃ ev, w.cell? ⟨3, 0, none⟩ = some ev ∧ (ev = .nilIface ∨ ∃ te pe, ev = .iface te pe)
theorem globPow : Tryz.prog.globalNamed "internal/strconv.uint64pow10" = some 1 := by kernel_rfl
theorem Glob.below {B : Nat} {w w' : World} (h : Glob w) (hB : 8 ≤ B) (hb : Below B w w') : Glob w' := by
  refine ⟨Nat.le_trans h.size hb.size, var?_below hb globPow (by omega) h.pow, ?_, ?_, ?_⟩
  · obtain ⟨m, hm⟩ := h.max
    exact ⟨m, (hb.cell (p := ⟨0, 0, none⟩) (by show 0 < B; omega)).trans hm⟩
  · obtain ⟨m, hm, h2⟩ := h.syn
    exact ⟨m, (hb.cell (p := ⟨2, 0, none⟩) (by show 2 < B; omega)).trans hm, h2⟩
  · obtain ⟨m, hm, h2⟩ := h.rng
    exact ⟨m, (hb.cell (p := ⟨3, 0, none⟩) (by show 3 < B; omega)).trans hm, h2⟩
theorem Glob.below' {w w' : World} (h : Glob w) (hb : Below w.heap.size w w') : Glob w' := h.below h.size hb
def itoaB (n : Int) : ByteArray := ⟨(Lib.itoa n).toArray⟩
theorem itoa23 (n : Int) (h0 : -9223372036854775808 ≤ n) (h1 : n ≤ 9223372036854775807) (w : World) (hg : Glob w) :
    Calls Tryz.prog 23 #[.int .i64 n] w fun e w' => e = .returned (.string (itoaB n)) ∧ Below w.heap.size w w' := by
  refine (Tryz.strconv_Itoa n h0 h1 w hg.pow).mono ?_
  rintro e w' ⟨rfl, k, os, rfl⟩
  exact ⟨rfl, Lib.below_grow _ w (Nat.le_refl _) k os⟩
def strB (l : List UInt8) : ByteArray := ⟨l.toArray⟩
def wordCorpora : ByteArray := ⟨#[99, 111, 114, 112, 111, 114, 97]⟩
def wordNext : ByteArray := ⟨#[110, 101, 120, 116]⟩
def wordJournal : ByteArray := ⟨#[106, 111, 117, 114, 110, 97, 108]⟩
def wordAttribute : ByteArray := ⟨#[97, 116, 116, 114, 105, 98, 117, 116, 101]⟩
def wordPiece : ByteArray := ⟨#[112, 105, 101, 99, 101]⟩
def setB (b : Bool) : ByteArray := if b then ⟨#[49]⟩ else ⟨#[48]⟩
def attrL (x : S70) : List UInt8 := lineL [wordAttribute, x.f0, setB x.f1]
def pieceL (x : S72) : List UInt8 := lineL (wordPiece :: itoaB x.f0 :: x.f1)
def headL (next j : Int) : List UInt8 := lineL [wordCorpora, ⟨#[49]⟩] ++ (lineL [wordNext, itoaB next] ++ lineL [wordJournal, itoaB j])
def manL (l0 : List S70) (next j : Int) (l3 : List S72) : List UInt8 := headL next j ++ ((l0.map attrL).flatten ++ (l3.map pieceL).flatten)
def manB (l0 : List S70) (next j : Int) (l3 : List S72) : ByteArray := sealB (strB (manL l0 next j l3))
theorem tail_length (r : List (List UInt8)) (h : ∀ x ∈ r, x.length ≤ 40) : (Lib.joinTail [32] r).length ≤ 41 * r.length := by
  induction r with
  | nil => simp [Lib.joinTail]
  | cons a r ih =>
    have := ih (fun x hx => h x (List.mem_cons_of_mem _ hx))
    have ha := h a (List.mem_cons_self ..)
    unfold Lib.joinTail at this ⊢
    simp only [List.map_cons, List.flatten_cons, List.length_append, List.length_cons, List.length_nil]
    omega
theorem lineL_length (xs : List ByteArray) (h : ∀ x ∈ xs, x.size ≤ 40) : (lineL xs).length ≤ 41 * xs.length + 1 := by
  unfold lineL
  rw [List.length_append]
  have : (Lib.join (xs.map (·.data.toList)) [32]).length ≤ 41 * xs.length := by
    cases xs with
    | nil => simp [Lib.join_nil]
    | cons a l =>
      rw [List.map_cons, Lib.join_cons, List.length_append]
      have h1 : (a.data.toList).length ≤ 40 := by rw [Array.length_toList]; exact h a (List.mem_cons_self ..)
      have h2 := tail_length (l.map (·.data.toList)) (fun x hx => by
        obtain ⟨y, hy, rfl⟩ := List.mem_map.1 hx
        rw [Array.length_toList]; exact h y (List.mem_cons_of_mem _ hy))
      rw [List.length_map] at h2
      simp only [List.length_cons]
      omega
  simp; omega
theorem nameB_size {s : ByteArray} (h : nameB s = true) : s.size ≤ 32 := by
  unfold nameB nameL at h
  simp only [Bool.and_eq_true, decide_eq_true_eq, nats_length] at h
  exact h.1.2
theorem attrsTo_names {l : List S70} (h : attrsTo l l.length = true) : ∀ x ∈ l, nameB x.f0 = true := by
  intro x hx
  obtain ⟨k, hk, rfl⟩ := List.getElem_of_mem hx
  have := List.all_eq_true.1 h k (List.mem_range.2 hk)
  unfold attrOk at this
  rw [getD_of (List.getElem?_eq_getElem hk)] at this
  simp only [Bool.and_eq_true] at this
  exact this.1
theorem delTo_names {l : List ByteArray} (h : delTo l l.length = true) : ∀ x ∈ l, nameB x = true := by
  intro x hx
  obtain ⟨k, hk, rfl⟩ := List.getElem_of_mem hx
  have := List.all_eq_true.1 h k (List.mem_range.2 hk)
  unfold delOk at this
  rw [getD_of (List.getElem?_eq_getElem hk)] at this
  simp only [Bool.and_eq_true] at this
  exact this.1
theorem piecesTo_all {next j : Int} {l : List S72} (h : piecesTo next j l l.length = true) : ∀ x ∈ l, 1 ≤ x.f0 ∧ x.f0 < next ∧ delB x.f1 = true := by
  intro x hx
  obtain ⟨k, hk, rfl⟩ := List.getElem_of_mem hx
  have := List.all_eq_true.1 h k (List.mem_range.2 hk)
  unfold pieceOk at this
  rw [getD_of (List.getElem?_eq_getElem hk)] at this
  simp only [Bool.and_eq_true, decide_eq_true_eq] at this
  exact ⟨this.1, this.2.1, this.2.2.2⟩
/-- What a valid manifest has. -/
structure Ok (l0 : List S70) (next j : Int) (l3 : List S72) : Prop where
  n0 : 1 ≤ l0.length ∧ l0.length ≤ 8
  a0 : ∀ x ∈ l0, x.f0.size ≤ 32
  hn : next ≤ 1000000000
  hj : 1 ≤ j ∧ j < next
  n3 : l3.length ≤ 16
  p3 : ∀ x ∈ l3, 1 ≤ x.f0 ∧ x.f0 < next ∧ x.f1.length ≤ 64 ∧ ∀ y ∈ x.f1, y.size ≤ 32
theorem Ok.of {l0 : List S70} {next j : Int} {l3 : List S72} (h : validB l0 next j l3 = true) : Ok l0 next j l3 := by
  unfold validB attrsB at h
  simp only [Bool.and_eq_true, decide_eq_true_eq] at h
  obtain ⟨⟨h1, h2, h3⟩, h4, h5, h6, h7, h8⟩ := h
  refine ⟨⟨h1, h2⟩, fun x hx => nameB_size (attrsTo_names h3 x hx), h4, ⟨h5, h6⟩, h7, fun x hx => ?_⟩
  obtain ⟨p1, p2, p3⟩ := piecesTo_all h8 x hx
  unfold delB at p3
  simp only [Bool.and_eq_true, decide_eq_true_eq] at p3
  exact ⟨p1, p2, p3.1, fun y hy => nameB_size (delTo_names p3.2 y hy)⟩
theorem itoaB_size (n : Int) (h0 : 0 ≤ n) (h1 : n ≤ 1000000000) : (itoaB n).size ≤ 40 := by
  have := Lib.itoa_length_le n (by omega) (by omega)
  show (Lib.itoa n).toArray.size ≤ 40
  simp; omega
theorem attrL_length (x : S70) (h : x.f0.size ≤ 32) : (attrL x).length ≤ 200 := by
  have := lineL_length [wordAttribute, x.f0, setB x.f1] (by
    intro y hy
    simp only [List.mem_cons, List.not_mem_nil, or_false] at hy
    rcases hy with rfl | rfl | rfl
    · decide
    · omega
    · unfold setB; split <;> decide)
  unfold attrL; simp only [List.length_cons, List.length_nil] at this; omega
theorem pieceL_length (x : S72) (h0 : 0 ≤ x.f0) (h1 : x.f0 ≤ 1000000000) (h2 : x.f1.length ≤ 64) (h3 : ∀ y ∈ x.f1, y.size ≤ 32) : (pieceL x).length ≤ 3000 := by
  have := lineL_length (wordPiece :: itoaB x.f0 :: x.f1) (by
    intro y hy
    simp only [List.mem_cons] at hy
    rcases hy with rfl | rfl | hy
    · decide
    · exact itoaB_size _ h0 h1
    · have := h3 y hy; omega)
  unfold pieceL; simp only [List.length_cons] at this; omega
theorem headL_length (next j : Int) (h0 : 0 ≤ next) (h1 : next ≤ 1000000000) (h2 : 0 ≤ j) (h3 : j ≤ 1000000000) : (headL next j).length ≤ 500 := by
  have a := lineL_length [wordCorpora, ⟨#[49]⟩] (by intro y hy; simp only [List.mem_cons, List.not_mem_nil, or_false] at hy; rcases hy with rfl | rfl <;> decide)
  have b := lineL_length [wordNext, itoaB next] (by intro y hy; simp only [List.mem_cons, List.not_mem_nil, or_false] at hy; rcases hy with rfl | rfl; decide; exact itoaB_size _ h0 h1)
  have c := lineL_length [wordJournal, itoaB j] (by intro y hy; simp only [List.mem_cons, List.not_mem_nil, or_false] at hy; rcases hy with rfl | rfl; decide; exact itoaB_size _ h2 h3)
  unfold headL
  simp only [List.length_append, List.length_cons, List.length_nil] at *
  omega
end Go.Proofs.YtmeieeekjhjgjaaGreatDoor.H
