/- The kinds of the store's parts: an attribute, a piece, a record. -/
import Derived.Test.YtmeieeekjhjgjaaGreatDoorProg
import Derived.Test.YtmeieeekjhjgjaaGreatDoorWWords
namespace Go.Proofs.YtmeieeekjhjgjaaGreatDoor.H
open Go.RowKit Go.Proofs.YtmeieeekjhjgjaaGreatDoorW.PrintWords
-- struct type 70
structure S70 where
  f0 : ByteArray
  f1 : Bool
def z70 : S70 := ⟨(⟨#[]⟩ : ByteArray), false⟩
def k70 : Kd S70 := Kd.iso (Kd.pair Kd.string Kd.bool) (fun x : S70 => (x.f0, x.f1))
theorem k70_open {w : World} {x : S70} {cs : List Value} (h : k70.K w x cs) : cs = [.string x.f0, .bool x.f1] := by
  obtain ⟨_, _, rfl, rfl, rfl⟩ := h
  exact rfl
theorem k70_mk (w : World) (x : S70)  : k70.K w x [.string x.f0, .bool x.f1] := ⟨[.string x.f0], [.bool x.f1], rfl, rfl, rfl⟩
def rd_T70 (xs : List S70) (i : Int) : S70 := xs.getD i.toNat z70
theorem at_T70 {w : World} {A : Option Addr} {n : Nat} {xs : List S70} (h : Kd.C k70 w A n xs) (i : Int) (h0 : 0 ≤ i) (h1 : i < n) : ∃ ad , A = some ad ∧ w.cell? (ad.add (i.toNat * 2)) = some (.string (rd_T70 xs i).f0) ∧ w.cell? ⟨(ad.add (i.toNat * 2)).block, (ad.add (i.toNat * 2)).off + 1, none⟩ = some (.bool (rd_T70 xs i).f1) := by
  obtain ⟨ad, c, e, _, hK, hc0⟩ := Kd.C_get h z70 i h0 h1
  have hc : ∀ j u, c[j]? = some u → w.cell? (ad.add (i.toNat * 2 + j)) = some u := hc0
  obtain rfl := k70_open hK
  exact ⟨ad, e, hc 0 _ rfl, by rw [← add_field _ _ 1 (by omega)]; exact hc 1 _ rfl⟩

-- struct type 72
structure S72 where
  f0 : Int
  f1 : (List ByteArray)
def z72 : S72 := ⟨(0 : Int), ([] : List ByteArray)⟩
def k72 : Kd S72 := Kd.iso (Kd.pair (Kd.int .i64) (Kd.slice 9 Kd.string)) (fun x : S72 => (x.f0, x.f1))
theorem k72_open {w : World} {x : S72} {cs : List Value} (h : k72.K w x cs) : ∃ A1 c1, cs = [.int .i64 x.f0, .slice A1 x.f1.length c1] ∧ x.f1.length ≤ c1 ∧ Kd.string.C w A1 x.f1.length x.f1 := by
  obtain ⟨_, _, rfl, rfl, ⟨A1, c1, rfl, l1, g1⟩⟩ := h
  exact ⟨A1, c1, rfl, l1, g1⟩
theorem k72_mk (w : World) (x : S72) {A1 : Option Addr} {c1 : Nat} (l1 : x.f1.length ≤ c1) (g1 : Kd.string.C w A1 x.f1.length x.f1) : k72.K w x [.int .i64 x.f0, .slice A1 x.f1.length c1] := ⟨[.int .i64 x.f0], [.slice A1 x.f1.length c1], rfl, rfl, ⟨A1, c1, rfl, l1, g1⟩⟩
def rd_T72 (xs : List S72) (i : Int) : S72 := xs.getD i.toNat z72
theorem at_T72 {w : World} {A : Option Addr} {n : Nat} {xs : List S72} (h : Kd.C k72 w A n xs) (i : Int) (h0 : 0 ≤ i) (h1 : i < n) : ∃ ad A1 c1, A = some ad ∧ w.cell? (ad.add (i.toNat * 2)) = some (.int .i64 (rd_T72 xs i).f0) ∧ w.cell? ⟨(ad.add (i.toNat * 2)).block, (ad.add (i.toNat * 2)).off + 1, none⟩ = some (.slice A1 (rd_T72 xs i).f1.length c1) ∧ (rd_T72 xs i).f1.length ≤ c1 ∧ Kd.string.C w A1 (rd_T72 xs i).f1.length (rd_T72 xs i).f1 := by
  obtain ⟨ad, c, e, _, hK, hc0⟩ := Kd.C_get h z72 i h0 h1
  have hc : ∀ j u, c[j]? = some u → w.cell? (ad.add (i.toNat * 2 + j)) = some u := hc0
  obtain ⟨A1, c1, rfl, l1, g1⟩ := k72_open hK
  exact ⟨ad, A1, c1, e, hc 0 _ rfl, by rw [← add_field _ _ 1 (by omega)]; exact hc 1 _ rfl, l1, g1⟩

-- struct type 114
structure S114 where
  f0 : Int
  f1 : ByteArray
def z114 : S114 := ⟨(0 : Int), (⟨#[]⟩ : ByteArray)⟩
def k114 : Kd S114 := Kd.iso (Kd.pair (Kd.int .i64) Kd.string) (fun x : S114 => (x.f0, x.f1))
theorem k114_open {w : World} {x : S114} {cs : List Value} (h : k114.K w x cs) : cs = [.int .i64 x.f0, .string x.f1] := by
  obtain ⟨_, _, rfl, rfl, rfl⟩ := h
  exact rfl
theorem k114_mk (w : World) (x : S114)  : k114.K w x [.int .i64 x.f0, .string x.f1] := ⟨[.int .i64 x.f0], [.string x.f1], rfl, rfl, rfl⟩
def rd_T114 (xs : List S114) (i : Int) : S114 := xs.getD i.toNat z114
theorem at_T114 {w : World} {A : Option Addr} {n : Nat} {xs : List S114} (h : Kd.C k114 w A n xs) (i : Int) (h0 : 0 ≤ i) (h1 : i < n) : ∃ ad , A = some ad ∧ w.cell? (ad.add (i.toNat * 2)) = some (.int .i64 (rd_T114 xs i).f0) ∧ w.cell? ⟨(ad.add (i.toNat * 2)).block, (ad.add (i.toNat * 2)).off + 1, none⟩ = some (.string (rd_T114 xs i).f1) := by
  obtain ⟨ad, c, e, _, hK, hc0⟩ := Kd.C_get h z114 i h0 h1
  have hc : ∀ j u, c[j]? = some u → w.cell? (ad.add (i.toNat * 2 + j)) = some u := hc0
  obtain rfl := k114_open hK
  exact ⟨ad, e, hc 0 _ rfl, by rw [← add_field _ _ 1 (by omega)]; exact hc 1 _ rfl⟩


theorem getD_of {α : Type} {l : List α} {k : Nat} {x d : α} (h : l[k]? = some x) : l.getD k d = x := by rw [List.getD_eq_getElem?_getD, h]; rfl
theorem at70 {w : World} {A : Option Addr} {l : List S70} (h : Kd.C k70 w A l.length l) (k : Nat) (hk : k < l.length) : ∃ ad x, A = some ad ∧ l[k]? = some x ∧ w.cell? (ad.add (k * 2)) = some (.string x.f0) ∧ w.cell? ⟨(ad.add (k * 2)).block, (ad.add (k * 2)).off + 1, none⟩ = some (.bool x.f1) := by
  obtain ⟨ad, e, c0, c1⟩ := at_T70 h (k : Int) (by omega) (by omega)
  unfold rd_T70 at c0 c1
  rw [Int.toNat_natCast] at c0 c1
  have hx := List.getElem?_eq_getElem hk
  rw [getD_of hx] at c0 c1
  exact ⟨ad, _, e, hx, c0, c1⟩
theorem at72 {w : World} {A : Option Addr} {l : List S72} (h : Kd.C k72 w A l.length l) (k : Nat) (hk : k < l.length) : ∃ ad x A1 c1, A = some ad ∧ l[k]? = some x ∧ w.cell? (ad.add (k * 2)) = some (.int .i64 x.f0) ∧ w.cell? ⟨(ad.add (k * 2)).block, (ad.add (k * 2)).off + 1, none⟩ = some (.slice A1 x.f1.length c1) ∧ x.f1.length ≤ c1 ∧ Kd.string.C w A1 x.f1.length x.f1 := by
  obtain ⟨ad, A1, c1, e, q0, q1, h1, h2⟩ := at_T72 h (k : Int) (by omega) (by omega)
  unfold rd_T72 at q0 q1 h1 h2
  rw [Int.toNat_natCast] at q0 q1 h1 h2
  have hx := List.getElem?_eq_getElem hk
  rw [getD_of hx] at q0 q1 h1 h2
  exact ⟨ad, _, A1, c1, e, hx, q0, q1, h1, h2⟩
theorem at114 {w : World} {A : Option Addr} {l : List S114} (h : Kd.C k114 w A l.length l) (k : Nat) (hk : k < l.length) : ∃ ad x, A = some ad ∧ l[k]? = some x ∧ w.cell? (ad.add (k * 2)) = some (.int .i64 x.f0) ∧ w.cell? ⟨(ad.add (k * 2)).block, (ad.add (k * 2)).off + 1, none⟩ = some (.string x.f1) := by
  obtain ⟨ad, e, c0, c1⟩ := at_T114 h (k : Int) (by omega) (by omega)
  unfold rd_T114 at c0 c1
  rw [Int.toNat_natCast] at c0 c1
  have hx := List.getElem?_eq_getElem hk
  rw [getD_of hx] at c0 c1
  exact ⟨ad, _, e, hx, c0, c1⟩
end Go.Proofs.YtmeieeekjhjgjaaGreatDoor.H
