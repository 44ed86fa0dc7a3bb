/- What the row's arguments read as: a store's attributes and pieces. -/
import Derived.Test.YtmeieeekjhjgjaaGreatDoorEb
import Derived.Deep.Slices
import Derived.Deep.Fields
import Derived.ChangeSame
import Derived.SliceStrings
import Derived.Lib.SmallJoins
namespace Go.Proofs.YtmeieeekjhjgjaaGreatDoor.H
open Go.Joins Go.ChangeShapes Go.WideShapes Go.RowKit Go.Deep Go.Proofs.YtmeieeekjhjgjaaGreatDoorW.PrintWords

section
variable {H : Type} {enc : TypeId × Value → H} {P : Program} {w : World} {base : Nat} {spare : Nat → Bool} {held : Bool}
theorem open_slice_fields {t e : TypeId} {fs : Array Field} {fuel : Nat} {cs : List Value} {x : DataW H × List MemPlace} (ht : P.underlying t = some (.slice e)) (he : P.underlying e = some (.struct fs))
    (hone : oneCellFields P fs = true) (hC : P.cellsOf e = fs.size) (h : DataW.trod enc P w base spare held fuel t cs = some x) :
    cs = [.slice none 0 0] ∨
    ∃ (a : Addr) (len cap : Nat), cs = [.slice (some a) len cap] ∧ len ≤ cap ∧ cap ≤ maxLen ∧
      ∀ i, i < len → ∃ n : Nat, ∀ (j : Nat) (f : Field), fs[j]? = some f → ∃ (v : Value) (y : DataW H × List MemPlace), w.cell? (a.add (i * fs.size + j)) = some v ∧ DataW.trod enc P w base spare held n f.type [v] = some y := by
  rcases open_slice ht h with h0 | ⟨a, len, cap, m, n, D, Pl, hcs, hb, hl, hm, hmm, hx, hi⟩
  · exact .inl h0.1
  · refine .inr ⟨a, len, cap, hcs, hl, hm, fun i him => ?_⟩
    have hlm : len ≤ m := by rw [hmm]; split <;> omega
    obtain ⟨cs', hc, ht'⟩ := hi i (by omega)
    rw [hC] at hc
    obtain ⟨ys, n', hn', hy, hlen, hyl, hf⟩ := DataW.trod_struct he ht'
    obtain ⟨_, hcl, hat⟩ := World.cells?_some hc
    refine ⟨n', fun j f hj => ?_⟩
    obtain ⟨ho, hk⟩ := hone_of hone j f hj
    have hjl : j < fs.size := (Array.getElem?_eq_some_iff.1 hj).1
    have hcell := hat j hjl
    have hv : cs'[j]? = some (cs'[j]'(by omega)) := List.getElem?_eq_getElem (by omega)
    have h1 := hf j f hj
    rw [ho, hk] at h1
    have hone' : (cs'.drop j).take 1 = [cs'[j]'(by omega)] := by
      rw [List.drop_eq_getElem_cons (by omega)]
      rfl
    rw [hone'] at h1
    have hys : ys[j]? = some (ys[j]'(by omega)) := List.getElem?_eq_getElem (by omega)
    refine ⟨_, _, ?_, h1.trans hys⟩
    rw [← Go.Deep.add_add, hcell, hv]
theorem open_agg5 {r : Reach} {b0 : Nat} {t : TypeId} {f0 f1 f2 f3 f4 : Field} {v : Value} {d : DataW H} {p : List MemPlace} (hs : P.underlying t = some (.struct #[f0, f1, f2, f3, f4])) (hone : oneCellFields P #[f0, f1, f2, f3, f4] = true) (hC : P.cellsOf t = 5)
    (hv : Value.okWide P w r b0 t v) (h : DataW.Trod enc P w base spare held t v d p) :
    ∃ (v0 v1 v2 v3 v4 : Value) (y0 y1 y2 y3 y4 : DataW H × List MemPlace) (n : Nat), v = .agg #[v0, v1, v2, v3, v4] ∧
      DataW.trod enc P w base spare held n f0.type [v0] = some y0 ∧ DataW.trod enc P w base spare held n f1.type [v1] = some y1 ∧ DataW.trod enc P w base spare held n f2.type [v2] = some y2 ∧ DataW.trod enc P w base spare held n f3.type [v3] = some y3 ∧ DataW.trod enc P w base spare held n f4.type [v4] = some y4 := by
  obtain ⟨cs, rfl, hsz⟩ := okWide_struct hs hv
  obtain ⟨l⟩ := cs
  match l, hsz.trans hC with
  | [c0, c1, c2, c3, c4], _ =>
    obtain ⟨fuel, hf⟩ := h
    obtain ⟨xs, n, _, hx, _, hlen, hg⟩ := DataW.trod_struct hs hf
    obtain ⟨o0, k0⟩ := hone_of hone 0 f0 rfl
    obtain ⟨o1, k1⟩ := hone_of hone 1 f1 rfl
    obtain ⟨o2, k2⟩ := hone_of hone 2 f2 rfl
    obtain ⟨o3, k3⟩ := hone_of hone 3 f3 rfl
    obtain ⟨o4, k4⟩ := hone_of hone 4 f4 rfl
    match xs, hlen with
    | [y0, y1, y2, y3, y4], _ =>
      exact ⟨c0, c1, c2, c3, c4, y0, y1, y2, y3, y4, n, rfl, by simpa [Value.cells, o0, k0] using hg 0 f0 rfl, by simpa [Value.cells, o1, k1] using hg 1 f1 rfl, by simpa [Value.cells, o2, k2] using hg 2 f2 rfl, by simpa [Value.cells, o3, k3] using hg 3 f3 rfl, by simpa [Value.cells, o4, k4] using hg 4 f4 rfl⟩
end

/-- A row of elements out of what is told of each. -/
theorem C_of_each {α : Type} (d : Kd α) (z : α) (ok : α → Prop) (w : World) (a : Addr) (len : Nat) (hl : len ≤ 9223372036854775807)
    (h : ∀ i, i < len → ∃ x c, ok x ∧ c.length = d.sz ∧ d.K w x c ∧ ∀ j u, c[j]? = some u → w.cell? (a.add (i * d.sz + j)) = some u) :
    ∃ l : List α, l.length = len ∧ Kd.C d w (some a) len l ∧ ∀ x ∈ l, ok x := by
  classical
  let f : Nat → α := fun i => if hi : i < len then (h i hi).choose else z
  have hf : ∀ i, i < len → ∃ c, ok (f i) ∧ c.length = d.sz ∧ d.K w (f i) c ∧ ∀ j u, c[j]? = some u → w.cell? (a.add (i * d.sz + j)) = some u := by
    intro i hi
    have := (h i hi).choose_spec
    simp only [f, dif_pos hi]
    exact this
  refine ⟨(List.range len).map f, by simp, ⟨by simp, hl, fun _ => ⟨a, rfl, fun j p hj => ?_⟩⟩, fun x hx => ?_⟩
  · rw [List.getElem?_map] at hj
    obtain ⟨i, hi, rfl⟩ := Option.map_eq_some_iff.1 hj
    obtain ⟨hlt, rfl⟩ := List.getElem?_eq_some_iff.1 hi
    simp only [List.getElem_range, List.length_range] at hlt ⊢
    obtain ⟨c, _, h1, h2, h3⟩ := hf j hlt
    exact ⟨c, h1, h2, h3⟩
  · obtain ⟨i, hi, rfl⟩ := List.mem_map.1 hx
    exact (hf i (List.mem_range.1 hi)).choose_spec.1

section
variable {H : Type} {enc : TypeId × Value → H} {w : World} {base : Nat} {spare : Nat → Bool} {held : Bool}
theorem read70 {fuel : Nat} {v : Value} {x : DataW H × List MemPlace} (h : DataW.trod enc Tryz.prog w base spare held fuel 23 [v] = some x) :
    ∃ A c, ∃ l : List S70, v = .slice A l.length c ∧ l.length ≤ c ∧ Kd.C k70 w A l.length l ∧ OkNames l := by
  rcases open_slice_fields Tryz.underlying23 Tryz.underlying70 (by kernel_rfl) (by kernel_rfl) h with hcs | ⟨a, len, cap, hcs, hl, hm, hi⟩
  · obtain rfl : v = .slice none 0 0 := by simpa using hcs
    exact ⟨none, 0, [], rfl, Nat.le_refl _, ⟨rfl, by simp, fun h => absurd h (by simp)⟩, fun x hx => by cases hx⟩
  · obtain rfl : v = .slice (some a) len cap := by simpa using hcs
    unfold maxLen at hm
    obtain ⟨l, rfl, hC, hok⟩ := C_of_each k70 z70 (fun x => x.f0.size ≤ 9223372036854775807) w a len (by omega) (fun i hlt => by
      obtain ⟨n, hf⟩ := hi i hlt
      obtain ⟨v0, y0, hc0, ht0⟩ := hf 0 _ rfl
      obtain ⟨v1, y1, hc1, ht1⟩ := hf 1 _ rfl
      obtain ⟨s, e0, _, hw⟩ := DataW.trod_string Tryz.underlying9 ht0
      obtain rfl : v0 = .string s := by simpa using e0
      obtain ⟨b, e1, _⟩ := DataW.trod_bool Tryz.underlying4 ht1
      obtain rfl : v1 = .bool b := by simpa using e1
      unfold maxLen at hw
      refine ⟨⟨s, b⟩, [.string s, .bool b], hw, rfl, k70_mk w ⟨s, b⟩, fun j u hu => ?_⟩
      match j, hu with
      | 0, hu => obtain rfl := Option.some.inj hu; exact hc0
      | 1, hu => obtain rfl := Option.some.inj hu; exact hc1)
    exact ⟨some a, cap, l, rfl, hl, hC, hok⟩
theorem readStrs {fuel : Nat} {v : Value} {x : DataW H × List MemPlace} (h : DataW.trod enc Tryz.prog w base spare held fuel 61 [v] = some x) :
    ∃ A c, ∃ l : List ByteArray, v = .slice A l.length c ∧ l.length ≤ c ∧ Kd.C Kd.string w A l.length l ∧ l.length ≤ 9223372036854775807 ∧ OkStrs l := by
  rcases open_slice1 Tryz.underlying61 (by kernel_rfl) h with ⟨hcs, _⟩ | ⟨a, len, cap, m, n, V, D, Pl, hcs, _, hl, hm, hmm, _, hi⟩
  · obtain rfl : v = .slice none 0 0 := by simpa using hcs
    exact ⟨none, 0, [], rfl, Nat.le_refl _, ⟨rfl, by simp, fun h => absurd h (by simp)⟩, by simp, fun x hx => by cases hx⟩
  · obtain rfl : v = .slice (some a) len cap := by simpa using hcs
    unfold maxLen at hm
    have hlm : len ≤ m := by rw [hmm]; split <;> omega
    obtain ⟨l, rfl, hC, hok⟩ := C_of_each Kd.string ⟨#[]⟩ (fun x => x.size ≤ 9223372036854775807) w a len (by omega) (fun i hlt => by
      obtain ⟨hc0, ht0⟩ := hi i (by omega)
      obtain ⟨s, e0, _, hw⟩ := DataW.trod_string Tryz.underlying9 ht0
      obtain e0 : V i = .string s := by simpa using e0
      rw [e0] at hc0
      unfold maxLen at hw
      refine ⟨s, [.string s], hw, rfl, rfl, fun j u hu => ?_⟩
      match j, hu with
      | 0, hu => obtain rfl := Option.some.inj hu; simpa [Kd.string, Kd.scalar] using hc0)
    exact ⟨some a, cap, l, rfl, hl, hC, by omega, hok⟩
theorem read72 {fuel : Nat} {v : Value} {x : DataW H × List MemPlace} (h : DataW.trod enc Tryz.prog w base spare held fuel 24 [v] = some x) :
    ∃ A c, ∃ l : List S72, v = .slice A l.length c ∧ l.length ≤ c ∧ Kd.C k72 w A l.length l ∧ OkPieces l := by
  rcases open_slice_fields Tryz.underlying24 Tryz.underlying72 (by kernel_rfl) (by kernel_rfl) h with hcs | ⟨a, len, cap, hcs, hl, hm, hi⟩
  · obtain rfl : v = .slice none 0 0 := by simpa using hcs
    exact ⟨none, 0, [], rfl, Nat.le_refl _, ⟨rfl, by simp, fun h => absurd h (by simp)⟩, fun x hx => by cases hx⟩
  · obtain rfl : v = .slice (some a) len cap := by simpa using hcs
    unfold maxLen at hm
    obtain ⟨l, rfl, hC, hok⟩ := C_of_each k72 z72 (fun x => x.f1.length ≤ 9223372036854775807 ∧ OkStrs x.f1) w a len (by omega) (fun i hlt => by
      obtain ⟨n, hf⟩ := hi i hlt
      obtain ⟨v0, y0, hc0, ht0⟩ := hf 0 _ rfl
      obtain ⟨v1, y1, hc1, ht1⟩ := hf 1 _ rfl
      obtain ⟨s, e0, _, hw⟩ := DataW.trod_int Tryz.underlying3 ht0
      obtain rfl : v0 = .int .i64 s := by simpa using e0
      obtain ⟨A1, c1, l1, rfl, hl1, hC1, hn1, hs1⟩ := readStrs ht1
      refine ⟨⟨s, l1⟩, [.int .i64 s, .slice A1 l1.length c1], ⟨hn1, hs1⟩, rfl, k72_mk w ⟨s, l1⟩ hl1 hC1, fun j u hu => ?_⟩
      match j, hu with
      | 0, hu => obtain rfl := Option.some.inj hu; exact hc0
      | 1, hu => obtain rfl := Option.some.inj hu; exact hc1)
    exact ⟨some a, cap, l, rfl, hl, hC, hok⟩
theorem readSlice {t e : TypeId} (ht : Tryz.prog.underlying t = some (.slice e)) {fuel : Nat} {v : Value} {x : DataW H × List MemPlace} (h : DataW.trod enc Tryz.prog w base spare held fuel t [v] = some x) : ∃ A n c, v = .slice A n c := by
  rcases open_slice ht h with ⟨hcs, _⟩ | ⟨a, len, cap, m, n, D, Pl, hcs, _⟩
  · exact ⟨none, 0, 0, by simpa using hcs⟩
  · exact ⟨some a, len, cap, by simpa using hcs⟩
end
end Go.Proofs.YtmeieeekjhjgjaaGreatDoor.H
