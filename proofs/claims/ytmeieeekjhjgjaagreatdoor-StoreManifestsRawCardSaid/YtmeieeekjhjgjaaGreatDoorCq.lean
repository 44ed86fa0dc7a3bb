/- What the parsing loop keeps. -/
import Derived.Test.YtmeieeekjhjgjaaGreatDoorCp
import Derived.Test.YtmeieeekjhjgjaaGreatDoorCo
namespace Go.Proofs.YtmeieeekjhjgjaaGreatDoor.H
open Go.RowKit Go.Proofs.YtmeieeekjhjgjaaGreatDoorW.PrintWords

def USPost (w : World) (s : ByteArray) (e : Ending) (w' : World) : Prop := Below w.heap.size w w' ∧ ((sealB (headB s) = s ∧ ∃ v, e = .returned (.tuple #[v, .int .i64 0]) ∧ RV w' v (headB s)) ∨ (sealB (headB s) ≠ s ∧ ∃ c : Int, c ≠ 0 ∧ e = .returned (.tuple #[.slice none 0 0, .int .i64 c])))
theorem unsealAny (ad : Addr) (n c : Nat) (s : ByteArray) (w : World) (hn : s.size = n) (hr : RB w (some ad) s) (hc : n ≤ c) (hs : s.size ≤ 140737488351232) :
    Calls Tryz.prog 29 #[.slice (some ad) n c] w (USPost w s) := by
  subst hn
  by_cases h4 : s.size < 4
  · refine (unseal29_short (some ad) c s w h4).mono ?_
    rintro e w' ⟨rfl, rfl⟩
    exact ⟨Below.refl _ _, .inr ⟨fun h => by have := sealB_size (headB s); rw [h] at this; omega, 10, by decide, rfl⟩⟩
  · refine (unseal29 ad c s w hr hc hs (by omega)).mono ?_
    rintro e w' ⟨hb, h | ⟨h1, h2⟩⟩
    · exact ⟨hb, .inl h⟩
    · exact ⟨hb, .inr ⟨h1, 9, by decide, h2⟩⟩
def any : Nat → Prop := fun _ => True
def zeroStore : Array Value := #[.slice none 0 0, .int .i64 0, .int .i64 0, .slice none 0 0, .slice none 0 0]
/-- What the parsing loop keeps. -/
structure PS (b2 b6 bl : Nat) (L : List ByteArray) (w0 wr : World) (st : St) : Prop where
  below : Below w0.heap.size w0 wr
  box : ∃ A0 c0 A3 c3, wr.heap[b6]? = some (.cells #[.slice A0 st.l0.length c0, .int .i64 st.next, .int .i64 st.j, .slice A3 st.l3.length c3, .slice none 0 0] 27 (0, 0)) ∧ k70.R 70 wr w0.heap.size any (.slice A0 st.l0.length c0) st.l0 ∧ k72.R 72 wr w0.heap.size any (.slice A3 st.l3.length c3) st.l3
  res : wr.heap[b2]? = some (.cells zeroStore 27 (0, 0))
  lines : wr.heap[bl]? = some (.cells (L.map Value.string).toArray 9 (0, 0))
  apart : w0.heap.size ≤ b6 ∧ b6 ≠ b2 ∧ b6 ≠ bl
section
variable {b2 b6 bl : Nat} {L : List ByteArray} {w0 wr w' : World} {st : St}
theorem PS.size (h : PS b2 b6 bl L w0 wr st) : w0.heap.size ≤ wr.heap.size := h.below.size
theorem PS.step (h : PS b2 b6 bl L w0 wr st) (hb : Below wr.heap.size wr w') : PS b2 b6 bl L w0 w' st := by
  obtain ⟨A0, c0, A3, c3, h1, h2, h3⟩ := h.box
  exact ⟨h.below.trans (hb.mono h.below.size), ⟨A0, c0, A3, c3, blk_below h1 hb, Kd.R_below h2 hb, Kd.R_below h3 hb⟩, blk_below h.res hb, blk_below h.lines hb, h.apart⟩
theorem PS.setNext (h : PS b2 b6 bl L w0 wr st) (x : Int) : PS b2 b6 bl L w0 (wr.setCell ⟨b6, 1, none⟩ (.int .i64 x)) { st with next := x } := by
  obtain ⟨A0, c0, A3, c3, h1, h2, h3⟩ := h.box
  refine ⟨below_set h.below h.apart.1, ⟨A0, c0, A3, c3, blk_put h1 1 _ rfl, Kd.R_set h2 h1 (by decide) 1 _, Kd.R_set h3 h1 (by decide) 1 _⟩, blk_far h.res (by exact fun e => h.apart.2.1 e.symm) _, blk_far h.lines (by exact fun e => h.apart.2.2 e.symm) _, h.apart⟩
theorem PS.setJ (h : PS b2 b6 bl L w0 wr st) (x : Int) : PS b2 b6 bl L w0 (wr.setCell ⟨b6, 2, none⟩ (.int .i64 x)) { st with j := x } := by
  obtain ⟨A0, c0, A3, c3, h1, h2, h3⟩ := h.box
  refine ⟨below_set h.below h.apart.1, ⟨A0, c0, A3, c3, blk_put h1 2 _ rfl, Kd.R_set h2 h1 (by decide) 2 _, Kd.R_set h3 h1 (by decide) 2 _⟩, blk_far h.res (by exact fun e => h.apart.2.1 e.symm) _, blk_far h.lines (by exact fun e => h.apart.2.2 e.symm) _, h.apart⟩
theorem R_other {α β : Type} {d : Kd α} {d' : Kd β} {e e' : Nat} {w w1 : World} {base base' : Nat} {v v' : Value} {xs : List α} {ys : List β} (h : d.R e w base any v xs) (h' : d'.R e' w base' any v' ys) (hg : w.grownBy w1 v'.ownBlock) (ht : ∀ q, q ∈ e :: d.E → q ≠ e') : d.R e w1 base any v xs := by
  obtain ⟨_, inner, ho, _⟩ := h'
  refine Kd.R_mono (Kd.R_grown (Kd.R_bound h) hg fun k hk he => ?_) (fun _ _ => trivial)
  obtain ⟨_, _, _, q, hq, cells, hc⟩ := hk
  obtain ⟨cells', hc'⟩ := own_typed ho k he.symm
  rw [hc] at hc'
  injection hc' with hc'
  injection hc' with _ hc'
  exact ht q hq hc'
theorem R_blk {β : Type} {d' : Kd β} {e' : Nat} {w w1 : World} {base' : Nat} {v' : Value} {ys : List β} {g t : Nat} {cs : Array Value} (h : w.heap[g]? = some (.cells cs t (0, 0))) (h' : d'.R e' w base' any v' ys) (hg : w.grownBy w1 v'.ownBlock) (ht : e' ≠ t) : w1.heap[g]? = some (.cells cs t (0, 0)) := by
  obtain ⟨_, inner, ho, _⟩ := h'
  exact blk_grown h hg (own_ne ho h ht)
theorem PS.put0 (h : PS b2 b6 bl L w0 wr st) {A0 : Option Addr} {c0 : Nat} (hbx : ∃ u1 u2 u3 u4, wr.heap[b6]? = some (.cells #[.slice A0 st.l0.length c0, u1, u2, u3, u4] 27 (0, 0))) {v1 : Value} {w1 : World} {x : S70} (hR : k70.R 70 w1 w0.heap.size any v1 (st.l0 ++ [x])) (hb : Below w0.heap.size w0 w1) (hg : wr.grownBy w1 (Value.slice A0 st.l0.length c0).ownBlock) :
    PS b2 b6 bl L w0 (w1.setCell ⟨b6, 0, none⟩ v1) { st with l0 := st.l0 ++ [x] } := by
  obtain ⟨A0', c0', A3, c3, h1, h2, h3⟩ := h.box
  obtain ⟨u1, u2, u3, u4, hbx⟩ := hbx
  have e := hbx.symm.trans h1
  injection e with e; injection e with e; injection e with e; simp only [List.cons.injEq] at e
  obtain ⟨e, _⟩ := e
  injection e with e1 _ e2
  subst e1; subst e2
  obtain ⟨A, c, rfl, hc, _⟩ := Kd.R_reads hR
  have k1 := R_blk h1 h2 hg (by decide)
  have k3 : k72.R 72 w1 w0.heap.size any (.slice A3 st.l3.length c3) st.l3 := R_other h3 h2 hg (by decide)
  exact ⟨below_set hb h.apart.1, ⟨A, c, A3, c3, blk_put k1 0 _ rfl, Kd.R_set hR k1 (by decide) 0 _, Kd.R_set k3 k1 (by decide) 0 _⟩, blk_far (R_blk h.res h2 hg (by decide)) (by exact fun e => h.apart.2.1 e.symm) _, blk_far (R_blk h.lines h2 hg (by decide)) (by exact fun e => h.apart.2.2 e.symm) _, h.apart⟩
theorem PS.put3 (h : PS b2 b6 bl L w0 wr st) {A3 : Option Addr} {c3 : Nat} (hbx : ∃ u0 u1 u2 u4, wr.heap[b6]? = some (.cells #[u0, u1, u2, .slice A3 st.l3.length c3, u4] 27 (0, 0))) {v1 : Value} {w1 : World} {x : S72} (hR : k72.R 72 w1 w0.heap.size any v1 (st.l3 ++ [x])) (hb : Below w0.heap.size w0 w1) (hg : wr.grownBy w1 (Value.slice A3 st.l3.length c3).ownBlock) :
    PS b2 b6 bl L w0 (w1.setCell ⟨b6, 3, none⟩ v1) { st with l3 := st.l3 ++ [x] } := by
  obtain ⟨A0, c0, A3', c3', h1, h2, h3⟩ := h.box
  obtain ⟨u1, u2, u3, u4, hbx⟩ := hbx
  have e := hbx.symm.trans h1
  injection e with e; injection e with e; injection e with e; simp only [List.cons.injEq] at e
  obtain ⟨_, _, _, e, _⟩ := e
  injection e with e1 _ e2
  subst e1; subst e2
  obtain ⟨A, c, rfl, hc, _⟩ := Kd.R_reads hR
  have k1 := R_blk h1 h3 hg (by decide)
  have k3 : k70.R 70 w1 w0.heap.size any (.slice A0 st.l0.length c0) st.l0 := R_other h2 h3 hg (by decide)
  exact ⟨below_set hb h.apart.1, ⟨A0, c0, A, c, blk_put k1 3 _ rfl, Kd.R_set k3 k1 (by decide) 3 _, Kd.R_set hR k1 (by decide) 3 _⟩, blk_far (R_blk h.res h3 hg (by decide)) (by exact fun e => h.apart.2.1 e.symm) _, blk_far (R_blk h.lines h3 hg (by decide)) (by exact fun e => h.apart.2.2 e.symm) _, h.apart⟩
/-- A row of strings in a block of its own. -/
theorem row_strs {w : World} {b : Nat} {xs : List ByteArray} (h : w.heap[b]? = some (.cells (xs.map Value.string).toArray 9 (0, 0))) (k : Nat) (x : ByteArray) (hx : xs[k]? = some x) : w.cell? ⟨b, k, none⟩ = some (.string x) := by
  rw [blk_cell h]; simp [hx]
theorem k70_M (w : World) (base : Nat) (ok : Nat → Prop) (x : S70) : k70.M w base ok x [.string x.f0, .bool x.f1] := ⟨[.string x.f0], [.bool x.f1], rfl, rfl, rfl⟩
theorem k72_M {w : World} {base : Nat} {ok : Nat → Prop} (x : S72) {v : Value} (h : Kd.string.R 9 w base ok v x.f1) : k72.M w base ok x [.int .i64 x.f0, v] := ⟨[.int .i64 x.f0], [v], rfl, rfl, ⟨v, rfl, h⟩⟩
end
theorem info70 : (Tryz.prog.info? 70).map (fun i => (i.zero, i.size, i.bytes)) = some (some (.agg #[.string ⟨#[]⟩, .bool false]), 2, 24) := by kernel_rfl
theorem info72 : (Tryz.prog.info? 72).map (fun i => (i.zero, i.size, i.bytes)) = some (some (.agg #[.int .i64 0, .slice none 0 0]), 2, 32) := by kernel_rfl
theorem St.l0_le (st : St) (ws : List ByteArray) : (lineP st ws).l0.length ≤ st.l0.length + 1 ∧ (lineP st ws).l3.length ≤ st.l3.length + 1 := by
  unfold lineP
  repeat' split
  all_goals simp
end Go.Proofs.YtmeieeekjhjgjaaGreatDoor.H
