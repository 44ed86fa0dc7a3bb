/- What the reference's parsing loop keeps. -/
import Derived.Test.YtmeieeekjhjgjaaGreatDoorCr
import Derived.Test.YtmeieeekjhjgjaaGreatDoorDe
import Derived.Test.YtmeieeekjhjgjaaGreatDoorDi
namespace Go.Proofs.YtmeieeekjhjgjaaGreatDoor.H
open Go.RowKit Go.Proofs.YtmeieeekjhjgjaaGreatDoorW.PrintWords

/-- What the parsing loop keeps. -/
structure QS (b2 b6 bl : Nat) (cs : Array Value) (w0 wr : World) (st : St) : Prop where
  below : Below w0.heap.size w0 wr
  box : ∃ A0 c0 A3 c3, wr.heap[b6]? = some (.cells #[.slice A0 st.l0.length c0, .int .i64 st.next, .int .i64 st.j, .slice A3 st.l3.length c3, .slice none 0 0] 27 (0, 0)) ∧ k70.R 70 wr w0.heap.size any (.slice A0 st.l0.length c0) st.l0 ∧ k72.R 72 wr w0.heap.size any (.slice A3 st.l3.length c3) st.l3
  res : wr.heap[b2]? = some (.cells zeroStore 27 (0, 0))
  lines : wr.heap[bl]? = some (.cells cs 9 (0, 0))
  apart : w0.heap.size ≤ b6 ∧ b6 ≠ b2 ∧ b6 ≠ bl
section
variable {b2 b6 bl : Nat} {cs : Array Value} {w0 wr w' : World} {st : St}
theorem QS.size (h : QS b2 b6 bl cs w0 wr st) : w0.heap.size ≤ wr.heap.size := h.below.size
theorem QS.step (h : QS b2 b6 bl cs w0 wr st) (hb : Below wr.heap.size wr w') : QS b2 b6 bl cs w0 w' st := by
  obtain ⟨A0, c0, A3, c3, h1, h2, h3⟩ := h.box
  exact ⟨h.below.trans (hb.mono h.below.size), ⟨A0, c0, A3, c3, blk_below h1 hb, Kd.R_below h2 hb, Kd.R_below h3 hb⟩, blk_below h.res hb, blk_below h.lines hb, h.apart⟩
theorem QS.setNext (h : QS b2 b6 bl cs w0 wr st) (x : Int) : QS b2 b6 bl cs w0 (wr.setCell ⟨b6, 1, none⟩ (.int .i64 x)) { st with next := x } := by
  obtain ⟨A0, c0, A3, c3, h1, h2, h3⟩ := h.box
  refine ⟨below_set h.below h.apart.1, ⟨A0, c0, A3, c3, blk_put h1 1 _ rfl, Kd.R_set h2 h1 (by decide) 1 _, Kd.R_set h3 h1 (by decide) 1 _⟩, blk_far h.res (by exact fun e => h.apart.2.1 e.symm) _, blk_far h.lines (by exact fun e => h.apart.2.2 e.symm) _, h.apart⟩
theorem QS.setJ (h : QS b2 b6 bl cs w0 wr st) (x : Int) : QS b2 b6 bl cs w0 (wr.setCell ⟨b6, 2, none⟩ (.int .i64 x)) { st with j := x } := by
  obtain ⟨A0, c0, A3, c3, h1, h2, h3⟩ := h.box
  refine ⟨below_set h.below h.apart.1, ⟨A0, c0, A3, c3, blk_put h1 2 _ rfl, Kd.R_set h2 h1 (by decide) 2 _, Kd.R_set h3 h1 (by decide) 2 _⟩, blk_far h.res (by exact fun e => h.apart.2.1 e.symm) _, blk_far h.lines (by exact fun e => h.apart.2.2 e.symm) _, h.apart⟩
theorem QS.put0 (h : QS b2 b6 bl cs w0 wr st) {A0 : Option Addr} {c0 : Nat} (hbx : ∃ u1 u2 u3 u4, wr.heap[b6]? = some (.cells #[.slice A0 st.l0.length c0, u1, u2, u3, u4] 27 (0, 0))) {v1 : Value} {w1 : World} {x : S70} (hR : k70.R 70 w1 w0.heap.size any v1 (st.l0 ++ [x])) (hb : Below w0.heap.size w0 w1) (hg : wr.grownBy w1 (Value.slice A0 st.l0.length c0).ownBlock) :
    QS b2 b6 bl cs w0 (w1.setCell ⟨b6, 0, none⟩ v1) { st with l0 := st.l0 ++ [x] } := by
  obtain ⟨A0', c0', A3, c3, h1, h2, h3⟩ := h.box
  obtain ⟨u1, u2, u3, u4, hbx⟩ := hbx
  have e := hbx.symm.trans h1
  injection e with e; injection e with e; injection e with e; simp only [List.cons.injEq] at e
  obtain ⟨e, _⟩ := e
  injection e with e1 _ e2
  subst e1; subst e2
  obtain ⟨A, c, rfl, hc, _⟩ := Kd.R_reads hR
  have k1 := R_blk h1 h2 hg (by decide)
  have k3 : k72.R 72 w1 w0.heap.size any (.slice A3 st.l3.length c3) st.l3 := R_other h3 h2 hg (by decide)
  exact ⟨below_set hb h.apart.1, ⟨A, c, A3, c3, blk_put k1 0 _ rfl, Kd.R_set hR k1 (by decide) 0 _, Kd.R_set k3 k1 (by decide) 0 _⟩, blk_far (R_blk h.res h2 hg (by decide)) (by exact fun e => h.apart.2.1 e.symm) _, blk_far (R_blk h.lines h2 hg (by decide)) (by exact fun e => h.apart.2.2 e.symm) _, h.apart⟩
theorem QS.put3 (h : QS b2 b6 bl cs w0 wr st) {A3 : Option Addr} {c3 : Nat} (hbx : ∃ u0 u1 u2 u4, wr.heap[b6]? = some (.cells #[u0, u1, u2, .slice A3 st.l3.length c3, u4] 27 (0, 0))) {v1 : Value} {w1 : World} {x : S72} (hR : k72.R 72 w1 w0.heap.size any v1 (st.l3 ++ [x])) (hb : Below w0.heap.size w0 w1) (hg : wr.grownBy w1 (Value.slice A3 st.l3.length c3).ownBlock) :
    QS b2 b6 bl cs w0 (w1.setCell ⟨b6, 3, none⟩ v1) { st with l3 := st.l3 ++ [x] } := by
  obtain ⟨A0, c0, A3', c3', h1, h2, h3⟩ := h.box
  obtain ⟨u1, u2, u3, u4, hbx⟩ := hbx
  have e := hbx.symm.trans h1
  injection e with e; injection e with e; injection e with e; simp only [List.cons.injEq] at e
  obtain ⟨_, _, _, e, _⟩ := e
  injection e with e1 _ e2
  subst e1; subst e2
  obtain ⟨A, c, rfl, hc, _⟩ := Kd.R_reads hR
  have k1 := R_blk h1 h3 hg (by decide)
  have k3 : k70.R 70 w1 w0.heap.size any (.slice A0 st.l0.length c0) st.l0 := R_other h2 h3 hg (by decide)
  exact ⟨below_set hb h.apart.1, ⟨A0, c0, A, c, blk_put k1 3 _ rfl, Kd.R_set k3 k1 (by decide) 3 _, Kd.R_set hR k1 (by decide) 3 _⟩, blk_far (R_blk h.res h3 hg (by decide)) (by exact fun e => h.apart.2.1 e.symm) _, blk_far (R_blk h.lines h3 hg (by decide)) (by exact fun e => h.apart.2.2 e.symm) _, h.apart⟩
end
/-- The words of a cut, as the reference's split gives them. -/
def CutPost (s : ByteArray) (c : Nat) (w : World) (e : Ending) (w' : World) : Prop := ∃ (g cap : Nat) (ws : List ByteArray) (cs : Array Value), e = .returned (.slice (some ⟨g, 0, none⟩) ws.length cap) ∧ ws.length ≤ cap ∧ 1 ≤ ws.length ∧ cutL c (nats s) = ws.map nats ∧ w.heap.size ≤ g ∧ w'.heap[g]? = some (.cells cs 9 (0, 0)) ∧ (∀ (k : Nat) (y : ByteArray), ws[k]? = some y → cs[k]? = some (Value.string y)) ∧ Below w.heap.size w w'
theorem cutL_pos {α : Type} [DecidableEq α] (c : α) (l : List α) : 1 ≤ (cutL c l).length := by
  cases l with
  | nil => simp [cutL]
  | cons x r =>
    unfold cutL
    split
    · simp
    · split <;> simp
theorem cut37 (s : ByteArray) (c : Nat) (hc : c < 256) (hs : s.size ≤ 100000) (w : World) : Calls Tryz.prog 37 #[.string s, .int .u8 c] w (CutPost s c w) := by
  refine (split37 s c hc hs w).mono ?_
  rintro e w' ⟨v, ws, rfl, hcut, hR, hb⟩
  have hlen : 1 ≤ ws.length := by have := cutL_pos c (nats s); rw [hcut, List.length_map] at this; exact this
  obtain ⟨_, inner, ⟨h1, h2⟩, hrep⟩ := hR
  rcases h2 with ⟨_, h0⟩ | ⟨g, cap, cur, rfl, hg, hh, hcap, _, hsz, htk⟩
  · omega
  · refine ⟨g, cap, ws, cur, rfl, hcap, hlen, hcut, hg, hh, fun k y hk => ?_, hb⟩
    have hr := hrep.2 k y hk
    have hkl := (List.getElem?_eq_some_iff.1 hk).1
    have hr' : (inner.drop (k * 1)).take 1 = [Value.string y] := hr
    have h3 : inner[k]? = some (Value.string y) := by
      have := congrArg (fun l => l[0]?) hr'
      simpa using this
    rw [← htk] at h3
    rw [List.getElem?_take] at h3
    split at h3
    · rw [Array.getElem?_toList] at h3; exact h3
    · cases h3
def numR (s : ByteArray) : Int := numTo s (min s.size 10)
/-- One line's doing, in the reference. -/
def lineR (st : St) (ws : List ByteArray) : St :=
  match ws with
  | w0 :: w1 :: r =>
    if w0 = wordNext ∧ r.length = 0 then { st with next := numR w1 }
    else if w0 = wordJournal ∧ r.length = 0 then { st with j := numR w1 }
    else if w0 = wordAttribute ∧ r.length = 1 then { st with l0 := st.l0 ++ [⟨w1, decide (r.head? = some ⟨#[49]⟩)⟩] }
    else if w0 = wordPiece then { st with l3 := st.l3 ++ [⟨numR w1, r⟩] }
    else st
  | _ => st
theorem lineR_le (st : St) (ws : List ByteArray) : (lineR st ws).l0.length ≤ st.l0.length + 1 ∧ (lineR st ws).l3.length ≤ st.l3.length + 1 := by
  unfold lineR
  repeat' split
  all_goals simp
theorem lineR_ok (st : St) (ws : List ByteArray) (h : OkNames st.l0 ∧ OkPieces st.l3) (hl : ws.length ≤ 1000000) (hs : ∀ x ∈ ws, x.size ≤ 100000) : OkNames (lineR st ws).l0 ∧ OkPieces (lineR st ws).l3 := by
  unfold lineR
  split
  · rename_i w0 w1 r
    split
    · exact h
    · split
      · exact h
      · split
        · refine ⟨fun x hx => ?_, h.2⟩
          rcases List.mem_append.1 hx with hx | hx
          · exact h.1 x hx
          · rw [List.mem_singleton.1 hx]
            have := hs w1 (by simp)
            show w1.size ≤ _; omega
        · split
          · refine ⟨h.1, fun x hx => ?_⟩
            rcases List.mem_append.1 hx with hx | hx
            · exact h.2 x hx
            · rw [List.mem_singleton.1 hx]
              simp only [List.length_cons] at hl
              exact ⟨by show r.length ≤ _; omega, fun y hy => by have := hs y (by simp [show y ∈ r from hy]); omega⟩
          · exact h
  · exact h
/-- The strings of a list of byte lists. -/
def strN (l : List Nat) : ByteArray := ⟨(l.map UInt8.ofNat).toArray⟩
theorem strN_nats (s : ByteArray) : strN (nats s) = s := by
  apply ByteArray.ext
  unfold strN nats
  simp [List.map_map, Function.comp_def]
def cutR (c : Nat) (s : ByteArray) : List ByteArray := (cutL c (nats s)).map strN
theorem cutR_of {c : Nat} {s : ByteArray} {ws : List ByteArray} (h : cutL c (nats s) = ws.map nats) : cutR c s = ws := by
  unfold cutR
  rw [h, List.map_map]
  have : strN ∘ nats = id := by funext x; exact strN_nats x
  rw [this, List.map_id]
theorem cutL_flat {α : Type} [DecidableEq α] (c : α) (l : List α) : ∀ x ∈ cutL c l, x.length ≤ l.length := by
  induction l with
  | nil => intro x hx; simp [cutL] at hx; rw [hx]; simp
  | cons a r ih =>
    intro x hx
    unfold cutL at hx
    split at hx
    · rcases List.mem_cons.1 hx with rfl | hx
      · simp
      · have := ih x hx; simp; omega
    · split at hx
      · rename_i heq; have := cutL_pos c r; rw [heq] at this; simp at this
      · rename_i y ys heq
        rcases List.mem_cons.1 hx with rfl | hx
        · have := ih y (by rw [heq]; simp); simp; omega
        · have := ih x (by rw [heq]; exact List.mem_cons_of_mem _ hx); simp; omega
theorem cutL_count {α : Type} [DecidableEq α] (c : α) (l : List α) : (cutL c l).length ≤ l.length + 1 := by
  induction l with
  | nil => simp [cutL]
  | cons a r ih =>
    unfold cutL
    split
    · simp; exact ih
    · split
      · simp
      · rename_i y ys heq; rw [heq] at ih; simp at ih ⊢; omega
theorem cut_bounds {c : Nat} {s : ByteArray} {ws : List ByteArray} (h : cutL c (nats s) = ws.map nats) (hs : s.size ≤ 100000) : ws.length ≤ 100001 ∧ ∀ x ∈ ws, x.size ≤ 100000 := by
  refine ⟨?_, fun x hx => ?_⟩
  · have := cutL_count c (nats s)
    rw [h, List.length_map, nats_length] at this; omega
  · have := cutL_flat c (nats s) (nats x) (by rw [h]; exact List.mem_map.2 ⟨x, hx, rfl⟩)
    rw [nats_length, nats_length] at this; omega
def parseR (body : ByteArray) : St := (cutR 10 body).foldl (fun st line => lineR st (cutR 32 line)) st0
def rAt (L : List ByteArray) (k : Nat) : St := (L.take k).foldl (fun st line => lineR st (cutR 32 line)) st0
theorem rAt_succ (L : List ByteArray) (k : Nat) (x : ByteArray) (h : L[k]? = some x) : rAt L (k + 1) = lineR (rAt L k) (cutR 32 x) := by
  unfold rAt; rw [List.take_add_one, h]; simp
theorem cutR_bounds {c : Nat} {s : ByteArray} (hs : s.size ≤ 100000) : (cutR c s).length ≤ 100001 ∧ ∀ x ∈ cutR c s, x.size ≤ 100000 := by
  refine ⟨?_, fun x hx => ?_⟩
  · unfold cutR
    have := cutL_count c (nats s)
    rw [nats_length] at this
    rw [List.length_map]; omega
  · unfold cutR at hx
    obtain ⟨y, hy, rfl⟩ := List.mem_map.1 hx
    have := cutL_flat c (nats s) y hy
    rw [nats_length] at this
    show (y.map UInt8.ofNat).toArray.size ≤ _
    simp; omega
theorem rAt_le (L : List ByteArray) (k : Nat) : (rAt L k).l0.length ≤ k ∧ (rAt L k).l3.length ≤ k := by
  induction k with
  | zero => simp [rAt, st0]
  | succ k ih =>
    cases h : L[k]? with
    | none =>
      have : L.take (k + 1) = L.take k := by rw [List.take_add_one, h]; simp
      unfold rAt at *; rw [this]; omega
    | some x =>
      rw [rAt_succ L k x h]
      have := lineR_le (rAt L k) (cutR 32 x)
      omega
theorem rAt_ok (L : List ByteArray) (k : Nat) (hL : ∀ x ∈ L, x.size ≤ 100000) : OkNames (rAt L k).l0 ∧ OkPieces (rAt L k).l3 := by
  induction k with
  | zero => exact ⟨fun x hx => by simp [rAt, st0] at hx, fun x hx => by simp [rAt, st0] at hx⟩
  | succ k ih =>
    cases h : L[k]? with
    | none =>
      have : L.take (k + 1) = L.take k := by rw [List.take_add_one, h]; simp
      unfold rAt at *; rw [this]; exact ih
    | some x =>
      rw [rAt_succ L k x h]
      have hb := cutR_bounds (c := 32) (hL x (List.mem_of_getElem? h))
      exact lineR_ok _ _ ih (by omega) hb.2
end Go.Proofs.YtmeieeekjhjgjaaGreatDoor.H
