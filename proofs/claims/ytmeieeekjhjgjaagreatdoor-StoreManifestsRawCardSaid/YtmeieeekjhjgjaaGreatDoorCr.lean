/- The walk of ParseManifest. -/
import Derived.Test.YtmeieeekjhjgjaaGreatDoorCq
import Derived.Test.YtmeieeekjhjgjaaGreatDoorWLast
namespace Go.Proofs.YtmeieeekjhjgjaaGreatDoor.H
open Go.RowKit Go.Proofs.YtmeieeekjhjgjaaGreatDoorW.PrintWords Go.Proofs.YtmeieeekjhjgjaaGreatDoorW.PrintLast

/-- What ParseManifest answers. -/
def ParsePost (w : World) (s : ByteArray) (e : Ending) (w' : World) : Prop := Below w.heap.size w w' ∧
  ((sealB (headB s) = s ∧ validSt (parseP (headB s)) = true ∧ manSt (parseP (headB s)) = s ∧ ∃ A0 c0 A3 c3, e = .returned (.tuple #[.agg #[.slice A0 (parseP (headB s)).l0.length c0, .int .i64 (parseP (headB s)).next, .int .i64 (parseP (headB s)).j, .slice A3 (parseP (headB s)).l3.length c3, .slice none 0 0], .int .i64 0])
      ∧ Kd.C k70 w' A0 (parseP (headB s)).l0.length (parseP (headB s)).l0 ∧ (parseP (headB s)).l0.length ≤ c0 ∧ Kd.C k72 w' A3 (parseP (headB s)).l3.length (parseP (headB s)).l3 ∧ (parseP (headB s)).l3.length ≤ c3)
   ∨ (¬ (sealB (headB s) = s ∧ validSt (parseP (headB s)) = true ∧ manSt (parseP (headB s)) = s) ∧ e = .returned (.tuple #[.agg zeroStore, .int .i64 9])))
theorem splitAny (s sep : ByteArray) (n : Nat) (w : World) (hn : w.heap.size = n) (hs : s.size ≤ 100000) (hg : Glob w) (h1 : 1 ≤ sep.size) :
    Calls Tryz.prog 30 #[.string s, .string sep] w fun e w' => e = .returned (.slice (some ⟨n, 0, none⟩) (cutAt sep s).length (cutAt sep s).length) ∧ w' = w.alloc (.cells ((cutAt sep s).map Value.string).toArray 9) := by
  subst hn
  obtain ⟨m, hm⟩ := hg.max
  refine (Tryz.strings_Split s sep m w (by omega) hm h1).mono ?_
  rintro e w' ⟨rfl, rfl⟩
  rw [cutAt_length sep s h1]
  exact ⟨rfl, rfl⟩
theorem cut_mk (sep s : ByteArray) : Lib.splitB sep 0 (Lib.countB s sep) s = cutAt sep s := rfl
theorem bytesRB (n : Nat) (s : ByteArray) (W : World) (hs : s.size ≤ 100000) (hn : W.heap.size = n) : RB (Lib.bytesWorld W 5 s) (some ⟨n, 0, none⟩) s := by
  subst hn; exact bytes_reads W 5 s (by omega)
theorem clone32 (n b c : Nat) (r : List ByteArray) (w : World) (hn : r.length = n) (hb : ∀ k y, r[k]? = some y → w.cell? ⟨b, 2 + k, none⟩ = some (.string y)) (hl : r.length ≤ 100001) :
    Calls Tryz.prog 32 #[.slice (some ⟨b, 2, none⟩) n c] w fun e w' => ∃ v', e = .returned v' ∧ Kd.string.R 9 w' w.heap.size (fun k => w.heap.size ≤ k) v' r ∧ Below w.heap.size w w' := by
  subst hn
  refine (Tryz.slices_Clone_string b 2 r.length c r w (Nat.le_refl _) (by omega) (fun j hj => by
    have hx := List.getElem?_eq_getElem hj
    rw [hb j _ hx, List.getD_eq_getElem?_getD, hx]; rfl)).mono ?_
  rintro e w' ⟨v', rfl, ho, _, hw⟩
  rw [List.take_length] at ho
  exact ⟨v', rfl, Kd.R_of_own ho (fun k hk => own_base ho k hk), hw⟩
theorem clone32if (b : Nat) (r : List ByteArray) (w : World) [inst : Decidable (r = [])] (hb : ∀ k y, r[k]? = some y → w.cell? ⟨b, 2 + k, none⟩ = some (.string y)) (hl : r.length ≤ 100001) :
    Calls Tryz.prog 32 #[.slice (if r = [] then some ⟨b, 0, none⟩ else some ⟨b, 2, none⟩) r.length r.length] w fun e w' => ∃ v', e = .returned v' ∧ Kd.string.R 9 w' w.heap.size (fun k => w.heap.size ≤ k) v' r ∧ Below w.heap.size w w' := by
  by_cases h : r = []
  · rw [if_pos h]
    subst h
    refine (Tryz.slices_Clone_string_zero ⟨b, 0, none⟩ 0 w).mono ?_
    rintro e w' ⟨v', rfl, ho, _, hw⟩
    exact ⟨v', rfl, Kd.R_of_own ho (fun k hk => own_base ho k hk), hw⟩
  · rw [if_neg h]
    exact clone32 _ b _ r w rfl hb hl
/-- The five cells written into the result's box. -/
theorem result_box {w0 w5 : World} {b2 : Nat} {l0 : List S70} {l3 : List S72} {A0 A3 : Option Addr} {a0 a3 : Nat} {n j : Int} (hb : Below w0.heap.size w0 w5) (h2 : w0.heap.size ≤ b2) (hx : w5.heap[b2]? = some (.cells zeroStore 27 (0, 0))) (hR0 : k70.R 70 w5 w0.heap.size any (.slice A0 l0.length a0) l0) (hR3 : k72.R 72 w5 w0.heap.size any (.slice A3 l3.length a3) l3) :
    ∀ W, W = (((((w5.setCell ⟨b2, 0, none⟩ (.slice A0 l0.length a0)).setCell ⟨b2, 1, none⟩ (.int .i64 n)).setCell ⟨b2, 2, none⟩ (.int .i64 j)).setCell ⟨b2, 3, none⟩ (.slice A3 l3.length a3)).setCell ⟨b2, 4, none⟩ (.slice none 0 0)) →
      Below w0.heap.size w0 W ∧ W.heap[b2]? = some (.cells #[.slice A0 l0.length a0, .int .i64 n, .int .i64 j, .slice A3 l3.length a3, .slice none 0 0] 27 (0, 0)) ∧ k70.R 70 W w0.heap.size any (.slice A0 l0.length a0) l0 ∧ k72.R 72 W w0.heap.size any (.slice A3 l3.length a3) l3 := by
  rintro W rfl
  have x0 := blk_put hx 0 (.slice A0 l0.length a0) (cs' := #[.slice A0 l0.length a0, .int .i64 0, .int .i64 0, .slice none 0 0, .slice none 0 0]) rfl
  have r0 := Kd.R_set hR0 hx (by decide) 0 (.slice A0 l0.length a0)
  have t0 := Kd.R_set hR3 hx (by decide) 0 (.slice A0 l0.length a0)
  have x1 := blk_put x0 1 (.int .i64 n) (cs' := #[.slice A0 l0.length a0, .int .i64 n, .int .i64 0, .slice none 0 0, .slice none 0 0]) rfl
  have r1 := Kd.R_set r0 x0 (by decide) 1 (.int .i64 n)
  have t1 := Kd.R_set t0 x0 (by decide) 1 (.int .i64 n)
  have x2 := blk_put x1 2 (.int .i64 j) (cs' := #[.slice A0 l0.length a0, .int .i64 n, .int .i64 j, .slice none 0 0, .slice none 0 0]) rfl
  have r2 := Kd.R_set r1 x1 (by decide) 2 (.int .i64 j)
  have t2 := Kd.R_set t1 x1 (by decide) 2 (.int .i64 j)
  have x3 := blk_put x2 3 (.slice A3 l3.length a3) (cs' := #[.slice A0 l0.length a0, .int .i64 n, .int .i64 j, .slice A3 l3.length a3, .slice none 0 0]) rfl
  have r3 := Kd.R_set r2 x2 (by decide) 3 (.slice A3 l3.length a3)
  have t3 := Kd.R_set t2 x2 (by decide) 3 (.slice A3 l3.length a3)
  exact ⟨below_set (below_set (below_set (below_set (below_set hb h2) h2) h2) h2) h2, blk_put x3 4 _ rfl, Kd.R_set r3 x3 (by decide) 4 _, Kd.R_set t3 x3 (by decide) 4 _⟩
theorem zero_set {w : World} {b : Nat} (h : w.heap[b]? = some (.cells zeroStore 27 (0, 0))) (i : Nat) (v : Value) (hv : zeroStore[i]? = some v) : w.setCell ⟨b, i, none⟩ v = w := by
  have hlt := blk_lt h
  have hi : i < zeroStore.size := (Array.getElem?_eq_some_iff.1 hv).1
  have e : zeroStore.setIfInBounds i v = zeroStore := by
    apply Array.ext
    · simp
    · intro j h1 h2
      rw [Array.getElem_setIfInBounds]
      split
      · rename_i hij; subst hij
        exact (Array.getElem?_eq_some_iff.1 hv).2.symm
      · rfl
  have hh : w.heap.modify b (fun
      | .cells c elem frozen => .cells (if (⟨b, i, none⟩ : Addr).spot.isSome then c else c.setIfInBounds i v) elem frozen
      | o => o) = w.heap := by
    apply Array.ext_getElem?
    intro j
    rw [Array.getElem?_modify]
    split
    · rename_i hj; subst hj
      rw [h]; simp [e]
    · rfl
  unfold World.setCell
  exact congrArg (fun x => { w with heap := x }) hh
def stAt (L : List ByteArray) (k : Nat) : St := (L.take k).foldl (fun st line => lineP st (cutAt sp line)) st0
theorem stAt_succ (L : List ByteArray) (k : Nat) (x : ByteArray) (h : L[k]? = some x) : stAt L (k + 1) = lineP (stAt L k) (cutAt sp x) := by
  unfold stAt; rw [List.take_add_one, h]; simp
theorem stAt_le (L : List ByteArray) (k : Nat) : (stAt L k).l0.length ≤ k ∧ (stAt L k).l3.length ≤ k := by
  induction k with
  | zero => simp [stAt, st0]
  | succ k ih =>
    cases h : L[k]? with
    | none =>
      have : L.take (k + 1) = L.take k := by rw [List.take_add_one, h]; simp
      unfold stAt at *; rw [this]; omega
    | some x =>
      rw [stAt_succ L k x h]
      have := St.l0_le (stAt L k) (cutAt sp x)
      omega
theorem lineP_ok (st : St) (ws : List ByteArray) (h : OkNames st.l0 ∧ OkPieces st.l3) (hl : ws.length ≤ 1000000) (hs : ∀ x ∈ ws, x.size ≤ 100000) : OkNames (lineP st ws).l0 ∧ OkPieces (lineP st ws).l3 := by
  unfold lineP
  split
  · rename_i w0 w1 r
    split
    · exact h
    · split
      · exact h
      · split
        · refine ⟨fun x hx => ?_, h.2⟩
          rcases List.mem_append.1 hx with hx | hx
          · exact h.1 x hx
          · rw [List.mem_singleton.1 hx]
            have := hs w1 (by simp)
            show w1.size ≤ _; omega
        · split
          · refine ⟨h.1, fun x hx => ?_⟩
            rcases List.mem_append.1 hx with hx | hx
            · exact h.2 x hx
            · rw [List.mem_singleton.1 hx]
              simp only [List.length_cons] at hl
              exact ⟨by show r.length ≤ _; omega, fun y hy => by have := hs y (by simp [show y ∈ r from hy]); omega⟩
          · exact h
  · exact h
theorem stAt_ok (L : List ByteArray) (k : Nat) (hL : ∀ x ∈ L, x.size ≤ 100000) : OkNames (stAt L k).l0 ∧ OkPieces (stAt L k).l3 := by
  induction k with
  | zero => exact ⟨fun x hx => by simp [stAt, st0] at hx, fun x hx => by simp [stAt, st0] at hx⟩
  | succ k ih =>
    cases h : L[k]? with
    | none =>
      have : L.take (k + 1) = L.take k := by rw [List.take_add_one, h]; simp
      unfold stAt at *; rw [this]; exact ih
    | some x =>
      rw [stAt_succ L k x h]
      have hx := hL x (List.mem_of_getElem? h)
      refine lineP_ok _ _ ih ?_ (fun y hy => Nat.le_trans (cutAt_sizes sp x y hy) hx)
      rw [cutAt_length _ _ (by decide)]; have := countB_le sp x (by decide); omega
theorem words_cells {w : World} {ws : List ByteArray} {w0 w1 : ByteArray} {r : List ByteArray} (h : ws = w0 :: w1 :: r) (k : Nat) (x : ByteArray) (hx : (w0 :: w1 :: r)[k]? = some x) : (w.alloc (.cells (ws.map Value.string).toArray 9)).cell? ⟨w.heap.size, k, none⟩ = some (.string x) := by
  subst h; exact row_strs (blk_new w _) k x hx
set_option maxRecDepth 100000 in
set_option maxHeartbeats 2000000 in
theorem parse9 (s : ByteArray) (hs : s.size ≤ 100000) (w : World) (hg : Glob w) : Calls Tryz.prog 9 #[.string s] w (ParsePost w s) := by
  have HG := Lib.hid hg
  have hgs := hg.size
  have kb9 := fun (s : ByteArray) W => print_bytes (P := Tryz.prog) 9 43 5 Tryz.underlying9 Tryz.underlying43 Tryz.underlying5 s W
  clear hg
  go_enter Tryz.func9, Tryz.ntmps9
  go_wp2_with fail
  refine (unsealAny _ _ _ s _ rfl (by exact bytesRB _ s _ hs (by simp)) (grownCap_ge ..) (by omega)).mono ?_
  have hbb : Below w.heap.size w (Lib.bytesWorld (w.alloc (.cells zeroStore 27)) 5 s) := bytes_below (below_alloc (Below.refl _ w) _) (by simp) 5 s
  have hbx : (Lib.bytesWorld (w.alloc (.cells zeroStore 27)) 5 s).heap[w.heap.size]? = some (.cells zeroStore 27 (0, 0)) := (Lib.bytesWorld_at_old _ 5 s _ (by simp)).trans (blk_new w _)
  change Below w.heap.size w (Lib.bytesWorld (w.alloc (.cells #[.slice none 0 0, .int .i64 0, .int .i64 0, .slice none 0 0, .slice none 0 0] 27)) 5 s) at hbb
  change (Lib.bytesWorld (w.alloc (.cells #[.slice none 0 0, .int .i64 0, .int .i64 0, .slice none 0 0, .slice none 0 0] 27)) 5 s).heap[w.heap.size]? = _ at hbx
  generalize Lib.bytesWorld (w.alloc (.cells #[.slice none 0 0, .int .i64 0, .int .i64 0, .slice none 0 0, .slice none 0 0] 27)) 5 s = W0 at *
  rintro e w1 ⟨hb1, ⟨he, v, rfl, hv⟩ | ⟨he, c, hc, rfl⟩⟩
  case inr =>
    have hc' : ¬ c = 0 := hc
    have hb1' := below_then hbb hbb.size hb1
    have HX := Lib.hid (blk_below hbx hb1)
    have z0 := zero_set HX.out 0 (.slice none 0 0) rfl
    have z1 := zero_set HX.out 1 (.int .i64 0) rfl
    have z2 := zero_set HX.out 2 (.int .i64 0) rfl
    have z3 := zero_set HX.out 3 (.slice none 0 0) rfl
    have z4 := zero_set HX.out 4 (.slice none 0 0) rfl
    have q0 := (blk_cell HX.out 0).trans (show _ = some (Value.slice none 0 0) from rfl)
    have q1 := (blk_cell HX.out 1).trans (show _ = some (Value.int .i64 0) from rfl)
    have q2 := (blk_cell HX.out 2).trans (show _ = some (Value.int .i64 0) from rfl)
    have q3 := (blk_cell HX.out 3).trans (show _ = some (Value.slice none 0 0) from rfl)
    have q4 := (blk_cell HX.out 4).trans (show _ = some (Value.slice none 0 0) from rfl)
    have f0 := fun i => blk_frozen HX.out i
    clear hbx hbb hb1
    go_wp2_with fail
    refine bodyPost_ret (v := .tuple #[.agg zeroStore, .int .i64 9]) (by simp [results, Tryz.results9, go_sem, q0, q1, q2, q3, q4, zeroStore]) rfl ⟨hb1', .inr ⟨fun h => he h.1, rfl⟩⟩
  have hb1' := below_then hbb hbb.size hb1
  have HX := Lib.hid (blk_below hbx hb1)
  obtain ⟨A, c, rfl, hc, hr⟩ := id hv
  have hkc : (convert 43 9 (.slice A (headB s).size c)).run Tryz.prog (w1.alloc (.cells #[.slice none 0 0, .int .i64 0, .int .i64 0, .slice none 0 0, .slice none 0 0] 27)) = .ok (.string (headB s)) (w1.alloc (.cells #[.slice none 0 0, .int .i64 0, .int .i64 0, .slice none 0 0, .slice none 0 0] 27)) := RV.str ⟨A, c, rfl, hc, ReadsInt.below hr (below_alloc (Below.refl _ _) _)⟩
  have HHB : Hid ((headB s).size ≤ 100000) := Lib.hid (by unfold headB; rw [ByteArray.size_extract]; omega)
  clear hbx hbb hb1
  have HLL : Hid ((cutAt lf (headB s)).length ≤ 100001 ∧ ∀ x ∈ cutAt lf (headB s), x.size ≤ 100000) := Lib.hid ⟨by rw [cutAt_length _ _ (by decide)]; have := countB_le lf (headB s) (by decide); have := HHB.out; omega, fun x hx => by have := cutAt_sizes lf (headB s) x hx; have := HHB.out; omega⟩
  have HPP : Hid (parseP (headB s) = (cutAt lf (headB s)).foldl (fun st line => lineP st (cutAt sp line)) st0) := Lib.hid rfl
  have hs1 := hb1'.size
  have hblk := blk_lt HX.out
  go_wp2_with fail
  refine (splitAny (headB s) lf _ _ (by simp; rfl) HHB.out (HG.out.below' (below_alloc hb1' _)) (by decide)).mono ?_
  rintro e w2 ⟨rfl, rfl⟩
  generalize cutAt lf (headB s) = L at *
  have hLL := HLL.out.1
  have HP0 : Hid (PS w.heap.size w1.heap.size (w1.heap.size + 1) L w ((w1.alloc (.cells #[.slice none 0 0, .int .i64 0, .int .i64 0, .slice none 0 0, .slice none 0 0] 27)).alloc (.cells (L.map Value.string).toArray 9)) st0) := Lib.hid (by
    refine ⟨below_alloc (below_alloc hb1' _) _, ⟨none, 0, none, 0, blk_alloc (blk_new w1 _) _, Kd.R_nil .., Kd.R_nil ..⟩, blk_alloc (blk_alloc HX.out _) _, ?_, hs1, by omega, by omega⟩
    have := blk_new (w1.alloc (.cells #[.slice none 0 0, .int .i64 0, .int .i64 0, .slice none 0 0, .slice none 0 0] 27)) (.cells (L.map Value.string).toArray 9)
    rwa [World.size_alloc] at this)
  go_wp2_with fail
  go_loopw [25] (fun i wr => ∃ k : Nat, k ≤ L.length ∧ i = .int .i64 k ∧ Hid (PS w.heap.size w1.heap.size (w1.heap.size + 1) L w wr (stAt L k))) (fun i _ => L.length - (intOf i).toNat)
  case atStart => exact ⟨0, by omega, rfl, HP0⟩
  case round =>
    obtain ⟨k, hk, rfl, HP⟩ := hrel
    clear HP0 HX hkc
    by_cases hlt : k < L.length
    · have hx := List.getElem?_eq_getElem hlt
      have HXS := Lib.hid (HLL.out.2 _ (List.getElem_mem hlt))
      generalize L[k] = x at *
      have hcl : wr.cell? ⟨w1.heap.size + 1, k, none⟩ = some (.string x) := row_strs HP.out.lines k x hx
      have HSU := Lib.hid (stAt_succ L k x hx)
      have HSL := Lib.hid (stAt_le L k)
      generalize stAt L k = st at *
      clear hx
      have HGR : Hid (Glob wr) := Lib.hid (HG.out.below' HP.out.below)
      go_wp2_with fail
      refine (splitAny x sp _ _ rfl HXS.out HGR.out (by decide)).mono ?_
      rintro e w3 ⟨rfl, rfl⟩
      have HWS : Hid (∀ y ∈ cutAt sp x, y.size ≤ 100000) := Lib.hid (fun y hy => by have := cutAt_sizes sp x y hy; have := HXS.out; omega)
      have HWN : Hid ((cutAt sp x).length ≤ 100001) := Lib.hid (by rw [cutAt_length _ _ (by decide)]; have := countB_le sp x (by decide); have := HXS.out; omega)
      generalize hws : cutAt sp x = ws at *
      have HPW : Hid (PS w.heap.size w1.heap.size (w1.heap.size + 1) L w (wr.alloc (.cells (ws.map Value.string).toArray 9)) st) := Lib.hid (HP.out.step (below_alloc (Below.refl _ _) _))
      rcases ws with _ | ⟨w0, _ | ⟨w1', r⟩⟩
      case nil =>
        go_wp2_with fail
        go_roundw
        case rel => exact ⟨k + 1, by omega, by go_num, by rw [HSU.out]; exact HPW⟩
        case measure => simp [intOf]; omega
      case cons.nil =>
        go_wp2_with fail
        go_roundw
        case rel => exact ⟨k + 1, by omega, by go_num, by rw [HSU.out]; exact HPW⟩
        case measure => simp [intOf]; omega
      have HC0 : Hid (∀ k y, (w0 :: w1' :: r)[k]? = some y → (wr.alloc (.cells ((w0 :: w1' :: r).map Value.string).toArray 9)).cell? ⟨wr.heap.size, k, none⟩ = some (.string y)) := Lib.hid (fun k y hy => words_cells rfl k y hy)
      have HBW : Hid (wr.heap.size < (wr.alloc (.cells ((w0 :: w1' :: r).map Value.string).toArray 9)).heap.size) := Lib.hid (by simp)
      generalize hW : wr.alloc (.cells ((w0 :: w1' :: r).map Value.string).toArray 9) = W at *
      have hln : (w0 :: w1' :: r).length = r.length + 2 := rfl
      rw [hln] at *
      have c0 := HC0.out 0 w0 rfl
      have c1 := HC0.out 1 w1' rfl
      clear hW HP hws hln
      have hrl : r.length ≤ 100001 := by have := HWN.out; simp only [List.length_cons] at this; omega
      have HGW : Hid (∀ V, Below W.heap.size W V → Glob V) := Lib.hid fun V hV => HG.out.below' (HPW.out.step hV).below
      have HWS1 : Hid (w1'.size ≤ 100000) := Lib.hid (HWS.out w1' (by simp))
      generalize e1 : (w0.toList == [110, 101, 120, 116]) = t1
      generalize e2 : (w0.toList == [106, 111, 117, 114, 110, 97, 108]) = t2
      generalize e3 : (w0.toList == [97, 116, 116, 114, 105, 98, 117, 116, 101]) = t3
      generalize e4 : (w0.toList == [112, 105, 101, 99, 101]) = t4
      have HT : Hid (lineP st (w0 :: w1' :: r) = if t1 = true then { st with next := numB w1' } else if t2 = true then { st with j := numB w1' } else if t3 = true then { st with l0 := st.l0 ++ [⟨w1', decide (r.head? = some ⟨#[49]⟩)⟩] } else if t4 = true then { st with l3 := st.l3 ++ [⟨numB w1', r⟩] } else st) := Lib.hid (by
        rw [← e1, ← e2, ← e3, ← e4]
        have k1 : (w0.toList == [110, 101, 120, 116]) = decide (w0 = wordNext) := by rw [← toList_beq]; rw [ByteArray.toList_eq wordNext]; rfl
        have k2 : (w0.toList == [106, 111, 117, 114, 110, 97, 108]) = decide (w0 = wordJournal) := by rw [← toList_beq]; rw [ByteArray.toList_eq wordJournal]; rfl
        have k3 : (w0.toList == [97, 116, 116, 114, 105, 98, 117, 116, 101]) = decide (w0 = wordAttribute) := by rw [← toList_beq]; rw [ByteArray.toList_eq wordAttribute]; rfl
        have k4 : (w0.toList == [112, 105, 101, 99, 101]) = decide (w0 = wordPiece) := by rw [← toList_beq]; rw [ByteArray.toList_eq wordPiece]; rfl
        rw [k1, k2, k3, k4]
        simp only [decide_eq_true_eq]
        rfl)
      obtain ⟨A0, a0, A3, a3, hbx, hR0, hR3⟩ := HPW.out.box
      have HBX := Lib.hid hbx
      have HR0 := Lib.hid hR0
      have HR3 := Lib.hid hR3
      clear hbx hR0 hR3
      cases t1
      case true =>
        rw [if_pos rfl] at HT
        go_wp2_with fail
        refine (number31 w1' (by have := HWS1.out; omega) W (HGW.out W (Below.refl _ _))).mono ?_
        rintro e w4 ⟨rfl, hb4⟩
        have HP4 := Lib.hid ((HPW.out.step hb4).setNext (numB w1'))
        have q1 := (blk_cell (blk_below HBX.out hb4) 1).trans (show _ = some (Value.int .i64 st.next) from rfl)
        have f1 := fun i => blk_frozen (blk_below HBX.out hb4) i
        go_wp2_with fail
        go_roundw
        case rel => exact ⟨k + 1, by omega, by go_num, by rw [HSU.out, HT.out]; exact HP4⟩
        case measure => simp [intOf]; omega
      case false =>
        rw [if_neg (by decide)] at HT
        cases t2
        case true =>
          rw [if_pos rfl] at HT
          go_wp2_with fail
          refine (number31 w1' (by have := HWS1.out; omega) W (HGW.out W (Below.refl _ _))).mono ?_
          rintro e w4 ⟨rfl, hb4⟩
          have HP4 := Lib.hid ((HPW.out.step hb4).setJ (numB w1'))
          have q1 := (blk_cell (blk_below HBX.out hb4) 2).trans (show _ = some (Value.int .i64 st.j) from rfl)
          have f1 := fun i => blk_frozen (blk_below HBX.out hb4) i
          go_wp2_with fail
          go_roundw
          case rel => exact ⟨k + 1, by omega, by go_num, by rw [HSU.out, HT.out]; exact HP4⟩
          case measure => simp [intOf]; omega
        case false =>
          rw [if_neg (by decide)] at HT
          cases t3
          case true =>
            rw [if_pos rfl] at HT
            have q0 := (blk_cell HBX.out 0).trans (show _ = some (Value.slice A0 st.l0.length a0) from rfl)
            have f1 := fun i => blk_frozen HBX.out i
            rcases r with _ | ⟨r0, r⟩
            · have HDR : Hid (decide (([] : List ByteArray).head? = some ⟨#[49]⟩) = false) := Lib.hid (by simp)
              go_wp2_with fail
              refine start_ (n := 19) (S := fun w' => w'.cell? ⟨w1.heap.size, 0, none⟩ = some (.slice A0 st.l0.length a0) ∧ w'.cell? ⟨wr.heap.size, 1, none⟩ = some (.string w1')) (ds := [16, 18]) #[false, false, false, false, false, false, false, false, false, false, false, false, false, false, false, false, false, false, false] (by kernel_rfl) rfl rfl ⟨q0, c1⟩ (fun hHeld => ?_)
              refine pure_ (i := 0) (N := some 53) (v := ?_) (a' := ?_) #[true, false, false, false, false, false, false, false, false, false, false, false, false, false, false, false, false, false, false] rfl rfl (by kernel_rfl) (fun _ _ _ h => h) (Or.inl ⟨by rfl, ?_⟩) ?_ ?_
              rotate_left
              · intro w'
                go_simp
                with_reducible rfl
              rotate_left
              · simp only [Act.put, List.setIfInBounds_toArray, List.set_cons_zero, List.set_cons_succ, i64_w, i32_w]
                rfl
              refine pure_ (i := 2) (N := some 55) (v := ?_) (a' := ?_) #[true, false, true, false, false, false, false, false, false, false, false, false, false, false, false, false, false, false, false] rfl rfl (by kernel_rfl) (fun _ _ _ h => h) (Or.inl ⟨by rfl, ?_⟩) ?_ ?_
              rotate_left
              · intro w'
                go_simp
                with_reducible rfl
              rotate_left
              · simp only [Act.put, List.setIfInBounds_toArray, List.set_cons_zero, List.set_cons_succ, i64_w, i32_w]
                rfl
              refine pure_ (i := 3) (N := some 56) (v := ?_) (a' := ?_) #[true, false, true, true, false, false, false, false, false, false, false, false, false, false, false, false, false, false, false] rfl rfl (by kernel_rfl) (fun _ _ _ h => h) (Or.inl ⟨by rfl, ?_⟩) ?_ ?_
              rotate_left
              · intro w'
                go_simp
                with_reducible rfl
              rotate_left
              · simp only [Act.put, List.setIfInBounds_toArray, List.set_cons_zero, List.set_cons_succ, i64_w, i32_w]
                rfl
              refine pure_ (i := 5) (N := some 58) (v := ?_) (a' := ?_) #[true, false, true, true, false, true, false, false, false, false, false, false, false, false, false, false, false, false, false] rfl rfl (by kernel_rfl) (fun _ _ _ h => h) (Or.inl ⟨by rfl, ?_⟩) ?_ ?_
              rotate_left
              · intro w'
                go_simp
                with_reducible rfl
              rotate_left
              · simp only [Act.put, List.setIfInBounds_toArray, List.set_cons_zero, List.set_cons_succ, i64_w, i32_w]
                rfl
              refine pure_ (i := 6) (N := some 59) (v := ?_) (a' := ?_) #[true, false, true, true, false, true, true, false, false, false, false, false, false, false, false, false, false, false, false] rfl rfl (by kernel_rfl) (fun _ _ _ h => h) (Or.inl ⟨by rfl, ?_⟩) ?_ ?_
              rotate_left
              · intro w'
                go_simp
                with_reducible rfl
              rotate_left
              · simp only [Act.put, List.setIfInBounds_toArray, List.set_cons_zero, List.set_cons_succ, i64_w, i32_w]
                rfl
              refine pure_ (i := 7) (N := some 60) (v := ?_) (a' := ?_) #[true, false, true, true, false, true, true, true, false, false, false, false, false, false, false, false, false, false, false] rfl rfl (by kernel_rfl) (fun _ _ _ h => h) (Or.inl ⟨by rfl, ?_⟩) ?_ ?_
              rotate_left
              · intro w'
                go_simp
                with_reducible rfl
              rotate_left
              · simp only [Act.put, List.setIfInBounds_toArray, List.set_cons_zero, List.set_cons_succ, i64_w, i32_w]
                rfl
              refine pure_ (i := 8) (N := some 61) (v := ?_) (a' := ?_) #[true, false, true, true, false, true, true, true, true, false, false, false, false, false, false, false, false, false, false] rfl rfl (by kernel_rfl) (fun _ _ _ h => h) (Or.inl ⟨by rfl, ?_⟩) ?_ ?_
              rotate_left
              · intro w'
                go_simp
                with_reducible rfl
              rotate_left
              · simp only [Act.put, List.setIfInBounds_toArray, List.set_cons_zero, List.set_cons_succ, i64_w, i32_w]
                rfl
              refine pure_ (i := 9) (N := some 62) (v := undef) (a' := ?_) #[true, false, true, true, false, true, true, true, true, true, false, false, false, false, false, false, false, false, false] rfl rfl (by kernel_rfl) (fun _ _ _ h => h) (Or.inr ⟨by rfl, rfl⟩) ?_ ?_
              rotate_left
              · simp only [Act.put, List.setIfInBounds_toArray, List.set_cons_zero, List.set_cons_succ, i64_w, i32_w]
                rfl
              refine pure_ (i := 10) (N := some 63) (v := undef) (a' := ?_) #[true, false, true, true, false, true, true, true, true, true, true, false, false, false, false, false, false, false, false] rfl rfl (by kernel_rfl) (fun _ _ _ h => h) (Or.inr ⟨by rfl, rfl⟩) ?_ ?_
              rotate_left
              · simp only [Act.put, List.setIfInBounds_toArray, List.set_cons_zero, List.set_cons_succ, i64_w, i32_w]
                rfl
              refine pure_ (i := 11) (N := some 64) (v := undef) (a' := ?_) #[true, false, true, true, false, true, true, true, true, true, true, true, false, false, false, false, false, false, false] rfl rfl (by kernel_rfl) (fun _ _ _ h => h) (Or.inr ⟨by rfl, rfl⟩) ?_ ?_
              rotate_left
              · simp only [Act.put, List.setIfInBounds_toArray, List.set_cons_zero, List.set_cons_succ, i64_w, i32_w]
                rfl
              refine pure_ (i := 12) (N := some 65) (v := undef) (a' := ?_) #[true, false, true, true, false, true, true, true, true, true, true, true, true, false, false, false, false, false, false] rfl rfl (by kernel_rfl) (fun _ _ _ h => h) (Or.inr ⟨by rfl, rfl⟩) ?_ ?_
              rotate_left
              · simp only [Act.put, List.setIfInBounds_toArray, List.set_cons_zero, List.set_cons_succ, i64_w, i32_w]
                rfl
              refine pure_ (i := 13) (N := some 66) (v := ?_) (a' := ?_) #[true, false, true, true, false, true, true, true, true, true, true, true, true, true, false, false, false, false, false] rfl rfl (by kernel_rfl) (fun _ _ _ h => h) (Or.inl ⟨by rfl, ?_⟩) ?_ ?_
              rotate_left
              · intro w'
                go_simp
                with_reducible rfl
              rotate_left
              · simp only [Act.put, List.setIfInBounds_toArray, List.set_cons_zero, List.set_cons_succ, i64_w, i32_w]
                rfl
              refine take_ (i := 1) (N := some 54) (v := ?_) (a' := ?_) #[true, true, true, true, false, true, true, true, true, true, true, true, true, true, false, false, false, false, false] rfl rfl (by kernel_rfl) (fun _ _ _ h => h) (Or.inl ⟨by rfl, ?_⟩) hHeld ?_ ?_
              rotate_left
              · rintro w' ⟨s0, s1⟩
                go_simp
                with_reducible rfl
              rotate_left
              · simp only [Act.put, List.setIfInBounds_toArray, List.set_cons_zero, List.set_cons_succ, i64_w, i32_w]
                rfl
              refine take_ (i := 4) (N := some 57) (v := ?_) (a' := ?_) #[true, true, true, true, true, true, true, true, true, true, true, true, true, true, false, false, false, false, false] rfl rfl (by kernel_rfl) (fun _ _ _ h => h) (Or.inl ⟨by rfl, ?_⟩) hHeld ?_ ?_
              rotate_left
              · rintro w' ⟨s0, s1⟩
                go_simp
                with_reducible rfl
              rotate_left
              · simp only [Act.put, List.setIfInBounds_toArray, List.set_cons_zero, List.set_cons_succ, i64_w, i32_w]
                rfl
              refine pure_ (i := 14) (N := some 67) (v := ?_) (a' := ?_) #[true, true, true, true, true, true, true, true, true, true, true, true, true, true, true, false, false, false, false] rfl rfl (by kernel_rfl) (fun _ _ _ h => h) (Or.inl ⟨by rfl, ?_⟩) ?_ ?_
              rotate_left
              · intro w'
                go_simp
                with_reducible rfl
              rotate_left
              · simp only [Act.put, List.setIfInBounds_toArray, List.set_cons_zero, List.set_cons_succ, i64_w, i32_w]
                rfl
              refine one_ (i := 15) (N := some 68) #[true, true, true, true, true, true, true, true, true, true, true, true, true, true, true, true, false, false, false] rfl rfl (by kernel_rfl) (by decide) (fun K hK => ?_)
              refine value_ (w1 := ?_) (v := ?_) (by rfl) rfl ?_ ?_
              rotate_left 2
              · go_simp
                constructor
                · rfl
                · rfl
              refine hK.out _ _ ⟨pw_cell_below (below_alloc (Below.refl _ _) _) q0, pw_cell_below (below_alloc (Below.refl _ _) _) c1⟩ (fun hHeld => ?_)
              clear hK K
              refine norm_ (a' := ?_) ?_ ?_
              rotate_left
              · show Act.put _ (some 68) _ = _
                simp only [Act.put, List.setIfInBounds_toArray, List.set_cons_zero, List.set_cons_succ, i64_w, i32_w]
                rfl
              refine last_ (i := 16) (N := some 69) #[true, true, true, true, true, true, true, true, true, true, true, true, true, true, true, true, true, false, false] rfl rfl (by kernel_rfl) (by decide) (fun K hK => ?_)
              refine Kd.R_append_step k70 (w0 := w) (W := W.drew) w.heap.size (by rfl) (.tmp 54) (.tmp 68) 23 70 (.agg #[.string ⟨#[]⟩, .bool false]) 24 rfl Tryz.underlying23 info70 rfl (by decide) (by decide) (.slice A0 st.l0.length a0) st.l0 ⟨w1', false⟩ [.string w1', .bool (false)] any (fun _ => False) rfl rfl (k70_M _ _ _ ⟨w1', false⟩) (fun _ h => h.elim) (fun _ _ => trivial) HR0.out (below_drew HPW.out.below) (by exact HPW.out.size) (by have := HSL.out.1; omega) ?_
              intro v1 w5 hR1 hb1 hg1 hat1
              obtain ⟨Av, cv, hv1, hcv, _⟩ := Kd.R_reads hR1
              generalize (_ : List _).length = nv at hv1
              subst hv1
              have HR1 := Lib.hid hR1
              have HB1 := Lib.hid hb1
              have HG1 := Lib.hid hg1
              have HX1 := Lib.hid (R_blk (w := W.drew) HBX.out HR0.out HG1.out (by decide))
              have q5 := (blk_cell HX1.out 0).trans (show _ = some (Value.slice A0 st.l0.length a0) from rfl)
              have f5 := fun i => blk_frozen HX1.out i
              clear hR1 hb1 hg1 hat1
              refine hK.out _ _ ?_
              clear hK K
              refine norm_ (a' := ?_) ?_ ?_
              rotate_left
              · show Act.put _ (some 69) _ = _
                simp only [Act.put, List.setIfInBounds_toArray, List.set_cons_zero, List.set_cons_succ, i64_w, i32_w]
                rfl
              refine pure_ (i := 17) (N := some 70) (v := ?_) (a' := ?_) #[true, true, true, true, true, true, true, true, true, true, true, true, true, true, true, true, true, true, false] rfl rfl (by kernel_rfl) (fun _ _ _ h => h) (Or.inl ⟨by rfl, ?_⟩) ?_ ?_
              rotate_left
              · intro w'
                go_simp
                with_reducible rfl
              rotate_left
              · simp only [Act.put, List.setIfInBounds_toArray, List.set_cons_zero, List.set_cons_succ, i64_w, i32_w]
                rfl
              refine last_ (i := 18) (N := none) #[true, true, true, true, true, true, true, true, true, true, true, true, true, true, true, true, true, true, true] rfl rfl (by kernel_rfl) (by decide) (fun K hK => ?_)
              refine skip_ (w1 := ?_) (by rfl) rfl ?_ ?_
              rotate_left
              · go_simp
                rfl
              refine hK.out _ _ ?_
              clear hK K
              refine done_ (by kernel_rfl) ?_
              go_wp2_with fail
              go_roundw
              case rel => exact ⟨k + 1, by omega, by go_num, by rw [HSU.out, HT.out, HDR.out]; exact Lib.hid ((HPW.out.step (below_drew (Below.refl _ W))).put0 ⟨_, _, _, _, HBX.out⟩ HR1.out HB1.out HG1.out)⟩
              case measure => simp [intOf]; omega
            · have c2 := HC0.out 2 r0 rfl
              have b1 : (1 : Int) < ↑r.length + 1 + 2 := by omega
              have b2 : (2 : Int) < ↑r.length + 1 + 2 := by omega
              have HDR : Hid (decide ((r0 :: r).head? = some ⟨#[49]⟩) = (r0.toList == [49])) := Lib.hid (by
                have k5 : (r0.toList == [49]) = decide (r0 = ⟨#[49]⟩) := by rw [← toList_beq]; rw [ByteArray.toList_eq ⟨#[49]⟩]
                rw [k5]; simp)
              go_wp2_with fail
              refine start_ (n := 19) (S := fun w' => w'.cell? ⟨w1.heap.size, 0, none⟩ = some (.slice A0 st.l0.length a0) ∧ w'.cell? ⟨wr.heap.size, 1, none⟩ = some (.string w1') ∧ w'.cell? ⟨wr.heap.size, 2, none⟩ = some (.string r0)) (ds := [16, 18]) #[false, false, false, false, false, false, false, false, false, false, false, false, false, false, false, false, false, false, false] (by kernel_rfl) rfl rfl ⟨q0, c1, c2⟩ (fun hHeld => ?_)
              refine pure_ (i := 0) (N := some 53) (v := ?_) (a' := ?_) #[true, false, false, false, false, false, false, false, false, false, false, false, false, false, false, false, false, false, false] rfl rfl (by kernel_rfl) (fun _ _ _ h => h) (Or.inl ⟨by rfl, ?_⟩) ?_ ?_
              rotate_left
              · intro w'
                go_simp
                with_reducible rfl
              rotate_left
              · simp only [Act.put, List.setIfInBounds_toArray, List.set_cons_zero, List.set_cons_succ, i64_w, i32_w]
                rfl
              refine pure_ (i := 2) (N := some 55) (v := ?_) (a' := ?_) #[true, false, true, false, false, false, false, false, false, false, false, false, false, false, false, false, false, false, false] rfl rfl (by kernel_rfl) (fun _ _ _ h => h) (Or.inl ⟨by rfl, ?_⟩) ?_ ?_
              rotate_left
              · intro w'
                go_simp
                with_reducible rfl
              rotate_left
              · simp only [Act.put, List.setIfInBounds_toArray, List.set_cons_zero, List.set_cons_succ, i64_w, i32_w]
                rfl
              refine pure_ (i := 3) (N := some 56) (v := ?_) (a' := ?_) #[true, false, true, true, false, false, false, false, false, false, false, false, false, false, false, false, false, false, false] rfl rfl (by kernel_rfl) (fun _ _ _ h => h) (Or.inl ⟨by rfl, ?_⟩) ?_ ?_
              rotate_left
              · intro w'
                go_simp
                with_reducible rfl
              rotate_left
              · simp only [Act.put, List.setIfInBounds_toArray, List.set_cons_zero, List.set_cons_succ, i64_w, i32_w]
                rfl
              refine pure_ (i := 5) (N := some 58) (v := ?_) (a' := ?_) #[true, false, true, true, false, true, false, false, false, false, false, false, false, false, false, false, false, false, false] rfl rfl (by kernel_rfl) (fun _ _ _ h => h) (Or.inl ⟨by rfl, ?_⟩) ?_ ?_
              rotate_left
              · intro w'
                go_simp
                with_reducible rfl
              rotate_left
              · simp only [Act.put, List.setIfInBounds_toArray, List.set_cons_zero, List.set_cons_succ, i64_w, i32_w]
                rfl
              refine pure_ (i := 6) (N := some 59) (v := ?_) (a' := ?_) #[true, false, true, true, false, true, true, false, false, false, false, false, false, false, false, false, false, false, false] rfl rfl (by kernel_rfl) (fun _ _ _ h => h) (Or.inl ⟨by rfl, ?_⟩) ?_ ?_
              rotate_left
              · intro w'
                go_simp
                with_reducible rfl
              rotate_left
              · simp only [Act.put, List.setIfInBounds_toArray, List.set_cons_zero, List.set_cons_succ, i64_w, i32_w]
                rfl
              refine pure_ (i := 7) (N := some 60) (v := ?_) (a' := ?_) #[true, false, true, true, false, true, true, true, false, false, false, false, false, false, false, false, false, false, false] rfl rfl (by kernel_rfl) (fun _ _ _ h => h) (Or.inl ⟨by rfl, ?_⟩) ?_ ?_
              rotate_left
              · intro w'
                go_simp
                with_reducible rfl
              rotate_left
              · simp only [Act.put, List.setIfInBounds_toArray, List.set_cons_zero, List.set_cons_succ, i64_w, i32_w]
                rfl
              refine pure_ (i := 8) (N := some 61) (v := ?_) (a' := ?_) #[true, false, true, true, false, true, true, true, true, false, false, false, false, false, false, false, false, false, false] rfl rfl (by kernel_rfl) (fun _ _ _ h => h) (Or.inl ⟨by rfl, ?_⟩) ?_ ?_
              rotate_left
              · intro w'
                go_simp
                with_reducible rfl
              rotate_left
              · simp only [Act.put, List.setIfInBounds_toArray, List.set_cons_zero, List.set_cons_succ, i64_w, i32_w]
                rfl
              refine pure_ (i := 9) (N := some 62) (v := ?_) (a' := ?_) #[true, false, true, true, false, true, true, true, true, true, false, false, false, false, false, false, false, false, false] rfl rfl (by kernel_rfl) (fun _ _ _ h => h) (Or.inl ⟨by rfl, ?_⟩) ?_ ?_
              rotate_left
              · intro w'
                go_simp
                with_reducible rfl
              rotate_left
              · simp only [Act.put, List.setIfInBounds_toArray, List.set_cons_zero, List.set_cons_succ, i64_w, i32_w]
                rfl
              refine pure_ (i := 10) (N := some 63) (v := ?_) (a' := ?_) #[true, false, true, true, false, true, true, true, true, true, true, false, false, false, false, false, false, false, false] rfl rfl (by kernel_rfl) (fun _ _ _ h => h) (Or.inl ⟨by rfl, ?_⟩) ?_ ?_
              rotate_left
              · intro w'
                go_simp
                with_reducible rfl
              rotate_left
              · simp only [Act.put, List.setIfInBounds_toArray, List.set_cons_zero, List.set_cons_succ, i64_w, i32_w]
                rfl
              refine take_ (i := 1) (N := some 54) (v := ?_) (a' := ?_) #[true, true, true, true, false, true, true, true, true, true, true, false, false, false, false, false, false, false, false] rfl rfl (by kernel_rfl) (fun _ _ _ h => h) (Or.inl ⟨by rfl, ?_⟩) hHeld ?_ ?_
              rotate_left
              · rintro w' ⟨s0, s1, s2⟩
                go_simp
                with_reducible rfl
              rotate_left
              · simp only [Act.put, List.setIfInBounds_toArray, List.set_cons_zero, List.set_cons_succ, i64_w, i32_w]
                rfl
              refine take_ (i := 4) (N := some 57) (v := ?_) (a' := ?_) #[true, true, true, true, true, true, true, true, true, true, true, false, false, false, false, false, false, false, false] rfl rfl (by kernel_rfl) (fun _ _ _ h => h) (Or.inl ⟨by rfl, ?_⟩) hHeld ?_ ?_
              rotate_left
              · rintro w' ⟨s0, s1, s2⟩
                go_simp
                with_reducible rfl
              rotate_left
              · simp only [Act.put, List.setIfInBounds_toArray, List.set_cons_zero, List.set_cons_succ, i64_w, i32_w]
                rfl
              refine take_ (i := 11) (N := some 64) (v := ?_) (a' := ?_) #[true, true, true, true, true, true, true, true, true, true, true, true, false, false, false, false, false, false, false] rfl rfl (by kernel_rfl) (fun _ _ _ h => h) (Or.inl ⟨by rfl, ?_⟩) hHeld ?_ ?_
              rotate_left
              · rintro w' ⟨s0, s1, s2⟩
                go_simp
                with_reducible rfl
              rotate_left
              · simp only [Act.put, List.setIfInBounds_toArray, List.set_cons_zero, List.set_cons_succ, i64_w, i32_w]
                rfl
              refine pure_ (i := 12) (N := some 65) (v := ?_) (a' := ?_) #[true, true, true, true, true, true, true, true, true, true, true, true, true, false, false, false, false, false, false] rfl rfl (by kernel_rfl) (fun _ _ _ h => h) (Or.inl ⟨by rfl, ?_⟩) ?_ ?_
              rotate_left
              · intro w'
                go_simp
                with_reducible rfl
              rotate_left
              · simp only [Act.put, List.setIfInBounds_toArray, List.set_cons_zero, List.set_cons_succ, i64_w, i32_w]
                rfl
              refine pure_ (i := 13) (N := some 66) (v := ?_) (a' := ?_) #[true, true, true, true, true, true, true, true, true, true, true, true, true, true, false, false, false, false, false] rfl rfl (by kernel_rfl) (fun _ _ _ h => h) (Or.inl ⟨by rfl, ?_⟩) ?_ ?_
              rotate_left
              · intro w'
                go_simp
                with_reducible rfl
              rotate_left
              · simp only [Act.put, List.setIfInBounds_toArray, List.set_cons_zero, List.set_cons_succ, i64_w, i32_w]
                rfl
              refine pure_ (i := 14) (N := some 67) (v := ?_) (a' := ?_) #[true, true, true, true, true, true, true, true, true, true, true, true, true, true, true, false, false, false, false] rfl rfl (by kernel_rfl) (fun _ _ _ h => h) (Or.inl ⟨by rfl, ?_⟩) ?_ ?_
              rotate_left
              · intro w'
                go_simp
                with_reducible rfl
              rotate_left
              · simp only [Act.put, List.setIfInBounds_toArray, List.set_cons_zero, List.set_cons_succ, i64_w, i32_w]
                rfl
              refine one_ (i := 15) (N := some 68) #[true, true, true, true, true, true, true, true, true, true, true, true, true, true, true, true, false, false, false] rfl rfl (by kernel_rfl) (by decide) (fun K hK => ?_)
              refine value_ (w1 := ?_) (v := ?_) (by rfl) rfl ?_ ?_
              rotate_left 2
              · go_simp
                constructor
                · rfl
                · rfl
              refine hK.out _ _ ⟨pw_cell_below (below_alloc (Below.refl _ _) _) q0, pw_cell_below (below_alloc (Below.refl _ _) _) c1, pw_cell_below (below_alloc (Below.refl _ _) _) c2⟩ (fun hHeld => ?_)
              clear hK K
              refine norm_ (a' := ?_) ?_ ?_
              rotate_left
              · show Act.put _ (some 68) _ = _
                simp only [Act.put, List.setIfInBounds_toArray, List.set_cons_zero, List.set_cons_succ, i64_w, i32_w]
                rfl
              refine last_ (i := 16) (N := some 69) #[true, true, true, true, true, true, true, true, true, true, true, true, true, true, true, true, true, false, false] rfl rfl (by kernel_rfl) (by decide) (fun K hK => ?_)
              refine Kd.R_append_step k70 (w0 := w) (W := W.drew) w.heap.size (by rfl) (.tmp 54) (.tmp 68) 23 70 (.agg #[.string ⟨#[]⟩, .bool false]) 24 rfl Tryz.underlying23 info70 rfl (by decide) (by decide) (.slice A0 st.l0.length a0) st.l0 ⟨w1', (r0.toList == [49])⟩ [.string w1', .bool ((r0.toList == [49]))] any (fun _ => False) rfl rfl (k70_M _ _ _ ⟨w1', (r0.toList == [49])⟩) (fun _ h => h.elim) (fun _ _ => trivial) HR0.out (below_drew HPW.out.below) (by exact HPW.out.size) (by have := HSL.out.1; omega) ?_
              intro v1 w5 hR1 hb1 hg1 hat1
              obtain ⟨Av, cv, hv1, hcv, _⟩ := Kd.R_reads hR1
              generalize (_ : List _).length = nv at hv1
              subst hv1
              have HR1 := Lib.hid hR1
              have HB1 := Lib.hid hb1
              have HG1 := Lib.hid hg1
              have HX1 := Lib.hid (R_blk (w := W.drew) HBX.out HR0.out HG1.out (by decide))
              have q5 := (blk_cell HX1.out 0).trans (show _ = some (Value.slice A0 st.l0.length a0) from rfl)
              have f5 := fun i => blk_frozen HX1.out i
              clear hR1 hb1 hg1 hat1
              refine hK.out _ _ ?_
              clear hK K
              refine norm_ (a' := ?_) ?_ ?_
              rotate_left
              · show Act.put _ (some 69) _ = _
                simp only [Act.put, List.setIfInBounds_toArray, List.set_cons_zero, List.set_cons_succ, i64_w, i32_w]
                rfl
              refine pure_ (i := 17) (N := some 70) (v := ?_) (a' := ?_) #[true, true, true, true, true, true, true, true, true, true, true, true, true, true, true, true, true, true, false] rfl rfl (by kernel_rfl) (fun _ _ _ h => h) (Or.inl ⟨by rfl, ?_⟩) ?_ ?_
              rotate_left
              · intro w'
                go_simp
                with_reducible rfl
              rotate_left
              · simp only [Act.put, List.setIfInBounds_toArray, List.set_cons_zero, List.set_cons_succ, i64_w, i32_w]
                rfl
              refine last_ (i := 18) (N := none) #[true, true, true, true, true, true, true, true, true, true, true, true, true, true, true, true, true, true, true] rfl rfl (by kernel_rfl) (by decide) (fun K hK => ?_)
              refine skip_ (w1 := ?_) (by rfl) rfl ?_ ?_
              rotate_left
              · go_simp
                rfl
              refine hK.out _ _ ?_
              clear hK K
              refine done_ (by kernel_rfl) ?_
              go_wp2_with fail
              go_roundw
              case rel => exact ⟨k + 1, by omega, by go_num, by rw [HSU.out, HT.out, HDR.out]; exact Lib.hid ((HPW.out.step (below_drew (Below.refl _ W))).put0 ⟨_, _, _, _, HBX.out⟩ HR1.out HB1.out HG1.out)⟩
              case measure => simp [intOf]; omega
          case false =>
            rw [if_neg (by decide)] at HT
            cases t4
            case true =>
              rw [if_pos rfl] at HT
              have q3 := (blk_cell HBX.out 3).trans (show _ = some (Value.slice A3 st.l3.length a3) from rfl)
              have f1 := fun i => blk_frozen HBX.out i
              have HCL : Hid (∀ V, Below W.heap.size W V → ∀ k y, r[k]? = some y → V.cell? ⟨wr.heap.size, 2 + k, none⟩ = some (.string y)) := Lib.hid fun V hV k y hy => pw_cell_below hV (HC0.out (2 + k) y (by rw [Nat.add_comm]; exact hy))
              have b1 : (1 : Int) < ↑r.length + 2 := by omega
              have b2 : (2 : Int) ≤ ↑r.length + 2 := by omega
              have b3 : (0 : Int) ≤ ↑r.length + 2 := by omega
              go_wp2_with fail
              refine start_ (n := 14) (S := fun w' => w'.cell? ⟨w1.heap.size, 3, none⟩ = some (.slice A3 st.l3.length a3) ∧ w'.cell? ⟨wr.heap.size, 1, none⟩ = some (.string w1')) (ds := [11, 13]) #[false, false, false, false, false, false, false, false, false, false, false, false, false, false] (by kernel_rfl) rfl rfl ⟨q3, c1⟩ (fun hHeld => ?_)
              refine pure_ (i := 0) (N := some 73) (v := ?_) (a' := ?_) #[true, false, false, false, false, false, false, false, false, false, false, false, false, false] rfl rfl (by kernel_rfl) (fun _ _ _ h => h) (Or.inl ⟨by rfl, ?_⟩) ?_ ?_
              rotate_left
              · intro w'
                go_simp
                with_reducible rfl
              rotate_left
              · simp only [Act.put, List.setIfInBounds_toArray, List.set_cons_zero, List.set_cons_succ, i64_w, i32_w]
                rfl
              refine pure_ (i := 2) (N := some 75) (v := ?_) (a' := ?_) #[true, false, true, false, false, false, false, false, false, false, false, false, false, false] rfl rfl (by kernel_rfl) (fun _ _ _ h => h) (Or.inl ⟨by rfl, ?_⟩) ?_ ?_
              rotate_left
              · intro w'
                go_simp
                with_reducible rfl
              rotate_left
              · simp only [Act.put, List.setIfInBounds_toArray, List.set_cons_zero, List.set_cons_succ, i64_w, i32_w]
                rfl
              refine pure_ (i := 3) (N := some 76) (v := ?_) (a' := ?_) #[true, false, true, true, false, false, false, false, false, false, false, false, false, false] rfl rfl (by kernel_rfl) (fun _ _ _ h => h) (Or.inl ⟨by rfl, ?_⟩) ?_ ?_
              rotate_left
              · intro w'
                go_simp
                with_reducible rfl
              rotate_left
              · simp only [Act.put, List.setIfInBounds_toArray, List.set_cons_zero, List.set_cons_succ, i64_w, i32_w]
                rfl
              refine pure_ (i := 6) (N := some 79) (v := ?_) (a' := ?_) #[true, false, true, true, false, false, true, false, false, false, false, false, false, false] rfl rfl (by kernel_rfl) (fun _ _ _ h => h) (Or.inl ⟨by rfl, ?_⟩) ?_ ?_
              rotate_left
              · intro w'
                go_simp
                with_reducible rfl
              rotate_left
              · simp only [Act.put, List.setIfInBounds_toArray, List.set_cons_zero, List.set_cons_succ, i64_w, i32_w]
                rfl
              refine pure_ (i := 7) (N := some 80) (v := ?_) (a' := ?_) #[true, false, true, true, false, false, true, true, false, false, false, false, false, false] rfl rfl (by kernel_rfl) (fun _ _ _ h => h) (Or.inl ⟨by rfl, ?_⟩) ?_ ?_
              rotate_left
              · intro w'
                go_simp
                with_reducible rfl
              rotate_left
              · simp only [Act.put, List.setIfInBounds_toArray, List.set_cons_zero, List.set_cons_succ, i64_w, i32_w]
                rfl
              refine take_ (i := 1) (N := some 74) (v := ?_) (a' := ?_) #[true, true, true, true, false, false, true, true, false, false, false, false, false, false] rfl rfl (by kernel_rfl) (fun _ _ _ h => h) (Or.inl ⟨by rfl, ?_⟩) hHeld ?_ ?_
              rotate_left
              · rintro w' ⟨s0, s1⟩
                go_simp
                with_reducible rfl
              rotate_left
              · simp only [Act.put, List.setIfInBounds_toArray, List.set_cons_zero, List.set_cons_succ, i64_w, i32_w]
                rfl
              refine take_ (i := 4) (N := some 77) (v := ?_) (a' := ?_) #[true, true, true, true, true, false, true, true, false, false, false, false, false, false] rfl rfl (by kernel_rfl) (fun _ _ _ h => h) (Or.inl ⟨by rfl, ?_⟩) hHeld ?_ ?_
              rotate_left
              · rintro w' ⟨s0, s1⟩
                go_simp
                with_reducible rfl
              rotate_left
              · simp only [Act.put, List.setIfInBounds_toArray, List.set_cons_zero, List.set_cons_succ, i64_w, i32_w]
                rfl
              refine one_ (i := 5) (N := some 78) #[true, true, true, true, true, true, true, true, false, false, false, false, false, false] rfl rfl (by kernel_rfl) (by decide) (fun K hK => ?_)
              refine goes_ Tryz.func31 (by kernel_rfl) rfl #[.string w1'] (by rfl) rfl rfl (by simp only [List.map_toArray, List.map_cons, List.map_nil]; rfl) ?_
              with_reducible refine (number31 w1' (by have := HWS1.out; omega) _ (HGW.out _ (by exact below_drew (Below.refl _ _)))).mono ?_
              rintro e w5 ⟨rfl, hb5⟩
              refine ⟨_, rfl, ?_⟩
              have hb5' : Below W.heap.size W w5 := below_then (below_drew (Below.refl _ W)) (Nat.le_refl _) hb5
              have HP5 := Lib.hid (HPW.out.step hb5')
              clear hb5
              refine hK.out _ _ ⟨pw_cell_below hb5' q3, pw_cell_below hb5' c1⟩ (fun hHeld => ?_)
              clear hK K
              refine norm_ (a' := ?_) ?_ ?_
              rotate_left
              · show Act.put _ (some 78) _ = _
                simp only [Act.put, List.setIfInBounds_toArray, List.set_cons_zero, List.set_cons_succ, i64_w, i32_w]
                rfl
              refine one_ (i := 8) (N := some 81) #[true, true, true, true, true, true, true, true, true, false, false, false, false, false] rfl rfl (by kernel_rfl) (by decide) (fun K hK => ?_)
              refine goes_ Tryz.func32 (by kernel_rfl) rfl #[.slice _ r.length r.length] (by rfl) rfl rfl (by simp only [List.map_toArray, List.map_cons, List.map_nil]; rfl) ?_
              with_reducible refine (clone32if wr.heap.size r _ (HCL.out _ hb5') (by omega)).mono ?_
              rintro e w6 ⟨v6, rfl, hR6, hb6⟩
              refine ⟨_, rfl, ?_⟩
              have hb6' : Below W.heap.size W w6 := hb5'.trans (hb6.mono hb5'.size)
              have HP6 := Lib.hid (HPW.out.step hb6')
              have HX6 := Lib.hid (blk_below HBX.out hb6')
              have HR36 := Lib.hid (Kd.R_below HR3.out hb6')
              obtain ⟨A6, c6, hv6, _, _⟩ := Kd.R_reads hR6
              generalize (List.length _) = n6 at hv6
              subst hv6
              have HR6 := Lib.hid (Kd.R_lower hR6 (Nat.le_trans HPW.out.size hb5'.size))
              have hb5s := hb5'.size
              have HAP : Hid (∀ k, w5.heap.size ≤ k → some k ≠ (Value.slice A3 st.l3.length a3).ownBlock) := Lib.hid (fun k hk he => by obtain ⟨_, inner, ho, _⟩ := HR3.out; have := own_lt ho k he.symm; omega)
              clear hb6 hR6
              refine hK.out _ _ ⟨pw_cell_below hb6' q3, pw_cell_below hb6' c1⟩ (fun hHeld => ?_)
              clear hK K
              refine norm_ (a' := ?_) ?_ ?_
              rotate_left
              · show Act.put _ (some 81) _ = _
                simp only [Act.put, List.setIfInBounds_toArray, List.set_cons_zero, List.set_cons_succ, i64_w, i32_w]
                rfl
              refine pure_ (i := 9) (N := some 82) (v := ?_) (a' := ?_) #[true, true, true, true, true, true, true, true, true, true, false, false, false, false] rfl rfl (by kernel_rfl) (fun _ _ _ h => h) (Or.inl ⟨by rfl, ?_⟩) ?_ ?_
              rotate_left
              · intro w'
                go_simp
                with_reducible rfl
              rotate_left
              · simp only [Act.put, List.setIfInBounds_toArray, List.set_cons_zero, List.set_cons_succ, i64_w, i32_w]
                rfl
              refine one_ (i := 10) (N := some 83) #[true, true, true, true, true, true, true, true, true, true, true, false, false, false] rfl rfl (by kernel_rfl) (by decide) (fun K hK => ?_)
              refine value_ (w1 := ?_) (v := ?_) (by rfl) rfl ?_ ?_
              rotate_left 2
              · go_simp
                constructor
                · rfl
                · rfl
              refine hK.out _ _ ⟨pw_cell_below (hb6'.alloc hb6'.size _) q3, pw_cell_below (hb6'.alloc hb6'.size _) c1⟩ (fun hHeld => ?_)
              clear hK K
              refine norm_ (a' := ?_) ?_ ?_
              rotate_left
              · show Act.put _ (some 83) _ = _
                simp only [Act.put, List.setIfInBounds_toArray, List.set_cons_zero, List.set_cons_succ, i64_w, i32_w]
                rfl
              refine last_ (i := 11) (N := some 84) #[true, true, true, true, true, true, true, true, true, true, true, true, false, false] rfl rfl (by kernel_rfl) (by decide) (fun K hK => ?_)
              refine Kd.R_append_step k72 (w0 := w) (W := w6) w.heap.size (by rfl) (.tmp 74) (.tmp 83) 24 72 (.agg #[.int .i64 0, .slice none 0 0]) 32 rfl Tryz.underlying24 info72 rfl (by decide) (by decide) (.slice A3 st.l3.length a3) st.l3 ⟨numB w1', r⟩ [.int .i64 (numB w1'), .slice A6 n6 c6] any (fun k => w5.heap.size ≤ k) rfl rfl (k72_M ⟨numB w1', r⟩ HR6.out) (fun k h => ⟨trivial, HAP.out k h⟩) (fun _ _ => trivial) HR36.out HP6.out.below (by exact HP6.out.size) (by have := HSL.out.2; omega) ?_
              intro v1 w7 hR1 hb1 hg1 hat1
              obtain ⟨Av, cv, hv1, hcv, _⟩ := Kd.R_reads hR1
              generalize (_ : List _).length = nv at hv1
              subst hv1
              have HR1 := Lib.hid hR1
              have HB1 := Lib.hid hb1
              have HG1 := Lib.hid hg1
              have HX1 := Lib.hid (R_blk HX6.out HR36.out HG1.out (by decide))
              have q5 := (blk_cell HX1.out 3).trans (show _ = some (Value.slice A3 st.l3.length a3) from rfl)
              have f5 := fun i => blk_frozen HX1.out i
              clear hR1 hb1 hg1 hat1
              refine hK.out _ _ ?_
              clear hK K
              refine norm_ (a' := ?_) ?_ ?_
              rotate_left
              · show Act.put _ (some 84) _ = _
                simp only [Act.put, List.setIfInBounds_toArray, List.set_cons_zero, List.set_cons_succ, i64_w, i32_w]
                rfl
              refine pure_ (i := 12) (N := some 85) (v := ?_) (a' := ?_) #[true, true, true, true, true, true, true, true, true, true, true, true, true, false] rfl rfl (by kernel_rfl) (fun _ _ _ h => h) (Or.inl ⟨by rfl, ?_⟩) ?_ ?_
              rotate_left
              · intro w'
                go_simp
                with_reducible rfl
              rotate_left
              · simp only [Act.put, List.setIfInBounds_toArray, List.set_cons_zero, List.set_cons_succ, i64_w, i32_w]
                rfl
              refine last_ (i := 13) (N := none) #[true, true, true, true, true, true, true, true, true, true, true, true, true, true] rfl rfl (by kernel_rfl) (by decide) (fun K hK => ?_)
              refine skip_ (w1 := ?_) (by rfl) rfl ?_ ?_
              rotate_left
              · go_simp
                rfl
              refine hK.out _ _ ?_
              clear hK K
              refine done_ (by kernel_rfl) ?_
              go_wp2_with fail
              go_roundw
              case rel => exact ⟨k + 1, by omega, by go_num, by rw [HSU.out, HT.out]; exact Lib.hid (HP6.out.put3 ⟨_, _, _, _, HX6.out⟩ HR1.out HB1.out HG1.out)⟩
              case measure => simp [intOf]; omega
            case false =>
              rw [if_neg (by decide)] at HT
              go_wp2_with fail
              go_roundw
              case rel => exact ⟨k + 1, by omega, by go_num, by rw [HSU.out, HT.out]; exact HPW⟩
              case measure => simp [intOf]; omega
    · have : k = L.length := by omega
      subst this
      have HOK := Lib.hid (stAt_ok L L.length HLL.out.2)
      have HSL := Lib.hid (stAt_le L L.length)
      have HPE : Hid (parseP (headB s) = stAt L L.length) := Lib.hid (by rw [HPP.out]; unfold stAt; rw [List.take_length])
      generalize stAt L L.length = st at *
      obtain ⟨A0, a0, A3, a3, hbx, hR0, hR3⟩ := HP.out.box
      obtain ⟨B0, d0, e0, hd0, hC0⟩ := Kd.R_reads hR0
      injection e0 with e01 _ e02; subst e01; subst e02
      obtain ⟨B3, d3, e3, hd3, hC3⟩ := Kd.R_reads hR3
      injection e3 with e31 _ e32; subst e31; subst e32
      have HBX := Lib.hid hbx
      have HC0 := Lib.hid hC0
      have HC3 := Lib.hid hC3
      have HR0 := Lib.hid hR0
      have HR3 := Lib.hid hR3
      have HGR : Hid (Glob wr) := Lib.hid (HG.out.below' HP.out.below)
      have q0 := (blk_cell hbx 0).trans (show _ = some (Value.slice A0 st.l0.length a0) from rfl)
      have q1 := (blk_cell hbx 1).trans (show _ = some (Value.int .i64 st.next) from rfl)
      have q2 := (blk_cell hbx 2).trans (show _ = some (Value.int .i64 st.j) from rfl)
      have q3 := (blk_cell hbx 3).trans (show _ = some (Value.slice A3 st.l3.length a3) from rfl)
      have q4 := (blk_cell hbx 4).trans (show _ = some (Value.slice none 0 0) from rfl)
      clear hbx hR0 hR3 hC0 hC3
      have hl0 := HSL.out.1
      have hl3 := HSL.out.2
      cases hvs : validSt st with
      | false =>
        have HNO : Hid (¬ (sealB (headB s) = s ∧ validSt (parseP (headB s)) = true ∧ manSt (parseP (headB s)) = s)) := Lib.hid (by rw [HPE.out, hvs]; exact fun h => by cases h.2.1)
        go_wp2_with fail
        refine (manifest7_no A0 A3 none a0 a3 0 st.l0 st.next st.j st.l3 0 _ HC0.out hd0 (by omega) HOK.out.1 HC3.out (by omega) HOK.out.2 hvs).mono ?_
        rintro e w5 ⟨rfl, hb5⟩
        have HX := Lib.hid (blk_below HP.out.res hb5)
        have z0 := zero_set HX.out 0 (.slice none 0 0) rfl
        have z1 := zero_set HX.out 1 (.int .i64 0) rfl
        have z2 := zero_set HX.out 2 (.int .i64 0) rfl
        have z3 := zero_set HX.out 3 (.slice none 0 0) rfl
        have z4 := zero_set HX.out 4 (.slice none 0 0) rfl
        have y0 := (blk_cell HX.out 0).trans (show _ = some (Value.slice none 0 0) from rfl)
        have y1 := (blk_cell HX.out 1).trans (show _ = some (Value.int .i64 0) from rfl)
        have y2 := (blk_cell HX.out 2).trans (show _ = some (Value.int .i64 0) from rfl)
        have y3 := (blk_cell HX.out 3).trans (show _ = some (Value.slice none 0 0) from rfl)
        have y4 := (blk_cell HX.out 4).trans (show _ = some (Value.slice none 0 0) from rfl)
        have f0 := fun i => blk_frozen HX.out i
        go_wp2_with fail
        refine bodyPost_ret (v := .tuple #[.agg zeroStore, .int .i64 9]) (by simp [results, Tryz.results9, go_sem, y0, y1, y2, y3, y4, zeroStore]) rfl ⟨(HP.out.step hb5).below, .inr ⟨HNO.out, rfl⟩⟩
      | true =>
        have HMN : Hid (manB st.l0 st.next st.j st.l3 = manSt st) := Lib.hid rfl
        go_wp2_with fail
        refine (manifest7_yes A0 A3 none a0 a3 0 st.l0 st.next st.j st.l3 0 _ HGR.out HC0.out hd0 (by omega) HOK.out.1 HC3.out (by omega) HOK.out.2 hvs).mono ?_
        rw [HMN.out]
        generalize hmt : manSt st = mt at *
        rintro e w5 ⟨rfl, hb5⟩
        have HP5 := Lib.hid (HP.out.step hb5)
        have HX := Lib.hid HP5.out.res
        have f0 := fun i => blk_frozen HX.out i
        have y0 := (blk_cell HX.out 0).trans (show _ = some (Value.slice none 0 0) from rfl)
        have y1 := (blk_cell HX.out 1).trans (show _ = some (Value.int .i64 0) from rfl)
        have y2 := (blk_cell HX.out 2).trans (show _ = some (Value.int .i64 0) from rfl)
        have y3 := (blk_cell HX.out 3).trans (show _ = some (Value.slice none 0 0) from rfl)
        have y4 := (blk_cell HX.out 4).trans (show _ = some (Value.slice none 0 0) from rfl)
        have p0 := pw_cell_below hb5 q0
        have p1 := pw_cell_below hb5 q1
        have p2 := pw_cell_below hb5 q2
        have p3 := pw_cell_below hb5 q3
        have p4 := pw_cell_below hb5 q4
        by_cases hm : mt = s
        · subst hm
          go_wp2_with fail
          have HR05 := Lib.hid (Kd.R_below HR0.out hb5)
          have HR35 := Lib.hid (Kd.R_below HR3.out hb5)
          obtain ⟨hbW, hxW, hrW, htW⟩ := result_box (n := st.next) (j := st.j) HP5.out.below (Nat.le_refl _) HX.out HR05.out HR35.out _ rfl
          have g0 := (blk_cell hxW 0).trans (show _ = some (Value.slice A0 st.l0.length a0) from rfl)
          have g1 := (blk_cell hxW 1).trans (show _ = some (Value.int .i64 st.next) from rfl)
          have g2 := (blk_cell hxW 2).trans (show _ = some (Value.int .i64 st.j) from rfl)
          have g3 := (blk_cell hxW 3).trans (show _ = some (Value.slice A3 st.l3.length a3) from rfl)
          have g4 := (blk_cell hxW 4).trans (show _ = some (Value.slice none 0 0) from rfl)
          obtain ⟨B0, d0, e0, hd0', hC0⟩ := Kd.R_reads hrW
          injection e0 with e01 _ e02; subst e01; subst e02
          obtain ⟨B3, d3, e3, hd3', hC3⟩ := Kd.R_reads htW
          injection e3 with e31 _ e32; subst e31; subst e32
          generalize (((((w5.setCell ⟨w.heap.size, 0, none⟩ (.slice A0 st.l0.length a0)).setCell ⟨w.heap.size, 1, none⟩ (.int .i64 st.next)).setCell ⟨w.heap.size, 2, none⟩ (.int .i64 st.j)).setCell ⟨w.heap.size, 3, none⟩ (.slice A3 st.l3.length a3)).setCell ⟨w.heap.size, 4, none⟩ (.slice none 0 0)) = WF at *
          refine bodyPost_ret (v := .tuple #[.agg #[.slice A0 st.l0.length a0, .int .i64 st.next, .int .i64 st.j, .slice A3 st.l3.length a3, .slice none 0 0], .int .i64 0]) (by simp [results, Tryz.results9, go_sem, g0, g1, g2, g3, g4]) rfl ⟨hbW, .inl ?_⟩
          rw [HPE.out]
          exact ⟨he, hvs, hmt, A0, a0, A3, a3, rfl, hC0, hd0', hC3, hd3'⟩
        · have ht : (mt.toList == s.toList) = false := by rw [toList_beq]; exact decide_eq_false hm
          have z0 := zero_set HX.out 0 (.slice none 0 0) rfl
          have z1 := zero_set HX.out 1 (.int .i64 0) rfl
          have z2 := zero_set HX.out 2 (.int .i64 0) rfl
          have z3 := zero_set HX.out 3 (.slice none 0 0) rfl
          have z4 := zero_set HX.out 4 (.slice none 0 0) rfl
          go_wp2_with fail
          refine bodyPost_ret (v := .tuple #[.agg zeroStore, .int .i64 9]) (by simp [results, Tryz.results9, go_sem, y0, y1, y2, y3, y4, zeroStore]) rfl ⟨HP5.out.below, .inr ⟨fun h => hm (by have := h.2.2; rw [HPE.out, hmt] at this; exact this), rfl⟩⟩
end Go.Proofs.YtmeieeekjhjgjaaGreatDoor.H
