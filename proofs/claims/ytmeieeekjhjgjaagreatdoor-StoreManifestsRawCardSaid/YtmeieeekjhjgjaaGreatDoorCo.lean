/- The walk of Manifest. -/
import Derived.Test.YtmeieeekjhjgjaaGreatDoorCn
import Derived.Deep.RegionHeld3
import Derived.Deep.RegionLawGrows
namespace Go.Proofs.YtmeieeekjhjgjaaGreatDoor.H
open Go.RowKit Go.Proofs.YtmeieeekjhjgjaaGreatDoorW.PrintWords

theorem isB_new (w : World) : Lib.IsBuilderF 60 5 w.heap.size w.heap.size (Lib.byteCells []) (w.alloc (.cells #[.pointer none, .slice none 0 0] 60)) :=
  .inl ⟨Nat.le_refl _, .slice none 0 0, blk_new w _, World.ownsRowF_nil _ _ _ _, by simp [Value.ownBlock]⟩
/-- Two words in a new block. -/
theorem two_new (w : World) (x y : ByteArray) (t : TypeId) : ∀ (j : Nat) z, [x, y][j]? = some z → (w.alloc (.cells #[.string x, .string y] t)).cell? ⟨w.heap.size, 0 + j, none⟩ = some (.string z) := by
  intro j z hz
  rw [Nat.zero_add, blk_cell (blk_new w _) j]
  rcases j with _ | _ | j
  · cases hz; rfl
  · cases hz; rfl
  · simp at hz
theorem three_new (w : World) (x y u : ByteArray) (t : TypeId) : ∀ (j : Nat) z, [x, y, u][j]? = some z → (w.alloc (.cells #[.string x, .string y, .string u] t)).cell? ⟨w.heap.size, 0 + j, none⟩ = some (.string z) := by
  intro j z hz
  rw [Nat.zero_add, blk_cell (blk_new w _) j]
  rcases j with _ | _ | _ | j
  · cases hz; rfl
  · cases hz; rfl
  · cases hz; rfl
  · simp at hz
def LinePost (b : Nat) (l : List UInt8) (W : World) (e : Ending) (w' : World) : Prop := e = .returned (.tuple #[]) ∧ Lib.IsBuilderF 60 5 b b (Lib.byteCells l) w' ∧ Below b W w' ∧ Lib.OthersKept 5 (some b) W w'
theorem line2 (n b : Nat) (x y : ByteArray) (l : List UInt8) (W : World) (hn : W.heap.size = n) (hb : Lib.IsBuilderF 60 5 b b (Lib.byteCells l) W) (hbW : b < W.heap.size) (hlen : l.length + (lineL [x, y]).length ≤ 140737488355328) :
    Calls Tryz.prog 20 #[.slice (some ⟨n, 0, none⟩) 2 2, .pointer (some ⟨b, 0, none⟩)] (W.alloc (.cells #[.string x, .string y] 9)) (LinePost b (l ++ lineL [x, y]) W) := by
  subst hn
  refine (line20 W.heap.size 2 b [x, y] l _ (two_new W x y 9) (by simp) (by simp) (by simp) (IsB_below hb hbW (below_alloc (Below.refl _ _) _)) (by simp; omega) hlen).mono ?_
  rintro e w' ⟨rfl, h1, h2, h3⟩
  exact ⟨rfl, h1, ((Below.refl b W).alloc (by omega) _).trans h2, (others_below (below_alloc (Below.refl _ _) _)).trans h3⟩
theorem line3 (n b : Nat) (x y u : ByteArray) (l : List UInt8) (W : World) (hn : W.heap.size = n) (hb : Lib.IsBuilderF 60 5 b b (Lib.byteCells l) W) (hbW : b < W.heap.size) (hlen : l.length + (lineL [x, y, u]).length ≤ 140737488355328) :
    Calls Tryz.prog 20 #[.slice (some ⟨n, 0, none⟩) 3 3, .pointer (some ⟨b, 0, none⟩)] (W.alloc (.cells #[.string x, .string y, .string u] 9)) (LinePost b (l ++ lineL [x, y, u]) W) := by
  subst hn
  refine (line20 W.heap.size 3 b [x, y, u] l _ (three_new W x y u 9) (by simp) (by simp) (by simp) (IsB_below hb hbW (below_alloc (Below.refl _ _) _)) (by simp; omega) hlen).mono ?_
  rintro e w' ⟨rfl, h1, h2, h3⟩
  exact ⟨rfl, h1, ((Below.refl b W).alloc (by omega) _).trans h2, (others_below (below_alloc (Below.refl _ _) _)).trans h3⟩
theorem flat_length {α : Type} (f : α → List UInt8) (m : Nat) (l : List α) (h : ∀ x ∈ l, (f x).length ≤ m) : ((l.map f).flatten).length ≤ m * l.length := by
  induction l with
  | nil => simp
  | cons a l ih =>
    have := ih fun x hx => h x (List.mem_cons_of_mem _ hx)
    have ha := h a (List.mem_cons_self ..)
    simp only [List.map_cons, List.flatten_cons, List.length_append, List.length_cons, Nat.mul_add, Nat.mul_one]
    omega
theorem flat_take {α : Type} (f : α → List UInt8) (l : List α) (k : Nat) (x : α) (h : l[k]? = some x) : ((l.take (k + 1)).map f).flatten = ((l.take k).map f).flatten ++ f x := by
  rw [List.take_add_one, h]; simp
theorem str_back (s : ByteArray) : strOfNums (bytesOf s) = s := by
  obtain ⟨⟨l⟩⟩ := s
  unfold strOfNums bytesOf
  simp only [List.map_map]
  have e : (fun n : Int => UInt8.ofNat n.toNat) ∘ (fun b : UInt8 => (b.toNat : Int)) = id := by
    funext x; simp
  rw [e, List.map_id]
theorem RV.str {w : World} {v : Value} {s : ByteArray} (h : RV w v s) : (convert 43 9 v).run Tryz.prog w = .ok (.string s) w := by
  obtain ⟨A, c, rfl, _, hr⟩ := h
  have := string_of_reads (P := Tryz.prog) (src := 43) (dst := 9) (e := 5) (c := c) Tryz.underlying43 Tryz.underlying5 Tryz.underlying9 hr
  rwa [str_back] at this
def SealPost (s : ByteArray) (w : World) (e : Ending) (w' : World) : Prop := ∃ v, e = .returned v ∧ RV w' v (sealB s) ∧ Below w.heap.size w w'
theorem seal24n (A : Option Addr) (n c : Nat) (s : ByteArray) (w : World) (hn : s.size = n) (hr : RB w A s) (hc : n ≤ c) (hs : s.size ≤ 140737488351232) :
    Calls Tryz.prog 24 #[.slice A n c] w (SealPost s w) := by
  subst hn; exact seal24 A c s w hr hc hs
theorem info9 : (Tryz.prog.info? 9).map (fun i => (i.zero, i.size, i.bytes)) = some (some (.string ⟨#[]⟩), 1, 16) := by kernel_rfl
theorem run_append_zero (t e ty : TypeId) (i : TypeInfo) (h1 : Tryz.prog.underlying t = some (.slice e)) (h2 : Tryz.prog.info? e = some i) (ad : Addr) (n cap : Nat) (hnc : n ≤ cap) (A : Option Addr) (c : Nat) (w : World) :
    (Builtin.append_ #[t, t] ty #[.slice (some ad) n cap, .slice A 0 c]).run Tryz.prog w = .ok (.slice (some ad) n cap) w := by
  cases A with
  | none => simp [Builtin.append_, run_underlying h1, sizeOf, typeInfo, h2, Builtin.lenOf, Builtin.firstCells, hnc, storeCells]
  | some a => simp [Builtin.append_, run_underlying h1, sizeOf, typeInfo, h2, Builtin.lenOf, Builtin.firstCells, hnc, storeCells, loadCells, loadCellsFrom]
theorem step_append_zero {ops : Array Oper} {o : Oper} {a : Act} {w : World} {K : Act → World → Prop} {Q : Exit → Act → World → Prop} {E : Prop}
    (hg : o.guard = none) (s x : Operand) (t : TypeId) (hop : o.op = Op.call { callee := Callee.builtin Builtin.append, args := #[s, x], argTypes := #[t, t] })
    (e : TypeId) (i : TypeInfo) (h1 : Tryz.prog.underlying t = some (.slice e)) (h2 : Tryz.prog.info? e = some i) (ad : Addr) (n cap : Nat) (hnc : n ≤ cap) (A : Option Addr) (c : Nat)
    (hs : a.eval s = .slice (some ad) n cap) (hx : a.eval x = .slice A 0 c) (hK : K (a.put o.dst (.slice (some ad) n cap)) w) :
    if Region.wanted o (yielded ops a.tmps) = true then Oper.wp Tryz.prog o a w K Q else E := by
  have hw : Region.wanted o (yielded ops a.tmps) = true := by simp [Region.wanted, hg]
  rw [if_pos hw]
  unfold Oper.wp
  simp [execOp, hop, resolve, invoke, builtin, hs, hx, run_append_zero t e o.type i h1 h2 ad n cap hnc A c w, Result.andThen]
  exact hK
theorem line20n (bk n c b : Nat) (xs : List ByteArray) (l : List UInt8) (w : World) (hn : xs.length = n) (hcells : ∀ (j : Nat) x, xs[j]? = some x → w.cell? ⟨bk, 0 + j, none⟩ = some (.string x)) (hbk : bk < w.heap.size) (hN : n ≤ 1000000) (hcap : n ≤ c)
    (hb : Lib.IsBuilderF 60 5 b b (Lib.byteCells l) w) (hbw : b < w.heap.size) (hlen : l.length + (lineL xs).length ≤ 140737488355328) :
    Calls Tryz.prog 20 #[.slice (some ⟨bk, 0, none⟩) n c, .pointer (some ⟨b, 0, none⟩)] w (LinePost b (l ++ lineL xs) w) := by
  subst hn
  exact (line20 bk c b xs l w hcells hbk hN hcap hb hbw hlen).mono fun e w' h => h
theorem own_strs {w : World} {base g n cap : Nat} {e : TypeId} {xs : List ByteArray} {ys : List Value} (h : w.ownsRow base e 1 (.slice (some ⟨g, 0, none⟩) n cap) n ys) (hy : ys = xs.map Value.string) : ∀ (j : Nat) x, xs[j]? = some x → w.cell? ⟨g, 0 + j, none⟩ = some (.string x) := by
  subst hy
  intro j x hx
  have hc := h.cells (g := g) rfl j (.string x) (by rw [List.getElem?_map, hx]; rfl)
  rwa [add_plain, ← Nat.zero_add j] at hc
theorem own_n {w : World} {base n cap : Nat} {A : Option Addr} {e : TypeId} {ys : List Value} (h : w.ownsRow base e 1 (.slice A n cap) n ys) : n ≤ cap := own_le h
theorem two_olds (w : World) (x y : ByteArray) (t : TypeId) : ∀ b : Addr, (some ⟨w.heap.size, 0, none⟩ : Option Addr) = some b → ∀ (j : Nat) u, [Value.string x, Value.string y][j]? = some u → (w.alloc (.cells #[.string x, .string y] t)).cell? (b.add j) = some u := by
  intro b hb j u hu
  cases hb
  rw [add_plain, blk_cell (blk_new w _) j]
  simpa using hu
theorem grown_none {B : Nat} {W W' : World} (h : W.grownBy W' none) (hB : B ≤ W.heap.size) : Below B W W' := pw_below_grown (Below.refl _ _) none hB h (fun k hk => by cases hk)
/-- The strings of a read list, as cells. -/
theorem str_cells {w : World} {A : Option Addr} {l : List ByteArray} (h : Kd.C Kd.string w A l.length l) (hl : l ≠ []) : ∃ ad, A = some ad ∧ (l.map Value.string).length = l.length * 1 ∧ (∀ j u, (l.map Value.string)[j]? = some u → w.cell? (ad.add j) = some u) ∧ ∀ u ∈ l.map Value.string, u.oneCell' = true := by
  obtain ⟨ad, x, hA, _, _⟩ := atStr h 0 (List.length_pos_iff.2 hl)
  refine ⟨ad, hA, by simp, fun j u hu => ?_, fun u hu => ?_⟩
  · have hj : j < l.length := by have := (List.getElem?_eq_some_iff.1 hu).1; simpa using this
    obtain ⟨ad', x', hA', hx', hc⟩ := atStr h j hj
    cases hA.symm.trans hA'
    rw [List.getElem?_map, hx'] at hu
    cases hu
    exact hc
  · obtain ⟨b, _, rfl⟩ := List.mem_map.1 hu
    rfl
set_option maxHeartbeats 2000000 in
theorem manifest7_no (A0 A3 A4 : Option Addr) (c0 c3 c4 : Nat) (l0 : List S70) (next j : Int) (l3 : List S72) (n4 : Nat) (w : World) (hr0 : Kd.C k70 w A0 l0.length l0) (hc0 : l0.length ≤ c0) (hl0 : l0.length ≤ 9223372036854775807) (hs0 : OkNames l0) (hr3 : Kd.C k72 w A3 l3.length l3) (hl3 : l3.length ≤ 9223372036854775807) (hs3 : OkPieces l3)
    (hv : validB l0 next j l3 = false) :
    Calls Tryz.prog 7 #[.agg #[.slice A0 l0.length c0, .int .i64 next, .int .i64 j, .slice A3 l3.length c3, .slice A4 n4 c4]] w fun e w' => e = .returned (.tuple #[.string ⟨#[]⟩, .int .i64 1]) ∧ Below w.heap.size w w' := by
  have HR0 := Lib.hid hr0
  have HR3 := Lib.hid hr3
  clear hr0 hr3
  go_enter Tryz.func7, Tryz.ntmps7
  go_wp2_with (go_at_call 19; refine (valid19 A0 A3 A4 c0 c3 c4 l0 next j l3 n4 _ (Kd.C_below HR0.out (below_alloc (Below.refl _ _) _)) hc0 hl0 hs0 (Kd.C_below HR3.out (below_alloc (Below.refl _ _) _)) hl3 hs3).mono ?_; rw [hv]; rintro e w1 ⟨rfl, hb1⟩)
  go_ret2
  exact ⟨rfl, below_then (below_alloc (Below.refl _ _) _) (by simp) hb1⟩
set_option maxRecDepth 100000 in
set_option maxHeartbeats 2000000 in
theorem manifest7_yes (A0 A3 A4 : Option Addr) (c0 c3 c4 : Nat) (l0 : List S70) (next j : Int) (l3 : List S72) (n4 : Nat) (w : World) (hg : Glob w) (hr0 : Kd.C k70 w A0 l0.length l0) (hc0 : l0.length ≤ c0) (hl0 : l0.length ≤ 9223372036854775807) (hs0 : OkNames l0) (hr3 : Kd.C k72 w A3 l3.length l3) (hl3 : l3.length ≤ 9223372036854775807) (hs3 : OkPieces l3)
    (hv : validB l0 next j l3 = true) :
    Calls Tryz.prog 7 #[.agg #[.slice A0 l0.length c0, .int .i64 next, .int .i64 j, .slice A3 l3.length c3, .slice A4 n4 c4]] w fun e w' => e = .returned (.tuple #[.string (manB l0 next j l3), .int .i64 0]) ∧ Below w.heap.size w w' := by
  have HR0 := Lib.hid hr0
  have HR3 := Lib.hid hr3
  have HG := Lib.hid hg
  have OK := Ok.of hv
  have h1 := OK.hn
  have h2 := OK.hj
  have hgs := hg.size
  clear hr0 hr3 hg
  go_enter Tryz.func7, Tryz.ntmps7
  go_wp2_with fail
  refine (valid19 A0 A3 A4 c0 c3 c4 l0 next j l3 n4 _ (Kd.C_below HR0.out (below_alloc (Below.refl _ _) _)) hc0 hl0 hs0 (Kd.C_below HR3.out (below_alloc (Below.refl _ _) _)) hl3 hs3).mono ?_
  rw [hv]
  rintro e w1 ⟨rfl, hb1⟩
  have hb1' := below_then (below_alloc (Below.refl _ w) _) (by simp) hb1
  have HBX := Lib.hid (blk_below (blk_new w _) hb1)
  obtain ⟨q0, q1, q2, q3, q4⟩ := box5 hb1
  have hbn : w.heap.size < w1.heap.size := blk_lt HBX.out
  clear hb1
  have HLH := Lib.hid (headL_length next j (by omega) h1 (by omega) (by omega))
  have HL1 : Hid ((lineL [wordCorpora, ⟨#[49]⟩]).length ≤ 500 ∧ (lineL [wordCorpora, ⟨#[49]⟩] ++ lineL [wordNext, itoaB next]).length ≤ 500) := Lib.hid (by
    have := HLH.out; unfold headL at this; simp only [List.length_append] at this ⊢; omega)
  go_wp2_with fail
  refine (line2 _ _ wordCorpora ⟨#[49]⟩ [] _ (by simp) (isB_new w1) (by simp) (by have := HL1.out.1; simp; omega)).mono ?_
  rintro e w2 ⟨rfl, hB2, hb2, _⟩
  have HB2 := Lib.hid hB2
  clear hB2
  have hsz2 := hb2.size
  simp only [World.size_alloc] at hsz2
  have hb2' : Below w1.heap.size w1 w2 := (below_alloc (Below.refl _ w1) _).trans hb2
  clear hb2
  have p1 : w2.cell? ⟨w.heap.size, 1, none⟩ = some (.int .i64 next) := pw_cell_below hb2' q1
  have hg1 : Hid (∀ W, Below w1.heap.size w1 W → Glob W) := Lib.hid fun W hW => (HG.out.below' hb1').below (by omega) hW
  go_wp2_with fail
  refine (itoa23 next (by omega) (by omega) _ (hg1.out w2 hb2')).mono ?_
  rintro e w3 ⟨rfl, hb3⟩
  have hb3' : Below w1.heap.size w1 w3 := hb2'.trans (hb3.mono (by omega))
  have HB3 := Lib.hid (IsB_below HB2.out (by omega) hb3)
  have hsz3 := hb3.size
  clear hb3 HB2 hb2' p1
  go_wp2_with fail
  refine (line2 _ _ wordNext (itoaB next) _ _ rfl HB3.out (by omega) (by have := HL1.out.2; simp only [List.length_append, List.nil_append] at this ⊢; omega)).mono ?_
  rintro e w4 ⟨rfl, hB4, hb4, _⟩
  have HB4 := Lib.hid hB4
  have hsz4 := hb4.size
  have hb4' : Below w1.heap.size w1 w4 := hb3'.trans hb4
  clear hB4 hb4 HB3 hb3'
  have p2 : w4.cell? ⟨w.heap.size, 2, none⟩ = some (.int .i64 j) := pw_cell_below hb4' q2
  go_wp2_with fail
  refine (itoa23 j (by omega) (by omega) _ (hg1.out w4 hb4')).mono ?_
  rintro e w5 ⟨rfl, hb5⟩
  have hb5' : Below w1.heap.size w1 w5 := hb4'.trans (hb5.mono (by omega))
  have HB5 := Lib.hid (IsB_below HB4.out (by omega) hb5)
  have hsz5 := hb5.size
  clear hb5 HB4 hb4' p2
  go_wp2_with fail
  refine (line2 _ _ wordJournal (itoaB j) _ _ rfl HB5.out (by omega) (by have := HLH.out; unfold headL at this; simp only [List.length_append, List.nil_append] at this ⊢; omega)).mono ?_
  rintro e w6 ⟨rfl, hB6, hb6, _⟩
  have HB6 := Lib.hid hB6
  have hsz6 := hb6.size
  have hb6' : Below w1.heap.size w1 w6 := hb5'.trans hb6
  clear hB6 hb6 HB5 hb5'
  rw [show ([] ++ lineL [wordCorpora, ⟨#[49]⟩] ++ lineL [wordNext, itoaB next] ++ lineL [wordJournal, itoaB j]) = headL next j by unfold headL; simp] at HB6
  clear HL1
  have p0 : w6.cell? ⟨w.heap.size, 0, none⟩ = some (.slice A0 l0.length c0) := pw_cell_below hb6' q0
  go_wp2_with fail
  go_loopw [33] (fun i wr => ∃ k : Nat, k ≤ l0.length ∧ i = .int .i64 k ∧ Below w1.heap.size w1 wr ∧ w1.heap.size < wr.heap.size ∧ Hid (Lib.IsBuilderF 60 5 w1.heap.size w1.heap.size (Lib.byteCells (headL next j ++ ((l0.take k).map attrL).flatten)) wr)) (fun i _ => l0.length - (intOf i).toNat)
  case atStart => exact ⟨0, by omega, rfl, hb6', by omega, Lib.hid (by have := HB6.out; simpa using this)⟩
  case round =>
    obtain ⟨k, hk, rfl, hb, hbs, HB⟩ := hrel
    clear HB6 hb6' p0 q0 q1 q2 q3 q4 hsz2 hsz3 hsz4 hsz5 hsz6
    by_cases hlt : k < l0.length
    · obtain ⟨ad, x, hA, hx, r0, r1⟩ := at70 (Kd.C_below HR0.out (hb1'.trans (hb.mono (by omega)))) k hlt
      subst hA
      have HT := Lib.hid (flat_take attrL l0 k x hx)
      have HXL := Lib.hid (attrL_length x (OK.a0 x (List.mem_of_getElem? hx)))
      have HFL : Hid ((headL next j ++ ((l0.take k).map attrL).flatten).length ≤ 500 + 200 * 8) := Lib.hid (by
        have a := HLH.out
        have b := flat_length attrL 200 (l0.take k) (fun y hy => attrL_length y (OK.a0 y (List.mem_of_mem_take hy)))
        have c := OK.n0.2
        rw [List.length_take] at b
        rw [List.length_append]
        have : 200 * min k l0.length ≤ 200 * 8 := Nat.mul_le_mul_left _ (by omega)
        omega)
      clear hx
      cases hf : x.f1
      all_goals
        rw [hf] at r1
        go_wp2_with fail
        refine (line3 _ _ wordAttribute x.f0 _ _ _ (by simp) (IsB_below HB.out hbs (below_alloc (Below.refl _ _) _)) (by simp; omega) (by have := HFL.out; have := HXL.out; unfold attrL setB at this; rw [hf] at this; simp only [Bool.false_eq_true, if_false, if_true] at this; omega)).mono ?_
        rintro e w7 ⟨rfl, hB7, hb7, _⟩
        have HB7 := Lib.hid hB7
        have hsz7 := hb7.size
        simp only [World.size_alloc] at hsz7
        have hb7' : Below w1.heap.size w1 w7 := (hb.alloc hb.size _).trans hb7
        clear hB7 hb7
        go_wp2_with fail
        go_roundw
        case rel => exact ⟨k + 1, by omega, by go_num, hb7', by omega, Lib.hid (by have := HB7.out; rw [HT.out, ← List.append_assoc]; unfold attrL setB; rw [hf]; exact this)⟩
        case measure => simp [intOf]; omega
    · have : k = l0.length := by omega
      subst this
      rw [List.take_length] at HB
      have p3 : wr.cell? ⟨w.heap.size, 3, none⟩ = some (.slice A3 l3.length c3) := by rw [blk_cell (hb.block _ hbn |>.trans HBX.out)]; rfl
      go_wp2_with fail
      go_loopw [49] (fun i wr => ∃ k : Nat, k ≤ l3.length ∧ i = .int .i64 k ∧ Below w1.heap.size w1 wr ∧ w1.heap.size < wr.heap.size ∧ Hid (Lib.IsBuilderF 60 5 w1.heap.size w1.heap.size (Lib.byteCells (headL next j ++ ((l0.map attrL).flatten ++ ((l3.take k).map pieceL).flatten))) wr)) (fun i _ => l3.length - (intOf i).toNat)
      case atStart => exact ⟨0, by omega, rfl, hb, by omega, Lib.hid (by have := HB.out; simpa using this)⟩
      case round =>
        clear HB hb hbs p3 hlt hk
        obtain ⟨k, hk, rfl, hb, hbs, HB⟩ := hrel
        by_cases hlt : k < l3.length
        · obtain ⟨ad, x, A1, c1, hA, hx, r0, r1, hc1, hd1⟩ := at72 (Kd.C_below HR3.out (hb1'.trans (hb.mono (by omega)))) k hlt
          subst hA
          have HT := Lib.hid (flat_take pieceL l3 k x hx)
          have HOP := Lib.hid (OK.p3 x (List.mem_of_getElem? hx))
          have hf0 : 1 ≤ x.f0 := HOP.out.1
          have hf1 : x.f0 < next := HOP.out.2.1
          have HXL := Lib.hid (pieceL_length x (by omega) (by omega) HOP.out.2.2.1 HOP.out.2.2.2)
          have HFL : Hid ((headL next j ++ ((l0.map attrL).flatten ++ ((l3.take k).map pieceL).flatten)).length ≤ 500 + (200 * 8 + 3000 * 16)) := Lib.hid (by
            have a := HLH.out
            have b := flat_length attrL 200 l0 (fun y hy => attrL_length y (OK.a0 y hy))
            have c := flat_length pieceL 3000 (l3.take k) (fun y hy => by
              have h := OK.p3 y (List.mem_of_mem_take hy)
              exact pieceL_length y (by omega) (by omega) h.2.2.1 h.2.2.2)
            have d := OK.n0.2
            have e := OK.n3
            rw [List.length_take] at c
            rw [List.length_append, List.length_append]
            have f : 3000 * min k l3.length ≤ 3000 * 16 := Nat.mul_le_mul_left _ (by omega)
            have g : 200 * l0.length ≤ 200 * 8 := Nat.mul_le_mul_left _ d
            omega)
          have HD1 := Lib.hid hd1
          clear hx hd1
          have hpb : Below w1.heap.size w1 (wr.alloc (.cells #[.int .i64 x.f0, .slice A1 x.f1.length c1] 72)) := hb.alloc hb.size _
          have HPX := Lib.hid (blk_new wr (.cells #[.int .i64 x.f0, .slice A1 x.f1.length c1] 72))
          have hitoa : Hid (∀ W, Below w1.heap.size w1 W → Calls Tryz.prog 23 #[.int .i64 x.f0] W fun e w' => e = .returned (.string (itoaB x.f0)) ∧ Below W.heap.size W w') := Lib.hid fun W hW => itoa23 x.f0 (by omega) (by omega) W (hg1.out W hW)
          obtain ⟨i9, hi9, hzz⟩ := Option.map_eq_some_iff.1 info9
          simp only [Prod.mk.injEq] at hzz
          obtain ⟨hz0, hz1, hz2⟩ := hzz
          have hml : x.f1.length ≤ 64 := HOP.out.2.2.1
          by_cases hm : x.f1 = []
          · have hl0 : x.f1.length = 0 := by rw [hm]; rfl
            rw [hl0] at r1
            have hpe : Below w1.heap.size w1 (wr.alloc (.cells #[.int .i64 x.f0, .slice A1 0 c1] 72)) := hb.alloc hb.size _
            have HPE := Lib.hid (blk_new wr (.cells #[.int .i64 x.f0, .slice A1 0 c1] 72))
            clear hpb HPX hl0
            go_wp2_with fail
            generalize hWp : wr.alloc (.cells #[.int .i64 x.f0, .slice A1 0 c1] 72) = Wp at *
            have s0 : Wp.cell? ⟨wr.heap.size, 0, none⟩ = some (.int .i64 x.f0) := by rw [blk_cell HPE.out]; rfl
            have s1 : Wp.cell? ⟨wr.heap.size, 1, none⟩ = some (.slice A1 0 c1) := by rw [blk_cell HPE.out]; rfl
            have hWs := hpe.size
            have hWq := blk_lt HPE.out
            have HBW : Hid (Below wr.heap.size wr Wp) := Lib.hid (by rw [← hWp]; exact below_alloc (Below.refl _ _) _)
            have HLEN : Hid ((headL next j ++ ((l0.map attrL).flatten ++ ((l3.take k).map pieceL).flatten)).length + (lineL [wordPiece, itoaB x.f0]).length ≤ 140737488355328) := Lib.hid (by have a := HFL.out; have b := HXL.out; unfold pieceL at b; rw [hm] at b; omega)
            have HPL : Hid (pieceL x = lineL [wordPiece, itoaB x.f0]) := Lib.hid (by unfold pieceL; rw [hm])
            clear hWp hm
            go_region_held3 (fun w' => w'.cell? ⟨wr.heap.size, 0, none⟩ = some (.int .i64 x.f0) ∧ w'.cell? ⟨wr.heap.size, 1, none⟩ = some (.slice A1 0 c1)) (first | exact ⟨y0, y1⟩ | exact ⟨s0, s1⟩ | exact ⟨t0, t1⟩ | exact ⟨pw_cell_below (below_alloc (Below.refl _ _) _) t0, pw_cell_below (below_alloc (Below.refl _ _) _) t1⟩) (first | (go_at_call 23; refine (hitoa.out _ (by exact below_drew hpe)).mono ?_; rintro e wi ⟨rfl, hbi0⟩; have hbi := below_then (below_drew (Below.refl _ Wp)) (Nat.le_refl _) hbi0; have t0 := pw_cell_below hbi s0; have t1 := pw_cell_below hbi s1; have hbis := hbi.size) | (refine step_append_zero rfl (.tmp 57) (.tmp 59) 61 rfl 9 i9 Tryz.underlying61 hi9 ⟨wi.heap.size, 0, none⟩ 2 2 (Nat.le_refl _) A1 c1 (by rfl) (by rfl) ?_) | (go_at_call 20; refine (line2 _ w1.heap.size wordPiece (itoaB x.f0) _ wi rfl (IsB_below HB.out hbs (HBW.out.trans (hbi.mono HBW.out.size))) (by omega) HLEN.out).mono ?_; rintro e w10 ⟨rfl, hB10, hb10, hk10⟩; have HB10 := Lib.hid hB10; have hba' := hb10.size; have hpx := hk10 _ _ (blk_below HPE.out hbi) (by intro e; have := Option.some.inj e; omega) (by intro c fz e; cases e); have y0 : w10.cell? ⟨wr.heap.size, 0, none⟩ = some (.int .i64 x.f0) := (by rw [blk_cell hpx]; rfl); have y1 : w10.cell? ⟨wr.heap.size, 1, none⟩ = some (.slice A1 0 c1) := (by rw [blk_cell hpx]; rfl); have hfin : Below w1.heap.size w1 w10 := (hpe.trans (hbi.mono hWs)).trans hb10; clear hB10 hpx))
            go_wp2_with fail
            go_roundw
            case rel => exact ⟨k + 1, by omega, by go_num, hfin, by omega, Lib.hid (by have := HB10.out; rw [HT.out, HPL.out]; simp only [List.append_assoc] at this ⊢; exact this)⟩
            case measure => simp [intOf]; omega
          · go_wp2_with fail
            generalize hWp : wr.alloc (.cells #[.int .i64 x.f0, .slice A1 x.f1.length c1] 72) = Wp at *
            have s0 : Wp.cell? ⟨wr.heap.size, 0, none⟩ = some (.int .i64 x.f0) := by rw [blk_cell HPX.out]; rfl
            have s1 : Wp.cell? ⟨wr.heap.size, 1, none⟩ = some (.slice A1 x.f1.length c1) := by rw [blk_cell HPX.out]; rfl
            have hWs := hpb.size
            have hWq := blk_lt HPX.out
            obtain ⟨ad1, hA1, HSC⟩ : ∃ ad1, A1 = some ad1 ∧ Hid ((x.f1.map Value.string).length = x.f1.length * 1 ∧ (∀ W, Below Wp.heap.size Wp W → ∀ (j : Nat) u, (x.f1.map Value.string)[j]? = some u → W.cell? (ad1.add j) = some u) ∧ ∀ u ∈ x.f1.map Value.string, u.oneCell' = true) := by
              have hbw : Below wr.heap.size wr Wp := by rw [← hWp]; exact below_alloc (Below.refl _ _) _
              obtain ⟨ad1, h1, h2, h3, h4⟩ := str_cells HD1.out hm
              exact ⟨ad1, h1, h2, fun W hW j u hu => pw_cell_below (hbw.trans (hW.mono hbw.size)) (h3 j u hu), h4⟩
            subst hA1
            have HBW : Hid (Below wr.heap.size wr Wp) := Lib.hid (by rw [← hWp]; exact below_alloc (Below.refl _ _) _)
            have HLEN : Hid ((headL next j ++ ((l0.map attrL).flatten ++ ((l3.take k).map pieceL).flatten)).length + (lineL (wordPiece :: itoaB x.f0 :: x.f1)).length ≤ 140737488355328) := Lib.hid (by have a := HFL.out; have b := HXL.out; unfold pieceL at b; omega)
            clear hWp
            have hm1 : 1 ≤ x.f1.length := List.length_pos_iff.2 hm
            go_region_held3 (fun w' => w'.cell? ⟨wr.heap.size, 0, none⟩ = some (.int .i64 x.f0) ∧ w'.cell? ⟨wr.heap.size, 1, none⟩ = some (.slice (some ad1) x.f1.length c1)) (first | exact ⟨y0, y1⟩ | exact ⟨s0, s1⟩ | exact ⟨t0, t1⟩ | exact ⟨pw_cell_below (below_alloc (Below.refl _ _) _) t0, pw_cell_below (below_alloc (Below.refl _ _) _) t1⟩ | exact ⟨pw_cell_below hba s0, pw_cell_below hba s1⟩) (first | (go_at_call 23; refine (hitoa.out _ (by exact below_drew hpb)).mono ?_; rintro e wi ⟨rfl, hbi0⟩; have hbi := below_then (below_drew (Below.refl _ Wp)) (Nat.le_refl _) hbi0; have t0 := pw_cell_below hbi s0; have t1 := pw_cell_below hbi s1) | (refine step_append_grows rfl (.tmp 57) (.tmp 59) 61 rfl 9 i9 (.string ⟨#[]⟩) 1 16 Tryz.underlying61 hi9 hz0 hz1 hz2 rfl (by decide) (some ⟨wi.heap.size, 0, none⟩) 2 2 [.string wordPiece, .string (itoaB x.f0)] (by rfl) (fun h => by cases h) rfl (by exact two_olds wi wordPiece (itoaB x.f0) 9) ad1 x.f1.length c1 (x.f1.map Value.string) (by rfl) HSC.out.1 (by exact HSC.out.2.1 _ (hbi.alloc hbi.size _)) HSC.out.2.2 (by omega) (by unfold maxLen; omega) (by omega) ?_; intro v' w' hown hgrow; have HOW := Lib.hid hown; have hba := (hbi.alloc hbi.size (.cells #[.string wordPiece, .string (itoaB x.f0)] 9)).trans (grown_none hgrow (by have := hbi.size; simp; omega)); obtain ⟨g, capg, rfl, hgb, hgl⟩ := hown.form (by omega); have hbas := hba.size; clear hown hgrow) | (go_at_call 20; refine (line20n g _ capg w1.heap.size (wordPiece :: itoaB x.f0 :: x.f1) _ _ (by simp; omega) (by exact own_strs HOW.out rfl) hgl (by omega) (own_n HOW.out) (IsB_below HB.out hbs (HBW.out.trans (hba.mono HBW.out.size))) (by have := hba.size; omega) HLEN.out).mono ?_; rintro e w10 ⟨rfl, hB10, hb10, hk10⟩; have HB10 := Lib.hid hB10; have hba' := hb10.size; have hpx := hk10 _ _ (blk_below HPX.out hba) (by intro e; have := Option.some.inj e; omega) (by intro c fz e; cases e); have y0 : w10.cell? ⟨wr.heap.size, 0, none⟩ = some (.int .i64 x.f0) := (by rw [blk_cell hpx]; rfl); have y1 : w10.cell? ⟨wr.heap.size, 1, none⟩ = some (.slice (some ad1) x.f1.length c1) := (by rw [blk_cell hpx]; rfl); have hfin : Below w1.heap.size w1 w10 := (hpb.trans (hba.mono hWs)).trans hb10; clear hB10 hpx))
            go_wp2_with fail
            go_roundw
            case rel => exact ⟨k + 1, by omega, by go_num, hfin, by omega, Lib.hid (by have := HB10.out; rw [HT.out]; unfold pieceL; simp only [List.append_assoc] at this ⊢; exact this)⟩
            case measure => simp [intOf]; omega
        · have : k = l3.length := by omega
          subst this
          rw [List.take_length] at HB
          have HML : Hid ((manL l0 next j l3).length ≤ 140737488351232) := Lib.hid (by
            have a := HLH.out
            have b := flat_length attrL 200 l0 (fun y hy => attrL_length y (OK.a0 y hy))
            have c := flat_length pieceL 3000 l3 (fun y hy => by
              have h := OK.p3 y hy
              exact pieceL_length y (by omega) (by omega) h.2.2.1 h.2.2.2)
            have d := OK.n0.2
            have e := OK.n3
            unfold manL
            rw [List.length_append, List.length_append]
            have f : 3000 * l3.length ≤ 3000 * 16 := Nat.mul_le_mul_left _ e
            have g : 200 * l0.length ≤ 200 * 8 := Nat.mul_le_mul_left _ d
            omega)
          change Hid (Lib.IsBuilderF 60 5 w1.heap.size w1.heap.size (Lib.byteCells (manL l0 next j l3)) wr) at HB
          have HME : Hid (manB l0 next j l3 = sealB (strB (manL l0 next j l3))) := Lib.hid rfl
          generalize manL l0 next j l3 = ml at *
          have HSZ : Hid ((strB ml).size ≤ 140737488351232) := Lib.hid (by show ml.toArray.size ≤ _; rw [List.size_toArray]; exact HML.out)
          have kc := fun (s : ByteArray) W => print_bytes (P := Tryz.prog) 9 43 5 Tryz.underlying9 Tryz.underlying43 Tryz.underlying5 s W
          go_wp2_with fail
          refine (Tryz.Builder_String_any_k _ _ ml _ HB.out (by omega)).mono ?_
          rintro e w8 ⟨rfl, _, hb8, _⟩
          have hb8' := hb.trans hb8
          clear HB
          go_wp2_with fail
          refine (seal24n _ _ _ (strB ml) _ (by show ml.toArray.size = _; rw [List.size_toArray]) (bytes_reads w8 5 (strB ml) (by have := HSZ.out; omega)) (grownCap_ge ..) HSZ.out).mono ?_
          rintro e w9 ⟨v9, rfl, hv9, hb9⟩
          have kb := RV.str hv9
          have hb9' : Below w1.heap.size w1 w9 := ((hb8'.trans (bytes_below (Below.refl _ _) (by have := hb8'.size; omega) 5 (strB ml)))).trans (hb9.mono (by have := hb8'.size; rw [Lib.bytesWorld_size]; omega))
          go_wp2_with fail
          go_ret2
          exact ⟨by rw [HME.out]; rfl, hb1'.trans (hb9'.mono (by omega))⟩
end Go.Proofs.YtmeieeekjhjgjaaGreatDoor.H
