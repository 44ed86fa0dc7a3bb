/- 'StoreManifestsRaw', the row: what its premises give the walk, and what the walk gives back. -/
import Derived.Test.YtmeieeekjhjgjaaGreatDoorEc
import Derived.Test.YtmeieeekjhjgjaaGreatDoorCards
import Derived.Test.YtmeieeekjhjgjaaGreatDoorTie
import Derived.WalkKit
import Derived.ProofKit
import Derived.OpenShut
import Derived.ShutString
import Derived.LaidMore
import Derived.PinnedBridge
import Derived.MakeChecks
import Derived.Stop.LaidErr
import Derived.Shelf.Vars
import Derived.Deep.DeepWitnessRowRef
import Derived.Lib.LaidTab
import Derived.SizedLaws
import Derived.ChangeOld
namespace Go.Proofs.YtmeieeekjhjgjaaGreatDoor.Raw
open Go.ChangeShapes Go.WideShapes Go.ChangeAt Go.RowKit Go.Proofs.YtmeieeekjhjgjaaGreatDoor.H
open Go.ChangeMaps (open_string shut_string)

theorem own : ownKnob Tryz.prog.godebug = none := by kernel_rfl
theorem laidOut : laidOutB Tryz.prog = true := by kernel_rfl
theorem gPow : Tryz.prog.globalNamed "internal/strconv.uint64pow10" = some 1 := by kernel_rfl
theorem gPowType : (Tryz.prog.globals[1]?).map (·.type) = some 233 := by kernel_rfl
theorem cells233 : Tryz.prog.cellsOf 233 = 20 := by kernel_rfl
theorem cells192 : Tryz.prog.cellsOf 192 = 1 := by kernel_rfl
theorem gSyn : Tryz.prog.globalNamed "strconv.ErrSyntax" = some 2 := by kernel_rfl
theorem gSynType : (Tryz.prog.globals[2]?).map (·.type) = some 63 := by kernel_rfl
theorem gRng : Tryz.prog.globalNamed "strconv.ErrRange" = some 3 := by kernel_rfl
theorem gRngType : (Tryz.prog.globals[3]?).map (·.type) = some 63 := by kernel_rfl
theorem cells280 : Tryz.prog.cellsOf 280 = 1 := by kernel_rfl
theorem cells9 : Tryz.prog.cellsOf 9 = 1 := by kernel_rfl
theorem star : "*" ++ "errors.errorString" = "*errors.errorString" := by decide
theorem row278 (u : TypeId) (h : Tryz.prog.typeName? 3 u = some "*errors.errorString") : u = 278 :=
  typeName_ptr_named (nm := "errors.errorString") (by rw [star]; kernel_rfl) (by kernel_rfl) (by decide) u (by rw [star]; exact h)

/-- WHAT THE ROW's LIST AND THE WORLD's SHAPE GIVE THE WALKS. -/
theorem glob_of {W : World} (h0 : laidMetH Tryz.prog Rows.storeManifestsRawRow.laid W) (hs : W.ShapedOpen Tryz.prog) : Glob W := by
  rw [MakeChecks.laidMetH_plain _ _ _ (by kernel_rfl)] at h0
  have h2 := h0.tail.tail
  have h4 := h2.tail.tail
  have h5 := h4.tail
  have hpow : Lib.TabIs Tryz.prog W "internal/strconv.uint64pow10" .u64 Lib.pow10Tab := Lib.tabIs_of_head gPow gPowType Tryz.underlying233 Tryz.underlying192 cells192 cells233 h2
  obtain ⟨a0, s0, hv0, -, -, -⟩ := laid_sentinel h5 gSyn gSynType Tryz.underlying63 row278 Tryz.underlying278 Tryz.underlying280 rfl rfl Tryz.underlying9 cells280 cells9
  obtain ⟨a1, s1, hv1, -, -, -⟩ := laid_sentinel h4 gRng gRngType Tryz.underlying63 row278 Tryz.underlying278 Tryz.underlying280 rfl rfl Tryz.underlying9 cells280 cells9
  have hmax : ∃ m, W.cell? ⟨0, 0, none⟩ = some (.int .i64 m) := cell_of_shapedOpen_int (g := 0) (t := 3) (zero := #[.int .i64 0]) hs (of_decide_eq_true (by kernel_rfl)) (by kernel_rfl) rfl (by kernel_rfl) (by kernel_rfl) Tryz.underlying3
  refine ⟨?_, hpow, hmax, ?_, ?_⟩
  · obtain ⟨cs, hh, _⟩ := hs.1 7 (zero := ((((begin Tryz.prog (fun _ _ => 0) default).world.heap[7]?).bind Obj.row?).getD (#[], 0)).1) (t := ((((begin Tryz.prog (fun _ _ => 0) default).world.heap[7]?).bind Obj.row?).getD (#[], 0)).2) (of_decide_eq_true (by kernel_rfl)) (by kernel_rfl)
    rcases Nat.lt_or_ge 7 W.heap.size with hlt | hge
    · exact hlt
    · rw [Array.getElem?_eq_none hge] at hh; cases hh
  · exact ⟨_, by have h0 := World.var?_cell gSyn hv0 0; simpa using h0, Or.inr ⟨_, _, rfl⟩⟩
  · exact ⟨_, by have h0 := World.var?_cell gRng hv1 0; simpa using h0, Or.inr ⟨_, _, rfl⟩⟩

set_option maxRecDepth 100000 in
/-- WHAT THE WALK GIVES, FOR EVERY ARGUMENT. -/
theorem contract (H : Type) (enc : TypeId × Value → H) (W : World) (base : Nat) (args : Array Value) (ds gs : List (DataW H)) (before : List MemPlace)
    (hval : ∀ (j : Nat) t v, Tryz.f4.params[j]? = some t → args[j]? = some v → Value.okWide Tryz.prog W .any base t v)
    (hW : DataW.Whole enc Tryz.prog Tryz.f4.params.toList Rows.storeManifestsRawSpec.vars false W args.toList ds gs before) (hG : Glob W) :
    Calls Tryz.prog 4 args W fun e W' => ∃ v, e = .returned v ∧ Rows.storeManifestsRawSpec.post enc Tryz.prog Tryz.f4 false true false false W args v W' := by
  have hW' := hW
  obtain ⟨p, q, hA0, hV, rfl, hfz, hnd⟩ := hW
  have hA : DataW.TrodAll enc Tryz.prog W 0 (fun _ => true) true Tryz.f4.params.toList args.toList ds p := hA0
  rw [Tryz.params4] at hA hval
  obtain ⟨v0, vs0, d0, ds0, p0, q0, hargs, rfl, rfl, h0, r0⟩ := trodAll_cons hA
  obtain ⟨v1, vs1, d1, ds1, p1, q1, rfl, rfl, rfl, h1, r1⟩ := trodAll_cons r0
  obtain ⟨rfl, rfl, rfl⟩ := trodAll_nil r1
  obtain rfl : args = #[v0, v1] := by cases args; simp_all
  obtain ⟨rfl, rfl⟩ := trodVars_none hV
  have k0 := h0
  have lt0 : ∀ x ∈ p0, x.block < W.heap.size := by obtain ⟨m, hm⟩ := k0; exact DataW.trod_lt m _ _ _ hm
  have hv0 : Value.okWide Tryz.prog W .any base 27 v0 := hval 0 27 v0 rfl rfl
  have hv1 : Value.okWide Tryz.prog W .any base 9 v1 := hval 1 9 v1 rfl rfl
  obtain ⟨u0, u1, u2, u3, u4, y0, y1, y2, y3, y4, n, rfl, g0, g1, g2, g3, g4⟩ := open_agg5 Tryz.underlying27 (by kernel_rfl) (by kernel_rfl) hv0 h0
  obtain ⟨A0, c0, l0, rfl, hl0, hC0, hs0⟩ := read70 g0
  obtain ⟨next, e1, _⟩ := DataW.trod_int Tryz.underlying3 g1
  obtain rfl : u1 = .int .i64 next := by simpa using e1
  obtain ⟨j, e2, _⟩ := DataW.trod_int Tryz.underlying3 g2
  obtain rfl : u2 = .int .i64 j := by simpa using e2
  obtain ⟨A3, c3, l3, rfl, hl3, hC3, hs3⟩ := read72 g3
  obtain ⟨A4, n4, c4, rfl⟩ := readSlice Tryz.underlying25 g4
  obtain ⟨s, rfl, rfl, rfl, ys⟩ := open_string Tryz.underlying9 hv1 h1
  clear hA0
  simp only [List.append_nil] at hW'
  refine (law4 A0 A3 A4 c0 c3 c4 l0 next j l3 n4 s W hG hC0 hl0 hs0 hC3 hl3 hs3).mono fun e W' ⟨he, bel⟩ => ?_
  subst he
  exact ⟨_, rfl, _, _, _, [], _, [], hW', trodAll_mk1 (shut_bool Tryz.underlying4 _), (trodAll_cons_mk (Below.trod laidOut (by kernel_rfl) (of_decide_eq_true (by kernel_rfl)) k0 bel lt0) (trodAll_cons_mk (shut_string Tryz.underlying9 ys) trodAll_mk0)), rfl, bel.frame _, fun h => by cases h⟩

end Go.Proofs.YtmeieeekjhjgjaaGreatDoor.Raw
