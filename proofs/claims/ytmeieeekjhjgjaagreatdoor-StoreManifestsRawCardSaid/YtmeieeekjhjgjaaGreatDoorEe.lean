/- 'StoreManifestsRaw': for every store and every text it returns true, and both read behind the call as they read before; taking that the listed variables of Go's library read as listed. -/
import Derived.Test.YtmeieeekjhjgjaaGreatDoorEd
import Derived.Test.YtmeieeekjhjgjaaGreatDoorCards
import Derived.Test.YtmeieeekjhjgjaaGreatDoorTie
import Derived.WalkKit
import Derived.ProofKit
import Derived.OpenShut
import Derived.ShutString
import Derived.LaidMore
import Derived.PinnedBridge
import Derived.MakeChecks
import Derived.Stop.LaidErr
import Derived.Shelf.Vars
import Derived.Deep.DeepWitnessRowRef
import Derived.Lib.LaidTab
import Derived.SizedLaws
import Derived.ChangeOld
namespace Go.Proofs.YtmeieeekjhjgjaaGreatDoor.Raw
open Go.ChangeShapes Go.WideShapes Go.ChangeAt Go.RowKit Go.Proofs.YtmeieeekjhjgjaaGreatDoor.H
open Go.ChangeMaps (open_string shut_string)

/-- A WORLD FOR THE WITNESS: what the initialisers lay, and the pinned table in its block. -/
def pinnedCells : DataW Unit → Array Value
  | .agg ds => (ds.map fun d => match d with | .lit (.int k n) => Value.int k n | _ => .bool false).toArray
  | _ => #[]
noncomputable def laidWorld (os : Os) : World :=
  { World.doorLaid Tryz.prog 72 os with heap := (World.doorLaid Tryz.prog 72 os).heap.modify 4 fun
      | .cells _ t frozen => .cells (pinnedCells Go.Pinned.utf8First) t frozen
      | o => o }
def args0 : Array Value := #[.agg #[.slice none 0 0, .int .i64 0, .int .i64 0, .slice none 0 0, .slice none 0 0], .string ByteArray.empty]
theorem laid_met (os : Os) : laidMet Tryz.prog Rows.storeManifestsRawRow.laid ((laidWorld os).forCall (fun _ _ => 0) ⟨#[], args0, []⟩).memory :=
  laidMet_of_run' 8 (by kernel_rfl) (by kernel_rfl)
theorem reads (os : Os) {H : Type} (enc : TypeId × Value → H) : ∃ places, DataW.whole enc Tryz.prog ((laidWorld os).forCall (fun _ _ => 0) ⟨#[], args0, []⟩).memory Tryz.f4.params.toList Rows.storeManifestsRawSpec.vars false args0.toList 8 = some ([.agg [.nil, .lit (.int .i64 0), .lit (.int .i64 0), .nil, .nil], .lit (.string [])], [], places) :=
  ⟨[], by kernel_rfl⟩

set_option maxRecDepth 100000 in
theorem lifted (os : Os) (started : os.Started) (H : Type) (enc : TypeId × Value → H) (F : Stop.Interp) :
    ReturnsInHanded {} Tryz.checked os 4 .any ((OpenSpec.ofChange Rows.storeManifestsRawSpec).preRow enc Tryz.prog Tryz.f4 Rows.storeManifestsRawRow.domain false Rows.storeManifestsRawRow.laid) (((OpenSpec.ofChange Rows.storeManifestsRawSpec).at F).post enc Tryz.prog Tryz.f4 false true false false) := by
  obtain ⟨places, hx⟩ := reads os enc
  refine returnsInHanded_of_row (C := Tryz.checked) (s := OpenSpec.ofChange Rows.storeManifestsRawSpec) own started (by kernel_rfl) Tryz.func4
    (witness_row_atRef (enc := enc) (C := Tryz.checked) false (laidWorld os) args0 rfl (by kernel_rfl) (by kernel_rfl) (by kernel_rfl)
      (OpenSpec.preRow_of_cond 8 hx (by kernel_rfl) (fun k hk => by cases hk) (by kernel_rfl) (laid_met os))) ?_
  intro W base args ds gs before hval hW _ _ _ hL hS _
  exact contract H enc W base args ds gs before hval hW (glob_of hL hS)

theorem said : Rows.StoreManifestsRawSaid :=
  OpenClaim.holds_of_cond 4 Tryz.f4 rfl rfl rfl rfl rfl rfl rfl ⟨rfl, rfl, rfl, rfl, rfl⟩ rfl rfl rfl rfl rfl (by kernel_rfl) Tryz.func4 (by kernel_rfl)
    (of_decide_eq_true (by kernel_rfl)) (by unfold Func.isWrapper; first | (rw [if_pos (by decide +kernel)]; kernel_rfl) | (rw [if_neg (by decide +kernel)]; exact ⟨rfl, rfl⟩))
    (fun os started H enc _ F => by rw [OpenClaim.pre_eq_preRow]; exact lifted os started H enc F)

theorem plain (f : FuncId) (fn : Func) (hf : Tryz.pinned.checked.prog.funcNamed "corpora/corporalaw42.StoreManifestsRaw" = some f) (hfn : Tryz.pinned.checked.prog.funcs[f]? = some fn) :
    true = Tryz.pinned.checked.prog.looks [] ∧ ∀ (j : Nat) t, fn.params[j]? = some t → Tryz.pinned.checked.prog.wantsStandIn t = false := by
  obtain rfl : f = 4 := Option.some.inj ((show Tryz.prog.funcNamed "corpora/corporalaw42.StoreManifestsRaw" = some 4 by kernel_rfl).symm.trans hf) |>.symm
  obtain rfl : fn = Tryz.f4 := (Option.some.inj (Tryz.func4.symm.trans hfn)).symm
  refine ⟨by kernel_rfl, fun j t ht => ?_⟩
  rw [Tryz.params4] at ht
  have hm : t ∈ [27, 9] := by simpa using Array.mem_of_getElem? ht
  have hall : ([27, 9].all fun u => !Tryz.prog.wantsStandIn u) = true := by kernel_rfl
  exact (show Tryz.prog.wantsStandIn t = false by simpa using List.all_eq_true.1 hall t hm)
end Go.Proofs.YtmeieeekjhjgjaaGreatDoor.Raw
namespace Go.Proofs.YtmeieeekjhjgjaaGreatDoor
/-- THE TIED CARD. -/
theorem storeManifestsRaw_card : Rows.StoreManifestsRawCardSaid :=
  Claim7.holds_tied_plain_at .later [] _ _ _ _ Raw.said (fun _ h => by cases h) (by kernel_rfl) (fun _ h => by cases h) storeManifestsRaw_row_tie rfl ⟨rfl, rfl⟩ (by kernel_rfl) rfl Raw.plain (by kernel_rfl)
#print axioms storeManifestsRaw_card
end Go.Proofs.YtmeieeekjhjgjaaGreatDoor
