/- The walk of known, second part. -/
import Derived.Test.YtmeieeekjhjgjaaGreatDoorCs
namespace Go.Proofs.YtmeieeekjhjgjaaGreatDoor.H
open Go.RowKit Go.Proofs.YtmeieeekjhjgjaaGreatDoorW.PrintWords

theorem emptyR {α : Type} (d : Kd α) (e : Nat) (W : World) (base : Nat) (hb : base ≤ W.heap.size) : d.R e (W.alloc (.cells #[] e)) base any (.slice (some ⟨W.heap.size, 0, none⟩) 0 0) [] :=
  ⟨fun _ _ => trivial, [], ⟨by simp, .inr ⟨W.heap.size, 0, #[], rfl, hb, blk_new W _, Nat.le_refl _, by decide, by simp, by simp⟩⟩, Reps.none _ _⟩
theorem k70_KM {W : World} {base : Nat} {ok : Nat → Prop} (x : S70) (cs : List Value) (h : k70.K W x cs) : k70.M W base ok x cs := by
  rw [k70_open h]; exact k70_M W base ok x
theorem k84_KM {W : World} {base : Nat} {ok : Nat → Prop} (x : S84) (cs : List Value) (h : k84.K W x cs) : k84.M W base ok x cs := by
  rw [k84_open h]; exact k84_M W base ok x
set_option maxHeartbeats 2000000 in
set_option maxRecDepth 10000 in
theorem clone63 (ad : Addr) (n c : Nat) (l : List S70) (w : World) (hn : n ≤ 1000000) (hr : Kd.C k70 w (some ad) n l) :
    Calls Tryz.prog 63 #[.slice (some ad) n c] w fun e w' => ∃ v, e = .returned v ∧ k70.R 70 w' w.heap.size any v l ∧ Below w.heap.size w w' := by
  have HR := Lib.hid hr
  clear hr
  have q23 : ∀ (w : World) (a : Option Addr) (n c n' c' : Nat), (binOp .eql 23 (.slice a n c) (.slice none n' c')).run Tryz.prog w = .ok (.bool a.isNone) w := fun w a n c n' c' => Lib.run_eql_slice_nil w _ _ a n c n' c' Tryz.underlying23
  go_enter Tryz.func63, Tryz.ntmps63
  go_wp2_with (first | ((with_reducible refine gate_dst (N := 7) rfl ?_); refine Kd.R_append_rows k70 (Rr := k70.K (w.alloc (.cells #[] 70))) (w0 := w) w.heap.size rfl (.tmp 5) (.tmp 6) 23 70 (.agg #[.string ⟨#[]⟩, .bool false]) 24 rfl Tryz.underlying23 info70 rfl (by decide) (by decide) (.slice (some ⟨w.heap.size, 0, none⟩) 0 0) [] l (some ad) n c any (fun _ => False) rfl ?hx ?hO ?hR k70_KM (fun _ h => h.elim) (fun _ _ => trivial) ?hB ?hba ?hl ?_; (case hx => rfl); (case hO => exact emptyR k70 70 w w.heap.size (Nat.le_refl _)); (case hR => exact Kd.C_below HR.out (below_alloc (Below.refl _ _) _)); (case hB => exact below_alloc (Below.refl _ _) _); (case hba => simp); (case hl => simp; omega); intro v2 w2 hR2 hb2 _ _; have HR2 := Lib.hid hR2; have HB2 := Lib.hid hb2; clear hR2 hb2))
  go_ret
  exact ⟨_, rfl, by simpa using HR2.out, HB2.out⟩
def attrs3 : Array Value := #[.string ⟨#[119, 111, 114, 100]⟩, .bool false, .string ⟨#[116, 97, 103]⟩, .bool false, .string ⟨#[102, 101, 97, 116]⟩, .bool true]
theorem attrs15 (w : World) : Calls Tryz.prog 15 #[] w fun e w' => e = .returned (.slice (some ⟨w.heap.size, 0, none⟩) 3 3) ∧ w' = w.alloc (.cells attrs3 70) := by
  unfold attrs3
  go_enter Tryz.func15, Tryz.ntmps15
  go_wp2
  go_ret
  exact ⟨rfl, rfl⟩
def word1 : S70 := ⟨⟨#[119, 111, 114, 100]⟩, false⟩
theorem valid1 : validB [word1] 2 1 [] = true := by decide
theorem ok1 : OkNames [word1] := fun x hx => by rw [List.mem_singleton.1 hx]; decide
def OpsPost (B : Nat) (w : World) (ks : List Int) (e : Ending) (w' : World) : Prop := ∃ v xs, e = .returned (.tuple #[v, .int .i64 0]) ∧ Ops w' B v xs ∧ xs.map (·.f0) = ks ∧ Below B w w'
theorem man_size (l0 : List S70) (n j : Int) (l3 : List S72) : ¬ (manB l0 n j l3).size = 0 := by
  unfold manB; rw [sealB_size]; omega
def sync : S84 := ⟨6, ⟨#[]⟩, ⟨#[]⟩, ⟨#[]⟩⟩
theorem read3 (W : World) (x y z : S84) : Kd.C k84 (W.alloc (.cells #[.int .i64 x.f0, .string x.f1, .string x.f2, .string x.f3, .int .i64 y.f0, .string y.f1, .string y.f2, .string y.f3, .int .i64 z.f0, .string z.f1, .string z.f2, .string z.f3] 84)) (some ⟨W.heap.size, 0, none⟩) 3 [x, y, z] := by
  refine ⟨rfl, by decide, fun _ => ⟨_, rfl, fun j p hj => ?_⟩⟩
  have hb := blk_new W (.cells #[.int .i64 x.f0, .string x.f1, .string x.f2, .string x.f3, .int .i64 y.f0, .string y.f1, .string y.f2, .string y.f3, .int .i64 z.f0, .string z.f1, .string z.f2, .string z.f3] 84)
  have hk : ∀ (q : S84) (V : World), k84.K V q [.int .i64 q.f0, .string q.f1, .string q.f2, .string q.f3] := fun q V => Kd.K_of_M k84 (k84_M V 0 any q)
  rcases j with _ | _ | _ | j
  · cases hj
    refine ⟨_, rfl, hk x _, fun i u hu => ?_⟩
    rw [add_plain, blk_cell hb]
    rcases i with _ | _ | _ | _ | i
    all_goals first | (cases hu; rfl) | (simp at hu)
  · cases hj
    refine ⟨_, rfl, hk y _, fun i u hu => ?_⟩
    rw [add_plain, blk_cell hb]
    rcases i with _ | _ | _ | _ | i
    all_goals first | (cases hu; rfl) | (simp at hu)
  · cases hj
    refine ⟨_, rfl, hk z _, fun i u hu => ?_⟩
    rw [add_plain, blk_cell hb]
    rcases i with _ | _ | _ | _ | i
    all_goals first | (cases hu; rfl) | (simp at hu)
  · simp at hj
set_option maxHeartbeats 2000000 in
set_option maxRecDepth 10000 in
theorem mops106 (A0 : Option Addr) (c0 : Nat) (w : World) (hg : Glob w) (hc : 1 ≤ c0) (hr : Kd.C k70 w A0 1 [word1]) :
    Calls Tryz.prog 106 #[.agg #[.slice A0 1 c0, .int .i64 2, .int .i64 1, .slice none 0 0, .slice none 0 0], dir0] w (OpsPost w.heap.size w [1, 2, 3, 6, 4, 6]) := by
  have HR := Lib.hid hr
  have HG := Lib.hid hg
  have HM := Lib.hid (man_size [word1] 2 1 [])
  clear hr hg
  unfold dir0
  go_enter Tryz.func106, Tryz.ntmps106
  go_wp2_with fail
  refine (manifest7_yes A0 none none c0 0 0 [word1] 2 1 [] 0 _ (HG.out.below' (below_alloc (below_alloc (Below.refl _ _) _) _)) (Kd.C_below HR.out (below_alloc (below_alloc (Below.refl _ _) _) _)) hc (by simp) ok1 ⟨rfl, by decide, fun h => absurd h (by decide)⟩ (by simp) (fun x hx => by cases hx) valid1).mono ?_
  generalize manB [word1] 2 1 [] = mt at *
  rintro e w1 ⟨rfl, hb1⟩
  have hb1' := below_then (below_alloc (below_alloc (Below.refl _ w) _) _) (by simp; omega) hb1
  have hdx := blk_below (blk_new (w.alloc (.cells #[.slice A0 1 c0, .int .i64 2, .int .i64 1, .slice none 0 0, .slice none 0 0] 27)) (.cells #[.slice none 0 0, .slice none 0 0, .slice none 0 0, .slice none 0 0] 32)) hb1
  rw [World.size_alloc] at hdx
  have d0 := (blk_cell hdx 0).trans (show _ = some (Value.slice none 0 0) from rfl)
  have d1 := (blk_cell hdx 1).trans (show _ = some (Value.slice none 0 0) from rfl)
  have d2 := (blk_cell hdx 2).trans (show _ = some (Value.slice none 0 0) from rfl)
  have d3 := (blk_cell hdx 3).trans (show _ = some (Value.slice none 0 0) from rfl)
  clear hb1 hdx
  have hs1 := hb1'.size
  have HNW : Hid (∀ n, newOps n mt = [⟨1, n, ⟨#[]⟩, ⟨#[]⟩⟩, ⟨2, n, ⟨#[]⟩, mt⟩, ⟨3, n, ⟨#[]⟩, ⟨#[]⟩⟩]) := Lib.hid fun n => by unfold newOps; rw [if_neg HM.out]
  go_wp2_with fail
  refine (new65 _ mt w1).mono ?_
  rintro e w2 ⟨v2, rfl, hR2, hb2⟩
  rw [HNW.out] at hR2
  obtain ⟨A2, c2, e2, _, _⟩ := Kd.R_reads hR2
  subst e2
  have HR2 := Lib.hid (Kd.R_lower hR2 hs1)
  have hb2' := below_then hb1' hs1 hb2
  clear hR2 hb2
  go_wp2_with fail
  refine (sync107 w2).mono ?_
  rintro e w3 ⟨rfl, hb3⟩
  have HR3 := Lib.hid (Kd.R_below HR2.out hb3)
  have hb3' := below_then hb2' hb2'.size hb3
  go_wp2_with fail
  refine (sync107 w3).mono ?_
  rintro e w4 ⟨rfl, hb4⟩
  have HR4 := Lib.hid (Kd.R_below HR3.out hb4)
  have HB4 := Lib.hid (below_then hb3' hb3'.size hb4)
  clear hb4 hb3 hb3' hb2'
  go_wp2_with (first | ((with_reducible refine gate_dst (N := 23) rfl ?_); refine Kd.R_append_rows k84 (Rr := k84.K (w4.alloc (.cells #[.int .i64 6, .string ⟨#[]⟩, .string ⟨#[]⟩, .string ⟨#[]⟩, .int .i64 4, .string ⟨#[77, 65, 78, 73, 70, 69, 83, 84, 46, 110, 101, 119]⟩, .string ⟨#[77, 65, 78, 73, 70, 69, 83, 84]⟩, .string ⟨#[]⟩, .int .i64 6, .string ⟨#[]⟩, .string ⟨#[]⟩, .string ⟨#[]⟩] 84))) (w0 := w) w.heap.size rfl (.tmp 18) (.tmp 22) 30 84 (.agg #[.int .i64 0, .string ⟨#[]⟩, .string ⟨#[]⟩, .string ⟨#[]⟩]) 56 rfl Tryz.underlying30 info84 rfl (by decide) (by decide) (.slice A2 _ c2) _ [sync, ⟨4, ⟨#[77, 65, 78, 73, 70, 69, 83, 84, 46, 110, 101, 119]⟩, ⟨#[77, 65, 78, 73, 70, 69, 83, 84]⟩, ⟨#[]⟩⟩, sync] (some ⟨w4.heap.size, 0, none⟩) 3 3 any (fun _ => False) rfl ?hx (Kd.R_below HR4.out (below_alloc (Below.refl _ _) _)) ?hR k84_KM (fun _ h => h.elim) (fun _ _ => trivial) ?hB ?hba ?hl ?_; (case hx => rfl); (case hR => exact read3 w4 sync ⟨4, ⟨#[77, 65, 78, 73, 70, 69, 83, 84, 46, 110, 101, 119]⟩, ⟨#[77, 65, 78, 73, 70, 69, 83, 84]⟩, ⟨#[]⟩⟩ sync); (case hB => exact below_alloc HB4.out _); (case hba => exact (below_alloc HB4.out _).size); (case hl => simp); intro v5 w5 hR5 hb5 _ _; have HR5 := Lib.hid hR5; have HB5 := Lib.hid hb5; clear hR5 hb5))
  go_ret2
  exact ⟨_, _, rfl, HR5.out, rfl, HB5.out⟩
end Go.Proofs.YtmeieeekjhjgjaaGreatDoor.H
