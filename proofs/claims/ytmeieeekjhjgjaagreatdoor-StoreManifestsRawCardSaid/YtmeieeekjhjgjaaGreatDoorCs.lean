/- The walk of known, first part: the operations. -/
import Derived.Test.YtmeieeekjhjgjaaGreatDoorCq
namespace Go.Proofs.YtmeieeekjhjgjaaGreatDoor.H
open Go.RowKit Go.Proofs.YtmeieeekjhjgjaaGreatDoorW.PrintWords

structure S84 where
  f0 : Int
  f1 : ByteArray
  f2 : ByteArray
  f3 : ByteArray
def k84 : Kd S84 := Kd.iso (Kd.pair (Kd.int .i64) (Kd.pair Kd.string (Kd.pair Kd.string Kd.string))) (fun x : S84 => (x.f0, x.f1, x.f2, x.f3))
theorem k84_open {w : World} {x : S84} {cs : List Value} (h : k84.K w x cs) : cs = [.int .i64 x.f0, .string x.f1, .string x.f2, .string x.f3] := by
  obtain ⟨_, _, rfl, rfl, ⟨_, _, rfl, rfl, ⟨_, _, rfl, rfl, rfl⟩⟩⟩ := h
  exact rfl
theorem k84_M (w : World) (base : Nat) (ok : Nat → Prop) (x : S84) : k84.M w base ok x [.int .i64 x.f0, .string x.f1, .string x.f2, .string x.f3] := ⟨[.int .i64 x.f0], [.string x.f1, .string x.f2, .string x.f3], rfl, rfl, ⟨[.string x.f1], [.string x.f2, .string x.f3], rfl, rfl, ⟨[.string x.f2], [.string x.f3], rfl, rfl, rfl⟩⟩⟩
theorem at84 {w : World} {A : Option Addr} {l : List S84} (h : Kd.C k84 w A l.length l) (k : Nat) (hk : k < l.length) : ∃ ad x, A = some ad ∧ l[k]? = some x ∧ w.cell? (ad.add (k * 4)) = some (.int .i64 x.f0) ∧ w.cell? ⟨(ad.add (k * 4)).block, (ad.add (k * 4)).off + 1, none⟩ = some (.string x.f1) ∧ w.cell? ⟨(ad.add (k * 4)).block, (ad.add (k * 4)).off + 2, none⟩ = some (.string x.f2) ∧ w.cell? ⟨(ad.add (k * 4)).block, (ad.add (k * 4)).off + 3, none⟩ = some (.string x.f3) := by
  obtain ⟨ad, c, e, _, hK, hc0⟩ := Kd.C_get h ⟨0, ⟨#[]⟩, ⟨#[]⟩, ⟨#[]⟩⟩ (k : Int) (by omega) (by omega)
  have hc : ∀ j u, c[j]? = some u → w.cell? (ad.add (k * 4 + j)) = some u := by rw [Int.toNat_natCast] at hc0; exact hc0
  have hx := List.getElem?_eq_getElem hk
  rw [Int.toNat_natCast, getD_of hx] at hK
  obtain rfl := k84_open hK
  exact ⟨ad, l[k], e, hx, hc 0 _ rfl, by rw [← add_field _ _ 1 (by omega)]; exact hc 1 _ rfl, by rw [← add_field _ _ 2 (by omega)]; exact hc 2 _ rfl, by rw [← add_field _ _ 3 (by omega)]; exact hc 3 _ rfl⟩
theorem info84 : (Tryz.prog.info? 84).map (fun i => (i.zero, i.size, i.bytes)) = some (some (.agg #[.int .i64 0, .string ⟨#[]⟩, .string ⟨#[]⟩, .string ⟨#[]⟩]), 4, 56) := by kernel_rfl
def e0 : ByteArray := ⟨#[]⟩
theorem sync107 (w : World) : Calls Tryz.prog 107 #[] w fun e w' => e = .returned (.agg #[.int .i64 6, .string ⟨#[]⟩, .string ⟨#[]⟩, .string ⟨#[]⟩]) ∧ Below w.heap.size w w' := by
  go_enter Tryz.func107, Tryz.ntmps107
  go_wp2
  refine bodyPost_ret (v := .agg #[.int .i64 6, .string ⟨#[]⟩, .string ⟨#[]⟩, .string ⟨#[]⟩]) (by simp [results, Tryz.results107, go_sem]) rfl ⟨rfl, ?_⟩
  exact below_alloc (Below.refl _ _) _
theorem journal66 (n : Int) (h0 : 0 ≤ n) (h1 : n ≤ 1000000000) (w : World) (hg : Glob w) : Calls Tryz.prog 66 #[.int .i64 n] w fun e w' => (∃ s, e = .returned (.string s)) ∧ Below w.heap.size w w' := by
  go_enter Tryz.func66, Tryz.ntmps66
  go_wp2_with fail
  refine (itoa23 n (by omega) (by omega) w hg).mono ?_
  rintro e w1 ⟨rfl, hb⟩
  have hsz := itoaB_size n h0 h1
  have hsz' : ¬ 9223372036854775807 < 8 + (itoaB n).size := by omega
  go_wp2_with fail
  go_ret
  exact ⟨⟨_, rfl⟩, hb⟩
def dir0 : Value := .agg #[.slice none 0 0, .slice none 0 0, .slice none 0 0, .slice none 0 0]
theorem find186 (f : Value) (c : Nat) (w : World) : Calls Tryz.prog 186 #[.slice none 0 c, f] w fun e w' => e = .returned (.int .i64 (-1)) ∧ w' = w := by
  go_enter Tryz.func186, Tryz.ntmps186
  go_wp2
  go_loop [8] (fun i => i = .int .i64 0) (fun _ => 0)
  case atStart => rfl
  case round =>
    obtain rfl := hrel
    go_wp2
    go_ret
    exact ⟨rfl, rfl⟩
theorem contains147 (f : Value) (c : Nat) (w : World) : Calls Tryz.prog 147 #[.slice none 0 c, f] w fun e w' => e = .returned (.bool false) ∧ w' = w := by
  go_enter Tryz.func147, Tryz.ntmps147
  go_wp2_with fail
  refine (find186 f c w).mono ?_
  rintro e w1 ⟨rfl, rfl⟩
  go_wp2_with fail
  go_ret
  exact ⟨rfl, rfl⟩
theorem has108 (s : ByteArray) (w : World) : Calls Tryz.prog 108 #[dir0, .string s] w fun e w' => e = .returned (.bool false) ∧ Below w.heap.size w w' := by
  unfold dir0
  go_enter Tryz.func108, Tryz.ntmps108
  go_wp2_with fail
  refine (contains147 _ 0 _).mono ?_
  rintro e w1 ⟨rfl, rfl⟩
  go_wp2_with fail
  go_ret
  exact ⟨rfl, below_alloc (below_alloc (Below.refl _ _) _) _⟩
/-- A row of operations of one's own. -/
def Ops (w : World) (B : Nat) (v : Value) (xs : List S84) : Prop := k84.R 84 w B any v xs
def NewPost (B : Nat) (w : World) (xs : List S84) (e : Ending) (w' : World) : Prop := ∃ v, e = .returned v ∧ Ops w' B v xs ∧ Below B w w'
def newOps (n t : ByteArray) : List S84 := if t.size = 0 then [⟨1, n, ⟨#[]⟩, ⟨#[]⟩⟩, ⟨3, n, ⟨#[]⟩, ⟨#[]⟩⟩] else [⟨1, n, ⟨#[]⟩, ⟨#[]⟩⟩, ⟨2, n, ⟨#[]⟩, t⟩, ⟨3, n, ⟨#[]⟩, ⟨#[]⟩⟩]
set_option maxHeartbeats 2000000 in
theorem new65 (n t : ByteArray) (w : World) : Calls Tryz.prog 65 #[dir0, .string n, .string t] w (NewPost w.heap.size w (newOps n t)) := by
  unfold dir0
  have hcase : (t.toList == []) = decide (t = (⟨#[]⟩ : ByteArray)) := by rw [← toList_beq]; rw [ByteArray.toList_eq ⟨#[]⟩]
  by_cases ht : t = (⟨#[]⟩ : ByteArray)
  · subst ht
    go_enter Tryz.func65, Tryz.ntmps65
    go_wp2_with fail
    refine (has108 n _).mono ?_
    rintro e w1 ⟨rfl, hb0⟩
    have hb1 := below_then (below_alloc (Below.refl _ w) _) (by simp) hb0
    clear hb0
    go_wp2_with (first | ((with_reducible refine gate_dst (N := 20) rfl ?_); refine Kd.R_append k84 (w0 := w) w.heap.size rfl (.tmp 16) (.tmp 19) 30 84 (.agg #[.int .i64 0, .string ⟨#[]⟩, .string ⟨#[]⟩, .string ⟨#[]⟩]) 56 rfl Tryz.underlying30 info84 rfl (by decide) (by decide) (.slice none 0 0) [] ⟨1, n, ⟨#[]⟩, ⟨#[]⟩⟩ [.int .i64 1, .string n, .string ⟨#[]⟩, .string ⟨#[]⟩] any (fun _ => False) rfl ?hx (k84_M _ _ _ ⟨1, n, ⟨#[]⟩, ⟨#[]⟩⟩) (fun _ h => h.elim) (fun _ _ => trivial) ?hO ?hB ?hba ?hl ?_; (case hx => rfl); (case hO => exact Kd.R_nil ..); (case hB => exact hb1); (case hba => exact (hb1).size); (case hl => simp); intro v2 w2 hR2 hb2 _ _; have HR2 := Lib.hid hR2; have HB2 := Lib.hid hb2; obtain ⟨A2, c2, rfl, _, _⟩ := Kd.R_reads hR2; clear hR2 hb2) | ((with_reducible refine gate_dst (N := 33) rfl ?_); refine Kd.R_append k84 (w0 := w) w.heap.size rfl (.tmp 29) (.tmp 32) 30 84 (.agg #[.int .i64 0, .string ⟨#[]⟩, .string ⟨#[]⟩, .string ⟨#[]⟩]) 56 rfl Tryz.underlying30 info84 rfl (by decide) (by decide) (.slice A2 _ c2) [⟨1, n, ⟨#[]⟩, ⟨#[]⟩⟩] ⟨3, n, ⟨#[]⟩, ⟨#[]⟩⟩ [.int .i64 3, .string n, .string ⟨#[]⟩, .string ⟨#[]⟩] any (fun _ => False) rfl ?hx (k84_M _ _ _ ⟨3, n, ⟨#[]⟩, ⟨#[]⟩⟩) (fun _ h => h.elim) (fun _ _ => trivial) ?hO ?hB ?hba ?hl ?_; (case hx => rfl); (case hO => exact HR2.out); (case hB => exact HB2.out); (case hba => exact (HB2.out).size); (case hl => simp); intro v4 w4 hR4 hb4 _ _; have HR4 := Lib.hid hR4; have HB4 := Lib.hid hb4; obtain ⟨A4, c4, rfl, _, _⟩ := Kd.R_reads hR4; clear hR4 hb4))
    go_ret
    exact ⟨_, rfl, HR4.out, HB4.out⟩
  · rw [decide_eq_false ht] at hcase
    have hsz : ¬ t.size = 0 := fun h => ht (by
      obtain ⟨⟨l⟩⟩ := t
      have : l = [] := List.eq_nil_of_length_eq_zero h
      rw [this])
    have HN : Hid (newOps n t = [⟨1, n, ⟨#[]⟩, ⟨#[]⟩⟩, ⟨2, n, ⟨#[]⟩, t⟩, ⟨3, n, ⟨#[]⟩, ⟨#[]⟩⟩]) := Lib.hid (by unfold newOps; rw [if_neg hsz])
    go_enter Tryz.func65, Tryz.ntmps65
    go_wp2_with fail
    refine (has108 n _).mono ?_
    rintro e w1 ⟨rfl, hb0⟩
    have hb1 := below_then (below_alloc (Below.refl _ w) _) (by simp) hb0
    clear hb0
    go_wp2_with (first | ((with_reducible refine gate_dst (N := 20) rfl ?_); refine Kd.R_append k84 (w0 := w) w.heap.size rfl (.tmp 16) (.tmp 19) 30 84 (.agg #[.int .i64 0, .string ⟨#[]⟩, .string ⟨#[]⟩, .string ⟨#[]⟩]) 56 rfl Tryz.underlying30 info84 rfl (by decide) (by decide) (.slice none 0 0) [] ⟨1, n, ⟨#[]⟩, ⟨#[]⟩⟩ [.int .i64 1, .string n, .string ⟨#[]⟩, .string ⟨#[]⟩] any (fun _ => False) rfl ?hx (k84_M _ _ _ ⟨1, n, ⟨#[]⟩, ⟨#[]⟩⟩) (fun _ h => h.elim) (fun _ _ => trivial) ?hO ?hB ?hba ?hl ?_; (case hx => rfl); (case hO => exact Kd.R_nil ..); (case hB => exact hb1); (case hba => exact (hb1).size); (case hl => simp); intro v2 w2 hR2 hb2 _ _; have HR2 := Lib.hid hR2; have HB2 := Lib.hid hb2; obtain ⟨A2, c2, rfl, _, _⟩ := Kd.R_reads hR2; clear hR2 hb2) | ((with_reducible refine gate_dst (N := 28) rfl ?_); refine Kd.R_append k84 (w0 := w) w.heap.size rfl (.tmp 23) (.tmp 27) 30 84 (.agg #[.int .i64 0, .string ⟨#[]⟩, .string ⟨#[]⟩, .string ⟨#[]⟩]) 56 rfl Tryz.underlying30 info84 rfl (by decide) (by decide) (.slice A2 _ c2) [⟨1, n, ⟨#[]⟩, ⟨#[]⟩⟩] ⟨2, n, ⟨#[]⟩, t⟩ [.int .i64 2, .string n, .string ⟨#[]⟩, .string t] any (fun _ => False) rfl ?hx (k84_M _ _ _ ⟨2, n, ⟨#[]⟩, t⟩) (fun _ h => h.elim) (fun _ _ => trivial) ?hO ?hB ?hba ?hl ?_; (case hx => rfl); (case hO => exact HR2.out); (case hB => exact HB2.out); (case hba => exact (HB2.out).size); (case hl => simp); intro v3 w3 hR3 hb3 _ _; have HR3 := Lib.hid hR3; have HB3 := Lib.hid hb3; obtain ⟨A3, c3, rfl, _, _⟩ := Kd.R_reads hR3; clear hR3 hb3) | ((with_reducible refine gate_dst (N := 33) rfl ?_); refine Kd.R_append k84 (w0 := w) w.heap.size rfl (.tmp 29) (.tmp 32) 30 84 (.agg #[.int .i64 0, .string ⟨#[]⟩, .string ⟨#[]⟩, .string ⟨#[]⟩]) 56 rfl Tryz.underlying30 info84 rfl (by decide) (by decide) (.slice A3 _ c3) [⟨1, n, ⟨#[]⟩, ⟨#[]⟩⟩, ⟨2, n, ⟨#[]⟩, t⟩] ⟨3, n, ⟨#[]⟩, ⟨#[]⟩⟩ [.int .i64 3, .string n, .string ⟨#[]⟩, .string ⟨#[]⟩] any (fun _ => False) rfl ?hx (k84_M _ _ _ ⟨3, n, ⟨#[]⟩, ⟨#[]⟩⟩) (fun _ h => h.elim) (fun _ _ => trivial) ?hO ?hB ?hba ?hl ?_; (case hx => rfl); (case hO => exact HR3.out); (case hB => exact HB3.out); (case hba => exact (HB3.out).size); (case hl => simp); intro v4 w4 hR4 hb4 _ _; have HR4 := Lib.hid hR4; have HB4 := Lib.hid hb4; obtain ⟨A4, c4, rfl, _, _⟩ := Kd.R_reads hR4; clear hR4 hb4))
    go_ret
    exact ⟨_, rfl, by rw [HN.out]; exact HR4.out, HB4.out⟩
end Go.Proofs.YtmeieeekjhjgjaaGreatDoor.H
