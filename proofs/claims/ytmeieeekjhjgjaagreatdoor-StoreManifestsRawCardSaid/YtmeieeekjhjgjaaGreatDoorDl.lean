/- The plain law of the two parsers, first part: both cut alike. -/
import Derived.Test.YtmeieeekjhjgjaaGreatDoorDj
namespace Go.Proofs.YtmeieeekjhjgjaaGreatDoor.H
open Go.RowKit Go.Proofs.YtmeieeekjhjgjaaGreatDoorW.PrintWords

theorem occ_one {s : List UInt8} {c : UInt8} {j : Nat} (h : Lib.occAt s [c] j = false) (x : UInt8) (hx : s[j]? = some x) : x ≠ c := by
  rintro rfl
  have hj := (List.getElem?_eq_some_iff.1 hx).1
  have e : s.drop j = x :: s.drop (j + 1) := by rw [List.drop_eq_getElem_cons hj, (List.getElem?_eq_some_iff.1 hx).2]
  unfold Lib.occAt at h
  rw [e] at h
  simp [List.isPrefixOf] at h
theorem split_cut (c : UInt8) : ∀ (n : Nat) (s : List UInt8), s.length ≤ n → Lib.splitK [c] 0 (Lib.count s [c]) s = cutL c s := by
  intro n
  induction n with
  | zero =>
    intro s hs
    have : s = [] := List.length_eq_zero_iff.1 (by omega)
    subst this
    have h : Lib.index [] [c] = -1 := rfl
    rw [Lib.count_miss h]; rfl
  | succ n ih =>
    intro s hs
    rcases Lib.index_spec s [c] with ⟨h, hno⟩ | ⟨i, h, hi, ho, hno⟩
    · rw [Lib.count_miss h, cutL_end]
      · rfl
      · intro x hx
        obtain ⟨j, hj, rfl⟩ := List.getElem_of_mem hx
        exact occ_one (hno j (by omega)) _ (List.getElem?_eq_getElem hj)
    · have hc := Lib.occAt_head rfl ho
      have hil := (List.getElem?_eq_some_iff.1 hc).1
      rw [Lib.count_hit (by simp) h, Nat.add_comm]
      have hk : Lib.splitK [c] 0 (Lib.count (s.drop (i + [c].length)) [c] + 1) s = s.take i :: Lib.splitK [c] 0 (Lib.count (s.drop (i + [c].length)) [c]) (s.drop (i + [c].length)) := by
        have hm : ¬ (Lib.index s [c] == -1) = true := fun e => by have := beq_iff_eq.1 e; omega
        have e : (Lib.index s [c]).toNat = i := by omega
        rw [Lib.splitK, if_neg hm, e]; rfl
      rw [hk]
      have hlen : (s.drop (i + [c].length)).length ≤ n := by simp; omega
      rw [ih _ hlen]
      have e : s = s.take i ++ c :: s.drop (i + 1) := by
        conv => lhs; rw [← List.take_append_drop i s, List.drop_eq_getElem_cons hil, (List.getElem?_eq_some_iff.1 hc).2]
      conv => rhs; rw [e]
      rw [cutL_mid]
      · rfl
      · intro x hx
        obtain ⟨j, hj, rfl⟩ := List.getElem_of_mem hx
        rw [List.length_take] at hj
        have hj' : j < i := by omega
        rw [List.getElem_take]
        exact occ_one (hno j hj') _ (List.getElem?_eq_getElem (by omega))
theorem cutL_map (c : UInt8) (l : List UInt8) : cutL c.toNat (l.map (·.toNat)) = (cutL c l).map (·.map (·.toNat)) := by
  induction l with
  | nil => rfl
  | cons x r ih =>
    rw [List.map_cons, cutL, cutL, ih]
    by_cases h : x = c
    · rw [if_pos h, if_pos (by rw [h])]; rfl
    · rw [if_neg h, if_neg (fun e => h (UInt8.toNat_inj.1 e))]
      cases cutL c r <;> rfl
/-- Both texts cut alike. -/
theorem cutAt_eq (c : UInt8) (s : ByteArray) : cutAt ⟨#[c]⟩ s = cutR c.toNat s := by
  refine (cutR_of ?_).symm
  have h := Lib.splitB_data ⟨#[c]⟩ 0 (Lib.countB s ⟨#[c]⟩) s
  have h2 : Lib.splitK [c] 0 (Lib.count s.data.toList [c]) s.data.toList = cutL c s.data.toList := split_cut c _ _ (Nat.le_refl _)
  have e : (cutAt ⟨#[c]⟩ s).map nats = ((cutAt ⟨#[c]⟩ s).map (·.data.toList)).map (·.map (·.toNat)) := by rw [List.map_map]; rfl
  rw [e]
  unfold cutAt
  rw [h]
  show cutL c.toNat (nats s) = (Lib.splitK [c] 0 (Lib.count s.data.toList [c]) s.data.toList).map _
  rw [h2, ← cutL_map]; rfl
theorem cut_lf (s : ByteArray) : cutAt lf s = cutR 10 s := cutAt_eq 10 s
theorem cut_sp (s : ByteArray) : cutAt sp s = cutR 32 s := cutAt_eq 32 s
/-- Lines, cut. -/
theorem cut_lines {α : Type} [DecidableEq α] (c : α) (ls : List (List α)) (h : ∀ l ∈ ls, ∀ x ∈ l, x ≠ c) : cutL c ((ls.map (· ++ [c])).flatten) = ls ++ [[]] := by
  induction ls with
  | nil => rfl
  | cons a r ih =>
    rw [List.map_cons, List.flatten_cons, List.append_assoc, List.singleton_append, cutL_mid c a _ (h a (List.mem_cons_self ..)), ih fun l hl => h l (List.mem_cons_of_mem _ hl)]
    rfl
/-- Words, cut. -/
theorem cut_words {α : Type} [DecidableEq α] (c : α) (a : List α) (ws : List (List α)) (h : ∀ x ∈ a, x ≠ c) (hs : ∀ l ∈ ws, ∀ x ∈ l, x ≠ c) : cutL c (a ++ (ws.map (c :: ·)).flatten) = a :: ws := by
  induction ws generalizing a with
  | nil => simp; exact cutL_end c a h
  | cons b r ih =>
    rw [List.map_cons, List.flatten_cons, List.cons_append, cutL_mid c a _ h, ih b (hs b (List.mem_cons_self ..)) fun l hl => hs l (List.mem_cons_of_mem _ hl)]
end Go.Proofs.YtmeieeekjhjgjaaGreatDoor.H
