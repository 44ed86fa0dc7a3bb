/- The plain law of the two parsers, third part: a valid store is given back by both. -/
import Derived.Test.YtmeieeekjhjgjaaGreatDoorDm
namespace Go.Proofs.YtmeieeekjhjgjaaGreatDoor.H
open Go.RowKit Go.Proofs.YtmeieeekjhjgjaaGreatDoorW.PrintWords

/-- The lines of a store's text, as words. -/
def linesW (st : St) : List (List ByteArray) := [[wordCorpora, ⟨#[49]⟩], [wordNext, itoaB st.next], [wordJournal, itoaB st.j]] ++ (st.l0.map (fun x => [wordAttribute, x.f0, setB x.f1]) ++ st.l3.map (fun x => wordPiece :: itoaB x.f0 :: x.f1))
theorem manL_lines (st : St) : manL st.l0 st.next st.j st.l3 = ((linesW st).map lineL).flatten := by
  unfold manL linesW headL
  simp only [List.map_append, List.flatten_append, List.map_cons, List.map_nil, List.flatten_cons, List.flatten_nil, List.map_map, List.append_nil, List.append_assoc]
  rfl
def joinN (ws : List ByteArray) : List Nat := match ws with
  | [] => []
  | a :: r => nats a ++ (r.map fun x => 32 :: nats x).flatten
theorem lineL_nats (ws : List ByteArray) : (lineL ws).map (·.toNat) = joinN ws ++ [10] := by
  unfold lineL
  rw [List.map_append]
  congr 1
  cases ws with
  | nil => simp [Lib.join_nil, joinN]
  | cons a r =>
    rw [List.map_cons, Lib.join_cons, List.map_append]
    unfold joinN
    congr 1
    unfold Lib.joinTail
    rw [List.map_flatten, List.map_map, List.map_map]
    congr 1
theorem joinN_no (ws : List ByteArray) (h : ∀ x ∈ ws, plainW x) : ∀ b ∈ joinN ws, b ≠ 10 := by
  cases ws with
  | nil => intro b hb; simp [joinN] at hb
  | cons a r =>
    intro b hb
    unfold joinN at hb
    rcases List.mem_append.1 hb with hb | hb
    · exact (h a (List.mem_cons_self ..) b hb).2
    · obtain ⟨l, hl, hb⟩ := List.mem_flatten.1 hb
      obtain ⟨x, hx, rfl⟩ := List.mem_map.1 hl
      rcases List.mem_cons.1 hb with rfl | hb
      · decide
      · exact (h x (List.mem_cons_of_mem _ hx) b hb).2
theorem nats_strN (l : List Nat) (h : ∀ b ∈ l, b < 256) : nats (strN l) = l := by
  unfold strN nats
  simp only [List.map_map]
  have : ∀ x ∈ l, ((fun b : UInt8 => b.toNat) ∘ UInt8.ofNat) x = x := by
    intro x hx
    have := h x hx
    show (UInt8.ofNat x).toNat = x
    rw [UInt8.toNat_ofNat']; omega
  rw [List.map_congr_left this]; simp
theorem joinN_lt (ws : List ByteArray) : ∀ b ∈ joinN ws, b < 256 := by
  cases ws with
  | nil => intro b hb; simp [joinN] at hb
  | cons a r =>
    intro b hb
    unfold joinN at hb
    rcases List.mem_append.1 hb with hb | hb
    · exact nats_lt a b hb
    · obtain ⟨l, hl, hb⟩ := List.mem_flatten.1 hb
      obtain ⟨x, hx, rfl⟩ := List.mem_map.1 hl
      rcases List.mem_cons.1 hb with rfl | hb
      · decide
      · exact nats_lt x b hb
def lineS (ws : List ByteArray) : ByteArray := strN (joinN ws)
/-- A line, cut into its words. -/
theorem cut_line (ws : List ByteArray) (hne : ws ≠ []) (h : ∀ x ∈ ws, plainW x) : cutR 32 (lineS ws) = ws := by
  apply cutR_of
  unfold lineS
  rw [nats_strN _ (joinN_lt ws)]
  cases ws with
  | nil => exact absurd rfl hne
  | cons a r =>
    show cutL 32 (nats a ++ (r.map fun x => 32 :: nats x).flatten) = _
    have e : (r.map fun x => 32 :: nats x) = (r.map nats).map (32 :: ·) := by rw [List.map_map]; rfl
    rw [e, cut_words 32 _ _ (fun b hb => (h a (List.mem_cons_self ..) b hb).1) (fun l hl b hb => by
      obtain ⟨x, hx, rfl⟩ := List.mem_map.1 hl
      exact (h x (List.mem_cons_of_mem _ hx) b hb).1)]
    rfl
theorem nats_strB (l : List UInt8) : nats (strB l) = l.map (·.toNat) := by unfold nats strB; rfl
/-- A text of lines, cut. -/
theorem cut_text (ls : List (List ByteArray)) (h : ∀ ws ∈ ls, ∀ x ∈ ws, plainW x) : cutR 10 (strB ((ls.map lineL).flatten)) = ls.map lineS ++ [⟨#[]⟩] := by
  apply cutR_of
  rw [nats_strB, List.map_flatten, List.map_map]
  have e : (ls.map ((List.map fun x => x.toNat) ∘ lineL)) = (ls.map joinN).map (· ++ [10]) := by
    rw [List.map_map]
    exact List.map_congr_left fun ws _ => lineL_nats ws
  rw [e, cut_lines 10 _ (fun l hl x hx => by
    obtain ⟨ws, hws, rfl⟩ := List.mem_map.1 hl
    exact joinN_no ws (h ws hws) x hx), List.map_append, List.map_map]
  congr 1
  exact List.map_congr_left fun ws _ => (nats_strN _ (joinN_lt ws)).symm
structure OkN (st : St) : Prop where
  nx : ∃ n : Nat, st.next = n ∧ n ≤ 1000000000
  jx : ∃ n : Nat, st.j = n ∧ n ≤ 1000000000
  a0 : ∀ x ∈ st.l0, plainW x.f0
  p3 : ∀ x ∈ st.l3, (∃ n : Nat, x.f0 = n ∧ n ≤ 1000000000) ∧ ∀ y ∈ x.f1, plainW y
theorem OkN.of {st : St} (hv : validSt st = true) : OkN st := by
  have OK := Ok.of hv
  unfold validSt validB attrsB at hv
  simp only [Bool.and_eq_true, decide_eq_true_eq] at hv
  obtain ⟨⟨h1, h2, h3⟩, h4, h5, h6, h7, h8⟩ := hv
  refine ⟨⟨st.next.toNat, by omega, by omega⟩, ⟨st.j.toNat, by omega, by omega⟩, fun x hx => name_plain (attrsTo_names h3 x hx), fun x hx => ?_⟩
  obtain ⟨p1, p2, p3⟩ := piecesTo_all h8 x hx
  unfold delB at p3
  simp only [Bool.and_eq_true, decide_eq_true_eq] at p3
  exact ⟨⟨x.f0.toNat, by omega, by omega⟩, fun y hy => name_plain (delTo_names p3.2 y hy)⟩
theorem lines_plain {st : St} (OK : OkN st) : ∀ ws ∈ linesW st, ws ≠ [] ∧ ∀ x ∈ ws, plainW x := by
  have hp1 : plainW wordCorpora := by unfold plainW; decide
  have hp2 : plainW wordNext := by unfold plainW; decide
  have hp3 : plainW wordJournal := by unfold plainW; decide
  have hp4 : plainW wordAttribute := by unfold plainW; decide
  have hp5 : plainW wordPiece := by unfold plainW; decide
  have hp6 : ∀ b, plainW (setB b) := by intro b; cases b <;> (unfold plainW; decide)
  have hp7 : plainW ⟨#[49]⟩ := hp6 true
  have hi : ∀ z : Int, (∃ n : Nat, z = n ∧ n ≤ 1000000000) → plainW (itoaB z) := by
    rintro z ⟨n, rfl, _⟩
    exact itoa_plain n
  intro ws hws
  unfold linesW at hws
  rcases List.mem_append.1 hws with hws | hws
  · simp only [List.mem_cons, List.not_mem_nil, or_false] at hws
    rcases hws with rfl | rfl | rfl
    · exact ⟨by simp, fun x hx => by simp only [List.mem_cons, List.not_mem_nil, or_false] at hx; rcases hx with rfl | rfl; exact hp1; exact hp7⟩
    · exact ⟨by simp, fun x hx => by simp only [List.mem_cons, List.not_mem_nil, or_false] at hx; rcases hx with rfl | rfl; exact hp2; exact hi _ OK.nx⟩
    · exact ⟨by simp, fun x hx => by simp only [List.mem_cons, List.not_mem_nil, or_false] at hx; rcases hx with rfl | rfl; exact hp3; exact hi _ OK.jx⟩
  · rcases List.mem_append.1 hws with hws | hws
    · obtain ⟨y, hy, rfl⟩ := List.mem_map.1 hws
      exact ⟨by simp, fun x hx => by simp only [List.mem_cons, List.not_mem_nil, or_false] at hx; rcases hx with rfl | rfl | rfl; exact hp4; exact OK.a0 y hy; exact hp6 _⟩
    · obtain ⟨y, hy, rfl⟩ := List.mem_map.1 hws
      refine ⟨by simp, fun x hx => ?_⟩
      rcases List.mem_cons.1 hx with rfl | hx
      · exact hp5
      · rcases List.mem_cons.1 hx with rfl | hx
        · exact hi _ (OK.p3 y hy).1
        · exact (OK.p3 y hy).2 x hx
/-- What a parser's step must do to give a store back. -/
structure Step (f : St → List ByteArray → St) : Prop where
  one : ∀ st (x : ByteArray), f st [x] = st
  corp : ∀ st, f st [wordCorpora, ⟨#[49]⟩] = st
  next : ∀ st (n : Nat), n ≤ 1000000000 → f st [wordNext, itoaB n] = { st with next := n }
  jour : ∀ st (n : Nat), n ≤ 1000000000 → f st [wordJournal, itoaB n] = { st with j := n }
  attr : ∀ st (x : S70), f st [wordAttribute, x.f0, setB x.f1] = { st with l0 := st.l0 ++ [x] }
  piece : ∀ st (n : Nat) (ws : List ByteArray), n ≤ 1000000000 → f st (wordPiece :: itoaB n :: ws) = { st with l3 := st.l3 ++ [⟨n, ws⟩] }
theorem fold_attrs {f : St → List ByteArray → St} (h : Step f) (l : List S70) : ∀ st : St, (l.map (fun x => [wordAttribute, x.f0, setB x.f1])).foldl f st = { st with l0 := st.l0 ++ l } := by
  induction l with
  | nil => intro st; simp
  | cons a r ih => intro st; rw [List.map_cons, List.foldl_cons, h.attr, ih]; simp
theorem fold_pieces {f : St → List ByteArray → St} (h : Step f) (l : List S72) (hl : ∀ x ∈ l, ∃ n : Nat, x.f0 = n ∧ n ≤ 1000000000) : ∀ st : St, (l.map (fun x => wordPiece :: itoaB x.f0 :: x.f1)).foldl f st = { st with l3 := st.l3 ++ l } := by
  induction l with
  | nil => intro st; simp
  | cons a r ih =>
    intro st
    obtain ⟨n, hn, hle⟩ := hl a (List.mem_cons_self ..)
    rw [List.map_cons, List.foldl_cons, hn, h.piece st n a.f1 hle, ih fun x hx => hl x (List.mem_cons_of_mem _ hx)]
    simp [← hn]
theorem fold_lines {f : St → List ByteArray → St} (h : Step f) {st : St} (OK : OkN st) : (linesW st).foldl f st0 = st := by
  obtain ⟨n, hn, hle⟩ := OK.nx
  obtain ⟨m, hm, hlm⟩ := OK.jx
  unfold linesW
  rw [List.foldl_append, List.foldl_append, fold_pieces h _ fun x hx => (OK.p3 x hx).1, fold_attrs h]
  simp only [List.foldl_cons, List.foldl_nil, h.corp]
  rw [hn, hm, h.next _ n hle, h.jour _ m hlm]
  obtain ⟨l0, nx, jx, l3⟩ := st
  simp only at hn hm
  subst hn; subst hm
  simp [st0]
/-- A parser of this form gives a valid store back from its text. -/
theorem parse_back {f : St → List ByteArray → St} (h : Step f) {st : St} (OK : OkN st) : (cutR 10 (strB (manL st.l0 st.next st.j st.l3))).foldl (fun st line => f st (cutR 32 line)) st0 = st := by
  have hl := lines_plain OK
  rw [manL_lines, cut_text _ fun ws hws => (hl ws hws).2, List.foldl_append]
  have e : ∀ (ls : List (List ByteArray)) (s : St), (∀ ws ∈ ls, ws ≠ [] ∧ ∀ x ∈ ws, plainW x) → (ls.map lineS).foldl (fun st line => f st (cutR 32 line)) s = ls.foldl f s := by
    intro ls
    induction ls with
    | nil => intro s _; rfl
    | cons a r ih =>
      intro s hr
      rw [List.map_cons, List.foldl_cons, List.foldl_cons, cut_line a (hr a (List.mem_cons_self ..)).1 (hr a (List.mem_cons_self ..)).2, ih _ fun ws hws => hr ws (List.mem_cons_of_mem _ hws)]
  rw [e _ _ hl, fold_lines h OK]
  have e2 : cutR 32 ⟨#[]⟩ = [⟨#[]⟩] := by decide
  simp only [List.foldl_cons, List.foldl_nil]
  rw [e2, h.one]
end Go.Proofs.YtmeieeekjhjgjaaGreatDoor.H
