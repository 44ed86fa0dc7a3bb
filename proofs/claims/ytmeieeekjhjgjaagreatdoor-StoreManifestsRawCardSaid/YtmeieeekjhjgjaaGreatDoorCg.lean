/- An equation between two arrays of four bytes, as the model reckons it. -/
import Derived.Test.YtmeieeekjhjgjaaGreatDoorProg
import Derived.WalkKit
import Derived.Laws.StructEq
import Derived.KernelRfl
import Derived.ChangeKeysEq
namespace Go.Proofs.YtmeieeekjhjgjaaGreatDoor.H
open Go.RowKit
theorem eq_arr4_d (d : Nat) (W : World) (a0 a1 a2 a3 c0 c1 c2 c3 : Int) :
    (Op.equalIn (d + 2) 104 (.agg #[.int .u8 a0, .int .u8 a1, .int .u8 a2, .int .u8 a3]) (.agg #[.int .u8 c0, .int .u8 c1, .int .u8 c2, .int .u8 c3])).run Tryz.prog W = .ok (a0 == c0 && (a1 == c1 && (a2 == c2 && a3 == c3))) W := by
  have hsz : ∀ w, (sizeOf 5).run Tryz.prog w = .ok 1 w := fun w => by kernel_rfl
  have hi : ∀ (a b : Int) w, (Op.equalIn (d + 1) 5 (.int .u8 a) (.int .u8 b)).run Tryz.prog w = .ok (a == b) w := fun a b w => run_equalIn_int w d 5 .u8 .u8 a b Tryz.underlying5
  have hp : ∀ (xs : Array Value) (i : Nat) w v, xs[i]? = some v → (part 5 xs i).run Tryz.prog w = .ok v w := fun xs i w v h => run_part_plain (P := Tryz.prog) w (e := 5) (by kernel_rfl) h
  rw [Op.equalIn]
  simp only [Sem.run_bind, run_underlying Tryz.underlying104, Result.andThen_ok, hsz]
  simp only [Std.Legacy.Range.forIn_eq_forIn_range', Std.Legacy.Range.size, List.range', Nat.reduceAdd, Nat.reduceSub, Nat.reduceDiv]
  simp only [List.forIn_cons, List.forIn_nil, Sem.run_bind]
  have q0 := fun (x0 x1 x2 x3 : Int) w => hp #[.int .u8 x0, .int .u8 x1, .int .u8 x2, .int .u8 x3] (0 * 1) w (.int .u8 x0) rfl
  have q1 := fun (x0 x1 x2 x3 : Int) w => hp #[.int .u8 x0, .int .u8 x1, .int .u8 x2, .int .u8 x3] (1 * 1) w (.int .u8 x1) rfl
  have q2 := fun (x0 x1 x2 x3 : Int) w => hp #[.int .u8 x0, .int .u8 x1, .int .u8 x2, .int .u8 x3] (2 * 1) w (.int .u8 x2) rfl
  have q3 := fun (x0 x1 x2 x3 : Int) w => hp #[.int .u8 x0, .int .u8 x1, .int .u8 x2, .int .u8 x3] (3 * 1) w (.int .u8 x3) rfl
  clear hp
  simp only [q0, Result.andThen_ok, hi]
  cases (a0 == c0)
  · simp [Sem.run_pure, Result.andThen_ok]
  · simp only [Bool.not_true, Bool.false_eq_true, if_false, Sem.run_pure, Result.andThen_ok, Sem.run_bind, q1, hi, Bool.true_and]
    cases (a1 == c1)
    · simp [Sem.run_pure, Result.andThen_ok]
    · simp only [Bool.not_true, Bool.false_eq_true, if_false, Sem.run_pure, Result.andThen_ok, Sem.run_bind, q2, hi, Bool.true_and]
      cases (a2 == c2)
      · simp [Sem.run_pure, Result.andThen_ok]
      · simp only [Bool.not_true, Bool.false_eq_true, if_false, Sem.run_pure, Result.andThen_ok, Sem.run_bind, q3, hi, Bool.true_and]
        cases (a3 == c3)
        · simp [Sem.run_pure, Result.andThen_ok]
        · simp [Sem.run_pure, Result.andThen_ok]
theorem eq_arr4 (W : World) (a0 a1 a2 a3 c0 c1 c2 c3 : Int) :
    (Op.equalIn 10000 104 (.agg #[.int .u8 a0, .int .u8 a1, .int .u8 a2, .int .u8 a3]) (.agg #[.int .u8 c0, .int .u8 c1, .int .u8 c2, .int .u8 c3])).run Tryz.prog W = .ok (a0 == c0 && (a1 == c1 && (a2 == c2 && a3 == c3))) W := eq_arr4_d 9998 W a0 a1 a2 a3 c0 c1 c2 c3
end Go.Proofs.YtmeieeekjhjgjaaGreatDoor.H
