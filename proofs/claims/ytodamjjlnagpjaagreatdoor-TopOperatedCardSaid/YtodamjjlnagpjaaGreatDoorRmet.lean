/-
  The contract of Meet: what two bounds have in common. No condition.
-/
import Derived.Test.YtodamjjlnagpjaaGreatDoorProg
import Derived.Test.YtodamjjlnagpjaaGreatDoorPushN
import Derived.WalkLawsBesides
import Derived.Handy
namespace Go.Proofs.YtodamjjlnagpjaaGreatDoor
open Go.RowKit

def metOk (a0 a1 b0 b1 : Int) : Bool := decide (a0 ≤ a1) && decide (b0 ≤ b1) && decide (max a0 b0 ≤ min a1 b1)
def metVal (a0 a1 b0 b1 : Int) : Value := if metOk a0 a1 b0 b1 then .tuple #[.agg #[.int .i64 (max a0 b0), .int .i64 (min a1 b1)], .bool true] else .tuple #[.agg #[.int .i64 0, .int .i64 0], .bool false]
theorem met_yes {a0 a1 b0 b1 m n : Int} (h1 : a0 ≤ a1) (h2 : b0 ≤ b1) (h3 : m ≤ n) (hm : max a0 b0 = m) (hn : min a1 b1 = n) : metVal a0 a1 b0 b1 = .tuple #[.agg #[.int .i64 m, .int .i64 n], .bool true] := by
  subst hm hn; simp [metVal, metOk, h1, h2, h3]
theorem met_no {a0 a1 b0 b1 : Int} (h : a1 < a0 ∨ b1 < b0 ∨ min a1 b1 < max a0 b0) : metVal a0 a1 b0 b1 = .tuple #[.agg #[.int .i64 0, .int .i64 0], .bool false] := by
  have : metOk a0 a1 b0 b1 = false := by rw [Bool.eq_false_iff]; simp only [metOk, Ne, Bool.and_eq_true, decide_eq_true_eq]; omega
  simp [metVal, this]
end Go.Proofs.YtodamjjlnagpjaaGreatDoor
