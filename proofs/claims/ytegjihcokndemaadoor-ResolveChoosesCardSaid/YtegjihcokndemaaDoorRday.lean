/-
  Contracts of the reference's In, IsDay and Valid. No condition.
-/
import Derived.Test.YtegjihcokndemaaDoorProg
import Derived.Test.YtegjihcokndemaaDoorCal
namespace Go.Proofs.YtegjihcokndemaaDoor
open Go.RowKit

theorem refin_any (n m : Int) (w : World) :
    Calls Tryd.prog 75 #[.int .i64 n, .int .i64 m] w fun e w' => e = .returned (.bool (wit n m)) ∧ w = w' := by
  by_cases h : 0 ≤ n
  all_goals
    go_enter Tryd.func75, Tryd.ntmps75
    go_wp2
    go_ret
    exact ⟨ret_bool (by simp [wit]; try omega), rfl⟩
theorem refIn_any (n m : Int) (w : World) :
    Calls Tryd.prog 47 #[.int .i64 n, .int .i64 m] w fun e w' => e = .returned (.bool (wit n m)) ∧ w = w' := by
  go_enter Tryd.func47, Tryd.ntmps47
  go_wp2_with (go_at_call 75; refine (refin_any _ _ _).mono ?_; rintro e w' ⟨rfl, rfl⟩)
  go_ret
  exact ⟨rfl, rfl⟩
theorem risday_any (d : Int) (w : World) :
    Calls Tryd.prog 46 #[.int .i64 d] w fun e w' => e = .returned (.bool (wit d 364)) ∧ w = w' := by
  go_enter Tryd.func46, Tryd.ntmps46
  go_wp2_with (go_at_call 47; refine (refIn_any _ _ _).mono ?_; rintro e w' ⟨rfl, rfl⟩)
  go_ret
  exact ⟨rfl, rfl⟩
theorem rvalid_any (f t : Int) (w : World) :
    Calls Tryd.prog 68 #[.agg #[.int .i64 f, .int .i64 t]] w fun e w' => e = .returned (.bool (okSpan f t)) ∧ Below w.heap.size w w' := by
  cases h : wit f 364
  all_goals
    go_enter Tryd.func68, Tryd.ntmps68
    go_wp2_with (go_at_call 46; refine (risday_any _ _).mono ?_; rintro e w' ⟨rfl, rfl⟩)
    go_ret
    exact ⟨ret_bool (by simp [okSpan, h]), bel1⟩
end Go.Proofs.YtegjihcokndemaaDoor
