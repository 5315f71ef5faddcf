/-
  Contracts of the reference's In, IsDay and Valid. No condition.
-/
import Derived.Test.YtfcmgmcidngjeaaProg
import Derived.Test.YtfcmgmcidngjeaaCal
namespace Go.Proofs.Ytfcmgmcidngjeaa
open Go.RowKit

theorem refin_any (n m : Int) (w : World) :
    Calls Try.prog 34 #[.int .i64 n, .int .i64 m] w fun e w' => e = .returned (.bool (wit n m)) ∧ w = w' := by
  by_cases h : 0 ≤ n
  all_goals
    go_enter Try.func34, Try.ntmps34
    go_wp2
    go_ret
    exact ⟨ret_bool (by simp [wit]; try omega), rfl⟩
theorem refIn_any (n m : Int) (w : World) :
    Calls Try.prog 25 #[.int .i64 n, .int .i64 m] w fun e w' => e = .returned (.bool (wit n m)) ∧ w = w' := by
  go_enter Try.func25, Try.ntmps25
  go_wp2_with (go_at_call 34; refine (refin_any _ _ _).mono ?_; rintro e w' ⟨rfl, rfl⟩)
  go_ret
  exact ⟨rfl, rfl⟩
theorem risday_any (d : Int) (w : World) :
    Calls Try.prog 35 #[.int .i64 d] w fun e w' => e = .returned (.bool (wit d 364)) ∧ w = w' := by
  go_enter Try.func35, Try.ntmps35
  go_wp2_with (go_at_call 25; refine (refIn_any _ _ _).mono ?_; rintro e w' ⟨rfl, rfl⟩)
  go_ret
  exact ⟨rfl, rfl⟩
theorem rvalid_any (f t : Int) (w : World) :
    Calls Try.prog 26 #[.agg #[.int .i64 f, .int .i64 t]] w fun e w' => e = .returned (.bool (okSpan f t)) ∧ Below w.heap.size w w' := by
  cases h : wit f 364
  all_goals
    go_enter Try.func26, Try.ntmps26
    go_wp2_with (go_at_call 35; refine (risday_any _ _).mono ?_; rintro e w' ⟨rfl, rfl⟩)
    go_ret
    exact ⟨ret_bool (by simp [okSpan, h]), bel1⟩
end Go.Proofs.Ytfcmgmcidngjeaa
