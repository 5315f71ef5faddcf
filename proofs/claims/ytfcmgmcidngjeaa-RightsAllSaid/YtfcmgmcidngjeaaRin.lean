/-
  The contract of the reference's In of a span. No condition.
-/
import Derived.Test.YtfcmgmcidngjeaaProg
import Derived.Test.YtfcmgmcidngjeaaRday
namespace Go.Proofs.Ytfcmgmcidngjeaa
open Go.RowKit

theorem rin_any (f t d : Int) (w : World) :
    Calls Try.prog 30 #[.agg #[.int .i64 f, .int .i64 t], .int .i64 d] w fun e w' => e = .returned (.bool (inB f t d)) ∧ Below w.heap.size w w' := by
  cases h1 : okSpan f t
  · go_enter Try.func30, Try.ntmps30
    go_wp2_with (go_at_call 26; refine (rvalid_any _ _ _).mono ?_; rintro e w' ⟨rfl, hb⟩)
    go_ret
    exact ⟨ret_bool (by simp [inB_1 h1]), bel2 hb⟩
  · cases h2 : wit d 364
    · go_enter Try.func30, Try.ntmps30
      go_wp2_with (first | (go_at_call 26; refine (rvalid_any _ _ _).mono ?_; rintro e w' ⟨rfl, hb⟩) | (go_at_call 35; refine (risday_any _ _).mono ?_; rintro e w' ⟨rfl, rfl⟩))
      go_ret
      exact ⟨ret_bool (by simp [inB_2 h2]), bel2 hb⟩
    · by_cases h3 : f ≤ t
      · by_cases h4 : f ≤ d
        all_goals
          go_enter Try.func30, Try.ntmps30
          go_wp2_with (first | (go_at_call 26; refine (rvalid_any _ _ _).mono ?_; rintro e w' ⟨rfl, hb⟩; obtain ⟨hc, hf⟩ := bcell hb) | (go_at_call 35; refine (risday_any _ _).mono ?_; rintro e w' ⟨rfl, rfl⟩))
          go_ret
          exact ⟨ret_bool (by simp [inB_3 h1 h2 h3]; try omega), bel2 hb⟩
      · by_cases h4 : f ≤ d
        all_goals
          go_enter Try.func30, Try.ntmps30
          go_wp2_with (first | (go_at_call 26; refine (rvalid_any _ _ _).mono ?_; rintro e w' ⟨rfl, hb⟩; obtain ⟨hc, hf⟩ := bcell hb) | (go_at_call 35; refine (risday_any _ _).mono ?_; rintro e w' ⟨rfl, rfl⟩))
          go_ret
          exact ⟨ret_bool (by simp [inB_4 h1 h2 (by omega)]; try omega), bel2 hb⟩

end Go.Proofs.Ytfcmgmcidngjeaa
