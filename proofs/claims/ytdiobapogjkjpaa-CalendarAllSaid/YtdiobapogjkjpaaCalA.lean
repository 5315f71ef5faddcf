/-
  The calendar laws' sanity check returns true, in whatever memory.
-/
import Derived.Test.YtdiobapogjkjpaaProg
import Derived.Test.YtdiobapogjkjpaaTime
namespace Go.Proofs.Ytdiobapogjkjpaa
open Go.RowKit
theorem ten : daysN 360 4 = 10 := by decide +kernel
theorem awake_any (w : World) : Calls Try.prog 11 #[] w fun e w' => e = .returned (.bool true) ∧ Below w.heap.size w w' := by
  have e1 : dayVal 96 = .tuple #[.int .i64 1, .int .i64 0] := by simp [dayVal, dayOf, errOf, okTime, wit]
  have e2 : ((daysN 360 4 : Int) == 10) = true := by rw [ten]; rfl
  have E1 := hide e1; clear e1
  have e3 : inB 360 4 2 = true := by decide
  go_enter Try.func11, Try.ntmps11
  go_wp2_with fail
  refine (day_any _ _).mono ?_
  rintro e w1 ⟨rfl, rfl⟩
  rw [E1.out]
  go_wp2_with fail
  refine (days_any _ _ _).mono ?_
  rintro e w2 ⟨rfl, hb2⟩
  go_wp2_with fail
  refine (in_any _ _ _ _).mono ?_
  rintro e w3 ⟨rfl, hb3⟩
  go_wp2
  go_ret
  exact ⟨rfl, bthr hb2 hb3 hb2.size⟩
theorem day_yes {n : Int} (h : okTime n = true) : dayVal n = .tuple #[.int .i64 (n / 96 % 365), .int .i64 0] := by simp [dayVal, dayOf, errOf, h]
theorem back_eq (t : Int) (h0 : 0 ≤ t) (h1 : t < 16777120) : t / 35040 * 35040 + t / 96 % 365 * 96 + t % 96 = t := by omega
theorem next_eq (t : Int) (h0 : 0 ≤ t) : (t + 96) / 96 % 365 = (t / 96 % 365 + 1) % 365 := by omega
theorem beq_of {a b : Int} (h : a = b) : (a == b) = true := by simp [h]
theorem back_walk (a0 : Int) (w : World) : Calls Try.prog 6 #[.int .i64 a0] w fun e w' => e = .returned (.bool true) ∧ Below w.heap.size w w' := by
  go_enter Try.func6, Try.ntmps6
  go_wp2_with fail
  refine (mod_any _ _ (by omega) (by omega) _).mono ?_
  rintro e w1 ⟨rfl, rfl⟩
  obtain ⟨t, ht⟩ : ∃ t, t = a0 % 16777120 := ⟨_, rfl⟩
  have h0 : 0 ≤ t := by omega
  have h1 : t < 16777120 := by omega
  rw [← ht]; clear ht
  have q0 : 0 ≤ t / 35040 := by omega
  have q1 : t / 35040 ≤ 478 := by omega
  have d0 : 0 ≤ t / 96 % 365 := by omega
  have d1 : t / 96 % 365 ≤ 364 := by omega
  have s0 : 0 ≤ t % 96 := by omega
  have s1 : t % 96 ≤ 95 := by omega
  have HB := hide (back_eq t h0 h1)
  have HN := hide (beq_of (next_eq t h0))
  go_wp2_with fail
  refine (of_any _ _).mono ?_
  rintro e w2 ⟨rfl, rfl⟩
  rw [of_yes (wit_of h0 (by omega))]
  go_wp2_with fail
  refine (time_any _ _ _ _).mono ?_
  rintro e w2 ⟨rfl, rfl⟩
  rw [timeVal_ok (by simp only [okName, wit_of q0 (show t / 35040 ≤ 16777216 by omega), wit_of d0 d1, wit_of s0 s1]; rfl) (by rw [HB.out]; omega), HB.out]
  go_wp2_with fail
  refine (day_any _ _).mono ?_
  rintro e w2 ⟨rfl, rfl⟩
  rw [day_yes (wit_of h0 (by omega))]
  go_wp2_with fail
  refine (day_any _ _).mono ?_
  rintro e w2 ⟨rfl, rfl⟩
  rw [day_yes (wit_of (by omega) (by omega))]
  have hn := HN.out
  go_wp2_with fail
  refine (awake_any _).mono ?_
  rintro e w2 ⟨rfl, hb⟩
  go_wp2
  go_ret
  exact ⟨rfl, hb⟩
theorem years_eq (y d n : Int) (h : 0 ≤ d ∧ d ≤ 364 ∧ 0 ≤ n ∧ n ≤ 95) : True := trivial
theorem years_walk (a0 a1 a2 : Int) (w : World) : Calls Try.prog 7 #[.int .i64 a0, .int .i64 a1, .int .i64 a2] w fun e w' => e = .returned (.bool true) ∧ Below w.heap.size w w' := by
  go_enter Try.func7, Try.ntmps7
  go_wp2_with (go_at_call 8; refine (mod_any _ _ (by omega) (by omega) _).mono ?_; rintro e w1 ⟨rfl, rfl⟩)
  obtain ⟨y, hy⟩ : ∃ y, y = a0 % 400 := ⟨_, rfl⟩
  obtain ⟨d, hd⟩ : ∃ d, d = a1 % 365 := ⟨_, rfl⟩
  obtain ⟨n, hn⟩ : ∃ n, n = a2 % 96 := ⟨_, rfl⟩
  have y0 : 0 ≤ y := by omega
  have y1 : y ≤ 399 := by omega
  have d0 : 0 ≤ d := by omega
  have d1 : d ≤ 364 := by omega
  have n0 : 0 ≤ n := by omega
  have n1 : n ≤ 95 := by omega
  rw [← hy, ← hd, ← hn]; clear hy hd hn
  refine (time_any _ _ _ _).mono ?_
  rintro e w2 ⟨rfl, rfl⟩
  rw [timeVal_ok (by simp only [okName, wit_of y0 (show y ≤ 16777216 by omega), wit_of d0 d1, wit_of n0 n1]; rfl) (by omega)]
  have t0 : 0 ≤ y * 35040 + d * 96 + n + 1 := by omega
  go_wp2_with fail
  refine (of_any _ _).mono ?_
  rintro e w2 ⟨rfl, rfl⟩
  rw [of_yes (wit_of (by omega) (by omega))]
  by_cases c1 : n + 1 < 96
  · have b1 : ((y * 35040 + d * 96 + n + 1) / 35040 == y) = true := beq_of (by omega)
    have b2 : ((y * 35040 + d * 96 + n + 1) / 96 % 365 == d) = true := beq_of (by omega)
    have b3 : ((y * 35040 + d * 96 + n + 1) % 96 == n + 1) = true := beq_of (by omega)
    go_wp2_with fail
    refine (awake_any _).mono ?_
    rintro e w2 ⟨rfl, hb⟩
    go_wp2
    go_ret
    exact ⟨rfl, hb⟩
  · by_cases c2 : d + 1 < 365
    · have b1 : ((y * 35040 + d * 96 + n + 1) / 35040 == y) = true := beq_of (by omega)
      have b2 : ((y * 35040 + d * 96 + n + 1) / 96 % 365 == d + 1) = true := beq_of (by omega)
      have b3 : ((y * 35040 + d * 96 + n + 1) % 96 == 0) = true := beq_of (by omega)
      go_wp2_with fail
      refine (awake_any _).mono ?_
      rintro e w2 ⟨rfl, hb⟩
      go_wp2
      go_ret
      exact ⟨rfl, hb⟩
    · have b1 : ((y * 35040 + d * 96 + n + 1) / 35040 == y + 1) = true := beq_of (by omega)
      have b2 : ((y * 35040 + d * 96 + n + 1) / 96 % 365 == 0) = true := beq_of (by omega)
      have b3 : ((y * 35040 + d * 96 + n + 1) % 96 == 0) = true := beq_of (by omega)
      go_wp2_with fail
      refine (awake_any _).mono ?_
      rintro e w2 ⟨rfl, hb⟩
      go_wp2
      go_ret
      exact ⟨rfl, hb⟩
end Go.Proofs.Ytdiobapogjkjpaa
