/-
  Contracts of the calendar's functions and of Mod: what each returns, for whatever integers. No condition but Mod's bounds on its second argument.
-/
import Derived.Test.YtodamjjlnagpjaaGreatDoorProg
import Derived.Test.YtodamjjlnagpjaaGreatDoorLib
namespace Go.Proofs.YtodamjjlnagpjaaGreatDoor
open Go.RowKit

def wit (n m : Int) : Bool := decide (0 ≤ n) && decide (n ≤ m)
theorem wit_iff {n m : Int} : wit n m = true ↔ 0 ≤ n ∧ n ≤ m := by simp [wit]
theorem wit_of {n m : Int} (h0 : 0 ≤ n) (h1 : n ≤ m) : wit n m = true := wit_iff.2 ⟨h0, h1⟩
theorem wit_not {n m : Int} : wit n m = false ↔ n < 0 ∨ m < n := by rw [Bool.eq_false_iff, Ne, wit_iff]; omega
theorem within_any (n m : Int) (w : World) :
    Calls Tryz.prog 30 #[.int .i64 n, .int .i64 m] w fun e w' => e = .returned (.bool (wit n m)) ∧ w = w' := by
  by_cases h : 0 ≤ n
  all_goals
    go_enter Tryz.func30, Tryz.ntmps30
    go_wp2
    go_ret
    exact ⟨ret_bool (by simp [wit]; try omega), rfl⟩
theorem mod_eq (n k : Int) (h0 : 0 < k) (h1 : k ≤ 4611686018427387904) : (wrap64 (n.tmod k + k)).tmod k = n % k := by
  have a1 := Int.tmod_lt_of_pos n h0
  have a2 : -k < n.tmod k := by
    have := Int.tmod_lt_of_pos (-n) h0
    rw [Int.neg_tmod] at this; omega
  rw [IntWalk.wrap64_in _ ⟨by omega, by omega⟩, Int.tmod_eq_emod_of_nonneg (by omega), Int.add_emod_right]
  rw [Int.tmod_eq_emod]
  split
  · simp
  · have e : (k.natAbs : Int) = k := by omega
    rw [e, Int.sub_emod_right, Int.emod_emod_of_dvd _ (Int.dvd_refl k)]
theorem mod_any (n k : Int) (h0 : 0 < k) (h1 : k ≤ 4611686018427387904) (w : World) :
    Calls Tryz.prog 27 #[.int .i64 n, .int .i64 k] w fun e w' => e = .returned (.int .i64 (n % k)) ∧ w = w' := by
  go_enter Tryz.func27, Tryz.ntmps27
  go_wp2
  go_ret
  exact ⟨ret_int (mod_eq n k h0 h1), rfl⟩
theorem is_any (d : Int) (w : World) :
    Calls Tryz.prog 76 #[.int .i64 d] w fun e w' => e = .returned (.bool (wit d 364)) ∧ w = w' := by
  go_enter Tryz.func76, Tryz.ntmps76
  go_wp2_with (go_at_call 30; refine (within_any _ _ _).mono ?_; rintro e w' ⟨rfl, rfl⟩)
  go_ret
  exact ⟨rfl, rfl⟩
def okSpan (f t : Int) : Bool := wit f 364 && wit t 364
theorem valid_any (f t : Int) (w : World) :
    Calls Tryz.prog 94 #[.agg #[.int .i64 f, .int .i64 t]] w fun e w' => e = .returned (.bool (okSpan f t)) ∧ Below w.heap.size w w' := by
  cases h : wit f 364
  all_goals
    go_enter Tryz.func94, Tryz.ntmps94
    go_wp2_with (go_at_call 76; refine (is_any _ _).mono ?_; rintro e w' ⟨rfl, rfl⟩)
    go_ret
    exact ⟨ret_bool (by simp [okSpan, h]), bel1⟩
def inB (f t d : Int) : Bool := okSpan f t && wit d 364 && (if f ≤ t then decide (f ≤ d) && decide (d ≤ t) else decide (f ≤ d) || decide (d ≤ t))
theorem inB_1 {f t d : Int} (h : okSpan f t = false) : inB f t d = false := by simp [inB, h]
theorem inB_2 {f t d : Int} (h : wit d 364 = false) : inB f t d = false := by simp [inB, h]
theorem inB_3 {f t d : Int} (h1 : okSpan f t = true) (h2 : wit d 364 = true) (h : f ≤ t) : inB f t d = (decide (f ≤ d) && decide (d ≤ t)) := by simp [inB, h, h1, h2]
theorem inB_4 {f t d : Int} (h1 : okSpan f t = true) (h2 : wit d 364 = true) (h : ¬ f ≤ t) : inB f t d = (decide (f ≤ d) || decide (d ≤ t)) := by simp [inB, h, h1, h2]
theorem in_any (f t d : Int) (w : World) :
    Calls Tryz.prog 103 #[.agg #[.int .i64 f, .int .i64 t], .int .i64 d] w fun e w' => e = .returned (.bool (inB f t d)) ∧ Below w.heap.size w w' := by
  cases h1 : okSpan f t
  · go_enter Tryz.func103, Tryz.ntmps103
    go_wp2_with (go_at_call 94; refine (valid_any _ _ _).mono ?_; rintro e w' ⟨rfl, hb⟩)
    go_ret
    exact ⟨ret_bool (by simp [inB_1 h1]), bel2 hb⟩
  · cases h2 : wit d 364
    · go_enter Tryz.func103, Tryz.ntmps103
      go_wp2_with (first | (go_at_call 94; refine (valid_any _ _ _).mono ?_; rintro e w' ⟨rfl, hb⟩) | (go_at_call 76; refine (is_any _ _).mono ?_; rintro e w' ⟨rfl, rfl⟩))
      go_ret
      exact ⟨ret_bool (by simp [inB_2 h2]), bel2 hb⟩
    · by_cases h3 : f ≤ t
      · by_cases h4 : f ≤ d
        all_goals
          go_enter Tryz.func103, Tryz.ntmps103
          go_wp2_with (first | (go_at_call 94; refine (valid_any _ _ _).mono ?_; rintro e w' ⟨rfl, hb⟩; obtain ⟨hc, hf⟩ := bcell hb) | (go_at_call 76; refine (is_any _ _).mono ?_; rintro e w' ⟨rfl, rfl⟩))
          go_ret
          exact ⟨ret_bool (by simp [inB_3 h1 h2 h3]; try omega), bel2 hb⟩
      · by_cases h4 : f ≤ d
        all_goals
          go_enter Tryz.func103, Tryz.ntmps103
          go_wp2_with (first | (go_at_call 94; refine (valid_any _ _ _).mono ?_; rintro e w' ⟨rfl, hb⟩; obtain ⟨hc, hf⟩ := bcell hb) | (go_at_call 76; refine (is_any _ _).mono ?_; rintro e w' ⟨rfl, rfl⟩))
          go_ret
          exact ⟨ret_bool (by simp [inB_4 h1 h2 (by omega)]; try omega), bel2 hb⟩

theorem slInt : SlT Tryz.prog 22 3 1 := slT_of (z := .int .i64 0) (bytes := 8) Tryz.underlying22 (by kernel_rfl) rfl (by decide) (by decide)
end Go.Proofs.YtodamjjlnagpjaaGreatDoor
