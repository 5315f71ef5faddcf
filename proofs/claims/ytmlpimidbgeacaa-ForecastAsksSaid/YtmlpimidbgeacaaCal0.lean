/-
  Contracts of Within and of Mod. No condition but Mod's bounds on its second argument.
-/
import Derived.Test.YtmlpimidbgeacaaProg
import Derived.Test.YtmlpimidbgeacaaLib
namespace Go.Proofs.Ytmlpimidbgeacaa
open Go.RowKit

def wit (n m : Int) : Bool := decide (0 ≤ n) && decide (n ≤ m)
theorem wit_iff {n m : Int} : wit n m = true ↔ 0 ≤ n ∧ n ≤ m := by simp [wit]
theorem wit_of {n m : Int} (h0 : 0 ≤ n) (h1 : n ≤ m) : wit n m = true := wit_iff.2 ⟨h0, h1⟩
theorem wit_not {n m : Int} : wit n m = false ↔ n < 0 ∨ m < n := by rw [Bool.eq_false_iff, Ne, wit_iff]; omega
theorem within_any (n m : Int) (w : World) :
    Calls Try.prog 41 #[.int .i64 n, .int .i64 m] w fun e w' => e = .returned (.bool (wit n m)) ∧ w = w' := by
  by_cases h : 0 ≤ n
  all_goals
    go_enter Try.func41, Try.ntmps41
    go_wp2
    go_ret
    exact ⟨ret_bool (by simp [wit]; try omega), rfl⟩
theorem mod_eq (n k : Int) (h0 : 0 < k) (h1 : k ≤ 4611686018427387904) : (wrap64 (n.tmod k + k)).tmod k = n % k := by
  have a1 := Int.tmod_lt_of_pos n h0
  have a2 : -k < n.tmod k := by
    have := Int.tmod_lt_of_pos (-n) h0
    rw [Int.neg_tmod] at this; omega
  rw [IntWalk.wrap64_in _ ⟨by omega, by omega⟩, Int.tmod_eq_emod_of_nonneg (by omega), Int.add_emod_right]
  rw [Int.tmod_eq_emod]
  split
  · simp
  · have e : (k.natAbs : Int) = k := by omega
    rw [e, Int.sub_emod_right, Int.emod_emod_of_dvd _ (Int.dvd_refl k)]
theorem mod_any (n k : Int) (h0 : 0 < k) (h1 : k ≤ 4611686018427387904) (w : World) :
    Calls Try.prog 11 #[.int .i64 n, .int .i64 k] w fun e w' => e = .returned (.int .i64 (n % k)) ∧ w = w' := by
  go_enter Try.func11, Try.ntmps11
  go_wp2
  go_ret
  exact ⟨ret_int (mod_eq n k h0 h1), rfl⟩
theorem slInt : SlT Try.prog 22 3 1 := slT_of (z := .int .i64 0) (bytes := 8) Try.underlying22 (by kernel_rfl) rfl (by decide) (by decide)
end Go.Proofs.Ytmlpimidbgeacaa
