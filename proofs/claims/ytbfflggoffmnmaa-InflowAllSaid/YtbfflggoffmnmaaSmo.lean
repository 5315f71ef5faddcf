/-
  The contract of inflow.Smooth: the smoothed values, or the error. Condition: the slice can be read.
-/
import Derived.Test.YtbfflggoffmnmaaGrp
import Derived.Test.YtbfflggoffmnmaaSms
import Derived.Test.YtbfflggoffmnmaaCal0
namespace Go.Proofs.Ytbfflggoffmnmaa
open Go.RowKit Go.Shelf
attribute [local go_sem] Oper.semAt_some

theorem tmod_neg {a b : Int} (ha : a < 0) (hb : 0 < b) : -b < a.tmod b ∧ a.tmod b ≤ 0 := by
  refine ⟨Int.lt_tmod_of_pos a hb, ?_⟩
  have h := Int.tmod_nonneg (a := -a) b (by omega)
  rw [Int.neg_tmod] at h
  omega
theorem tdiv_neg1 {a b : Int} (ha : a < 0) (hb : 0 < b) (h : a.tmod b < 0) : a.tdiv b - 1 = a / b := by
  have h1 := Int.mul_tdiv_add_tmod a b
  obtain ⟨h2, h3⟩ := tmod_neg ha hb
  refine ((Int.ediv_eq_iff_of_pos hb).2 ⟨?_, ?_⟩).symm
  · rw [Int.sub_mul, Int.one_mul, Int.mul_comm]; omega
  · rw [Int.sub_mul, Int.one_mul, Int.mul_comm]; omega
theorem tdiv_neg0 {a b : Int} (ha : a < 0) (hb : 0 < b) (h : ¬ a.tmod b < 0) : a.tdiv b = a / b := by
  have h1 := Int.mul_tdiv_add_tmod a b
  obtain ⟨h2, h3⟩ := tmod_neg ha hb
  refine ((Int.ediv_eq_iff_of_pos hb).2 ⟨?_, ?_⟩).symm
  · rw [Int.mul_comm]; omega
  · rw [Int.mul_comm]; omega
theorem tdiv_range {a b : Int} (ha : a < 0) (hb : 0 < b) : a ≤ a.tdiv b ∧ a.tdiv b ≤ 0 := by
  by_cases h : a.tmod b < 0
  · have h1 := tdiv_neg1 ha hb h
    have h2 : a / b < 0 := Int.ediv_neg_of_neg_of_pos ha hb
    have h3 : a ≤ a / b := by rw [Int.le_ediv_iff_mul_le hb]; have := Int.mul_le_mul_of_nonpos_left (a := a) (b := b) (c := 1) (by omega) (by omega); omega
    omega
  · have h1 := tdiv_neg0 ha hb h
    have h2 : a / b < 0 := Int.ediv_neg_of_neg_of_pos ha hb
    have h3 : a ≤ a / b := by rw [Int.le_ediv_iff_mul_le hb]; have := Int.mul_le_mul_of_nonpos_left (a := a) (b := b) (c := 1) (by omega) (by omega); omega
    omega
theorem down_any (a b : Int) (w : World) (ha : -1125899906842624 ≤ a) (ha' : a ≤ 1125899906842624) (hb : 0 < b) (hb' : b ≤ 4096) :
    Calls Try.prog 29 #[.int .i64 a, .int .i64 b] w fun e w' => e = .returned (.int .i64 (a / b)) ∧ w = w' := by
  have hbz : (b == 0) = false := by simp; omega
  by_cases h0 : 0 ≤ a
  · have h1 : 0 ≤ a / b := Int.ediv_nonneg h0 (by omega)
    have h2 : a / b ≤ a := Int.ediv_le_self b h0
    have h3 := Int.emod_nonneg a (b := b) (by omega)
    have h4 := Int.emod_lt_of_pos a hb
    go_enter Try.func29, Try.ntmps29
    go_wp2
    go_ret
    exact ⟨rfl, rfl⟩
  · have hn : a < 0 := by omega
    obtain ⟨h1, h2⟩ := tdiv_range hn hb
    obtain ⟨h3, h4⟩ := tmod_neg hn hb
    by_cases hr : a.tmod b < 0
    · have HE := hide (tdiv_neg1 hn hb hr)
      go_enter Try.func29, Try.ntmps29
      go_wp2
      go_ret
      exact ⟨ret_int HE.out, rfl⟩
    · have HE := hide (tdiv_neg0 hn hb hr)
      go_enter Try.func29, Try.ntmps29
      go_wp2
      go_ret
      exact ⟨ret_int HE.out, rfl⟩
end Go.Proofs.Ytbfflggoffmnmaa
