/-
  Chapter 9's functions at lists of any length: at more than 2^62 flows out the answer is an error; Share at more than 4096 weights is an error. Condition: the slices can be read.
-/
import Derived.Test.YtbfflggoffmnmaaProg
import Derived.Test.YtbfflggoffmnmaaRiu
import Derived.Test.YtbfflggoffmnmaaRsm
namespace Go.Proofs.Ytbfflggoffmnmaa
open Go.RowKit

theorem chk_ne {vs os : List Int} (h : 4096 < os.length) : chkI vs os ≠ 0 := by
  by_cases h1 : vs.length = os.length + 1
  · rw [chk_long h1 h]; omega
  · rw [chk_form h1]; omega
set_option maxRecDepth 20000 in
theorem icheck_long (A B : Option Addr) (n c n' c' : Nat) (vs os : List Int) (w : World) (hbig : 4611686018427387904 < n') (h1 : Sl w w.heap.size 1 A n c (ints vs)) (h2 : Sl w w.heap.size 1 B n' c' (ints os)) :
    Calls Try.prog 17 #[.slice A n c, .slice B n' c'] w fun e w' => e = .returned (.int .i64 (chkI vs os)) ∧ w = w' := by
  have l1 : n = vs.length := by have := h1.1; rw [ints_length] at this; omega
  have l2 : n' = os.length := by have := h2.1; rw [ints_length] at this; omega
  have m1 : n ≤ 9223372036854775807 := by have a1 := h1.2.1; have a2 := h1.2.2.1; unfold maxLen at a2; omega
  have m2 : n' ≤ 9223372036854775807 := by have a1 := h2.2.1; have a2 := h2.2.2.1; unfold maxLen at a2; omega
  clear h1 h2
  by_cases hmax : n' = 9223372036854775807
  · have HR := hide (chk_form (vs := vs) (os := os) (by omega))
    have hw : wrap64 ((n' : Int) + 1) = -9223372036854775808 := by unfold wrap64; omega
    have hd : ((n : Int) != wrap64 ((n' : Int) + 1)) = true := by rw [hw]; simp
    have hd2 : ((n : Int) != -9223372036854775808) = true := by simp
    clear l1 l2 hmax
    go_enter Try.func17, Try.ntmps17
    go_wp2
    go_ret
    exact ⟨ret_int HR.out.symm, rfl⟩
  · by_cases hl : n = n' + 1
    · have HR := hide (chk_long (vs := vs) (os := os) (by omega) (by omega))
      have hd : ((n : Int) != (n' : Int) + 1) = false := by simp; omega
      have hbi : (4096 : Int) < (n' : Int) := by omega
      have HL := hide hl
      have hmi : (n' : Int) + 1 ≤ 9223372036854775807 := by omega
      clear l1 l2 hl
      go_enter Try.func17, Try.ntmps17
      go_wp2
      go_ret
      exact ⟨ret_int HR.out.symm, rfl⟩
    · have HR := hide (chk_form (vs := vs) (os := os) (by omega))
      have hd : ((n : Int) != (n' : Int) + 1) = true := by simp; omega
      have hmi : (n' : Int) + 1 ≤ 9223372036854775807 := by omega
      clear l1 l2 hl
      go_enter Try.func17, Try.ntmps17
      go_wp2
      go_ret
      exact ⟨ret_int HR.out.symm, rfl⟩
set_option maxRecDepth 20000 in
theorem rcheck_long (A B : Option Addr) (n c n' c' : Nat) (vs os : List Int) (w : World) (hbig : 4611686018427387904 < n') (h1 : Sl w w.heap.size 1 A n c (ints vs)) (h2 : Sl w w.heap.size 1 B n' c' (ints os)) :
    Calls Try.prog 18 #[.slice A n c, .slice B n' c'] w fun e w' => e = .returned (.int .i64 (chkI vs os)) ∧ w = w' := by
  have l1 : n = vs.length := by have := h1.1; rw [ints_length] at this; omega
  have l2 : n' = os.length := by have := h2.1; rw [ints_length] at this; omega
  have m1 : n ≤ 9223372036854775807 := by have a1 := h1.2.1; have a2 := h1.2.2.1; unfold maxLen at a2; omega
  have m2 : n' ≤ 9223372036854775807 := by have a1 := h2.2.1; have a2 := h2.2.2.1; unfold maxLen at a2; omega
  clear h1 h2
  by_cases hmax : n' = 9223372036854775807
  · have HR := hide (chk_form (vs := vs) (os := os) (by omega))
    have hw : wrap64 ((n' : Int) + 1) = -9223372036854775808 := by unfold wrap64; omega
    have hd : ((n : Int) != wrap64 ((n' : Int) + 1)) = true := by rw [hw]; simp
    have hd2 : ((n : Int) != -9223372036854775808) = true := by simp
    clear l1 l2 hmax
    go_enter Try.func18, Try.ntmps18
    go_wp2
    go_ret
    exact ⟨ret_int HR.out.symm, rfl⟩
  · by_cases hl : n = n' + 1
    · have HR := hide (chk_long (vs := vs) (os := os) (by omega) (by omega))
      have hd : ((n : Int) != (n' : Int) + 1) = false := by simp; omega
      have hbi : (4096 : Int) < (n' : Int) := by omega
      have HL := hide hl
      have hmi : (n' : Int) + 1 ≤ 9223372036854775807 := by omega
      clear l1 l2 hl
      go_enter Try.func18, Try.ntmps18
      go_wp2
      go_ret
      exact ⟨ret_int HR.out.symm, rfl⟩
    · have HR := hide (chk_form (vs := vs) (os := os) (by omega))
      have hd : ((n : Int) != (n' : Int) + 1) = true := by simp; omega
      have hmi : (n' : Int) + 1 ≤ 9223372036854775807 := by omega
      clear l1 l2 hl
      go_enter Try.func18, Try.ntmps18
      go_wp2
      go_ret
      exact ⟨ret_int HR.out.symm, rfl⟩
section
variable (A B : Option Addr) (n c n' c' : Nat) (vs os : List Int) (w : World) (h1 : Sl w w.heap.size 1 A n c (ints vs)) (h2 : Sl w w.heap.size 1 B n' c' (ints os))
include h1 h2
theorem icheck_full : Calls Try.prog 17 #[.slice A n c, .slice B n' c'] w fun e w' => e = .returned (.int .i64 (chkI vs os)) ∧ Below w.heap.size w w' := by
  by_cases h : n' ≤ 4611686018427387904
  · exact icheck_any A B n c n' c' vs os w h h1 h2
  · refine (icheck_long A B n c n' c' vs os w (by omega) h1 h2).mono ?_
    rintro e w' ⟨rfl, rfl⟩
    exact ⟨rfl, Below.refl _ _⟩
theorem rcheck_full : Calls Try.prog 18 #[.slice A n c, .slice B n' c'] w fun e w' => e = .returned (.int .i64 (chkI vs os)) ∧ Below w.heap.size w w' := by
  by_cases h : n' ≤ 4611686018427387904
  · refine (rcheck_any A B n c n' c' vs os w h h1 h2).mono ?_
    rintro e w' ⟨rfl, rfl⟩
    exact ⟨rfl, Below.refl _ _⟩
  · refine (rcheck_long A B n c n' c' vs os w (by omega) h1 h2).mono ?_
    rintro e w' ⟨rfl, rfl⟩
    exact ⟨rfl, Below.refl _ _⟩
theorem unc_full (off : Int) : Calls Try.prog 16 #[.slice A n c, .slice B n' c', .int .i64 off] w (UncOut w vs os off) := by
  by_cases h : n' ≤ 4611686018427387904
  · exact unc_any A B n c n' c' vs os off w h h1 h2
  · have l2 : n' = os.length := by have := h2.1; rw [ints_length] at this; omega
    have hk := chk_ne (vs := vs) (os := os) (by omega)
    have HC := hide (icheck_long A B n c n' c' vs os w (by omega) h1 h2)
    have HE := hide (show uncE vs os off = chkI vs os by simp [uncE, hk])
    have HL := hide (show uncL vs os off = [] by simp [uncL, uncE, hk])
    have hk2 : (chkI vs os != 0) = true := by simp [hk]
    clear hk h1 h2 l2 h
    go_enter Try.func16, Try.ntmps16
    go_wp2_with fail
    refine HC.out.mono ?_
    rintro e w1 ⟨rfl, rfl⟩
    go_wp2
    go_ret2
    exact ⟨_, by rw [HE.out]; rfl, by rw [HL.out]; exact World.ownsRow_nil _ _ _ _, Below.refl _ _⟩
theorem runc_full (off : Int) : Calls Try.prog 20 #[.slice A n c, .slice B n' c', .int .i64 off] w (UncOut w vs os off) := by
  by_cases h : n' ≤ 4611686018427387904
  · exact runc_any A B n c n' c' vs os off w h h1 h2
  · have l2 : n' = os.length := by have := h2.1; rw [ints_length] at this; omega
    have hk := chk_ne (vs := vs) (os := os) (by omega)
    have HC := hide (rcheck_long A B n c n' c' vs os w (by omega) h1 h2)
    have HE := hide (show uncE vs os off = chkI vs os by simp [uncE, hk])
    have HL := hide (show uncL vs os off = [] by simp [uncL, uncE, hk])
    have hk2 : (chkI vs os != 0) = true := by simp [hk]
    clear hk h1 h2 l2 h
    go_enter Try.func20, Try.ntmps20
    go_wp2_with fail
    refine HC.out.mono ?_
    rintro e w1 ⟨rfl, rfl⟩
    go_wp2
    go_ret2
    exact ⟨_, by rw [HE.out]; rfl, by rw [HL.out]; exact World.ownsRow_nil _ _ _ _, Below.refl _ _⟩
theorem bal_full : Calls Try.prog 15 #[.slice A n c, .slice B n' c'] w (BalOut w vs os) := by
  by_cases h : n' ≤ 4611686018427387904
  · exact bal_any A B n c n' c' vs os w h h1 h2
  · have l2 : n' = os.length := by have := h2.1; rw [ints_length] at this; omega
    have hk := chk_ne (vs := vs) (os := os) (by omega)
    have HC := hide (unc_full A B n c n' c' vs os w h1 h2 0)
    have hk2 : (uncE vs os 0 != 0) = true := by rw [balE_eq]; simp [hk]
    have HL := hide (bal_err hk)
    clear hk h1 h2 l2 h
    go_enter Try.func15, Try.ntmps15
    go_wp2_with fail
    refine HC.out.mono ?_
    rintro e w2 ⟨v, rfl, hown, hb⟩
    obtain ⟨A2, c2, rfl, hsl⟩ := own_sl hown
    clear hown hsl
    go_wp2
    go_ret2
    exact ⟨_, rfl, by rw [HL.out]; exact World.ownsRow_nil _ _ _ _, hb⟩
theorem rbal_full : Calls Try.prog 19 #[.slice A n c, .slice B n' c'] w (BalOut w vs os) := by
  by_cases h : n' ≤ 4611686018427387904
  · exact rbal_any A B n c n' c' vs os w h h1 h2
  · have l2 : n' = os.length := by have := h2.1; rw [ints_length] at this; omega
    have hk := chk_ne (vs := vs) (os := os) (by omega)
    have HC := hide (rcheck_long A B n c n' c' vs os w (by omega) h1 h2)
    have HE := hide (balE_eq vs os)
    have HL := hide (bal_err hk)
    have hk2 : (chkI vs os != 0) = true := by simp [hk]
    clear hk h1 h2 l2 h
    go_enter Try.func19, Try.ntmps19
    go_wp2_with fail
    refine HC.out.mono ?_
    rintro e w1 ⟨rfl, rfl⟩
    go_wp2
    go_ret2
    exact ⟨_, by rw [HE.out]; rfl, by rw [HL.out]; exact World.ownsRow_nil _ _ _ _, Below.refl _ _⟩
end
end Go.Proofs.Ytbfflggoffmnmaa
