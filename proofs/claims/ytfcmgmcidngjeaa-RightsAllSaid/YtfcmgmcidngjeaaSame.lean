/-
  The contract of Same: it tells whether two slices hold the same integers. Condition: both slices can be read.
-/
import Derived.Test.YtfcmgmcidngjeaaProg
import Derived.Test.YtfcmgmcidngjeaaDeck
namespace Go.Proofs.Ytfcmgmcidngjeaa
open Go.RowKit

def sameB (xs ys : List Int) : Bool := decide (xs = ys)
theorem take_succ_eq {xs ys : List Int} {k : Nat} (hx : k < xs.length) (hy : k < ys.length) (h : xs.take k = ys.take k) (he : xs.getD k 0 = ys.getD k 0) : xs.take (k + 1) = ys.take (k + 1) := by
  rw [List.take_succ_eq_append_getElem hx, List.take_succ_eq_append_getElem hy, h]
  simp [List.getD_eq_getElem?_getD, hx, hy] at he
  rw [he]
set_option maxRecDepth 20000 in
theorem same_any (A1 : Option Addr) (c1 : Nat) (xs : List Int) (A2 : Option Addr) (c2 : Nat) (ys : List Int) (n1 n2 : Nat) (w : World) (h1 : Sl w w.heap.size 1 A1 n1 c1 (ints xs)) (h2 : Sl w w.heap.size 1 A2 n2 c2 (ints ys)) :
    Calls Try.prog 21 #[.slice A1 n1 c1, .slice A2 n2 c2] w fun e w' => e = .returned (.bool (sameB xs ys)) ∧ Below w.heap.size w w' := by
  have l1 : n1 = xs.length := by have := h1.1; rw [ints_length] at this; omega
  have l2 : n2 = ys.length := by have := h2.1; rw [ints_length] at this; omega
  have m1 : n1 ≤ 9223372036854775807 := by have a1 := h1.2.1; have a2 := h1.2.2.1; unfold maxLen at a2; omega
  have m2 : n2 ≤ 9223372036854775807 := by have a1 := h2.2.1; have a2 := h2.2.2.1; unfold maxLen at a2; omega
  have L1 := hide l1; clear l1
  have L2 := hide l2; clear l2
  by_cases hne : n1 = n2
  · subst hne
    go_enter Try.func21, Try.ntmps21
    go_wp2
    go_loopw [13] (fun i wr => ∃ k : Nat, k ≤ n1 ∧ i = .int .i64 k ∧ xs.take k = ys.take k ∧ Below w.heap.size w wr) (fun i _ => n1 - (intOf i).toNat)
    case atStart => exact ⟨0, by omega, rfl, rfl, Below.refl _ _⟩
    case round =>
      obtain ⟨k, hk, rfl, heq, hb⟩ := hrel
      have HE := hide heq; clear heq
      by_cases hlt : k < n1
      · obtain ⟨b1, o1, rfl, hb1, hc1⟩ := h1.at_ hlt
        obtain ⟨b2, o2, rfl, hb2, hc2⟩ := h2.at_ hlt
        have L1' := L1.out
        have L2' := L2.out
        have e1 := (hb.cell (p := ⟨b1, o1 + k, none⟩) hb1).trans (hc1 k _ (ints_get xs k (by omega)))
        have e2 := (hb.cell (p := ⟨b2, o2 + k, none⟩) hb2).trans (hc2 k _ (ints_get ys k (by omega)))
        have ht := fun he => hide (take_succ_eq (xs := xs) (ys := ys) (k := k) (by omega) (by omega) HE.out he)
        have HN : xs.getD k 0 ≠ ys.getD k 0 → Hid (xs ≠ ys) := fun h => hide (fun e => h (by rw [e]))
        clear L1' L2' hc1 hc2
        generalize xs.getD k 0 = x at e1 ht HN
        generalize ys.getD k 0 = y at e2 ht HN
        by_cases hxy : x = y
        · have hT := ht hxy
          clear ht
          subst hxy
          clear HN
          go_wp2
          go_quiet (fail)
          go_wp2
          go_roundw
          case rel => exact ⟨k + 1, by omega, by go_num, hT.out, below_drewN hb _⟩
          case measure => simp [intOf]; omega
        · have hN := HN hxy
          clear HN
          have hd : (x != y) = true := by simpa using hxy
          have hd' : (x == y) = false := by simpa using hxy
          clear ht
          go_wp2
          go_quiet (fail)
          go_wp2
          go_ret
          exact ⟨ret_bool (by simp [sameB, hN.out]), below_drewN hb _⟩
      · obtain rfl : k = n1 := by omega
        go_wp2
        go_ret
        refine ⟨ret_bool ?_, hb⟩
        have := HE.out
        have q1 := L1.out
        have q2 := L2.out
        rw [List.take_of_length_le (by omega), List.take_of_length_le (by omega)] at this
        simp [sameB, this]
  · have hd : ((n1 : Int) != (n2 : Int)) = true := by simp; omega
    go_enter Try.func21, Try.ntmps21
    go_wp2
    go_ret
    refine ⟨ret_bool ?_, Below.refl _ _⟩
    have q1 := L1.out
    have q2 := L2.out
    have : xs ≠ ys := fun e => hne (by rw [q1, q2, e])
    simp [sameB, this]
end Go.Proofs.Ytfcmgmcidngjeaa
