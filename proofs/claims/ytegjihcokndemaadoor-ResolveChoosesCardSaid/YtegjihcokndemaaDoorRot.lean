/-
  Contracts of the library's swapRange and rotate over an own row of integers. Condition: the ranges lie in the row.
-/
import Derived.Test.YtegjihcokndemaaDoorProg
import Derived.Test.YtegjihcokndemaaDoorSym
namespace Go.Proofs.YtegjihcokndemaaDoor
open Go.RowKit

set_option maxHeartbeats 1600000 in
set_option maxRecDepth 20000 in
theorem swr_any (g n c a b k : Nat) (ia ib ik : Int) (hia : ia = a) (hib : ib = b) (hik : ik = k) (fv : Value) (hn : n ≤ 1048576) (ha : a + k ≤ b) (hb : b + k ≤ n) (xs : List Int) (hl : xs.length = n) (w : World) (hx : IRow w g xs) :
    Calls Tryd.prog 81 #[.slice (some ⟨g, 0, none⟩) n c, .int .i64 ia, .int .i64 ib, .int .i64 ik, fv] w fun e w' => e = .returned (.tuple #[]) ∧ IRow w' g (swapR a b k xs) ∧ w.grownBy w' (some g) := by
  subst hia hib hik
  have HX := hide hx
  have HL := hide hl
  clear hx hl
  go_enter Tryd.func81, Tryd.ntmps81
  go_wp2
  go_loopw [10] (fun i wr => ∃ m : Nat, m ≤ k ∧ i = .int .i64 m ∧ IRow wr g (swapR a b m xs) ∧ w.grownBy wr (some g)) (fun i _ => k - (intOf i).toNat)
  case atStart => exact ⟨0, by omega, rfl, HX.out, grown_refl _ _⟩
  case round =>
    obtain ⟨m, hm, rfl, hx, hg⟩ := hrel
    by_cases hlt : m < k
    · have hlm := (swapR_length a b m xs).trans HL.out
      have HS := hide (show swapR a b (m + 1) xs = ((swapR a b m xs).set (a + m) ((swapR a b m xs).getD (b + m) 0)).set (b + m) ((swapR a b m xs).getD (a + m) 0) from rfl)
      generalize swapR a b m xs = ys at *
      have x1 := hx.cell (j := a + m) (by omega)
      have x0 := hx.cell (j := b + m) (by omega)
      have f1 := hx.frozen (a + m)
      have f0 := hx.frozen (b + m)
      have HX2 := hide hx
      have i0 : (0 : Int) ≤ (a : Int) + (m : Int) := by omega
      have i1 : (a : Int) + (m : Int) < (n : Int) := by omega
      have i2 : (0 : Int) ≤ (b : Int) + (m : Int) := by omega
      have i3 : (b : Int) + (m : Int) < (n : Int) := by omega
      have hne : a ≠ b := by omega
      have hne2 : b ≠ a := by omega
      generalize ys.getD (a + m) 0 = x at *
      generalize ys.getD (b + m) 0 = y at *
      clear hx hlm
      go_wp2
      go_region
      go_wp2
      go_roundw
      case rel => exact ⟨m + 1, by omega, by go_num, by rw [HS.out]; exact (HX2.out.set_ (a + m) y).set_ (b + m) x, grown_drewN (grown_set (grown_set hg (.inl rfl) _) (.inl rfl) _) 1⟩
      case measure => simp [intOf]; omega
    · obtain rfl : m = k := by omega
      have HX2 := hide hx
      clear hx
      go_wp2
      go_end0
      exact ⟨rfl, HX2.out, hg⟩
set_option maxHeartbeats 1600000 in
set_option maxRecDepth 20000 in
theorem rot_any (g n c a m b : Nat) (ia im ib : Int) (hia : ia = a) (him : im = m) (hib : ib = b) (fv : Value) (hn : n ≤ 1048576) (A U V B : List Int) (hA : A.length = a) (hU : a + U.length = m) (hV : m + V.length = b) (hU0 : 0 < U.length) (hV0 : 0 < V.length) (hl : b + B.length = n) (w : World) (hx : IRow w g (A ++ (U ++ (V ++ B)))) :
    Calls Tryd.prog 80 #[.slice (some ⟨g, 0, none⟩) n c, .int .i64 ia, .int .i64 im, .int .i64 ib, fv] w fun e w' => e = .returned (.tuple #[]) ∧ IRow w' g (A ++ (V ++ (U ++ B))) ∧ w.grownBy w' (some g) := by
  subst hia him hib
  have HX := hide hx
  obtain ⟨p, hp⟩ : ∃ p, p = U.length := ⟨_, rfl⟩
  obtain ⟨q, hq⟩ : ∃ q, q = V.length := ⟨_, rfl⟩
  have e1 := hide (show m = a + p by omega)
  have e2 := hide (show b = m + q by omega)
  have HP := hide hp
  have HQ := hide hq
  have HA := hide hA
  have HB := hide (show m + q + B.length = n by omega)
  have h0 : 0 < p ∧ 0 < q := by omega
  have ham : a ≤ m := by omega
  have hmb : m ≤ b := by omega
  have hbn : b ≤ n := by omega
  clear hx hA hU hV hl hp hq hU0 hV0
  go_enter Tryd.func80, Tryd.ntmps80
  go_wp2
  go_loopw [10, 11] (fun vi vj wr => ∃ (i j : Nat) (C X Y D : List Int), vi = .int .i64 i ∧ vj = .int .i64 j ∧ 0 < i ∧ 0 < j ∧ i ≤ m ∧ m + j ≤ n ∧ Hid (C.length + i = m ∧ X.length = i ∧ Y.length = j ∧ m + j + D.length = n) ∧ Hid (C ++ (Y ++ (X ++ D)) = A ++ (V ++ (U ++ B))) ∧ IRow wr g (C ++ (X ++ (Y ++ D))) ∧ w.grownBy wr (some g)) (fun vi vj _ => (intOf vi).toNat + (intOf vj).toNat)
  case atStart => exact ⟨p, q, A, U, V, B, by rw [show (m : Int) - (a : Int) = (p : Int) by have := e1.out; omega], by rw [show (b : Int) - (m : Int) = (q : Int) by have := e2.out; omega], h0.1, h0.2, by have := e1.out; omega, by have := e2.out; omega, hide ⟨by have := HA.out; have := e1.out; omega, HP.out.symm, HQ.out.symm, HB.out⟩, hide rfl, HX.out, grown_refl _ _⟩
  case round =>
    obtain ⟨i, j, C, X, Y, D, rfl, rfl, hi0, hj0, hi, hj, hL, hE, hx, hg⟩ := hrel
    have HX2 := hide hx
    have HG := hide hg
    clear hx hg
    by_cases hij : i = j
    · subst hij
      obtain ⟨l1, l2, l3, l4⟩ := hL.out
      have HR := hide (swapR_all (a := m - i) (b := m) (n := i) (p := C) (X := X) (m := []) (Y := Y) (q := D) (by omega) l2 l3 (by simp; omega))
      have HR2 := hide (show C ++ (Y ++ ([] ++ (X ++ D))) = A ++ (V ++ (U ++ B)) from hE.out)
      have HLL := hide (show (C ++ (X ++ ([] ++ (Y ++ D)))).length = n by simp; omega)
      clear l1 l2 l3 l4 hL hE
      have hne : ((i : Int) != (i : Int)) = false := by simp
      go_wp2_with fail
      refine (swr_any g n c (m - i) (m) i _ _ _ (by omega) (by omega) (by omega) fv hn (by omega) (by omega) (C ++ (X ++ ([] ++ (Y ++ D)))) HLL.out _ HX2.out).mono ?_
      rintro e w5 ⟨rfl, hx5, hg5⟩
      rw [HR.out, HR2.out] at hx5
      have HX5 := hide hx5
      clear hx5
      go_wp2
      go_end0
      exact ⟨rfl, HX5.out, grown_trans HG.out hg5⟩
    · have hne : ((i : Int) != (j : Int)) = true := by simp; omega
      rcases Nat.lt_or_ge j i with hgt | hle
      · obtain ⟨l1, l2, l3, l4⟩ := hL.out
        have HR := hide (swapR_all (a := m - i) (b := m) (n := j) (p := C) (X := X.take j) (m := X.drop j) (Y := Y) (q := D) (by omega) (by rw [List.length_take]; omega) l3 (by rw [List.length_drop]; omega))
        have HX3 := hide (show IRow wr g (C ++ (X.take j ++ (X.drop j ++ (Y ++ D)))) by
          rw [← List.append_assoc (X.take j), List.take_append_drop]; exact HX2.out)
        have HLL := hide (show (C ++ (X.take j ++ (X.drop j ++ (Y ++ D)))).length = n by simp; omega)
        have HN := hide (show (C ++ Y).length + (i - j) = m ∧ (X.drop j).length = i - j ∧ (X.take j).length = j ∧ m + j + D.length = n by
          simp; omega)
        have HN2 := hide (show (C ++ Y) ++ (X.take j ++ (X.drop j ++ D)) = A ++ (V ++ (U ++ B)) by
          rw [← List.append_assoc (X.take j), List.take_append_drop, List.append_assoc]; exact hE.out)
        clear l1 l2 l3 l4 hL hE HX2
        have hgi : (j : Int) < (i : Int) := by omega
        go_wp2_with fail
        refine (swr_any g n c (m - i) (m) j _ _ _ (by omega) (by omega) (by omega) fv hn (by omega) (by omega) (C ++ (X.take j ++ (X.drop j ++ (Y ++ D)))) HLL.out _ HX3.out).mono ?_
        rintro e w5 ⟨rfl, hx5, hg5⟩
        rw [HR.out] at hx5
        have HX5 := hide hx5
        have HG5 := hide (grown_trans HG.out hg5)
        clear hx5 hg5
        go_wp2
        go_roundw
        case rel => exact ⟨i - j, j, C ++ Y, X.drop j, X.take j, D, by rw [show ((i - j : Nat) : Int) = (i : Int) - (j : Int) by omega], rfl, by omega, by omega, by omega, by omega, hide HN.out, hide HN2.out, by rw [List.append_assoc]; exact HX5.out, HG5.out⟩
        case measure => simp [intOf]; omega
      · obtain ⟨l1, l2, l3, l4⟩ := hL.out
        have HR := hide (swapR_all (a := m - i) (b := m + j - i) (n := i) (p := C) (X := X) (m := Y.take (j - i)) (Y := Y.drop (j - i)) (q := D) (by omega) l2 (by rw [List.length_drop]; omega) (by rw [List.length_take]; omega))
        have HX3 := hide (show IRow wr g (C ++ (X ++ (Y.take (j - i) ++ (Y.drop (j - i) ++ D)))) by
          rw [← List.append_assoc (Y.take (j - i)), List.take_append_drop]; exact HX2.out)
        have HLL := hide (show (C ++ (X ++ (Y.take (j - i) ++ (Y.drop (j - i) ++ D)))).length = n by simp; omega)
        have HN := hide (show C.length + i = m ∧ (Y.drop (j - i)).length = i ∧ (Y.take (j - i)).length = j - i ∧ m + (j - i) + (X ++ D).length = n by
          simp; omega)
        have HN2 := hide (show C ++ (Y.take (j - i) ++ (Y.drop (j - i) ++ (X ++ D))) = A ++ (V ++ (U ++ B)) by
          rw [← List.append_assoc (Y.take (j - i)), List.take_append_drop]; exact hE.out)
        clear l1 l2 l3 l4 hL hE HX2
        have hgi : ¬ (j : Int) < (i : Int) := by omega
        go_wp2_with fail
        refine (swr_any g n c (m - i) (m + j - i) i _ _ _ (by omega) (by omega) (by omega) fv hn (by omega) (by omega) (C ++ (X ++ (Y.take (j - i) ++ (Y.drop (j - i) ++ D)))) HLL.out _ HX3.out).mono ?_
        rintro e w5 ⟨rfl, hx5, hg5⟩
        rw [HR.out] at hx5
        have HX5 := hide hx5
        have HG5 := hide (grown_trans HG.out hg5)
        clear hx5 hg5
        go_wp2
        go_roundw
        case rel => exact ⟨i, j - i, C, Y.drop (j - i), Y.take (j - i), X ++ D, rfl, by rw [show ((j - i : Nat) : Int) = (j : Int) - (i : Int) by omega], by omega, by omega, by omega, by omega, hide HN.out, hide HN2.out, HX5.out, HG5.out⟩
        case measure => simp [intOf]; omega
end Go.Proofs.YtegjihcokndemaaDoor
