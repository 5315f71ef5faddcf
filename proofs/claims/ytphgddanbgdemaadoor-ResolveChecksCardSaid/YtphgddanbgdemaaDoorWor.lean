/-
  The contract of the reference's Worst: the least rank of those that yield. Conditions: the lists can be read.
-/
import Derived.Test.YtphgddanbgdemaaDoorProg
import Derived.Test.YtphgddanbgdemaaDoorMad
namespace Go.Proofs.YtphgddanbgdemaaDoor
open Go.RowKit

set_option maxHeartbeats 1600000 in
set_option maxRecDepth 20000 in
theorem rworst_any (A B : Option Addr) (n c m c2 : Nat) (cs : List Cd) (ys : List (Int × Int)) (rl lo hi : Int) (w : World) (hs : Sl w w.heap.size 7 A n c (cdCells cs)) (hy : Sl w w.heap.size 2 B m c2 (yCells ys)) :
    Calls Tryd.prog 14 #[.slice A n c, .agg #[.int .i64 rl, .int .i64 lo, .int .i64 hi, .slice B m c2]] w fun e w' => e = .returned (.int .i64 (worstF cs ys)) ∧ Below w.heap.size w w' := by
  have hl : n = cs.length := by have := hs.1; rw [cdCells_length] at this; omega
  have hm : m = ys.length := by have := hy.1; rw [yCells_len] at this; omega
  have hmm : m ≤ 9223372036854775807 := by have a1 := hy.2.1; have a2 := hy.2.2.1; unfold maxLen at a2; omega
  have q0 := Blk.new w 26 #[.int .i64 rl, .int .i64 lo, .int .i64 hi, .slice B m c2]
  have hB := bel1 (w := w) (o := .cells #[.int .i64 rl, .int .i64 lo, .int .i64 hi, .slice B m c2] 26)
  have HL := hide hl
  have HM := hide hm
  have HS := hide (hs.thr hB)
  have HY := hide (hy.thr hB)
  clear hl hm hs hy
  obtain ⟨c0, c1, c3, c4, cF⟩ := q0.facts4
  go_enter Tryd.func14, Tryd.ntmps14
  go_upto_region 2 with fail
  generalize w.alloc _ = w1 at *
  go_wp2
  clear c0 c1 c3 c4 cF q0
  go_loopw [5, 12] (fun a i wr => ∃ k : Nat, k ≤ m ∧ i = .int .i64 k ∧ a = .int .i64 (worstF cs (ys.take k)) ∧ Below w1.heap.size w1 wr) (fun _ i _ => m - (intOf i).toNat)
  case atStart => exact ⟨0, by omega, rfl, rfl, Below.refl _ _⟩
  case round =>
    obtain ⟨k, hk, rfl, rfl, hb⟩ := hrel
    by_cases hlt : k < m
    · obtain ⟨b2, o2, rfl, _, hyc⟩ := (HY.out.below hb).at_ hlt
      rcases ey : ys[k]'(by have := HM.out; omega) with ⟨y0, y1⟩
      obtain ⟨z0, z1⟩ := y_cells hyc (by have := HM.out; omega) ey
      have HST := hide (worst_step (cs := cs) (by have := HM.out; omega) ey)
      have hb2 := hide (hb.alloc hb.size (.cells #[.int .i64 y0, .int .i64 y1] 49))
      have q1 := Blk.new wr 49 #[.int .i64 y0, .int .i64 y1]
      have hki : (k : Int) < (m : Int) := by omega
      clear hyc ey
      generalize worstF cs (ys.take k) = a at *
      by_cases hin : 0 ≤ y0 ∧ y0 < n
      · obtain ⟨i0, i1⟩ := hin
        obtain ⟨j, rfl⟩ : ∃ j : Nat, y0 = (j : Int) := ⟨y0.toNat, by omega⟩
        have hL := HL.out
        obtain ⟨bl, ol, rfl, _, hcl⟩ := (HS.out.below (hb.alloc hb.size (.cells #[.int .i64 (j : Int), .int .i64 y1] 49))).at_ (show j < n by omega)
        rcases ej : cs[j]'(by omega) with ⟨r, kd, vv, f, t, x, y⟩
        obtain ⟨e0, -⟩ := cd_cells (B := 0) (n := 0) (c := 0) hcl (by omega) ej
        have HR := hide (rk_at (by omega) ej)
        rw [if_pos (by omega), HR.out] at HST
        obtain ⟨x0, x1, _⟩ := q1.facts2
        clear hcl ej hL hb q1
        by_cases ha : a = 0
        · have hab : (a == 0) = true := by simp [ha]
          have HS2 := hide (show worstF cs (ys.take (k + 1)) = r by rw [HST.out, if_pos (.inl ha)])
          clear HST ha
          go_wp2
          go_roundw
          case rel => exact ⟨k + 1, by omega, by go_num, by rw [HS2.out], hb2.out⟩
          case measure => simp [intOf]; omega
        · have hab : (a == 0) = false := by simp [ha]
          by_cases hra : r < a
          · have HS2 := hide (show worstF cs (ys.take (k + 1)) = r by rw [HST.out, if_pos (.inr hra)])
            clear HST ha
            go_wp2
            go_roundw
            case rel => exact ⟨k + 1, by omega, by go_num, by rw [HS2.out], hb2.out⟩
            case measure => simp [intOf]; omega
          · have HS2 := hide (show worstF cs (ys.take (k + 1)) = a by rw [HST.out, if_neg (by omega)])
            clear HST ha
            go_wp2
            go_roundw
            case rel => exact ⟨k + 1, by omega, by go_num, by rw [HS2.out], hb2.out⟩
            case measure => simp [intOf]; omega
      · have HS2 := hide (show worstF cs (ys.take (k + 1)) = a by rw [HST.out, if_neg (by have := HL.out; omega)])
        obtain ⟨x0, x1, _⟩ := q1.facts2
        clear hb HST q1
        by_cases h0 : 0 ≤ y0
        · have h1 : ¬ y0 < (n : Int) := fun h => hin ⟨h0, h⟩
          clear hin
          go_wp2
          go_roundw
          case rel => exact ⟨k + 1, by omega, by go_num, by rw [HS2.out], hb2.out⟩
          case measure => simp [intOf]; omega
        · clear hin
          go_wp2
          go_roundw
          case rel => exact ⟨k + 1, by omega, by go_num, by rw [HS2.out], hb2.out⟩
          case measure => simp [intOf]; omega
    · obtain rfl : k = m := by omega
      have HE := hide (show worstF cs (ys.take k) = worstF cs ys by rw [List.take_of_length_le (by have := HM.out; omega)])
      have HBB := hide (bthr hB hb hB.size)
      clear hb
      rw [HE.out]
      go_wp2
      go_ret
      exact ⟨rfl, HBB.out⟩
end Go.Proofs.YtphgddanbgdemaaDoor
