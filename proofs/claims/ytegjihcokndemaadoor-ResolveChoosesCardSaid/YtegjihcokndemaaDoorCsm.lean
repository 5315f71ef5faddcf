/-
  The contract of the reference's Same of two choices that are the same: true. Conditions: their yields can be read.
-/
import Derived.Test.YtegjihcokndemaaDoorProg
import Derived.Test.YtegjihcokndemaaDoorMad
namespace Go.Proofs.YtegjihcokndemaaDoor
open Go.RowKit

set_option maxHeartbeats 1600000 in
set_option maxRecDepth 20000 in
theorem csame_yes (rl lo hi : Int) (A B : Option Addr) (n c1 c2 : Nat) (ys : List (Int × Int)) (w : World) (hn : n = ys.length) (h1 : Sl w w.heap.size 2 A n c1 (yCells ys)) (h2 : Sl w w.heap.size 2 B n c2 (yCells ys)) :
    Calls Tryd.prog 29 #[.agg #[.int .i64 rl, .int .i64 lo, .int .i64 hi, .slice A n c1], .agg #[.int .i64 rl, .int .i64 lo, .int .i64 hi, .slice B n c2]] w fun e w' => e = .returned (.bool true) ∧ Below w.heap.size w w' := by
  have q0 := (Blk.new w 58 #[.int .i64 rl, .int .i64 lo, .int .i64 hi, .slice A n c1]).alloc (.cells #[.int .i64 rl, .int .i64 lo, .int .i64 hi, .slice B n c2] 58)
  have q1 := Blk.new (w.alloc (.cells #[.int .i64 rl, .int .i64 lo, .int .i64 hi, .slice A n c1] 58)) 58 #[.int .i64 rl, .int .i64 lo, .int .i64 hi, .slice B n c2]
  rw [World.size_alloc] at q1
  have hB := (bel1 (w := w) (o := .cells #[.int .i64 rl, .int .i64 lo, .int .i64 hi, .slice A n c1] 58)).alloc (by simp) (.cells #[.int .i64 rl, .int .i64 lo, .int .i64 hi, .slice B n c2] 58)
  have m1 : n ≤ 9223372036854775807 := by have a1 := h1.2.1; have a2 := h1.2.2.1; unfold maxLen at a2; omega
  have HS1 := hide (h1.thr hB)
  have HS2 := hide (h2.thr hB)
  have HN := hide hn
  have HB := hide hB
  clear h1 h2 hn hB
  obtain ⟨x0, x1, x2, x3, _⟩ := q0.facts4
  obtain ⟨z0, z1, z2, z3, _⟩ := q1.facts4
  have Q0 := hide q0
  have Q1 := hide q1
  clear q0 q1
  have e1 : (rl != rl) = false := by simp
  have e2 : (lo != lo) = false := by simp
  have e3 : (hi != hi) = false := by simp
  have e4 : (lo == lo) = true := by simp
  have e5 : (hi == hi) = true := by simp
  go_enter Tryd.func29, Tryd.ntmps29
  go_upto_region 4 with fail
  generalize ((w.alloc _).alloc _) = w1 at *
  clear x0 x1 x2 x3 z0 z1 z2 z3 e1 e2 e3 e4 e5
  go_loopw [30] (fun v wr => ∃ k : Nat, k ≤ n ∧ v = .int .i64 k ∧ Below w1.heap.size w1 wr) (fun v _ => n - (intOf v).toNat)
  case atStart => exact ⟨0, by omega, rfl, Below.refl _ _⟩
  case round =>
    obtain ⟨k, hk, rfl, hb⟩ := hrel
    rename World => wr
    by_cases hlt : k < n
    · have hki : (k : Int) < (n : Int) := by omega
      have hk0 : (0 : Int) ≤ (k : Int) := by omega
      obtain ⟨b1, o1, rfl, _, hc1⟩ := (HS1.out.below hb).at_ hlt
      obtain ⟨b2, o2, rfl, _, hc2⟩ := (HS2.out.below hb).at_ hlt
      have hL := HN.out
      rcases ey : ys[k]'(by omega) with ⟨y0, y1⟩
      obtain ⟨s0, s1⟩ := y_cells hc1 (by omega) ey
      obtain ⟨t0, t1⟩ := y_cells hc2 (by omega) ey
      obtain ⟨x0, x1, x2, x3, _⟩ := (Q0.out.below hb Q0.out.lt).facts4
      obtain ⟨z0, z1, z2, z3, _⟩ := (Q1.out.below hb Q1.out.lt).facts4
      have HBR := hide hb
      have e4 : (y0 == y0) = true := by simp
      have e5 : (y1 == y1) = true := by simp
      clear hc1 hc2 ey hL hb
      go_wp2
      go_quiet (fail)
      go_wp2
      go_roundw
      case rel => exact ⟨k + 1, by omega, by go_num, below_drewN HBR.out _⟩
      case measure => simp [intOf]; omega
    · obtain rfl : k = n := by omega
      have HBR := hide (bthr HB.out hb HB.out.size)
      clear hb
      go_wp2
      go_ret
      exact ⟨rfl, HBR.out⟩
end Go.Proofs.YtegjihcokndemaaDoor
