/-
  Contracts of slices.Equal of two lists of yields, and of the reference's Same of two choices: whether they are the same. Conditions: their yields can be read.
-/
import Derived.Test.YtphgddanbgdemaaDoorProg
import Derived.Test.YtphgddanbgdemaaDoorMad
namespace Go.Proofs.YtphgddanbgdemaaDoor
open Go.RowKit

theorem take_eqP {xs ys : List (Int × Int)} {k : Nat} (hx : k < xs.length) (hy : k < ys.length) (h : xs.take k = ys.take k) (he : xs[k] = ys[k]) : xs.take (k + 1) = ys.take (k + 1) := by
  rw [List.take_succ_eq_append_getElem hx, List.take_succ_eq_append_getElem hy, h, he]
theorem ne_at {xs ys : List (Int × Int)} {k : Nat} (hx : k < xs.length) (hy : k < ys.length) (h : xs[k] ≠ ys[k]) : xs ≠ ys := by
  intro e; subst e; exact h rfl
theorem len_y {w : World} {A : Option Addr} {n c : Nat} {ys : List (Int × Int)} (h : Sl w w.heap.size 2 A n c (yCells ys)) : n = ys.length ∧ n ≤ 9223372036854775807 := by
  have h1 := h.1
  have a1 := h.2.1
  have a2 := h.2.2.1
  rw [yCells_len] at h1
  unfold maxLen at a2
  omega
set_option maxHeartbeats 1600000 in
set_option maxRecDepth 20000 in
theorem eqy_any (A B : Option Addr) (n m c1 c2 : Nat) (xs ys : List (Int × Int)) (w : World) (h1 : Sl w w.heap.size 2 A n c1 (yCells xs)) (h2 : Sl w w.heap.size 2 B m c2 (yCells ys)) :
    Calls Tryd.prog 24 #[.slice A n c1, .slice B m c2] w fun e w' => e = .returned (.bool (decide (xs = ys))) ∧ Below w.heap.size w w' := by
  obtain ⟨l1, m1⟩ := len_y h1
  obtain ⟨l2, m2⟩ := len_y h2
  have L1 := hide l1
  have L2 := hide l2
  by_cases hne : n = m
  · subst hne
    have HS1 := hide h1
    have HS2 := hide h2
    obtain ⟨R, hR⟩ : ∃ R, decide (xs = ys) = R := ⟨_, rfl⟩
    rw [hR]
    have HT := hide (fun (h : xs = ys) => show R = true by rw [← hR]; exact decide_eq_true h)
    have HF := hide (fun (h : xs ≠ ys) => show R = false by rw [← hR]; exact decide_eq_false h)
    clear l1 l2 h1 h2 hR
    go_enter Tryd.func24, Tryd.ntmps24
    go_wp2
    go_loopw [13] (fun i wr => ∃ k : Nat, k ≤ n ∧ i = .int .i64 k ∧ Hid (xs.take k = ys.take k) ∧ Below w.heap.size w wr) (fun i _ => n - (intOf i).toNat)
    case atStart => exact ⟨0, by omega, rfl, hide rfl, Below.refl _ _⟩
    case round =>
      obtain ⟨k, hk, rfl, heq, hb⟩ := hrel
      rename World => wr
      by_cases hlt : k < n
      · have hki : (k : Int) < (n : Int) := by omega
        have hki0 : (0 : Int) ≤ (k : Int) := by omega
        obtain ⟨b1, o1, rfl, _, hc1⟩ := (HS1.out.below hb).at_ hlt
        obtain ⟨b2, o2, rfl, _, hc2⟩ := (HS2.out.below hb).at_ hlt
        have q1 := L1.out
        have q2 := L2.out
        have HEQ := hide (fun (h : (xs[k]'(by omega)) = (ys[k]'(by omega))) => take_eqP (by omega) (by omega) heq.out h)
        have HNE := hide (fun (h : (xs[k]'(by omega)) ≠ (ys[k]'(by omega))) => HF.out (ne_at (by omega) (by omega) h))
        rcases ex : xs[k]'(by omega) with ⟨x0, x1⟩
        rcases ey : ys[k]'(by omega) with ⟨y0, y1⟩
        rw [ex, ey] at HEQ HNE
        obtain ⟨s0, s1⟩ := y_cells hc1 (by omega) ex
        obtain ⟨t0, t1⟩ := y_cells hc2 (by omega) ey
        have HB := hide hb
        clear hc1 hc2 ex ey q1 q2 hb heq
        by_cases e0 : x0 = y0
        · by_cases e1 : x1 = y1
          · subst e0 e1
            have HX := hide (HEQ.out rfl)
            have f0 : (x0 == x0) = true := by simp
            have f1 : (x1 == x1) = true := by simp
            clear HEQ HNE
            go_wp2
            go_quiet (fail)
            go_wp2
            go_roundw
            case rel => exact ⟨k + 1, by omega, by go_num, HX, below_drewN HB.out _⟩
            case measure => simp [intOf]; omega
          · subst e0
            have HX := hide (HNE.out (fun e => e1 (by injection e)))
            have f0 : (x0 == x0) = true := by simp
            have f1 : (x1 == y1) = false := by simpa using e1
            clear HEQ HNE e1
            go_wp2
            go_quiet (fail)
            go_wp2
            go_ret
            exact ⟨ret_bool HX.out.symm, below_drewN HB.out _⟩
        · have HX := hide (HNE.out (fun e => e0 (by injection e)))
          have f0 : (x0 == y0) = false := by simpa using e0
          clear HEQ HNE e0
          go_wp2
          go_quiet (fail)
          go_wp2
          go_ret
          exact ⟨ret_bool HX.out.symm, below_drewN HB.out _⟩
      · obtain rfl : k = n := by omega
        have HX := hide (HT.out (by
          have := heq.out
          have q1 := L1.out
          have q2 := L2.out
          rwa [List.take_of_length_le (by omega), List.take_of_length_le (by omega)] at this))
        have HB := hide hb
        clear hb heq
        go_wp2
        go_ret
        exact ⟨ret_bool HX.out.symm, HB.out⟩
  · have hd : ((n : Int) != (m : Int)) = true := by simp; omega
    have hd2 : ((n : Nat) != m) = true := by simpa using hne
    rw [decide_eq_false (show ¬ xs = ys from fun e => hne (by rw [l1, l2, e]))]
    clear h1 h2 l1 l2 hne
    go_enter Tryd.func24, Tryd.ntmps24
    go_wp2
    go_ret
    exact ⟨rfl, Below.refl _ _⟩
set_option maxHeartbeats 3200000 in
set_option maxRecDepth 20000 in
theorem csame_any (rl lo hi rl' lo' hi' : Int) (A B : Option Addr) (n m c1 c2 : Nat) (xs ys : List (Int × Int)) (w : World) (h1 : Sl w w.heap.size 2 A n c1 (yCells xs)) (h2 : Sl w w.heap.size 2 B m c2 (yCells ys)) :
    Calls Tryd.prog 25 #[.agg #[.int .i64 rl, .int .i64 lo, .int .i64 hi, .slice A n c1], .agg #[.int .i64 rl', .int .i64 lo', .int .i64 hi', .slice B m c2]] w fun e w' => e = .returned (.bool (decide (rl = rl' ∧ lo = lo' ∧ hi = hi' ∧ xs = ys))) ∧ Below w.heap.size w w' := by
  have q0 := (Blk.new w 26 #[.int .i64 rl, .int .i64 lo, .int .i64 hi, .slice A n c1]).alloc (.cells #[.int .i64 rl', .int .i64 lo', .int .i64 hi', .slice B m c2] 26)
  have q1 := Blk.new (w.alloc (.cells #[.int .i64 rl, .int .i64 lo, .int .i64 hi, .slice A n c1] 26)) 26 #[.int .i64 rl', .int .i64 lo', .int .i64 hi', .slice B m c2]
  rw [World.size_alloc] at q1
  have hB := (bel1 (w := w) (o := .cells #[.int .i64 rl, .int .i64 lo, .int .i64 hi, .slice A n c1] 26)).alloc (by simp) (.cells #[.int .i64 rl', .int .i64 lo', .int .i64 hi', .slice B m c2] 26)
  obtain ⟨l1, m1⟩ := len_y h1
  obtain ⟨l2, m2⟩ := len_y h2
  have HS1 := hide (h1.thr hB)
  have HS2 := hide (h2.thr hB)
  have L1 := hide l1
  have L2 := hide l2
  have HB := hide hB
  obtain ⟨x0, x1, x2, x3, _⟩ := q0.facts4
  obtain ⟨z0, z1, z2, z3, _⟩ := q1.facts4
  have Q0 := hide q0
  have Q1 := hide q1
  obtain ⟨R, hR⟩ : ∃ R, decide (rl = rl' ∧ lo = lo' ∧ hi = hi' ∧ xs = ys) = R := ⟨_, rfl⟩
  rw [hR]
  have HT := hide (fun (h : rl = rl' ∧ lo = lo' ∧ hi = hi' ∧ xs = ys) => show R = true by rw [← hR]; exact decide_eq_true h)
  have HF := hide (fun (h : ¬ (rl = rl' ∧ lo = lo' ∧ hi = hi' ∧ xs = ys)) => show R = false by rw [← hR]; exact decide_eq_false h)
  clear q0 q1 h1 h2 hB l1 l2 hR
  by_cases hrl : rl = rl'
  · by_cases hlo : lo = lo'
    · by_cases hhi : hi = hi'
      · by_cases hnm : n = m
        · subst hrl hlo hhi hnm
          have e1 : (rl != rl) = false := by simp
          have e4 : (lo == lo) = true := by simp
          have e5 : (hi == hi) = true := by simp
          have e6 : ((n : Int) != (n : Int)) = false := by simp
          go_enter Tryd.func25, Tryd.ntmps25
          go_upto_region 4 with fail
          generalize ((w.alloc _).alloc _) = w1 at *
          clear x0 x1 x2 x3 z0 z1 z2 z3 e1 e4 e5 e6
          go_loopw [30] (fun v wr => ∃ k : Nat, k ≤ n ∧ v = .int .i64 k ∧ Hid (xs.take k = ys.take k) ∧ Below w1.heap.size w1 wr) (fun v _ => n - (intOf v).toNat)
          case atStart => exact ⟨0, by omega, rfl, hide rfl, Below.refl _ _⟩
          case round =>
            obtain ⟨k, hk, rfl, heq, hb⟩ := hrel
            rename World => wr
            have HBR := hide (bthr HB.out hb HB.out.size)
            by_cases hlt : k < n
            · have hki : (k : Int) < (n : Int) := by omega
              have hk0 : (0 : Int) ≤ (k : Int) := by omega
              obtain ⟨b1, o1, rfl, _, hc1⟩ := (HS1.out.below hb).at_ hlt
              obtain ⟨b2, o2, rfl, _, hc2⟩ := (HS2.out.below hb).at_ hlt
              have q1 := L1.out
              have q2 := L2.out
              have HEQ := hide (fun (h : (xs[k]'(by omega)) = (ys[k]'(by omega))) => take_eqP (by omega) (by omega) heq.out h)
              have HNE := hide (fun (h : (xs[k]'(by omega)) ≠ (ys[k]'(by omega))) => HF.out (fun e => ne_at (by omega) (by omega) h e.2.2.2))
              rcases ex : xs[k]'(by omega) with ⟨x0, x1⟩
              rcases ey : ys[k]'(by omega) with ⟨y0, y1⟩
              rw [ex, ey] at HEQ HNE
              obtain ⟨s0, s1⟩ := y_cells hc1 (by omega) ex
              obtain ⟨t0, t1⟩ := y_cells hc2 (by omega) ey
              obtain ⟨u0, u1, u2, u3, _⟩ := (Q0.out.below hb Q0.out.lt).facts4
              obtain ⟨v0, v1, v2, v3, _⟩ := (Q1.out.below hb Q1.out.lt).facts4
              have HB1 := hide hb
              clear hc1 hc2 ex ey q1 q2 hb heq
              by_cases e0 : x0 = y0
              · by_cases e1 : x1 = y1
                · subst e0 e1
                  have HX := hide (HEQ.out rfl)
                  have f0 : (x0 == x0) = true := by simp
                  have f1 : (x1 == x1) = true := by simp
                  clear HEQ HNE
                  go_wp2
                  go_quiet (fail)
                  go_wp2
                  go_roundw
                  case rel => exact ⟨k + 1, by omega, by go_num, HX, below_drewN HB1.out _⟩
                  case measure => simp [intOf]; omega
                · subst e0
                  have HX := hide (HNE.out (fun e => e1 (by injection e)))
                  have f0 : (x0 == x0) = true := by simp
                  have f1 : (x1 == y1) = false := by simpa using e1
                  clear HEQ HNE e1
                  go_wp2
                  go_quiet (fail)
                  go_wp2
                  go_ret
                  exact ⟨ret_bool HX.out.symm, below_drewN HBR.out _⟩
              · have HX := hide (HNE.out (fun e => e0 (by injection e)))
                have f0 : (x0 == y0) = false := by simpa using e0
                clear HEQ HNE e0
                go_wp2
                go_quiet (fail)
                go_wp2
                go_ret
                exact ⟨ret_bool HX.out.symm, below_drewN HBR.out _⟩
            · obtain rfl : k = n := by omega
              have HX := hide (HT.out ⟨by trivial, by trivial, by trivial, by
                have := heq.out
                have q1 := L1.out
                have q2 := L2.out
                rwa [List.take_of_length_le (by omega), List.take_of_length_le (by omega)] at this⟩)
              clear hb heq
              go_wp2
              go_ret
              exact ⟨ret_bool HX.out.symm, HBR.out⟩
        · have HX := hide (HF.out (fun e => hnm (by have q1 := L1.out; have q2 := L2.out; rw [q1, q2, e.2.2.2])))
          subst hrl hlo hhi
          have e1 : (rl != rl) = false := by simp
          have e4 : (lo == lo) = true := by simp
          have e5 : (hi == hi) = true := by simp
          have e6 : ((n : Int) != (m : Int)) = true := by simp; omega
          have e7 : ((n : Nat) != m) = true := by simpa using hnm
          clear hnm
          go_enter Tryd.func25, Tryd.ntmps25
          go_wp2
          go_ret
          exact ⟨ret_bool HX.out.symm, HB.out⟩
      · have HX := hide (HF.out (fun e => hhi e.2.2.1))
        subst hrl hlo
        have e1 : (rl != rl) = false := by simp
        have e4 : (lo == lo) = true := by simp
        have e5 : (hi == hi') = false := by simpa using hhi
        clear hhi
        go_enter Tryd.func25, Tryd.ntmps25
        go_wp2
        go_ret
        exact ⟨ret_bool HX.out.symm, HB.out⟩
    · have HX := hide (HF.out (fun e => hlo e.2.1))
      subst hrl
      have e1 : (rl != rl) = false := by simp
      have e4 : (lo == lo') = false := by simpa using hlo
      clear hlo
      go_enter Tryd.func25, Tryd.ntmps25
      go_wp2
      go_ret
      exact ⟨ret_bool HX.out.symm, HB.out⟩
  · have HX := hide (HF.out (fun e => hrl e.1))
    have e1 : (rl != rl') = true := by simpa using hrl
    clear hrl
    go_enter Tryd.func25, Tryd.ntmps25
    go_wp2
    go_ret
    exact ⟨ret_bool HX.out.symm, HB.out⟩
end Go.Proofs.YtphgddanbgdemaaDoor
