/-
  The contract of Pair, for whatever conditions.
-/
import Derived.Test.YtjbddicgegkkjaaPairb
namespace Go.Proofs.Ytjbddicgegkkjaa
open Go.RowKit
def pM (a b : Cd) : Bool := decide (a.err = 0) && decide (b.err = 0) && mayB a b
def pE (a b : Cd) : Bool := decide (a.err = 0) && decide (b.err = 0) && everB a b
theorem err_ne {c : Cd} (h : ¬ c.err = 0) : (c.err != 0) = true := by simp [h]
set_option maxHeartbeats 1600000 in
set_option maxRecDepth 20000 in
theorem Pair_any (a b : Cd) (w : World) : Calls Try.prog 10 #[.agg a.arr, .agg b.arr] w (PairPost w (pM a b) (pE a b)) := by
  have h0 : TB w a b _ := two_boxes a b w
  have hB := h0.2.2
  have HA := hide (fun W => one_any a W)
  have HB := hide (fun W => one_any b W)
  by_cases ha : a.err = 0
  · by_cases hb : b.err = 0
    · have E1 := hide (show pM a b = mayB a b by simp [pM, ha, hb])
      have E2 := hide (show pE a b = everB a b by simp [pE, ha, hb])
      have HP := hide (fun W => pair_all a b W ha hb)
      have h1 := hide ha
      have h2 := hide hb
      clear ha hb
      obtain ⟨r, k, v, f, t, x, y⟩ := a
      obtain ⟨r', k', v', f', t', x', y'⟩ := b
      obtain ⟨⟨a0, a1, a2, a3, a4, a5, a6⟩, _⟩ := Blk.facts7 h0.1
      obtain ⟨⟨b0, b1, b2, b3, b4, b5, b6⟩, _⟩ := Blk.facts7 h0.2.1
      have H0 := hide h0
      unfold Cd.arr at H0 a0 a1 a2 a3 a4 a5 a6 b0 b1 b2 b3 b4 b5 b6 hB HA HB HP ⊢
      clear h0
      go_enter Try.func10, Try.ntmps10
      go_wp2_with fail
      generalize ((w.alloc _).alloc _) = w2 at *
      refine (HA.out _).mono ?_
      rintro e w3 ⟨rfl, hb1⟩
      rw [h1.out]
      have hB1 := bthr hB hb1 hB.size
      replace H0 := hide (H0.out.call hb1)
      clear a0 a1 a2 a3 a4 a5 a6 b0 b1 b2 b3 b4 b5 b6 hB hb1
      obtain ⟨⟨b0, b1, b2, b3, b4, b5, b6⟩, _⟩ := Blk.facts7 H0.out.2.1
      go_wp2_with fail
      refine (HB.out _).mono ?_
      rintro e w4 ⟨rfl, hb1⟩
      rw [h2.out]
      have hB2 := bthr hB1 hb1 hB1.size
      replace H0 := hide (H0.out.call hb1)
      clear b0 b1 b2 b3 b4 b5 b6 hB1 hb1
      obtain ⟨⟨a0, a1, a2, a3, a4, a5, a6⟩, _⟩ := Blk.facts7 H0.out.1
      obtain ⟨⟨b0, b1, b2, b3, b4, b5, b6⟩, _⟩ := Blk.facts7 H0.out.2.1
      go_wp2_with fail
      refine (HP.out _).mono ?_
      rintro e w5 ⟨rfl, hb1⟩
      go_wp2
      go_ret2
      exact ⟨by rw [E1.out, E2.out]; rfl, bthr hB2 hb1 hB2.size⟩
    · have E1 := hide (show pM a b = false by simp [pM, hb])
      have E2 := hide (show pE a b = false by simp [pE, hb])
      have h1 := hide ha
      have h2 := err_ne hb
      clear ha hb
      obtain ⟨r, k, v, f, t, x, y⟩ := a
      obtain ⟨r', k', v', f', t', x', y'⟩ := b
      obtain ⟨⟨a0, a1, a2, a3, a4, a5, a6⟩, _⟩ := Blk.facts7 h0.1
      have H0 := hide h0
      unfold Cd.arr at H0 a0 a1 a2 a3 a4 a5 a6 hB HA HB ⊢
      clear h0
      go_enter Try.func10, Try.ntmps10
      go_wp2_with fail
      generalize ((w.alloc _).alloc _) = w2 at *
      refine (HA.out _).mono ?_
      rintro e w3 ⟨rfl, hb1⟩
      rw [h1.out]
      have hB1 := bthr hB hb1 hB.size
      replace H0 := hide (H0.out.call hb1)
      clear a0 a1 a2 a3 a4 a5 a6 hB hb1
      obtain ⟨⟨b0, b1, b2, b3, b4, b5, b6⟩, _⟩ := Blk.facts7 H0.out.2.1
      go_wp2_with fail
      refine (HB.out _).mono ?_
      rintro e w4 ⟨rfl, hb1⟩
      go_wp2
      go_ret2
      exact ⟨by rw [E1.out, E2.out]; rfl, bthr hB1 hb1 hB1.size⟩
  · have E1 := hide (show pM a b = false by simp [pM, ha])
    have E2 := hide (show pE a b = false by simp [pE, ha])
    have h1 := err_ne ha
    clear ha
    obtain ⟨r, k, v, f, t, x, y⟩ := a
    obtain ⟨r', k', v', f', t', x', y'⟩ := b
    unfold Cd.arr at h0 hB HA HB ⊢
    go_enter Try.func10, Try.ntmps10
    go_wp2_with fail
    refine (HA.out _).mono ?_
    rintro e w3 ⟨rfl, hb1⟩
    go_wp2
    go_ret2
    exact ⟨by rw [E1.out, E2.out]; rfl, bthr hB hb1 hB.size⟩
end Go.Proofs.Ytjbddicgegkkjaa
