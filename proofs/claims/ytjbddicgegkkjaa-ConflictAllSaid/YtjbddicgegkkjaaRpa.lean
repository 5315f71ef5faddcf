/-
  The contract of the reference's Pair of conditions, for whatever conditions.
-/
import Derived.Test.YtjbddicgegkkjaaProg
import Derived.Test.YtjbddicgegkkjaaPairc
import Derived.Test.YtjbddicgegkkjaaRboth
import Derived.Test.YtjbddicgegkkjaaRone
import Derived.Test.YtjbddicgegkkjaaRbnd
namespace Go.Proofs.Ytjbddicgegkkjaa
open Go.RowKit

def apartB (a b : Cd) (x : Int) : Bool := decide (min (bMost a x) (bMost b x) < max (bLeast a x) (bLeast b x))
theorem kind44 {k : Int} (h : 1 ≤ k ∧ k ≤ 4) : k = 1 ∨ k = 2 ∨ k = 3 ∨ k = 4 := by omega
theorem apart_may {a b : Cd} (ea : a.err = 0) (eb : b.err = 0) (hm : meetB a b = true) : mayB a b = (apartB a b 0 || apartB a b 1073741824) ∧ everB a b = (apartB a b 0 && apartB a b 1073741824) := by
  have va := (rest_iff.1 (err_zero ea).2.2).1
  have vb := (rest_iff.1 (err_zero eb).2.2).1
  have ka := (err_zero ea).2.1
  have kb := (err_zero eb).2.1
  unfold mayB everB
  rw [hm]
  clear ea eb hm
  obtain ⟨r, k, v, f, t, x, y⟩ := a
  obtain ⟨r', k', v', f', t', x', y'⟩ := b
  simp only at va vb ka kb ⊢
  obtain rfl | rfl | rfl | rfl := kind44 ka <;> obtain rfl | rfl | rfl | rfl := kind44 kb
  all_goals
    rw [Bool.eq_iff_iff, Bool.eq_iff_iff]
    simp [lowB, mayLH, everLH, apartB, bLeast, bMost]
    try omega
set_option maxHeartbeats 800000 in
set_option maxRecDepth 20000 in
theorem rmeet_c (a b : Cd) (w : World) : Calls Try.prog 48 #[.agg a.arr, .agg b.arr] w fun e w' => e = .returned (.bool (meetB a b)) ∧ Below w.heap.size w w' := by
  have h0 : TB w a b _ := two_boxes a b w
  have hB := h0.2.2
  obtain ⟨r, k, v, f, t, x, y⟩ := a
  obtain ⟨r', k', v', f', t', x', y'⟩ := b
  have HM := hide (show meetB ⟨r, k, v, f, t, x, y⟩ ⟨r', k', v', f', t', x', y'⟩ = (decide (max x x' ≤ min y y') && decide (0 < (bothL f t f' t' 365).length)) from rfl)
  generalize meetB ⟨r, k, v, f, t, x, y⟩ ⟨r', k', v', f', t', x', y'⟩ = mb at *
  unfold Cd.arr at h0 hB ⊢
  obtain ⟨⟨a0, a1, a2, a3, a4, a5, a6⟩, _⟩ := Blk.facts7 h0.1
  obtain ⟨⟨b0, b1, b2, b3, b4, b5, b6⟩, _⟩ := Blk.facts7 h0.2.1
  go_enter Try.func48, Try.ntmps48
  go_wp2_with fail
  generalize ((w.alloc _).alloc _) = w2 at *
  refine (rboth_any _ _ _ _ _).mono ?_
  rintro e w3 ⟨v9, rfl, hown, hb, _⟩
  obtain ⟨A, c, rfl, hsl⟩ := own_sl hown
  have hB2 := hide (bthr hB hb hB.size)
  replace h0 := h0.call hb
  clear hown hsl hB hb a0 a1 a2 a3 a4 a5 a6 b0 b1 b2 b3 b4 b5 b6
  obtain ⟨⟨a0, a1, a2, a3, a4, a5, a6⟩, _⟩ := Blk.facts7 h0.1
  obtain ⟨⟨b0, b1, b2, b3, b4, b5, b6⟩, _⟩ := Blk.facts7 h0.2.1
  generalize (bothL f t f' t' 365).length = lb at *
  clear h0 a0 a1 a2 a3 a4 b0 b1 b2 b3 b4
  by_cases hl : 0 < lb
  · have hli : (0 : Int) < (lb : Int) := by omega
    have HM2 := hide (show mb = decide (max x x' ≤ min y y') by rw [HM.out]; simp [hl])
    clear HM hl
    go_wp2
    all_goals go_ret
    all_goals exact ⟨ret_bool (by rw [HM2.out, Bool.eq_iff_iff]; simp; try omega), hB2.out⟩
  · have hli : (lb : Int) ≤ 0 := by omega
    have HM2 := hide (show mb = false by rw [HM.out]; simp [hl])
    clear HM hl
    go_wp2
    all_goals go_ret
    all_goals exact ⟨ret_bool HM2.out.symm, hB2.out⟩
set_option maxHeartbeats 800000 in
set_option maxRecDepth 20000 in
theorem rapart_c (a b : Cd) (x : Int) (w : World) (ea : a.err = 0) (eb : b.err = 0) (hx : wit x 1073741824 = true) : Calls Try.prog 49 #[.agg a.arr, .agg b.arr, .int .i64 x] w fun e w' => e = .returned (.bool (apartB a b x)) ∧ Below w.heap.size w w' := by
  have HA := hide (fun W => rbounds_any a x W)
  have HB := hide (fun W => rbounds_any b x W)
  unfold BndPost at HA HB
  rw [bnd_yes (show bOk a x = true by simp [bOk, ea, hx])] at HA
  rw [bnd_yes (show bOk b x = true by simp [bOk, eb, hx])] at HB
  have HM := hide (show apartB a b x = decide (min (bMost a x) (bMost b x) < max (bLeast a x) (bLeast b x)) from rfl)
  generalize apartB a b x = ap at *
  generalize bLeast a x = p0 at *
  generalize bMost a x = p1 at *
  generalize bLeast b x = q0 at *
  generalize bMost b x = q1 at *
  clear ea eb hx
  obtain ⟨r, k, v, f, t, x1, y⟩ := a
  obtain ⟨r', k', v', f', t', x', y'⟩ := b
  unfold Cd.arr at HA HB ⊢
  have h0 := two_boxes ⟨r, k, v, f, t, x1, y⟩ ⟨r', k', v', f', t', x', y'⟩ w
  have hB := h0.2.2
  unfold Cd.arr at h0 hB
  go_enter Try.func49, Try.ntmps49
  go_wp2_with fail
  with_reducible refine (HA.out _).mono ?_
  rintro e w3 ⟨rfl, hb1⟩
  have hB1 := (bthr hB hb1 hB.size).alloc (bthr hB hb1 hB.size).size (.cells #[.int .i64 p0, .int .i64 p1] 34)
  have hb0 := ((h0.call hb1).2.1).alloc (.cells #[.int .i64 p0, .int .i64 p1] 34)
  have hq := Blk.new w3 34 #[.int .i64 p0, .int .i64 p1]
  unfold Cd.arr at hb0
  obtain ⟨⟨b0, b1, b2, b3, b4, b5, b6⟩, _⟩ := Blk.facts7 hb0
  clear hB hb1 h0 hb0
  go_wp2_with fail
  with_reducible refine (HB.out _).mono ?_
  rintro e w4 ⟨rfl, hb4⟩
  have hB4 := hide ((bthr hB1 hb4 hB1.size).alloc (bthr hB1 hb4 hB1.size).size (.cells #[.int .i64 q0, .int .i64 q1] 34))
  have hq1 := (hq.below hb4 hq.lt).alloc (.cells #[.int .i64 q0, .int .i64 q1] 34)
  have hq2 := Blk.new w4 34 #[.int .i64 q0, .int .i64 q1]
  obtain ⟨y0, y1, _⟩ := hq1.facts2
  obtain ⟨z0, z1, _⟩ := hq2.facts2
  clear hB1 hb4 hq hq1 hq2 b0 b1 b2 b3 b4 b5 b6 HA HB
  go_wp2
  all_goals go_ret
  all_goals exact ⟨ret_bool (by rw [HM.out, Bool.eq_iff_iff]; simp; try omega), hB4.out⟩
/-- Both ways of looking at two conditions are the same. -/
theorem pair_ab {a b : Cd} (ea : a.err = 0) (eb : b.err = 0) (hm : meetB a b = true) : pM a b = (apartB a b 0 || apartB a b 1073741824) ∧ pE a b = (apartB a b 0 && apartB a b 1073741824) := by
  have h := apart_may ea eb hm
  exact ⟨by rw [← h.1]; simp [pM, ea, eb], by rw [← h.2]; simp [pE, ea, eb]⟩
set_option maxHeartbeats 1600000 in
set_option maxRecDepth 20000 in
theorem rpair_any (a b : Cd) (w : World) : Calls Try.prog 30 #[.agg a.arr, .agg b.arr] w (PairPost w (pM a b) (pE a b)) := by
  have h0 : TB w a b _ := two_boxes a b w
  have hB := h0.2.2
  have HA := hide (fun W => rone_any a W)
  have HB := hide (fun W => rone_any b W)
  have HM := hide (fun W => rmeet_c a b W)
  by_cases ha : a.err = 0
  · have h1 := hide ha
    by_cases hb : b.err = 0
    · have h2 := hide hb
      cases hm : meetB a b
      · have E1 := hide (show pM a b = false by simp [pM, mayB, hm])
        have E2 := hide (show pE a b = false by simp [pE, everB, hm])
        rw [hm] at HM
        clear ha hb hm
        obtain ⟨r, k, v, f, t, x, y⟩ := a
        obtain ⟨r', k', v', f', t', x', y'⟩ := b
        unfold PairPost
        rw [E1.out, E2.out]
        have H0 := hide h0
        clear h0
        unfold Cd.arr at H0 hB HA HB HM ⊢
        obtain ⟨⟨a0, a1, a2, a3, a4, a5, a6⟩, _⟩ := Blk.facts7 H0.out.1
        obtain ⟨⟨b0, b1, b2, b3, b4, b5, b6⟩, _⟩ := Blk.facts7 H0.out.2.1
        go_enter Try.func30, Try.ntmps30
        go_wp2_with fail
        generalize ((w.alloc _).alloc _) = w2 at *
        refine (HA.out _).mono ?_
        rintro e w3 ⟨rfl, hb1⟩
        rw [h1.out]
        replace H0 := hide (H0.out.call hb1)
        have hB3 := bthr hB hb1 hB.size
        clear hb1 a0 a1 a2 a3 a4 a5 a6 b0 b1 b2 b3 b4 b5 b6
        obtain ⟨⟨a0, a1, a2, a3, a4, a5, a6⟩, _⟩ := Blk.facts7 H0.out.1
        obtain ⟨⟨b0, b1, b2, b3, b4, b5, b6⟩, _⟩ := Blk.facts7 H0.out.2.1
        clear hB
        go_wp2_with fail
        refine (HB.out _).mono ?_
        rintro e w4 ⟨rfl, hb1⟩
        rw [h2.out]
        replace H0 := hide (H0.out.call hb1)
        have hB4 := bthr hB3 hb1 hB3.size
        clear hb1 a0 a1 a2 a3 a4 a5 a6 b0 b1 b2 b3 b4 b5 b6
        obtain ⟨⟨a0, a1, a2, a3, a4, a5, a6⟩, _⟩ := Blk.facts7 H0.out.1
        obtain ⟨⟨b0, b1, b2, b3, b4, b5, b6⟩, _⟩ := Blk.facts7 H0.out.2.1
        clear hB3
        go_wp2_with fail
        refine (HM.out _).mono ?_
        rintro e w5 ⟨rfl, hb1⟩
        replace H0 := hide (H0.out.call hb1)
        have hB5 := bthr hB4 hb1 hB4.size
        clear hb1 a0 a1 a2 a3 a4 a5 a6 b0 b1 b2 b3 b4 b5 b6
        obtain ⟨⟨a0, a1, a2, a3, a4, a5, a6⟩, _⟩ := Blk.facts7 H0.out.1
        obtain ⟨⟨b0, b1, b2, b3, b4, b5, b6⟩, _⟩ := Blk.facts7 H0.out.2.1
        clear hB4
        go_wp2
        go_ret2
        exact ⟨rfl, hB5⟩
      · have E1 := hide (pair_ab ha hb hm).1
        have E2 := hide (pair_ab ha hb hm).2
        have HP := hide (fun W => rapart_c a b 0 W ha hb rfl)
        have HQ := hide (fun W => rapart_c a b 1073741824 W ha hb rfl)
        rw [hm] at HM
        generalize apartB a b 0 = p0 at *
        generalize apartB a b 1073741824 = q0 at *
        clear ha hb hm
        obtain ⟨r, k, v, f, t, x, y⟩ := a
        obtain ⟨r', k', v', f', t', x', y'⟩ := b
        unfold PairPost
        rw [E1.out, E2.out]
        have H0 := hide h0
        clear h0
        unfold Cd.arr at H0 hB HA HB HM HP HQ ⊢
        obtain ⟨⟨a0, a1, a2, a3, a4, a5, a6⟩, _⟩ := Blk.facts7 H0.out.1
        obtain ⟨⟨b0, b1, b2, b3, b4, b5, b6⟩, _⟩ := Blk.facts7 H0.out.2.1
        go_enter Try.func30, Try.ntmps30
        go_wp2_with fail
        generalize ((w.alloc _).alloc _) = w2 at *
        refine (HA.out _).mono ?_
        rintro e w3 ⟨rfl, hb1⟩
        rw [h1.out]
        replace H0 := hide (H0.out.call hb1)
        have hB3 := bthr hB hb1 hB.size
        clear hb1 a0 a1 a2 a3 a4 a5 a6 b0 b1 b2 b3 b4 b5 b6
        obtain ⟨⟨a0, a1, a2, a3, a4, a5, a6⟩, _⟩ := Blk.facts7 H0.out.1
        obtain ⟨⟨b0, b1, b2, b3, b4, b5, b6⟩, _⟩ := Blk.facts7 H0.out.2.1
        clear hB
        go_wp2_with fail
        refine (HB.out _).mono ?_
        rintro e w4 ⟨rfl, hb1⟩
        rw [h2.out]
        replace H0 := hide (H0.out.call hb1)
        have hB4 := bthr hB3 hb1 hB3.size
        clear hb1 a0 a1 a2 a3 a4 a5 a6 b0 b1 b2 b3 b4 b5 b6
        obtain ⟨⟨a0, a1, a2, a3, a4, a5, a6⟩, _⟩ := Blk.facts7 H0.out.1
        obtain ⟨⟨b0, b1, b2, b3, b4, b5, b6⟩, _⟩ := Blk.facts7 H0.out.2.1
        clear hB3
        go_wp2_with fail
        refine (HM.out _).mono ?_
        rintro e w5 ⟨rfl, hb1⟩
        replace H0 := hide (H0.out.call hb1)
        have hB5 := bthr hB4 hb1 hB4.size
        clear hb1 a0 a1 a2 a3 a4 a5 a6 b0 b1 b2 b3 b4 b5 b6
        obtain ⟨⟨a0, a1, a2, a3, a4, a5, a6⟩, _⟩ := Blk.facts7 H0.out.1
        obtain ⟨⟨b0, b1, b2, b3, b4, b5, b6⟩, _⟩ := Blk.facts7 H0.out.2.1
        clear hB4 HA HB HM h1 h2 E1 E2 H0
        go_wp2_with fail
        go_region_held3 (fun w' => w'.cell? ⟨w.heap.size, 0, none⟩ = some (.int .i64 r) ∧ w'.cell? ⟨w.heap.size, 1, none⟩ = some (.int .i64 k) ∧ w'.cell? ⟨w.heap.size, 2, none⟩ = some (.int .i64 v) ∧ w'.cell? ⟨w.heap.size, 3, none⟩ = some (.int .i64 f) ∧ w'.cell? ⟨w.heap.size, 4, none⟩ = some (.int .i64 t) ∧ w'.cell? ⟨w.heap.size, 5, none⟩ = some (.int .i64 x) ∧ w'.cell? ⟨w.heap.size, 6, none⟩ = some (.int .i64 y) ∧ w'.cell? ⟨w.heap.size + 1, 0, none⟩ = some (.int .i64 r') ∧ w'.cell? ⟨w.heap.size + 1, 1, none⟩ = some (.int .i64 k') ∧ w'.cell? ⟨w.heap.size + 1, 2, none⟩ = some (.int .i64 v') ∧ w'.cell? ⟨w.heap.size + 1, 3, none⟩ = some (.int .i64 f') ∧ w'.cell? ⟨w.heap.size + 1, 4, none⟩ = some (.int .i64 t') ∧ w'.cell? ⟨w.heap.size + 1, 5, none⟩ = some (.int .i64 x') ∧ w'.cell? ⟨w.heap.size + 1, 6, none⟩ = some (.int .i64 y') ∧ Below w5.heap.size w5 w')
                (first | exact ⟨a0, a1, a2, a3, a4, a5, a6, b0, b1, b2, b3, b4, b5, b6, (Below.refl _ _).drew⟩ | go_keep | (go_split_ands; exact ⟨cell_thr hb (by assumption), cell_thr hb (by assumption), cell_thr hb (by assumption), cell_thr hb (by assumption), cell_thr hb (by assumption), cell_thr hb (by assumption), cell_thr hb (by assumption), cell_thr hb (by assumption), cell_thr hb (by assumption), cell_thr hb (by assumption), cell_thr hb (by assumption), cell_thr hb (by assumption), cell_thr hb (by assumption), cell_thr hb (by assumption), bthr (by assumption) hb (Below.size (by assumption))⟩))
                (first | (go_at_call 49; (with_reducible refine (HP.out _).mono ?_); rintro e w6 ⟨rfl, hb⟩) | (go_at_call 49; (with_reducible refine (HQ.out _).mono ?_); rintro e w6 ⟨rfl, hb⟩))
        go_split_ands
        have hB6 := hide (bthr hB5 (by assumption) hB5.size)
        clear hB5 a0 a1 a2 a3 a4 a5 a6 b0 b1 b2 b3 b4 b5 b6 HP HQ
        cases p0 <;> cases q0
        all_goals
          go_wp2
          go_ret2
          exact ⟨rfl, hB6.out⟩
    · have E1 := hide (show pM a b = false by simp [pM, hb])
      have E2 := hide (show pE a b = false by simp [pE, hb])
      have h2 := err_ne hb
      clear ha hb
      obtain ⟨r, k, v, f, t, x, y⟩ := a
      obtain ⟨r', k', v', f', t', x', y'⟩ := b
      unfold PairPost
      rw [E1.out, E2.out]
      have H0 := hide h0
      clear h0
      unfold Cd.arr at H0 hB HA HB HM ⊢
      obtain ⟨⟨a0, a1, a2, a3, a4, a5, a6⟩, _⟩ := Blk.facts7 H0.out.1
      obtain ⟨⟨b0, b1, b2, b3, b4, b5, b6⟩, _⟩ := Blk.facts7 H0.out.2.1
      go_enter Try.func30, Try.ntmps30
      go_wp2_with fail
      generalize ((w.alloc _).alloc _) = w2 at *
      refine (HA.out _).mono ?_
      rintro e w3 ⟨rfl, hb1⟩
      rw [h1.out]
      replace H0 := hide (H0.out.call hb1)
      have hB3 := bthr hB hb1 hB.size
      clear hb1 a0 a1 a2 a3 a4 a5 a6 b0 b1 b2 b3 b4 b5 b6
      obtain ⟨⟨a0, a1, a2, a3, a4, a5, a6⟩, _⟩ := Blk.facts7 H0.out.1
      obtain ⟨⟨b0, b1, b2, b3, b4, b5, b6⟩, _⟩ := Blk.facts7 H0.out.2.1
      clear hB
      go_wp2_with fail
      refine (HB.out _).mono ?_
      rintro e w4 ⟨rfl, hb1⟩
      replace H0 := hide (H0.out.call hb1)
      have hB4 := bthr hB3 hb1 hB3.size
      clear hb1 a0 a1 a2 a3 a4 a5 a6 b0 b1 b2 b3 b4 b5 b6
      obtain ⟨⟨a0, a1, a2, a3, a4, a5, a6⟩, _⟩ := Blk.facts7 H0.out.1
      obtain ⟨⟨b0, b1, b2, b3, b4, b5, b6⟩, _⟩ := Blk.facts7 H0.out.2.1
      clear hB3
      go_wp2
      go_ret2
      exact ⟨rfl, hB4⟩
  · have E1 := hide (show pM a b = false by simp [pM, ha])
    have E2 := hide (show pE a b = false by simp [pE, ha])
    have h1 := err_ne ha
    clear ha
    obtain ⟨r, k, v, f, t, x, y⟩ := a
    obtain ⟨r', k', v', f', t', x', y'⟩ := b
    unfold PairPost
    rw [E1.out, E2.out]
    have H0 := hide h0
    clear h0
    unfold Cd.arr at H0 hB HA HB HM ⊢
    obtain ⟨⟨a0, a1, a2, a3, a4, a5, a6⟩, _⟩ := Blk.facts7 H0.out.1
    obtain ⟨⟨b0, b1, b2, b3, b4, b5, b6⟩, _⟩ := Blk.facts7 H0.out.2.1
    go_enter Try.func30, Try.ntmps30
    go_wp2_with fail
    generalize ((w.alloc _).alloc _) = w2 at *
    refine (HA.out _).mono ?_
    rintro e w3 ⟨rfl, hb1⟩
    replace H0 := hide (H0.out.call hb1)
    have hB3 := bthr hB hb1 hB.size
    clear hb1 a0 a1 a2 a3 a4 a5 a6 b0 b1 b2 b3 b4 b5 b6
    obtain ⟨⟨a0, a1, a2, a3, a4, a5, a6⟩, _⟩ := Blk.facts7 H0.out.1
    obtain ⟨⟨b0, b1, b2, b3, b4, b5, b6⟩, _⟩ := Blk.facts7 H0.out.2.1
    clear hB
    go_wp2
    go_ret2
    exact ⟨rfl, hB3⟩
end Go.Proofs.Ytjbddicgegkkjaa
