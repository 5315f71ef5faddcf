/-
  The contract of pair: each combination of kinds. Condition: both conditions are valid.
-/
import Derived.Test.YtjbddicgegkkjaaPair
namespace Go.Proofs.Ytjbddicgegkkjaa
open Go.RowKit
set_option maxHeartbeats 1600000 in
set_option maxRecDepth 20000 in
theorem pair_12 (r v f t x y r' v' f' t' x' y' : Int) (w : World) (hm : meetB ⟨r, 1, v, f, t, x, y⟩ ⟨r', 2, v', f', t', x', y'⟩ = true) (_hv : 0 ≤ v ∧ v ≤ 1073741824) :
    Calls Try.prog 33 #[.agg (Cd.arr ⟨r, 1, v, f, t, x, y⟩), .agg (Cd.arr ⟨r', 2, v', f', t', x', y'⟩)] w (PairPost w (decide (v' < v)) (decide (v' < v))) := by
  have h0 : TB w ⟨r, 1, v, f, t, x, y⟩ ⟨r', 2, v', f', t', x', y'⟩ _ := two_boxes _ _ w
  obtain ⟨⟨a0, a1, a2, a3, a4, a5, a6⟩, _⟩ := Blk.facts7 h0.1
  obtain ⟨⟨b0, b1, b2, b3, b4, b5, b6⟩, _⟩ := Blk.facts7 h0.2.1
  have hB := h0.2.2
  unfold Cd.arr
  go_enter Try.func33, Try.ntmps33
  go_wp2_with fail
  unfold Cd.arr at h0 a0 a1 a2 a3 a4 a5 a6 b0 b1 b2 b3 b4 b5 b6 hB
  generalize ((w.alloc _).alloc _) = w2 at *
  replace a0 := inv_cell a0
  replace a1 := inv_cell a1
  replace a2 := inv_cell a2
  replace a3 := inv_cell a3
  replace a4 := inv_cell a4
  replace a5 := inv_cell a5
  replace a6 := inv_cell a6
  replace b0 := inv_cell b0
  replace b1 := inv_cell b1
  replace b2 := inv_cell b2
  replace b3 := inv_cell b3
  replace b4 := inv_cell b4
  replace b5 := inv_cell b5
  replace b6 := inv_cell b6
  have hne : Nonempty (InW fun x => Below w2.heap.size w2 x) := ⟨⟨w2, Below.refl _ _⟩⟩
  refine wp_region_inv (I := fun x => Below w2.heap.size w2 x) (by kernel_rfl) (by kernel_rfl) (Below.refl _ _).drew ?_
  repeat (go_big_quiet_step (first | (go_at_call 53; exact inv_callb hm (inv_closed w2) (cmeet_any ⟨r, 1, v, f, t, x, y⟩ ⟨r', 2, v', f', t', x', y'⟩ _)) | (go_at_call 54; first | exact inv_sameb (c := true) (by decide) (low_any 1 _) | exact inv_sameb (c := false) (by decide) (low_any 2 _))))
  refine wpQuiet_nil ?_
  rintro _ ⟨⟨w9, h9⟩, rfl⟩
  clear a0 a1 a2 a3 a4 a5 a6 b0 b1 b2 b3 b4 b5 b6
  replace h0 := h0.call h9
  replace hB := h0.2.2
  obtain ⟨⟨a0, a1, a2, a3, a4, a5, a6⟩, hF1⟩ := Blk.facts7 h0.1
  obtain ⟨⟨b0, b1, b2, b3, b4, b5, b6⟩, hF2⟩ := Blk.facts7 h0.2.1
  clear h9 hne
  go_wp2_with (go_at_call 54; refine (low_any _ _).mono ?_; rintro e w3 ⟨rfl, rfl⟩; rw [show lowB 2 = false from rfl])
  all_goals (try (go_quiet (fail); go_wp2))
  go_ret2
  refine ⟨by first | rfl | simp, ?_⟩
  try (with_reducible refine below_drewN ?_ _)
  go_grown
set_option maxHeartbeats 1600000 in
set_option maxRecDepth 20000 in
theorem pair_13 (r v f t x y r' v' f' t' x' y' : Int) (w : World) (hm : meetB ⟨r, 1, v, f, t, x, y⟩ ⟨r', 3, v', f', t', x', y'⟩ = true) (_hv : 0 ≤ v ∧ v ≤ 1073741824) :
    Calls Try.prog 33 #[.agg (Cd.arr ⟨r, 1, v, f, t, x, y⟩), .agg (Cd.arr ⟨r', 3, v', f', t', x', y'⟩)] w (PairPost w (decide (v' < v)) (false)) := by
  have h0 : TB w ⟨r, 1, v, f, t, x, y⟩ ⟨r', 3, v', f', t', x', y'⟩ _ := two_boxes _ _ w
  obtain ⟨⟨a0, a1, a2, a3, a4, a5, a6⟩, _⟩ := Blk.facts7 h0.1
  obtain ⟨⟨b0, b1, b2, b3, b4, b5, b6⟩, _⟩ := Blk.facts7 h0.2.1
  have hB := h0.2.2
  unfold Cd.arr
  go_enter Try.func33, Try.ntmps33
  go_wp2_with fail
  unfold Cd.arr at h0 a0 a1 a2 a3 a4 a5 a6 b0 b1 b2 b3 b4 b5 b6 hB
  generalize ((w.alloc _).alloc _) = w2 at *
  replace a0 := inv_cell a0
  replace a1 := inv_cell a1
  replace a2 := inv_cell a2
  replace a3 := inv_cell a3
  replace a4 := inv_cell a4
  replace a5 := inv_cell a5
  replace a6 := inv_cell a6
  replace b0 := inv_cell b0
  replace b1 := inv_cell b1
  replace b2 := inv_cell b2
  replace b3 := inv_cell b3
  replace b4 := inv_cell b4
  replace b5 := inv_cell b5
  replace b6 := inv_cell b6
  have hne : Nonempty (InW fun x => Below w2.heap.size w2 x) := ⟨⟨w2, Below.refl _ _⟩⟩
  refine wp_region_inv (I := fun x => Below w2.heap.size w2 x) (by kernel_rfl) (by kernel_rfl) (Below.refl _ _).drew ?_
  repeat (go_big_quiet_step (first | (go_at_call 53; exact inv_callb hm (inv_closed w2) (cmeet_any ⟨r, 1, v, f, t, x, y⟩ ⟨r', 3, v', f', t', x', y'⟩ _)) | (go_at_call 54; first | exact inv_sameb (c := true) (by decide) (low_any 1 _) | exact inv_sameb (c := false) (by decide) (low_any 3 _))))
  refine wpQuiet_nil ?_
  rintro _ ⟨⟨w9, h9⟩, rfl⟩
  clear a0 a1 a2 a3 a4 a5 a6 b0 b1 b2 b3 b4 b5 b6
  replace h0 := h0.call h9
  replace hB := h0.2.2
  obtain ⟨⟨a0, a1, a2, a3, a4, a5, a6⟩, hF1⟩ := Blk.facts7 h0.1
  obtain ⟨⟨b0, b1, b2, b3, b4, b5, b6⟩, hF2⟩ := Blk.facts7 h0.2.1
  clear h9 hne
  go_wp2_with (go_at_call 54; refine (low_any _ _).mono ?_; rintro e w3 ⟨rfl, rfl⟩; rw [show lowB 3 = false from rfl])
  all_goals (try (go_quiet (fail); go_wp2))
  go_ret2
  refine ⟨by first | rfl | simp, ?_⟩
  try (with_reducible refine below_drewN ?_ _)
  go_grown
set_option maxHeartbeats 1600000 in
set_option maxRecDepth 20000 in
theorem pair_42 (r v f t x y r' v' f' t' x' y' : Int) (w : World) (hm : meetB ⟨r, 4, v, f, t, x, y⟩ ⟨r', 2, v', f', t', x', y'⟩ = true) (_hv : 0 ≤ v ∧ v ≤ 1073741824) :
    Calls Try.prog 33 #[.agg (Cd.arr ⟨r, 4, v, f, t, x, y⟩), .agg (Cd.arr ⟨r', 2, v', f', t', x', y'⟩)] w (PairPost w (decide (v' < 1073741824 - v)) (false)) := by
  have h0 : TB w ⟨r, 4, v, f, t, x, y⟩ ⟨r', 2, v', f', t', x', y'⟩ _ := two_boxes _ _ w
  obtain ⟨⟨a0, a1, a2, a3, a4, a5, a6⟩, _⟩ := Blk.facts7 h0.1
  obtain ⟨⟨b0, b1, b2, b3, b4, b5, b6⟩, _⟩ := Blk.facts7 h0.2.1
  have hB := h0.2.2
  unfold Cd.arr
  go_enter Try.func33, Try.ntmps33
  go_wp2_with fail
  unfold Cd.arr at h0 a0 a1 a2 a3 a4 a5 a6 b0 b1 b2 b3 b4 b5 b6 hB
  generalize ((w.alloc _).alloc _) = w2 at *
  replace a0 := inv_cell a0
  replace a1 := inv_cell a1
  replace a2 := inv_cell a2
  replace a3 := inv_cell a3
  replace a4 := inv_cell a4
  replace a5 := inv_cell a5
  replace a6 := inv_cell a6
  replace b0 := inv_cell b0
  replace b1 := inv_cell b1
  replace b2 := inv_cell b2
  replace b3 := inv_cell b3
  replace b4 := inv_cell b4
  replace b5 := inv_cell b5
  replace b6 := inv_cell b6
  have hne : Nonempty (InW fun x => Below w2.heap.size w2 x) := ⟨⟨w2, Below.refl _ _⟩⟩
  refine wp_region_inv (I := fun x => Below w2.heap.size w2 x) (by kernel_rfl) (by kernel_rfl) (Below.refl _ _).drew ?_
  repeat (go_big_quiet_step (first | (go_at_call 53; exact inv_callb hm (inv_closed w2) (cmeet_any ⟨r, 4, v, f, t, x, y⟩ ⟨r', 2, v', f', t', x', y'⟩ _)) | (go_at_call 54; first | exact inv_sameb (c := true) (by decide) (low_any 4 _) | exact inv_sameb (c := false) (by decide) (low_any 2 _))))
  refine wpQuiet_nil ?_
  rintro _ ⟨⟨w9, h9⟩, rfl⟩
  clear a0 a1 a2 a3 a4 a5 a6 b0 b1 b2 b3 b4 b5 b6
  replace h0 := h0.call h9
  replace hB := h0.2.2
  obtain ⟨⟨a0, a1, a2, a3, a4, a5, a6⟩, hF1⟩ := Blk.facts7 h0.1
  obtain ⟨⟨b0, b1, b2, b3, b4, b5, b6⟩, hF2⟩ := Blk.facts7 h0.2.1
  clear h9 hne
  go_wp2_with (go_at_call 54; refine (low_any _ _).mono ?_; rintro e w3 ⟨rfl, rfl⟩; rw [show lowB 2 = false from rfl])
  all_goals (try (go_quiet (fail); go_wp2))
  go_ret2
  refine ⟨by first | rfl | simp, ?_⟩
  try (with_reducible refine below_drewN ?_ _)
  go_grown
set_option maxHeartbeats 1600000 in
set_option maxRecDepth 20000 in
theorem pair_43 (r v f t x y r' v' f' t' x' y' : Int) (w : World) (hm : meetB ⟨r, 4, v, f, t, x, y⟩ ⟨r', 3, v', f', t', x', y'⟩ = true) (_hv : 0 ≤ v ∧ v ≤ 1073741824) :
    Calls Try.prog 33 #[.agg (Cd.arr ⟨r, 4, v, f, t, x, y⟩), .agg (Cd.arr ⟨r', 3, v', f', t', x', y'⟩)] w (PairPost w (false) (false)) := by
  have h0 : TB w ⟨r, 4, v, f, t, x, y⟩ ⟨r', 3, v', f', t', x', y'⟩ _ := two_boxes _ _ w
  obtain ⟨⟨a0, a1, a2, a3, a4, a5, a6⟩, _⟩ := Blk.facts7 h0.1
  obtain ⟨⟨b0, b1, b2, b3, b4, b5, b6⟩, _⟩ := Blk.facts7 h0.2.1
  have hB := h0.2.2
  unfold Cd.arr
  go_enter Try.func33, Try.ntmps33
  go_wp2_with fail
  unfold Cd.arr at h0 a0 a1 a2 a3 a4 a5 a6 b0 b1 b2 b3 b4 b5 b6 hB
  generalize ((w.alloc _).alloc _) = w2 at *
  replace a0 := inv_cell a0
  replace a1 := inv_cell a1
  replace a2 := inv_cell a2
  replace a3 := inv_cell a3
  replace a4 := inv_cell a4
  replace a5 := inv_cell a5
  replace a6 := inv_cell a6
  replace b0 := inv_cell b0
  replace b1 := inv_cell b1
  replace b2 := inv_cell b2
  replace b3 := inv_cell b3
  replace b4 := inv_cell b4
  replace b5 := inv_cell b5
  replace b6 := inv_cell b6
  have hne : Nonempty (InW fun x => Below w2.heap.size w2 x) := ⟨⟨w2, Below.refl _ _⟩⟩
  refine wp_region_inv (I := fun x => Below w2.heap.size w2 x) (by kernel_rfl) (by kernel_rfl) (Below.refl _ _).drew ?_
  repeat (go_big_quiet_step (first | (go_at_call 53; exact inv_callb hm (inv_closed w2) (cmeet_any ⟨r, 4, v, f, t, x, y⟩ ⟨r', 3, v', f', t', x', y'⟩ _)) | (go_at_call 54; first | exact inv_sameb (c := true) (by decide) (low_any 4 _) | exact inv_sameb (c := false) (by decide) (low_any 3 _))))
  refine wpQuiet_nil ?_
  rintro _ ⟨⟨w9, h9⟩, rfl⟩
  clear a0 a1 a2 a3 a4 a5 a6 b0 b1 b2 b3 b4 b5 b6
  replace h0 := h0.call h9
  replace hB := h0.2.2
  obtain ⟨⟨a0, a1, a2, a3, a4, a5, a6⟩, hF1⟩ := Blk.facts7 h0.1
  obtain ⟨⟨b0, b1, b2, b3, b4, b5, b6⟩, hF2⟩ := Blk.facts7 h0.2.1
  clear h9 hne
  go_wp2_with (go_at_call 54; refine (low_any _ _).mono ?_; rintro e w3 ⟨rfl, rfl⟩; rw [show lowB 3 = false from rfl])
  all_goals (try (go_quiet (fail); go_wp2))
  go_ret2
  refine ⟨by first | rfl | simp, ?_⟩
  try (with_reducible refine below_drewN ?_ _)
  go_grown
set_option maxHeartbeats 1600000 in
set_option maxRecDepth 20000 in
theorem pair_21 (r v f t x y r' v' f' t' x' y' : Int) (w : World) (hm : meetB ⟨r, 2, v, f, t, x, y⟩ ⟨r', 1, v', f', t', x', y'⟩ = true) (_hv : 0 ≤ v' ∧ v' ≤ 1073741824) :
    Calls Try.prog 33 #[.agg (Cd.arr ⟨r, 2, v, f, t, x, y⟩), .agg (Cd.arr ⟨r', 1, v', f', t', x', y'⟩)] w (PairPost w (decide (v < v')) (decide (v < v'))) := by
  have h0 : TB w ⟨r, 2, v, f, t, x, y⟩ ⟨r', 1, v', f', t', x', y'⟩ _ := two_boxes _ _ w
  obtain ⟨⟨a0, a1, a2, a3, a4, a5, a6⟩, _⟩ := Blk.facts7 h0.1
  obtain ⟨⟨b0, b1, b2, b3, b4, b5, b6⟩, _⟩ := Blk.facts7 h0.2.1
  have hB := h0.2.2
  unfold Cd.arr
  go_enter Try.func33, Try.ntmps33
  go_wp2_with fail
  unfold Cd.arr at h0 a0 a1 a2 a3 a4 a5 a6 b0 b1 b2 b3 b4 b5 b6 hB
  generalize ((w.alloc _).alloc _) = w2 at *
  replace a0 := inv_cell a0
  replace a1 := inv_cell a1
  replace a2 := inv_cell a2
  replace a3 := inv_cell a3
  replace a4 := inv_cell a4
  replace a5 := inv_cell a5
  replace a6 := inv_cell a6
  replace b0 := inv_cell b0
  replace b1 := inv_cell b1
  replace b2 := inv_cell b2
  replace b3 := inv_cell b3
  replace b4 := inv_cell b4
  replace b5 := inv_cell b5
  replace b6 := inv_cell b6
  have hne : Nonempty (InW fun x => Below w2.heap.size w2 x) := ⟨⟨w2, Below.refl _ _⟩⟩
  refine wp_region_inv (I := fun x => Below w2.heap.size w2 x) (by kernel_rfl) (by kernel_rfl) (Below.refl _ _).drew ?_
  repeat (go_big_quiet_step (first | (go_at_call 53; exact inv_callb hm (inv_closed w2) (cmeet_any ⟨r, 2, v, f, t, x, y⟩ ⟨r', 1, v', f', t', x', y'⟩ _)) | (go_at_call 54; first | exact inv_sameb (c := false) (by decide) (low_any 2 _) | exact inv_sameb (c := true) (by decide) (low_any 1 _))))
  refine wpQuiet_nil ?_
  rintro _ ⟨⟨w9, h9⟩, rfl⟩
  clear a0 a1 a2 a3 a4 a5 a6 b0 b1 b2 b3 b4 b5 b6
  replace h0 := h0.call h9
  replace hB := h0.2.2
  obtain ⟨⟨a0, a1, a2, a3, a4, a5, a6⟩, hF1⟩ := Blk.facts7 h0.1
  obtain ⟨⟨b0, b1, b2, b3, b4, b5, b6⟩, hF2⟩ := Blk.facts7 h0.2.1
  clear h9 hne
  go_wp2_with (go_at_call 54; refine (low_any _ _).mono ?_; rintro e w3 ⟨rfl, rfl⟩; rw [show lowB 1 = true from rfl])
  all_goals (try (go_quiet (fail); go_wp2))
  go_ret2
  refine ⟨by first | rfl | simp, ?_⟩
  try (with_reducible refine below_drewN ?_ _)
  go_grown
set_option maxHeartbeats 1600000 in
set_option maxRecDepth 20000 in
theorem pair_31 (r v f t x y r' v' f' t' x' y' : Int) (w : World) (hm : meetB ⟨r, 3, v, f, t, x, y⟩ ⟨r', 1, v', f', t', x', y'⟩ = true) (_hv : 0 ≤ v' ∧ v' ≤ 1073741824) :
    Calls Try.prog 33 #[.agg (Cd.arr ⟨r, 3, v, f, t, x, y⟩), .agg (Cd.arr ⟨r', 1, v', f', t', x', y'⟩)] w (PairPost w (decide (v < v')) (false)) := by
  have h0 : TB w ⟨r, 3, v, f, t, x, y⟩ ⟨r', 1, v', f', t', x', y'⟩ _ := two_boxes _ _ w
  obtain ⟨⟨a0, a1, a2, a3, a4, a5, a6⟩, _⟩ := Blk.facts7 h0.1
  obtain ⟨⟨b0, b1, b2, b3, b4, b5, b6⟩, _⟩ := Blk.facts7 h0.2.1
  have hB := h0.2.2
  unfold Cd.arr
  go_enter Try.func33, Try.ntmps33
  go_wp2_with fail
  unfold Cd.arr at h0 a0 a1 a2 a3 a4 a5 a6 b0 b1 b2 b3 b4 b5 b6 hB
  generalize ((w.alloc _).alloc _) = w2 at *
  replace a0 := inv_cell a0
  replace a1 := inv_cell a1
  replace a2 := inv_cell a2
  replace a3 := inv_cell a3
  replace a4 := inv_cell a4
  replace a5 := inv_cell a5
  replace a6 := inv_cell a6
  replace b0 := inv_cell b0
  replace b1 := inv_cell b1
  replace b2 := inv_cell b2
  replace b3 := inv_cell b3
  replace b4 := inv_cell b4
  replace b5 := inv_cell b5
  replace b6 := inv_cell b6
  have hne : Nonempty (InW fun x => Below w2.heap.size w2 x) := ⟨⟨w2, Below.refl _ _⟩⟩
  refine wp_region_inv (I := fun x => Below w2.heap.size w2 x) (by kernel_rfl) (by kernel_rfl) (Below.refl _ _).drew ?_
  repeat (go_big_quiet_step (first | (go_at_call 53; exact inv_callb hm (inv_closed w2) (cmeet_any ⟨r, 3, v, f, t, x, y⟩ ⟨r', 1, v', f', t', x', y'⟩ _)) | (go_at_call 54; first | exact inv_sameb (c := false) (by decide) (low_any 3 _) | exact inv_sameb (c := true) (by decide) (low_any 1 _))))
  refine wpQuiet_nil ?_
  rintro _ ⟨⟨w9, h9⟩, rfl⟩
  clear a0 a1 a2 a3 a4 a5 a6 b0 b1 b2 b3 b4 b5 b6
  replace h0 := h0.call h9
  replace hB := h0.2.2
  obtain ⟨⟨a0, a1, a2, a3, a4, a5, a6⟩, hF1⟩ := Blk.facts7 h0.1
  obtain ⟨⟨b0, b1, b2, b3, b4, b5, b6⟩, hF2⟩ := Blk.facts7 h0.2.1
  clear h9 hne
  go_wp2_with (go_at_call 54; refine (low_any _ _).mono ?_; rintro e w3 ⟨rfl, rfl⟩; rw [show lowB 1 = true from rfl])
  all_goals (try (go_quiet (fail); go_wp2))
  go_ret2
  refine ⟨by first | rfl | simp, ?_⟩
  try (with_reducible refine below_drewN ?_ _)
  go_grown
set_option maxHeartbeats 1600000 in
set_option maxRecDepth 20000 in
theorem pair_24 (r v f t x y r' v' f' t' x' y' : Int) (w : World) (hm : meetB ⟨r, 2, v, f, t, x, y⟩ ⟨r', 4, v', f', t', x', y'⟩ = true) (_hv : 0 ≤ v' ∧ v' ≤ 1073741824) :
    Calls Try.prog 33 #[.agg (Cd.arr ⟨r, 2, v, f, t, x, y⟩), .agg (Cd.arr ⟨r', 4, v', f', t', x', y'⟩)] w (PairPost w (decide (v < 1073741824 - v')) (false)) := by
  have h0 : TB w ⟨r, 2, v, f, t, x, y⟩ ⟨r', 4, v', f', t', x', y'⟩ _ := two_boxes _ _ w
  obtain ⟨⟨a0, a1, a2, a3, a4, a5, a6⟩, _⟩ := Blk.facts7 h0.1
  obtain ⟨⟨b0, b1, b2, b3, b4, b5, b6⟩, _⟩ := Blk.facts7 h0.2.1
  have hB := h0.2.2
  unfold Cd.arr
  go_enter Try.func33, Try.ntmps33
  go_wp2_with fail
  unfold Cd.arr at h0 a0 a1 a2 a3 a4 a5 a6 b0 b1 b2 b3 b4 b5 b6 hB
  generalize ((w.alloc _).alloc _) = w2 at *
  replace a0 := inv_cell a0
  replace a1 := inv_cell a1
  replace a2 := inv_cell a2
  replace a3 := inv_cell a3
  replace a4 := inv_cell a4
  replace a5 := inv_cell a5
  replace a6 := inv_cell a6
  replace b0 := inv_cell b0
  replace b1 := inv_cell b1
  replace b2 := inv_cell b2
  replace b3 := inv_cell b3
  replace b4 := inv_cell b4
  replace b5 := inv_cell b5
  replace b6 := inv_cell b6
  have hne : Nonempty (InW fun x => Below w2.heap.size w2 x) := ⟨⟨w2, Below.refl _ _⟩⟩
  refine wp_region_inv (I := fun x => Below w2.heap.size w2 x) (by kernel_rfl) (by kernel_rfl) (Below.refl _ _).drew ?_
  repeat (go_big_quiet_step (first | (go_at_call 53; exact inv_callb hm (inv_closed w2) (cmeet_any ⟨r, 2, v, f, t, x, y⟩ ⟨r', 4, v', f', t', x', y'⟩ _)) | (go_at_call 54; first | exact inv_sameb (c := false) (by decide) (low_any 2 _) | exact inv_sameb (c := true) (by decide) (low_any 4 _))))
  refine wpQuiet_nil ?_
  rintro _ ⟨⟨w9, h9⟩, rfl⟩
  clear a0 a1 a2 a3 a4 a5 a6 b0 b1 b2 b3 b4 b5 b6
  replace h0 := h0.call h9
  replace hB := h0.2.2
  obtain ⟨⟨a0, a1, a2, a3, a4, a5, a6⟩, hF1⟩ := Blk.facts7 h0.1
  obtain ⟨⟨b0, b1, b2, b3, b4, b5, b6⟩, hF2⟩ := Blk.facts7 h0.2.1
  clear h9 hne
  go_wp2_with (go_at_call 54; refine (low_any _ _).mono ?_; rintro e w3 ⟨rfl, rfl⟩; rw [show lowB 4 = true from rfl])
  all_goals (try (go_quiet (fail); go_wp2))
  go_ret2
  refine ⟨by first | rfl | simp, ?_⟩
  try (with_reducible refine below_drewN ?_ _)
  go_grown
set_option maxHeartbeats 1600000 in
set_option maxRecDepth 20000 in
theorem pair_34 (r v f t x y r' v' f' t' x' y' : Int) (w : World) (hm : meetB ⟨r, 3, v, f, t, x, y⟩ ⟨r', 4, v', f', t', x', y'⟩ = true) (_hv : 0 ≤ v' ∧ v' ≤ 1073741824) :
    Calls Try.prog 33 #[.agg (Cd.arr ⟨r, 3, v, f, t, x, y⟩), .agg (Cd.arr ⟨r', 4, v', f', t', x', y'⟩)] w (PairPost w (false) (false)) := by
  have h0 : TB w ⟨r, 3, v, f, t, x, y⟩ ⟨r', 4, v', f', t', x', y'⟩ _ := two_boxes _ _ w
  obtain ⟨⟨a0, a1, a2, a3, a4, a5, a6⟩, _⟩ := Blk.facts7 h0.1
  obtain ⟨⟨b0, b1, b2, b3, b4, b5, b6⟩, _⟩ := Blk.facts7 h0.2.1
  have hB := h0.2.2
  unfold Cd.arr
  go_enter Try.func33, Try.ntmps33
  go_wp2_with fail
  unfold Cd.arr at h0 a0 a1 a2 a3 a4 a5 a6 b0 b1 b2 b3 b4 b5 b6 hB
  generalize ((w.alloc _).alloc _) = w2 at *
  replace a0 := inv_cell a0
  replace a1 := inv_cell a1
  replace a2 := inv_cell a2
  replace a3 := inv_cell a3
  replace a4 := inv_cell a4
  replace a5 := inv_cell a5
  replace a6 := inv_cell a6
  replace b0 := inv_cell b0
  replace b1 := inv_cell b1
  replace b2 := inv_cell b2
  replace b3 := inv_cell b3
  replace b4 := inv_cell b4
  replace b5 := inv_cell b5
  replace b6 := inv_cell b6
  have hne : Nonempty (InW fun x => Below w2.heap.size w2 x) := ⟨⟨w2, Below.refl _ _⟩⟩
  refine wp_region_inv (I := fun x => Below w2.heap.size w2 x) (by kernel_rfl) (by kernel_rfl) (Below.refl _ _).drew ?_
  repeat (go_big_quiet_step (first | (go_at_call 53; exact inv_callb hm (inv_closed w2) (cmeet_any ⟨r, 3, v, f, t, x, y⟩ ⟨r', 4, v', f', t', x', y'⟩ _)) | (go_at_call 54; first | exact inv_sameb (c := false) (by decide) (low_any 3 _) | exact inv_sameb (c := true) (by decide) (low_any 4 _))))
  refine wpQuiet_nil ?_
  rintro _ ⟨⟨w9, h9⟩, rfl⟩
  clear a0 a1 a2 a3 a4 a5 a6 b0 b1 b2 b3 b4 b5 b6
  replace h0 := h0.call h9
  replace hB := h0.2.2
  obtain ⟨⟨a0, a1, a2, a3, a4, a5, a6⟩, hF1⟩ := Blk.facts7 h0.1
  obtain ⟨⟨b0, b1, b2, b3, b4, b5, b6⟩, hF2⟩ := Blk.facts7 h0.2.1
  clear h9 hne
  go_wp2_with (go_at_call 54; refine (low_any _ _).mono ?_; rintro e w3 ⟨rfl, rfl⟩; rw [show lowB 4 = true from rfl])
  all_goals (try (go_quiet (fail); go_wp2))
  go_ret2
  refine ⟨by first | rfl | simp, ?_⟩
  try (with_reducible refine below_drewN ?_ _)
  go_grown

theorem kind4 {k : Int} (h : 1 ≤ k ∧ k ≤ 4) : k = 1 ∨ k = 2 ∨ k = 3 ∨ k = 4 := by omega
theorem pair_all (a b : Cd) (w : World) (ha : a.err = 0) (hb : b.err = 0) : Calls Try.prog 33 #[.agg a.arr, .agg b.arr] w (PairPost w (mayB a b) (everB a b)) := by
  obtain ⟨_, hka, hra⟩ := err_zero ha
  obtain ⟨_, hkb, hrb⟩ := err_zero hb
  have hva := (rest_iff.1 hra).1
  have hvb := (rest_iff.1 hrb).1
  clear ha hb hra hrb
  obtain ⟨r, k, v, f, t, x, y⟩ := a
  obtain ⟨r', k', v', f', t', x', y'⟩ := b
  simp only at hka hkb hva hvb
  cases hm : meetB ⟨r, k, v, f, t, x, y⟩ ⟨r', k', v', f', t', x', y'⟩
  · have e1 : mayB ⟨r, k, v, f, t, x, y⟩ ⟨r', k', v', f', t', x', y'⟩ = false := by simp [mayB, hm]
    have e2 : everB ⟨r, k, v, f, t, x, y⟩ ⟨r', k', v', f', t', x', y'⟩ = false := by simp [everB, hm]
    rw [e1, e2]
    exact pair_no _ _ _ _ _ _ _ _ _ _ _ _ _ _ w hm
  · obtain rfl | rfl | rfl | rfl := kind4 hka <;> obtain rfl | rfl | rfl | rfl := kind4 hkb
    · have e1 : mayB ⟨r, 1, v, f, t, x, y⟩ ⟨r', 1, v', f', t', x', y'⟩ = false := by simp [mayB, lowB]
      have e2 : everB ⟨r, 1, v, f, t, x, y⟩ ⟨r', 1, v', f', t', x', y'⟩ = false := by simp [everB, lowB]
      rw [e1, e2]
      exact pair_tt _ _ _ _ _ _ _ _ _ _ _ _ _ _ w hm rfl rfl
    · have e1 : mayB ⟨r, 1, v, f, t, x, y⟩ ⟨r', 2, v', f', t', x', y'⟩ = (decide (v' < v)) := by simp [mayB, hm, lowB, mayLH]
      have e2 : everB ⟨r, 1, v, f, t, x, y⟩ ⟨r', 2, v', f', t', x', y'⟩ = (decide (v' < v)) := by simp [everB, hm, lowB, everLH]
      rw [e1, e2]
      exact pair_12 _ _ _ _ _ _ _ _ _ _ _ _ w hm hva
    · have e1 : mayB ⟨r, 1, v, f, t, x, y⟩ ⟨r', 3, v', f', t', x', y'⟩ = (decide (v' < v)) := by simp [mayB, hm, lowB, mayLH]
      have e2 : everB ⟨r, 1, v, f, t, x, y⟩ ⟨r', 3, v', f', t', x', y'⟩ = (false) := by simp [everB, hm, lowB, everLH]
      rw [e1, e2]
      exact pair_13 _ _ _ _ _ _ _ _ _ _ _ _ w hm hva
    · have e1 : mayB ⟨r, 1, v, f, t, x, y⟩ ⟨r', 4, v', f', t', x', y'⟩ = false := by simp [mayB, lowB]
      have e2 : everB ⟨r, 1, v, f, t, x, y⟩ ⟨r', 4, v', f', t', x', y'⟩ = false := by simp [everB, lowB]
      rw [e1, e2]
      exact pair_tt _ _ _ _ _ _ _ _ _ _ _ _ _ _ w hm rfl rfl
    · have e1 : mayB ⟨r, 2, v, f, t, x, y⟩ ⟨r', 1, v', f', t', x', y'⟩ = (decide (v < v')) := by simp [mayB, hm, lowB, mayLH]
      have e2 : everB ⟨r, 2, v, f, t, x, y⟩ ⟨r', 1, v', f', t', x', y'⟩ = (decide (v < v')) := by simp [everB, hm, lowB, everLH]
      rw [e1, e2]
      exact pair_21 _ _ _ _ _ _ _ _ _ _ _ _ w hm hvb
    · have e1 : mayB ⟨r, 2, v, f, t, x, y⟩ ⟨r', 2, v', f', t', x', y'⟩ = false := by simp [mayB, lowB]
      have e2 : everB ⟨r, 2, v, f, t, x, y⟩ ⟨r', 2, v', f', t', x', y'⟩ = false := by simp [everB, lowB]
      rw [e1, e2]
      exact pair_ff _ _ _ _ _ _ _ _ _ _ _ _ _ _ w hm rfl rfl
    · have e1 : mayB ⟨r, 2, v, f, t, x, y⟩ ⟨r', 3, v', f', t', x', y'⟩ = false := by simp [mayB, lowB]
      have e2 : everB ⟨r, 2, v, f, t, x, y⟩ ⟨r', 3, v', f', t', x', y'⟩ = false := by simp [everB, lowB]
      rw [e1, e2]
      exact pair_ff _ _ _ _ _ _ _ _ _ _ _ _ _ _ w hm rfl rfl
    · have e1 : mayB ⟨r, 2, v, f, t, x, y⟩ ⟨r', 4, v', f', t', x', y'⟩ = (decide (v < 1073741824 - v')) := by simp [mayB, hm, lowB, mayLH]
      have e2 : everB ⟨r, 2, v, f, t, x, y⟩ ⟨r', 4, v', f', t', x', y'⟩ = (false) := by simp [everB, hm, lowB, everLH]
      rw [e1, e2]
      exact pair_24 _ _ _ _ _ _ _ _ _ _ _ _ w hm hvb
    · have e1 : mayB ⟨r, 3, v, f, t, x, y⟩ ⟨r', 1, v', f', t', x', y'⟩ = (decide (v < v')) := by simp [mayB, hm, lowB, mayLH]
      have e2 : everB ⟨r, 3, v, f, t, x, y⟩ ⟨r', 1, v', f', t', x', y'⟩ = (false) := by simp [everB, hm, lowB, everLH]
      rw [e1, e2]
      exact pair_31 _ _ _ _ _ _ _ _ _ _ _ _ w hm hvb
    · have e1 : mayB ⟨r, 3, v, f, t, x, y⟩ ⟨r', 2, v', f', t', x', y'⟩ = false := by simp [mayB, lowB]
      have e2 : everB ⟨r, 3, v, f, t, x, y⟩ ⟨r', 2, v', f', t', x', y'⟩ = false := by simp [everB, lowB]
      rw [e1, e2]
      exact pair_ff _ _ _ _ _ _ _ _ _ _ _ _ _ _ w hm rfl rfl
    · have e1 : mayB ⟨r, 3, v, f, t, x, y⟩ ⟨r', 3, v', f', t', x', y'⟩ = false := by simp [mayB, lowB]
      have e2 : everB ⟨r, 3, v, f, t, x, y⟩ ⟨r', 3, v', f', t', x', y'⟩ = false := by simp [everB, lowB]
      rw [e1, e2]
      exact pair_ff _ _ _ _ _ _ _ _ _ _ _ _ _ _ w hm rfl rfl
    · have e1 : mayB ⟨r, 3, v, f, t, x, y⟩ ⟨r', 4, v', f', t', x', y'⟩ = (false) := by simp [mayB, hm, lowB, mayLH]
      have e2 : everB ⟨r, 3, v, f, t, x, y⟩ ⟨r', 4, v', f', t', x', y'⟩ = (false) := by simp [everB, hm, lowB, everLH]
      rw [e1, e2]
      exact pair_34 _ _ _ _ _ _ _ _ _ _ _ _ w hm hvb
    · have e1 : mayB ⟨r, 4, v, f, t, x, y⟩ ⟨r', 1, v', f', t', x', y'⟩ = false := by simp [mayB, lowB]
      have e2 : everB ⟨r, 4, v, f, t, x, y⟩ ⟨r', 1, v', f', t', x', y'⟩ = false := by simp [everB, lowB]
      rw [e1, e2]
      exact pair_tt _ _ _ _ _ _ _ _ _ _ _ _ _ _ w hm rfl rfl
    · have e1 : mayB ⟨r, 4, v, f, t, x, y⟩ ⟨r', 2, v', f', t', x', y'⟩ = (decide (v' < 1073741824 - v)) := by simp [mayB, hm, lowB, mayLH]
      have e2 : everB ⟨r, 4, v, f, t, x, y⟩ ⟨r', 2, v', f', t', x', y'⟩ = (false) := by simp [everB, hm, lowB, everLH]
      rw [e1, e2]
      exact pair_42 _ _ _ _ _ _ _ _ _ _ _ _ w hm hva
    · have e1 : mayB ⟨r, 4, v, f, t, x, y⟩ ⟨r', 3, v', f', t', x', y'⟩ = (false) := by simp [mayB, hm, lowB, mayLH]
      have e2 : everB ⟨r, 4, v, f, t, x, y⟩ ⟨r', 3, v', f', t', x', y'⟩ = (false) := by simp [everB, hm, lowB, everLH]
      rw [e1, e2]
      exact pair_43 _ _ _ _ _ _ _ _ _ _ _ _ w hm hva
    · have e1 : mayB ⟨r, 4, v, f, t, x, y⟩ ⟨r', 4, v', f', t', x', y'⟩ = false := by simp [mayB, lowB]
      have e2 : everB ⟨r, 4, v, f, t, x, y⟩ ⟨r', 4, v', f', t', x', y'⟩ = false := by simp [everB, lowB]
      rw [e1, e2]
      exact pair_tt _ _ _ _ _ _ _ _ _ _ _ _ _ _ w hm rfl rfl
end Go.Proofs.Ytjbddicgegkkjaa
