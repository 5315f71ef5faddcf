/-
  Contracts of Pair and what it calls: which conditions may, and which always, exclude one another. Condition of the inner ones: the kinds are kinds, the first's value is from 0 to the greatest flow.
-/
import Derived.Test.YtjbddicgegkkjaaProg
import Derived.Test.YtjbddicgegkkjaaOne
import Derived.Test.YtjbddicgegkkjaaReg
import Derived.WalkLawsBesides
namespace Go.Proofs.Ytjbddicgegkkjaa
open Go.RowKit

def lowB (k : Int) : Bool := k == 1 || k == 4
theorem low_any (k : Int) (w : World) : Calls Try.prog 54 #[.int .i64 k] w fun e w' => e = .returned (.bool (lowB k)) ∧ w = w' := by
  by_cases h : k = 1
  · subst h
    go_enter Try.func54, Try.ntmps54
    go_wp2
    go_ret
    exact ⟨rfl, rfl⟩
  · have hd : (k == 1) = false := beq_eq_false_iff_ne.2 h
    go_enter Try.func54, Try.ntmps54
    go_wp2
    go_ret
    exact ⟨ret_bool (by simp [lowB, hd]), rfl⟩
def meetB (a b : Cd) : Bool := decide (max a.above b.above ≤ min a.below b.below) && decide (0 < (bothL a.from_ a.to_ b.from_ b.to_ 365).length)
set_option maxHeartbeats 800000 in
set_option maxRecDepth 20000 in
theorem cmeet_any (a b : Cd) (w : World) : Calls Try.prog 53 #[.agg a.arr, .agg b.arr] w fun e w' => e = .returned (.bool (meetB a b)) ∧ Below w.heap.size w w' := by
  obtain ⟨r, k, v, f, t, x, y⟩ := a
  obtain ⟨r', k', v', f', t', x', y'⟩ := b
  unfold Cd.arr
  go_enter Try.func53, Try.ntmps53
  go_wp2_with (go_at_call 65; refine (both_any _ _ _ _ _).mono ?_; rintro e w3 ⟨v, rfl, hown, hb, _⟩; obtain ⟨A, c, rfl, hsl⟩ := own_sl hown; clear hown)
  all_goals go_ret
  all_goals refine ⟨ret_bool (by rw [Bool.eq_iff_iff]; simp [meetB]; omega), ?_⟩
  all_goals first | exact bel3 hb (by simp only [World.size_alloc]; omega) | exact bel1.alloc (by simp) _

def mayLH (x y : Cd) : Bool := if x.kind = 1 then decide (y.value < x.value) else if y.kind = 2 then decide (y.value < 1073741824 - x.value) else false
def everLH (x y : Cd) : Bool := decide (x.kind = 1) && decide (y.kind = 2) && decide (y.value < x.value)
def mayB (a b : Cd) : Bool := meetB a b && (lowB a.kind != lowB b.kind) && (if lowB b.kind then mayLH b a else mayLH a b)
def everB (a b : Cd) : Bool := meetB a b && (lowB a.kind != lowB b.kind) && (if lowB b.kind then everLH b a else everLH a b)
/-- Two conditions in two boxes of the call's own. -/
def TB (w : World) (a b : Cd) (w' : World) : Prop := Blk w' w.heap.size 28 a.arr ∧ Blk w' (w.heap.size + 1) 28 b.arr ∧ Below w.heap.size w w'
theorem two_boxes (a b : Cd) (w : World) : TB w a b ((w.alloc (.cells a.arr 28)).alloc (.cells b.arr 28)) := by
  refine ⟨(Blk.new w _ _).alloc _, ?_, bel1.alloc (by simp) _⟩
  have h := Blk.new (w.alloc (.cells a.arr 28)) 28 b.arr
  rwa [World.size_alloc] at h
theorem TB.call {w w' w'' : World} {a b : Cd} (h : TB w a b w') (hb : Below w'.heap.size w' w'') : TB w a b w'' := ⟨h.1.below hb h.1.lt, h.2.1.below hb h.2.1.lt, bthr h.2.2 hb h.2.2.size⟩
def PairPost (w : World) (m e : Bool) (x : Ending) (w' : World) : Prop := x = .returned (.tuple #[.bool m, .bool e]) ∧ Below w.heap.size w w'
set_option maxHeartbeats 1600000 in
set_option maxRecDepth 20000 in
theorem pair_no (r k v f t x y r' k' v' f' t' x' y' : Int) (w : World) (hm : meetB ⟨r, k, v, f, t, x, y⟩ ⟨r', k', v', f', t', x', y'⟩ = false) :
    Calls Try.prog 33 #[.agg (Cd.arr ⟨r, k, v, f, t, x, y⟩), .agg (Cd.arr ⟨r', k', v', f', t', x', y'⟩)] w (PairPost w false false) := by
  have h0 : TB w ⟨r, k, v, f, t, x, y⟩ ⟨r', k', v', f', t', x', y'⟩ _ := two_boxes _ _ w
  obtain ⟨⟨a0, a1, a2, a3, a4, a5, a6⟩, _⟩ := Blk.facts7 h0.1
  obtain ⟨⟨b0, b1, b2, b3, b4, b5, b6⟩, _⟩ := Blk.facts7 h0.2.1
  have hB := h0.2.2
  unfold Cd.arr
  go_enter Try.func33, Try.ntmps33
  go_wp2_with fail
  unfold Cd.arr at h0 a0 a1 a2 a3 a4 a5 a6 b0 b1 b2 b3 b4 b5 b6 hB
  generalize ((w.alloc _).alloc _) = w2 at *
  replace a0 := inv_cell a0
  replace a1 := inv_cell a1
  replace a2 := inv_cell a2
  replace a3 := inv_cell a3
  replace a4 := inv_cell a4
  replace a5 := inv_cell a5
  replace a6 := inv_cell a6
  replace b0 := inv_cell b0
  replace b1 := inv_cell b1
  replace b2 := inv_cell b2
  replace b3 := inv_cell b3
  replace b4 := inv_cell b4
  replace b5 := inv_cell b5
  replace b6 := inv_cell b6
  have hne : Nonempty (InW fun x => Below w2.heap.size w2 x) := ⟨⟨w2, Below.refl _ _⟩⟩
  refine wp_region_inv (I := fun x => Below w2.heap.size w2 x) (by kernel_rfl) (by kernel_rfl) (Below.refl _ _).drew ?_
  repeat (go_big_quiet_step (first | (go_at_call 53; exact inv_callb hm (inv_closed w2) (cmeet_any ⟨r, k, v, f, t, x, y⟩ ⟨r', k', v', f', t', x', y'⟩ _))))
  refine wpQuiet_nil ?_
  rintro _ ⟨⟨w9, h9⟩, rfl⟩
  clear a0 a1 a2 a3 a4 a5 a6 b0 b1 b2 b3 b4 b5 b6
  replace h0 := h0.call h9
  replace hB := h0.2.2
  obtain ⟨⟨a0, a1, a2, a3, a4, a5, a6⟩, hF1⟩ := Blk.facts7 h0.1
  obtain ⟨⟨b0, b1, b2, b3, b4, b5, b6⟩, hF2⟩ := Blk.facts7 h0.2.1
  clear h9 hne
  go_wp2
  go_ret2
  exact ⟨rfl, hB⟩
set_option maxHeartbeats 1600000 in
set_option maxRecDepth 20000 in
theorem pair_tt (r k v f t x y r' k' v' f' t' x' y' : Int) (w : World) (hm : meetB ⟨r, k, v, f, t, x, y⟩ ⟨r', k', v', f', t', x', y'⟩ = true) (hl : lowB k = true) (hl' : lowB k' = true) :
    Calls Try.prog 33 #[.agg (Cd.arr ⟨r, k, v, f, t, x, y⟩), .agg (Cd.arr ⟨r', k', v', f', t', x', y'⟩)] w (PairPost w false false) := by
  have h0 : TB w ⟨r, k, v, f, t, x, y⟩ ⟨r', k', v', f', t', x', y'⟩ _ := two_boxes _ _ w
  obtain ⟨⟨a0, a1, a2, a3, a4, a5, a6⟩, _⟩ := Blk.facts7 h0.1
  obtain ⟨⟨b0, b1, b2, b3, b4, b5, b6⟩, _⟩ := Blk.facts7 h0.2.1
  have hB := h0.2.2
  unfold Cd.arr
  go_enter Try.func33, Try.ntmps33
  go_wp2_with fail
  unfold Cd.arr at h0 a0 a1 a2 a3 a4 a5 a6 b0 b1 b2 b3 b4 b5 b6 hB
  generalize ((w.alloc _).alloc _) = w2 at *
  replace a0 := inv_cell a0
  replace a1 := inv_cell a1
  replace a2 := inv_cell a2
  replace a3 := inv_cell a3
  replace a4 := inv_cell a4
  replace a5 := inv_cell a5
  replace a6 := inv_cell a6
  replace b0 := inv_cell b0
  replace b1 := inv_cell b1
  replace b2 := inv_cell b2
  replace b3 := inv_cell b3
  replace b4 := inv_cell b4
  replace b5 := inv_cell b5
  replace b6 := inv_cell b6
  have hne : Nonempty (InW fun x => Below w2.heap.size w2 x) := ⟨⟨w2, Below.refl _ _⟩⟩
  refine wp_region_inv (I := fun x => Below w2.heap.size w2 x) (by kernel_rfl) (by kernel_rfl) (Below.refl _ _).drew ?_
  repeat (go_big_quiet_step (first | (go_at_call 53; exact inv_callb hm (inv_closed w2) (cmeet_any ⟨r, k, v, f, t, x, y⟩ ⟨r', k', v', f', t', x', y'⟩ _)) | (go_at_call 54; exact inv_sameb hl (low_any k _)) | (go_at_call 54; exact inv_sameb hl' (low_any k' _))))
  refine wpQuiet_nil ?_
  rintro _ ⟨⟨w9, h9⟩, rfl⟩
  clear a0 a1 a2 a3 a4 a5 a6 b0 b1 b2 b3 b4 b5 b6
  replace h0 := h0.call h9
  replace hB := h0.2.2
  obtain ⟨⟨a0, a1, a2, a3, a4, a5, a6⟩, hF1⟩ := Blk.facts7 h0.1
  obtain ⟨⟨b0, b1, b2, b3, b4, b5, b6⟩, hF2⟩ := Blk.facts7 h0.2.1
  clear h9 hne
  go_wp2
  go_ret2
  exact ⟨rfl, hB⟩
set_option maxHeartbeats 1600000 in
set_option maxRecDepth 20000 in
theorem pair_ff (r k v f t x y r' k' v' f' t' x' y' : Int) (w : World) (hm : meetB ⟨r, k, v, f, t, x, y⟩ ⟨r', k', v', f', t', x', y'⟩ = true) (hl : lowB k = false) (hl' : lowB k' = false) :
    Calls Try.prog 33 #[.agg (Cd.arr ⟨r, k, v, f, t, x, y⟩), .agg (Cd.arr ⟨r', k', v', f', t', x', y'⟩)] w (PairPost w false false) := by
  have h0 : TB w ⟨r, k, v, f, t, x, y⟩ ⟨r', k', v', f', t', x', y'⟩ _ := two_boxes _ _ w
  obtain ⟨⟨a0, a1, a2, a3, a4, a5, a6⟩, _⟩ := Blk.facts7 h0.1
  obtain ⟨⟨b0, b1, b2, b3, b4, b5, b6⟩, _⟩ := Blk.facts7 h0.2.1
  have hB := h0.2.2
  unfold Cd.arr
  go_enter Try.func33, Try.ntmps33
  go_wp2_with fail
  unfold Cd.arr at h0 a0 a1 a2 a3 a4 a5 a6 b0 b1 b2 b3 b4 b5 b6 hB
  generalize ((w.alloc _).alloc _) = w2 at *
  replace a0 := inv_cell a0
  replace a1 := inv_cell a1
  replace a2 := inv_cell a2
  replace a3 := inv_cell a3
  replace a4 := inv_cell a4
  replace a5 := inv_cell a5
  replace a6 := inv_cell a6
  replace b0 := inv_cell b0
  replace b1 := inv_cell b1
  replace b2 := inv_cell b2
  replace b3 := inv_cell b3
  replace b4 := inv_cell b4
  replace b5 := inv_cell b5
  replace b6 := inv_cell b6
  have hne : Nonempty (InW fun x => Below w2.heap.size w2 x) := ⟨⟨w2, Below.refl _ _⟩⟩
  refine wp_region_inv (I := fun x => Below w2.heap.size w2 x) (by kernel_rfl) (by kernel_rfl) (Below.refl _ _).drew ?_
  repeat (go_big_quiet_step (first | (go_at_call 53; exact inv_callb hm (inv_closed w2) (cmeet_any ⟨r, k, v, f, t, x, y⟩ ⟨r', k', v', f', t', x', y'⟩ _)) | (go_at_call 54; exact inv_sameb hl (low_any k _)) | (go_at_call 54; exact inv_sameb hl' (low_any k' _))))
  refine wpQuiet_nil ?_
  rintro _ ⟨⟨w9, h9⟩, rfl⟩
  clear a0 a1 a2 a3 a4 a5 a6 b0 b1 b2 b3 b4 b5 b6
  replace h0 := h0.call h9
  replace hB := h0.2.2
  obtain ⟨⟨a0, a1, a2, a3, a4, a5, a6⟩, hF1⟩ := Blk.facts7 h0.1
  obtain ⟨⟨b0, b1, b2, b3, b4, b5, b6⟩, hF2⟩ := Blk.facts7 h0.2.1
  clear h9 hne
  go_wp2
  go_ret2
  exact ⟨rfl, hB⟩

end Go.Proofs.Ytjbddicgegkkjaa
