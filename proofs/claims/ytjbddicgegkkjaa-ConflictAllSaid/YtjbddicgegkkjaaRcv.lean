/-
  The contract of the reference's covers. No condition.
-/
import Derived.Test.YtjbddicgegkkjaaProg
import Derived.Test.YtjbddicgegkkjaaCov
import Derived.Test.YtjbddicgegkkjaaCdl
import Derived.Test.YtjbddicgegkkjaaRboth
namespace Go.Proofs.Ytjbddicgegkkjaa
open Go.RowKit

theorem both_days (f t g u : Int) : (bothL f t g u 365).length ≤ daysN g u := by
  unfold daysN bothL
  rw [List.length_map, List.length_map]
  exact (filt_all (p := fun d : Nat => inB f t (d : Int) && inB g u (d : Int)) (q := fun d : Nat => inB g u (d : Int) && inB g u (d : Int)) (List.range 365) (fun x hx => by simp at hx ⊢; exact hx.2)).1
set_option maxHeartbeats 600000 in
set_option maxRecDepth 20000 in
theorem rcovers_no1 (r k v f t x y r' k' v' f' t' x' y' : Int) (w : World) (h : k ≠ k' ∨ ¬ x ≤ x' ∨ ¬ y' ≤ y) :
    Calls Try.prog 47 #[.agg (Cd.arr ⟨r, k, v, f, t, x, y⟩), .agg (Cd.arr ⟨r', k', v', f', t', x', y'⟩)] w fun e w' => e = .returned (.bool false) ∧ Below w.heap.size w w' := by
  have h0 : TB w ⟨r, k, v, f, t, x, y⟩ ⟨r', k', v', f', t', x', y'⟩ _ := two_boxes _ _ w
  obtain ⟨⟨a0, a1, a2, a3, a4, a5, a6⟩, _⟩ := Blk.facts7 h0.1
  obtain ⟨⟨b0, b1, b2, b3, b4, b5, b6⟩, _⟩ := Blk.facts7 h0.2.1
  have hB := h0.2.2
  clear h0
  by_cases h1 : k = k'
  · subst h1
    have g1 : (k != k) = false := by simp
    by_cases h2 : x ≤ x'
    · have g2 : decide (x' < x) = false := by simp; omega
      have g3 : decide (y < y') = true := by simp; omega
      clear h
      unfold Cd.arr at *
      go_enter Try.func47, Try.ntmps47
      go_wp2_with fail
      generalize ((w.alloc _).alloc _) = w2 at *
      go_quiet (fail)
      go_wp2
      go_ret
      exact ⟨rfl, below_drewN hB _⟩
    · have g2 : decide (x' < x) = true := by simp; omega
      clear h
      unfold Cd.arr at *
      go_enter Try.func47, Try.ntmps47
      go_wp2_with fail
      generalize ((w.alloc _).alloc _) = w2 at *
      go_quiet (fail)
      go_wp2
      go_ret
      exact ⟨rfl, below_drewN hB _⟩
  · have g1 : (k != k') = true := by simp [h1]
    clear h h1
    unfold Cd.arr at *
    go_enter Try.func47, Try.ntmps47
    go_wp2_with fail
    generalize ((w.alloc _).alloc _) = w2 at *
    go_quiet (fail)
    go_wp2
    go_ret
    exact ⟨rfl, below_drewN hB _⟩
set_option maxHeartbeats 600000 in
set_option maxRecDepth 20000 in
theorem rcovers_yes (r k v f t x y r' v' f' t' x' y' : Int) (w : World) (h2 : x ≤ x') (h3 : y' ≤ y) :
    Calls Try.prog 47 #[.agg (Cd.arr ⟨r, k, v, f, t, x, y⟩), .agg (Cd.arr ⟨r', k, v', f', t', x', y'⟩)] w fun e w' => e = .returned (.bool (coverB ⟨r, k, v, f, t, x, y⟩ ⟨r', k, v', f', t', x', y'⟩)) ∧ Below w.heap.size w w' := by
  have h0 : TB w ⟨r, k, v, f, t, x, y⟩ ⟨r', k, v', f', t', x', y'⟩ _ := two_boxes _ _ w
  obtain ⟨⟨a0, a1, a2, a3, a4, a5, a6⟩, _⟩ := Blk.facts7 h0.1
  obtain ⟨⟨b0, b1, b2, b3, b4, b5, b6⟩, _⟩ := Blk.facts7 h0.2.1
  have hB := h0.2.2
  have g1 : (k != k) = false := by simp
  have g2 : decide (x' < x) = false := by simp; omega
  have g3 : decide (y < y') = false := by simp; omega
  have HN := hide (fun h => cover_days (a := ⟨r, k, v, f, t, x, y⟩) (b := ⟨r', k, v', f', t', x', y'⟩) h)
  have HY := hide (fun h => cover_val (a := ⟨r, k, v, f, t, x, y⟩) (b := ⟨r', k, v', f', t', x', y'⟩) rfl h2 h3 h)
  obtain ⟨cb, hcb⟩ : ∃ cb, coverB ⟨r, k, v, f, t, x, y⟩ ⟨r', k, v', f', t', x', y'⟩ = cb := ⟨_, rfl⟩
  rw [hcb] at HN HY ⊢
  clear h0 hcb
  unfold Cd.arr at *
  go_enter Try.func47, Try.ntmps47
  go_wp2_with fail
  generalize ((w.alloc _).alloc _) = w2 at *
  have hbl := bothL_le f t f' t' 365
  have hdn : daysN f' t' ≤ 365 := bothL_le f' t' f' t' 365
  have hbd := both_days f t f' t'
  clear a0 b0
  go_region_held3 (fun w' => w'.cell? ⟨w.heap.size, 1, none⟩ = some (.int .i64 k) ∧ w'.cell? ⟨w.heap.size, 2, none⟩ = some (.int .i64 v) ∧ w'.cell? ⟨w.heap.size, 3, none⟩ = some (.int .i64 f) ∧ w'.cell? ⟨w.heap.size, 4, none⟩ = some (.int .i64 t) ∧ w'.cell? ⟨w.heap.size, 5, none⟩ = some (.int .i64 x) ∧ w'.cell? ⟨w.heap.size, 6, none⟩ = some (.int .i64 y) ∧ w'.cell? ⟨w.heap.size + 1, 1, none⟩ = some (.int .i64 k) ∧ w'.cell? ⟨w.heap.size + 1, 2, none⟩ = some (.int .i64 v') ∧ w'.cell? ⟨w.heap.size + 1, 3, none⟩ = some (.int .i64 f') ∧ w'.cell? ⟨w.heap.size + 1, 4, none⟩ = some (.int .i64 t') ∧ w'.cell? ⟨w.heap.size + 1, 5, none⟩ = some (.int .i64 x') ∧ w'.cell? ⟨w.heap.size + 1, 6, none⟩ = some (.int .i64 y') ∧ Below w2.heap.size w2 w')
        (first | exact ⟨a1, a2, a3, a4, a5, a6, b1, b2, b3, b4, b5, b6, (Below.refl _ _).drew⟩ | go_keep | (go_split_ands; exact ⟨cell_thr hb (by assumption), cell_thr hb (by assumption), cell_thr hb (by assumption), cell_thr hb (by assumption), cell_thr hb (by assumption), cell_thr hb (by assumption), cell_thr hb (by assumption), cell_thr hb (by assumption), cell_thr hb (by assumption), cell_thr hb (by assumption), cell_thr hb (by assumption), cell_thr hb (by assumption), bthr (by assumption) hb (Below.size (by assumption))⟩))
        (first | (go_at_call 62; ((with_reducible refine (rboth_any f t f' t' _).mono ?_)); rintro e w5 ⟨v5, rfl, hown, hb, _⟩; obtain ⟨A2, c2, rfl, hsl2⟩ := own_sl hown; clear hown hsl2) | (go_at_call 63; refine (rdays_any _ _ _).mono ?_; rintro e w5 ⟨rfl, hb⟩))
  go_split_ands
  have hB5 := bthr hB (by assumption) hB.size
  clear hbl hdn a1 a2 a3 a4 a5 a6 b1 b2 b3 b4 b5 b6
  by_cases hl : (bothL f t f' t' 365).length < daysN f' t'
  · have HE := hide (HN.out (by omega))
    clear HN HY
    generalize (bothL f t f' t' 365).length = lb at *
    generalize daysN f' t' = dn at *
    go_wp2
    go_ret
    exact ⟨ret_bool HE.out.symm, hB5⟩
  · have HE := HY.out (by omega)
    clear HN HY
    generalize (bothL f t f' t' 365).length = lb at *
    generalize daysN f' t' = dn at *
    by_cases hk : k = 1
    · rw [if_pos hk] at HE
      have HE2 := hide HE
      have hk1 : (k == 1) = true := by simp [hk]
      clear HE hk
      go_wp2
      go_ret
      exact ⟨ret_bool HE2.out.symm, hB5⟩
    · rw [if_neg hk] at HE
      have HE2 := hide HE
      have hk1 : (k == 1) = false := by simp [hk]
      clear HE hk
      go_wp2
      go_ret
      exact ⟨ret_bool HE2.out.symm, hB5⟩
theorem rcovers_any (r k v f t x y r' k' v' f' t' x' y' : Int) (w : World) :
    Calls Try.prog 47 #[.agg (Cd.arr ⟨r, k, v, f, t, x, y⟩), .agg (Cd.arr ⟨r', k', v', f', t', x', y'⟩)] w fun e w' => e = .returned (.bool (coverB ⟨r, k, v, f, t, x, y⟩ ⟨r', k', v', f', t', x', y'⟩)) ∧ Below w.heap.size w w' := by
  by_cases h : k ≠ k' ∨ ¬ x ≤ x' ∨ ¬ y' ≤ y
  · have e : coverB ⟨r, k, v, f, t, x, y⟩ ⟨r', k', v', f', t', x', y'⟩ = false := by
      rcases h with h | h | h
      · exact cover_kind h
      · exact cover_above h
      · exact cover_below h
    rw [e]
    exact rcovers_no1 r k v f t x y r' k' v' f' t' x' y' w h
  · have h1 : k = k' := by omega
    subst h1
    exact rcovers_yes r k v f t x y r' v' f' t' x' y' w (by omega) (by omega)
end Go.Proofs.Ytjbddicgegkkjaa
