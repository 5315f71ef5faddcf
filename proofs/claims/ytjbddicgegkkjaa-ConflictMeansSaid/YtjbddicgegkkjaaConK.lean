/-
  Only a condition that asks for more and one that asks for less can exclude one another: the walk of ConflictKinds. Condition: its list can be read.
-/
import Derived.Test.YtjbddicgegkkjaaProg
import Derived.Test.YtjbddicgegkkjaaConA
import Derived.Deep.RegionHeld3
namespace Go.Proofs.Ytjbddicgegkkjaa
open Go.RowKit
/-- b with a's days and levels. -/
def Cd.at_ (b a : Cd) : Cd := ⟨b.rank, b.kind, b.value, a.from_, a.to_, a.above, a.below⟩
theorem span_some {f t : Int} (hf : 0 ≤ f ∧ f ≤ 364) (ht : 0 ≤ t ∧ t ≤ 364) : 0 < (bothL f t f t 365).length := by
  have hi : inB f t f = true := by
    simp only [inB, okSpan, wit_of hf.1 hf.2, wit_of ht.1 ht.2, Bool.and_true, Bool.true_and]
    split
    · simp; omega
    · simp
  have hm : f ∈ bothL f t f t 365 := by
    unfold bothL
    refine List.mem_map.2 ⟨f.toNat, List.mem_filter.2 ⟨by simp; omega, ?_⟩, by omega⟩
    rw [Int.toNat_of_nonneg hf.1, hi]; rfl
  exact List.length_pos_of_mem hm
theorem at_err {a b : Cd} (ha : a.good) (hb : b.good) : (b.at_ a).err = 0 := by
  obtain ⟨_, _, _, h4, h5, h6⟩ := ha
  obtain ⟨g1, g2, g3, _⟩ := hb
  exact good_err ⟨g1, g2, g3, h4, h5, h6⟩
theorem at_meet {a b : Cd} (ha : a.good) : meetB a (b.at_ a) = true := by
  obtain ⟨_, _, _, h4, h5, h6⟩ := ha
  simp only [meetB, Cd.at_, Bool.and_eq_true]
  exact ⟨decide_eq_true (by omega), decide_eq_true (span_some h4 h5)⟩
theorem pM_good {a b : Cd} (ha : a.good) (hb : b.good) : pM a b = mayB a b := by simp [pM, good_err ha, good_err hb]
theorem pE_good {a b : Cd} (ha : a.good) (hb : b.good) : pE a b = everB a b := by simp [pE, good_err ha, good_err hb]
theorem pM_at {a b : Cd} (ha : a.good) (hb : b.good) (h : pM a b = true) : pM a (b.at_ a) = true := by
  rw [pM_good ha hb] at h
  simp only [pM, good_err ha, at_err ha hb, decide_true, Bool.true_and]
  simp only [mayB, at_meet ha, Bool.true_and, Bool.and_eq_true] at h ⊢
  exact ⟨h.1.2, h.2⟩
theorem pE_at {a b : Cd} (ha : a.good) (hb : b.good) (h : pE a b = true) : pE a (b.at_ a) = true := by
  rw [pE_good ha hb] at h
  simp only [pE, good_err ha, at_err ha hb, decide_true, Bool.true_and]
  simp only [everB, at_meet ha, Bool.true_and, Bool.and_eq_true] at h ⊢
  exact ⟨h.1.2, h.2⟩
theorem pE_kinds {a b : Cd} (h : pE a b = true) : (a.kind = 1 ∧ b.kind = 2) ∨ (a.kind = 2 ∧ b.kind = 1) := by
  simp only [pE, everB, Bool.and_eq_true] at h
  obtain ⟨_, ⟨_, h1⟩, h2⟩ := h
  split at h2
  · simp [everLH] at h2; omega
  · simp [everLH] at h2; omega
theorem pE_pM {a b : Cd} (h : pE a b = true) : pM a b = true := by
  have hk := pE_kinds h
  simp only [pE, pM, everB, mayB, Bool.and_eq_true] at h ⊢
  refine ⟨h.1, h.2.1, ?_⟩
  have h2 := h.2.2
  rcases hk with ⟨k1, k2⟩ | ⟨k1, k2⟩
  · simp [k2, lowB, everLH] at h2 ⊢
    simp [mayLH, k1]; omega
  · simp [k2, lowB, everLH] at h2 ⊢
    simp [mayLH, k2]; omega
theorem pM_kinds {a b : Cd} (h : pM a b = true) : lowB a.kind = !lowB b.kind := by
  simp only [pM, mayB, Bool.and_eq_true] at h
  have := h.2.1.2
  cases h1 : lowB a.kind <;> cases h2 : lowB b.kind <;> simp_all

theorem low_cases {k k' : Int} (h : lowB k = !lowB k') : (k = 1 ∨ k = 4) ∧ ¬ (k' = 1 ∨ k' = 4) ∨ ¬ (k = 1 ∨ k = 4) ∧ (k' = 1 ∨ k' = 4) := by
  have e : ∀ n : Int, lowB n = decide (n = 1 ∨ n = 4) := fun n => by rw [Bool.eq_iff_iff]; simp [lowB]
  rw [e, e] at h
  by_cases h1 : k = 1 ∨ k = 4 <;> by_cases h2 : k' = 1 ∨ k' = 4 <;> simp [h1, h2] at h ⊢
/-- Two conditions side by side, b's days and levels being overwritten by a's. -/
def KS (g h : Nat) (a b : Cd) (w : World) (w' : World) : Prop := Blk w' g 28 a.arr ∧ w.heap.size ≤ g ∧ w.heap.size ≤ h ∧ g ≠ h ∧ Below w.heap.size w w' ∧ ∃ u3 u4 u5 u6, Blk w' h 28 #[.int .i64 b.rank, .int .i64 b.kind, .int .i64 b.value, u3, u4, u5, u6]
set_option maxHeartbeats 6400000 in
set_option maxRecDepth 20000 in
theorem kinds_walk {A : Option Addr} {n c : Nat} {zs : List Int} {w : World} (hs : Sl w w.heap.size 1 A n c (ints zs)) : Calls Try.prog 4 #[.slice A n c] w fun e w' => e = .returned (.bool true) ∧ Below w.heap.size w w' := by
  go_enter Try.func4, Try.ntmps4
  go_wp2_with fail
  refine (new_any _ _ _ _ _ hs).mono ?_
  rintro e w1 ⟨rfl, hD1, hb1⟩
  clear hs
  go_wp2_with fail
  refine (cond_any _ _ hD1).mono ?_
  rintro e w2 ⟨a, rfl, ha, hD2, hg2⟩
  go_wp2_with fail
  refine (cond_any _ _ hD2).mono ?_
  rintro e w3 ⟨b, rfl, hb, hD3, hg3⟩
  have hB : Below w.heap.size w w3 := below_grown hb1 (grown_trans hg2 hg3) hb1.size (Nat.le_refl _)
  have hz := hB.size
  clear hD1 hD2 hD3 hg2 hg3 hb1
  have HM := hide (fun h => pM_at ha hb h)
  have HE := hide (fun h => pE_at ha hb h)
  have HK := hide (pE_kinds (a := a) (b := b))
  have HP := hide (pE_pM (a := a) (b := b))
  have HQ := hide (pM_kinds (a := a) (b := b))
  have HC := hide (fun W => Pair_any a b W)
  clear ha hb
  obtain ⟨r, k, v, f, t, x, y⟩ := a
  obtain ⟨r', k', v', f', t', x', y'⟩ := b
  have HD := hide (fun (k k' : Int) W => Pair_any ⟨r, k, v, f, t, x, y⟩ ⟨r', k', v', f, t, x, y⟩ W)
  have q1 := (Blk.new w3 28 (Cd.arr ⟨r, k, v, f, t, x, y⟩)).alloc (.cells (Cd.arr ⟨r', k', v', f', t', x', y'⟩) 28)
  have q2 := Blk.new (w3.alloc (.cells (Cd.arr ⟨r, k, v, f, t, x, y⟩) 28)) 28 (Cd.arr ⟨r', k', v', f', t', x', y'⟩)
  have hB2 := (hB.alloc hz (.cells (Cd.arr ⟨r, k, v, f, t, x, y⟩) 28)).alloc (by simp only [World.size_alloc]; omega) (.cells (Cd.arr ⟨r', k', v', f', t', x', y'⟩) 28)
  rw [World.size_alloc] at q2
  unfold Cd.arr at q1 q2 hB2 HC HD
  unfold Cd.arr
  go_wp2_with fail
  generalize ((w3.alloc _).alloc _) = w4 at *
  refine (HC.out _).mono ?_
  rintro e w5 ⟨rfl, hb5⟩
  have hB3 := bthr hB2 hb5 hB2.size
  replace q1 := q1.below hb5 q1.lt
  replace q2 := q2.below hb5 q2.lt
  clear HC hb5 hB2 hB
  obtain ⟨⟨a0, a1, a2, a3, a4, a5, a6⟩, _⟩ := Blk.facts7 q1
  obtain ⟨⟨b0, b1, b2, b3, b4, b5, b6⟩, _⟩ := Blk.facts7 q2
  cases hm : pM ⟨r, k, v, f, t, x, y⟩ ⟨r', k', v', f', t', x', y'⟩
  · have he : pE ⟨r, k, v, f, t, x, y⟩ ⟨r', k', v', f', t', x', y'⟩ = false := by
      cases he : pE ⟨r, k, v, f, t, x, y⟩ ⟨r', k', v', f', t', x', y'⟩
      · rfl
      · have := HP.out he; rw [hm] at this; cases this
    rw [he]
    clear HM HE HK HP HQ hm he
    go_wp2_with fail
    all_goals
      go_region_held3 (fun w' => w'.cell? ⟨w3.heap.size, 3, none⟩ = some (.int .i64 f) ∧ w'.cell? ⟨w3.heap.size, 4, none⟩ = some (.int .i64 t) ∧ w'.cell? ⟨w3.heap.size, 5, none⟩ = some (.int .i64 x) ∧ w'.cell? ⟨w3.heap.size, 6, none⟩ = some (.int .i64 y)) (go_keep) (fail)
    all_goals
      go_wp2_with fail
      clear a0 a1 a2 a3 a4 a5 a6 b0 b1 b2 b3 b4 b5 b6
      with_reducible refine (HD.out _ _ _).mono ?_
      rintro e w6 ⟨rfl, hb6⟩
      go_wp2_with fail
      refine (awake_any _).mono ?_
      rintro e w7 ⟨rfl, hb7⟩
      go_wp2
      go_ret
      refine ⟨rfl, bth (bth ?_ hb6) hb7⟩
      go_grown
  · have hM := hide (HM.out hm)
    have hq := HQ.out hm
    (try simp only at hq)
    (try simp only [Cd.at_] at hM)
    cases he : pE ⟨r, k, v, f, t, x, y⟩ ⟨r', k', v', f', t', x', y'⟩
    · have hc := low_cases hq
      clear HM HE HK HP HQ hm he hq
      rcases hc with ⟨hc | hc, hd⟩ | ⟨hd, hc | hc⟩
      all_goals
        subst hc
      · have e1 : (k' == 1) = false := by simp; omega
        have e2 : (k' == 4) = false := by simp; omega
        clear hd
        go_wp2_with fail
        go_region_held3 (fun w' => w'.cell? ⟨w3.heap.size, 3, none⟩ = some (.int .i64 f) ∧ w'.cell? ⟨w3.heap.size, 4, none⟩ = some (.int .i64 t) ∧ w'.cell? ⟨w3.heap.size, 5, none⟩ = some (.int .i64 x) ∧ w'.cell? ⟨w3.heap.size, 6, none⟩ = some (.int .i64 y)) (go_keep) (fail)
        go_wp2_with fail
        clear a0 a1 a2 a3 a4 a5 a6 b0 b1 b2 b3 b4 b5 b6
        with_reducible refine (HD.out _ _ _).mono ?_
        rintro e w6 ⟨rfl, hb6⟩
        rw [hM.out]
        go_wp2_with fail
        refine (awake_any _).mono ?_
        rintro e w7 ⟨rfl, hb7⟩
        go_wp2
        go_ret
        refine ⟨rfl, bth (bth ?_ hb6) hb7⟩
        go_grown
      · have e1 : (k' == 1) = false := by simp; omega
        have e2 : (k' == 4) = false := by simp; omega
        clear hd
        go_wp2_with fail
        go_region_held3 (fun w' => w'.cell? ⟨w3.heap.size, 3, none⟩ = some (.int .i64 f) ∧ w'.cell? ⟨w3.heap.size, 4, none⟩ = some (.int .i64 t) ∧ w'.cell? ⟨w3.heap.size, 5, none⟩ = some (.int .i64 x) ∧ w'.cell? ⟨w3.heap.size, 6, none⟩ = some (.int .i64 y)) (go_keep) (fail)
        go_wp2_with fail
        clear a0 a1 a2 a3 a4 a5 a6 b0 b1 b2 b3 b4 b5 b6
        with_reducible refine (HD.out _ _ _).mono ?_
        rintro e w6 ⟨rfl, hb6⟩
        rw [hM.out]
        go_wp2_with fail
        refine (awake_any _).mono ?_
        rintro e w7 ⟨rfl, hb7⟩
        go_wp2
        go_ret
        refine ⟨rfl, bth (bth ?_ hb6) hb7⟩
        go_grown
      · have e1 : (k == 1) = false := by simp; omega
        have e2 : (k == 4) = false := by simp; omega
        clear hd
        go_wp2_with fail
        go_region_held3 (fun w' => w'.cell? ⟨w3.heap.size, 3, none⟩ = some (.int .i64 f) ∧ w'.cell? ⟨w3.heap.size, 4, none⟩ = some (.int .i64 t) ∧ w'.cell? ⟨w3.heap.size, 5, none⟩ = some (.int .i64 x) ∧ w'.cell? ⟨w3.heap.size, 6, none⟩ = some (.int .i64 y)) (go_keep) (fail)
        go_wp2_with fail
        clear a0 a1 a2 a3 a4 a5 a6 b0 b1 b2 b3 b4 b5 b6
        with_reducible refine (HD.out _ _ _).mono ?_
        rintro e w6 ⟨rfl, hb6⟩
        rw [hM.out]
        go_wp2_with fail
        refine (awake_any _).mono ?_
        rintro e w7 ⟨rfl, hb7⟩
        go_wp2
        go_ret
        refine ⟨rfl, bth (bth ?_ hb6) hb7⟩
        go_grown
      · have e1 : (k == 1) = false := by simp; omega
        have e2 : (k == 4) = false := by simp; omega
        clear hd
        go_wp2_with fail
        go_region_held3 (fun w' => w'.cell? ⟨w3.heap.size, 3, none⟩ = some (.int .i64 f) ∧ w'.cell? ⟨w3.heap.size, 4, none⟩ = some (.int .i64 t) ∧ w'.cell? ⟨w3.heap.size, 5, none⟩ = some (.int .i64 x) ∧ w'.cell? ⟨w3.heap.size, 6, none⟩ = some (.int .i64 y)) (go_keep) (fail)
        go_wp2_with fail
        clear a0 a1 a2 a3 a4 a5 a6 b0 b1 b2 b3 b4 b5 b6
        with_reducible refine (HD.out _ _ _).mono ?_
        rintro e w6 ⟨rfl, hb6⟩
        rw [hM.out]
        go_wp2_with fail
        refine (awake_any _).mono ?_
        rintro e w7 ⟨rfl, hb7⟩
        go_wp2
        go_ret
        refine ⟨rfl, bth (bth ?_ hb6) hb7⟩
        go_grown
    · have hE := hide (HE.out he)
      (try simp only [Cd.at_] at hE)
      have hc := HK.out he
      (try simp only at hc)
      clear HM HE HK HP HQ hm he hq
      rcases hc with ⟨rfl, rfl⟩ | ⟨rfl, rfl⟩
      all_goals
        go_wp2_with fail
        go_region_held3 (fun w' => w'.cell? ⟨w3.heap.size, 3, none⟩ = some (.int .i64 f) ∧ w'.cell? ⟨w3.heap.size, 4, none⟩ = some (.int .i64 t) ∧ w'.cell? ⟨w3.heap.size, 5, none⟩ = some (.int .i64 x) ∧ w'.cell? ⟨w3.heap.size, 6, none⟩ = some (.int .i64 y)) (go_keep) (fail)
        go_wp2_with fail
        clear a0 a1 a2 a3 a4 a5 a6 b0 b1 b2 b3 b4 b5 b6
        with_reducible refine (HD.out _ _ _).mono ?_
        rintro e w6 ⟨rfl, hb6⟩
        rw [hM.out, hE.out]
        go_wp2_with fail
        refine (awake_any _).mono ?_
        rintro e w7 ⟨rfl, hb7⟩
        go_wp2
        go_ret
        refine ⟨rfl, bth (bth ?_ hb6) hb7⟩
        go_grown
end Go.Proofs.Ytjbddicgegkkjaa
