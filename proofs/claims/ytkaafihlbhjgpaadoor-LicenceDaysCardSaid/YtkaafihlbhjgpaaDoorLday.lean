/-
  A condition applies on as many days of a year as its span has, at its levels alone: the walk of LicenceDays. Conditions: the list can be read, and the table of kinds holds what the program lays.
-/
import Derived.Test.YtkaafihlbhjgpaaDoorProg
import Derived.Test.YtkaafihlbhjgpaaDoorLaw12
namespace Go.Proofs.YtkaafihlbhjgpaaDoor
open Go.RowKit

/-- How many of the first k days lie in a span. -/
def dayC (f t : Int) (k : Nat) : Int := if f ≤ t then max 0 (min (k : Int) (t + 1) - f) else min (k : Int) (t + 1) + max 0 (k - f)
theorem inB_day {f t : Int} (hf : 0 ≤ f ∧ f ≤ 364) (ht : 0 ≤ t ∧ t ≤ 364) {k : Nat} (hk : k < 365) : inB f t k = (if f ≤ t then decide (f ≤ (k : Int)) && decide ((k : Int) ≤ t) else decide (f ≤ (k : Int)) || decide ((k : Int) ≤ t)) := by
  simp [inB, okSpan, wit_of hf.1 hf.2, wit_of ht.1 ht.2, wit_of (show (0 : Int) ≤ k by omega) (show (k : Int) ≤ 364 by omega)]
theorem dayC_in {f t : Int} (hf : 0 ≤ f ∧ f ≤ 364) (ht : 0 ≤ t ∧ t ≤ 364) {k : Nat} (hk : k < 365) (h : inB f t k = true) : dayC f t (k + 1) = dayC f t k + 1 := by
  rw [inB_day hf ht hk] at h
  unfold dayC
  by_cases hft : f ≤ t <;> simp [hft] at h ⊢ <;> omega
theorem dayC_out {f t : Int} (hf : 0 ≤ f ∧ f ≤ 364) (ht : 0 ≤ t ∧ t ≤ 364) {k : Nat} (hk : k < 365) (h : inB f t k = false) : dayC f t (k + 1) = dayC f t k := by
  rw [inB_day hf ht hk] at h
  unfold dayC
  by_cases hft : f ≤ t <;> simp [hft] at h ⊢ <;> omega
theorem inB_far {f t d : Int} (h : d < 0 ∨ 364 < d) : inB f t d = false := inB_2 (wit_not.2 h)
theorem dayC_all {f t : Int} (hf : 0 ≤ f ∧ f ≤ 364) (ht : 0 ≤ t ∧ t ≤ 364) : dayC f t 365 = if t - f + 1 ≤ 0 then t - f + 1 + 365 else t - f + 1 := by
  unfold dayC
  split <;> split <;> omega
set_option maxHeartbeats 3200000 in
set_option maxRecDepth 20000 in
theorem days_walk {A : Option Addr} {n c : Nat} {zs : List Int} {w : World} (hT : KT w) (hs : Sl w w.heap.size 1 A n c (ints zs)) (lv : Int) : Calls Tryd.prog 3 #[.slice A n c, .int .i64 lv] w fun e w' => e = .returned (.bool true) ∧ Below w.heap.size w w' := by
  have hw0 := hT.pos
  go_enter Tryd.func3, Tryd.ntmps3
  go_wp2_with fail
  refine (new_any _ _ _ _ _ hs).mono ?_
  rintro e w1 ⟨rfl, hD1, hb1⟩
  clear hs
  go_wp2_with fail
  refine (cond_any _ _ hD1).mono ?_
  rintro e w2 ⟨cd, rfl, hc, hD2, hg2⟩
  have hB := below_grown hb1 hg2 hb1.size (Nat.le_refl _)
  clear hD1 hD2 hg2 hb1
  have HE := hide (good_err hc)
  have HA := hide (fun d x W => applies_ok cd d x W (good_err hc))
  obtain ⟨_, _, _, hf, ht, hx0, hxy, hy1⟩ := hc
  obtain ⟨r, k, v, f, t, a, b⟩ := cd
  simp only at hf ht hx0 hxy hy1 HA
  have q1 := Blk.new w2 26 (Cd.arr ⟨r, k, v, f, t, a, b⟩)
  have hB2 := hB.alloc hB.size (.cells (Cd.arr ⟨r, k, v, f, t, a, b⟩) 26)
  unfold Cd.arr at HA q1 hB2
  unfold Cd.arr
  obtain ⟨x, hx⟩ : ∃ x, x = lv % 300 := ⟨_, rfl⟩
  have x0 : 0 ≤ x ∧ x < 300 := by omega
  have HX := hide hx
  clear hx hB
  go_wp2_with (go_at_call 10; refine (mod_any _ _ (by omega) (by omega) _).mono ?_; rintro e w1 ⟨rfl, rfl⟩; rw [← HX.out])
  generalize (w2.alloc _) = w3 at *
  obtain ⟨lvl, hlvl⟩ : ∃ lvl : Bool, lvl = (decide (a ≤ x) && decide (x ≤ b)) := ⟨_, rfl⟩
  have HAP := hide (fun d W => show Calls Tryd.prog 11 #[.agg #[.int .i64 r, .int .i64 k, .int .i64 v, .int .i64 f, .int .i64 t, .int .i64 a, .int .i64 b], .int .i64 d, .int .i64 x] W fun e w' => e = .returned (.bool (inB f t d && lvl)) ∧ Below W.heap.size W w' by
    have h := HA.out d x W
    rwa [Bool.and_assoc, ← hlvl] at h)
  have HLV := hide hlvl
  obtain ⟨cN, hcN⟩ : ∃ cN : Nat → Int, cN = fun j => if lvl then dayC f t j else 0 := ⟨_, rfl⟩
  have HF := hide (fun (j : Nat) (hj : j < 365) (h : (inB f t j && lvl) = true) => show cN (j + 1) = cN j + 1 by
    rw [Bool.and_eq_true] at h; rw [hcN]; simp only [h.2]; simp [dayC_in hf ht hj h.1])
  have HG := hide (fun (j : Nat) (hj : j < 365) (h : (inB f t j && lvl) = false) => show cN (j + 1) = cN j by
    rw [hcN]
    cases hl : lvl
    · simp
    · rw [hl, Bool.and_true] at h; simp [dayC_out hf ht hj h])
  have HALL := hide (show cN 365 = if lvl then (if t - f + 1 ≤ 0 then t - f + 1 + 365 else t - f + 1) else 0 by rw [hcN]; simp only [dayC_all hf ht])
  have HM1 := hide (inB_far (f := f) (t := t) (d := -1) (by omega))
  have HM2 := hide (inB_far (f := f) (t := t) (d := 365) (by omega))
  have HD0 := hide (show cN 0 = 0 by rw [hcN]; show (if lvl then dayC f t 0 else 0) = 0; have : dayC f t 0 = 0 := by (unfold dayC; split <;> omega)
                                     rw [this]; simp)
  have HDB := hide (fun (j : Nat) => show -1000 ≤ cN j ∧ cN j ≤ 2 * j + 1000 by
    have : -1000 ≤ dayC f t j ∧ dayC f t j ≤ 2 * j + 1000 := by unfold dayC; split <;> omega
    rw [hcN]; show -1000 ≤ (if lvl then dayC f t j else 0) ∧ (if lvl then dayC f t j else 0) ≤ 2 * j + 1000
    split <;> omega)
  clear hcN
  clear HA hlvl HX
  go_loopw [7, 8] (fun vn i wr => ∃ j : Nat, j ≤ 365 ∧ i = .int .i64 j ∧ vn = .int .i64 (cN j) ∧ Below w3.heap.size w3 wr) (fun _ i _ => 365 - (intOf i).toNat)
  case atStart => exact ⟨0, by omega, rfl, by rw [HD0.out], Below.refl _ _⟩
  case round =>
    obtain ⟨j, hj, rfl, rfl, hbr⟩ := hrel
    have p1 := q1.below hbr q1.lt
    obtain ⟨⟨a0, a1, a2, a3, a4, a5, a6⟩, _⟩ := Blk.facts7 p1
    by_cases hlt : j < 365
    · have hjc : (j : Int) < 365 := by omega
      go_wp2_with fail
      refine (HAP.out _ _).mono ?_
      rintro e w4 ⟨rfl, hb4⟩
      have hB4 := hide (bthr hbr hb4 hbr.size)
      clear hb4 hbr p1 a0 a1 a2 a3 a4 a5 a6
      obtain ⟨d0, d1⟩ := HDB.out j
      cases hin : inB f t (j : Int) && lvl
      · have hst := hide (HG.out j hlt hin)
        clear hin
        go_wp2
        go_roundw
        case rel => exact ⟨j + 1, by omega, by go_num, by rw [hst.out], hB4.out⟩
        case measure => simp [intOf]; omega
      · have hst := hide (HF.out j hlt hin)
        clear hin
        go_wp2
        go_roundw
        case rel => exact ⟨j + 1, by omega, by go_num, by rw [hst.out], hB4.out⟩
        case measure => simp [intOf]; omega
    · obtain rfl : j = 365 := by omega
      have hN : (¬ (a ≤ x ∧ x ≤ b) ∧ cN 365 = 0) ∨ ((a ≤ x ∧ x ≤ b) ∧ (t - f + 1 ≤ 0 ∧ cN 365 = t - f + 1 + 365 ∨ ¬ t - f + 1 ≤ 0 ∧ cN 365 = t - f + 1)) := by
        have h1 := HALL.out
        have h2 := HLV.out
        by_cases hl : a ≤ x ∧ x ≤ b
        · right
          have : lvl = true := by rw [h2]; simp [hl]
          rw [this] at h1
          by_cases h3 : t - f + 1 ≤ 0
          · exact ⟨hl, .inl ⟨h3, by rw [h1]; simp [h3]⟩⟩
          · exact ⟨hl, .inr ⟨h3, by rw [h1]; simp [h3]⟩⟩
        · left
          have : lvl = false := by rw [h2, Bool.eq_false_iff]; intro h; simp at h; exact hl h
          rw [this] at h1
          exact ⟨hl, by rw [h1]; simp⟩
      have HN1 := hide (show (inB f t (-1) && lvl) = false by rw [HM1.out]; rfl)
      have HN2 := hide (show (inB f t 365 && lvl) = false by rw [HM2.out]; rfl)
      have hB5 := bthr hB2 hbr hB2.size
      have hT5 := hT.below hB5 hw0
      generalize cN 365 = N at *
      clear hbr HALL HLV HDB HF HG HD0 HM1 HM2
      have P1 := hide p1
      have h3 : t - f + 1 ≤ 0 ∨ ¬ t - f + 1 ≤ 0 := by omega
      have h1 : a ≤ x ∨ ¬ a ≤ x := by omega
      rcases hN with ⟨hl, rfl⟩ | ⟨⟨g1, g2⟩, ⟨g3, rfl⟩ | ⟨g3, rfl⟩⟩
      · rcases h1 with h1 | h1 <;> rcases h3 with h3 | h3
        case' inl.inl => have h2 : ¬ x ≤ b := fun h => hl ⟨h1, h⟩
        case' inl.inr => have h2 : ¬ x ≤ b := fun h => hl ⟨h1, h⟩
        all_goals clear hl
        all_goals
          have HB5 := hide hB5
          have HT5 := hide hT5
          clear hB5 hT5 p1
          go_wp2_with fail
          refine (HAP.out _ _).mono ?_
          rintro e w6 ⟨rfl, hb6⟩
          rw [HN1.out]
          have HB6 := hide (bthr HB5.out hb6 HB5.out.size)
          have HT6 := hide (HT5.out.below hb6 (HT5.out.pos))
          have P2 := hide (P1.out.below hb6 P1.out.lt)
          have p2 := P2.out
          clear hb6 a0 a1 a2 a3 a4 a5 a6
          obtain ⟨⟨a0, a1, a2, a3, a4, a5, a6⟩, _⟩ := Blk.facts7 p2
          clear p2
          go_wp2_with fail
          refine (HAP.out _ _).mono ?_
          rintro e w7 ⟨rfl, hb7⟩
          rw [HN2.out]
          have HB7 := hide (bthr HB6.out hb7 HB6.out.size)
          have HT7 := hide (HT6.out.below hb7 (HT6.out.pos))
          clear hb7 a0 a1 a2 a3 a4 a5 a6
          go_wp2_with fail
          refine (awake_any _ HT7.out).mono ?_
          rintro e w8 ⟨rfl, hb8⟩
          go_wp2
          go_ret
          exact ⟨rfl, bthr HB7.out hb8 HB7.out.size⟩
      all_goals
        clear h1 h3
        have HB5 := hide hB5
        have HT5 := hide hT5
        clear hB5 hT5 p1
        go_wp2_with fail
        refine (HAP.out _ _).mono ?_
        rintro e w6 ⟨rfl, hb6⟩
        rw [HN1.out]
        have HB6 := hide (bthr HB5.out hb6 HB5.out.size)
        have HT6 := hide (HT5.out.below hb6 (HT5.out.pos))
        have P2 := hide (P1.out.below hb6 P1.out.lt)
        have p2 := P2.out
        clear hb6 a0 a1 a2 a3 a4 a5 a6
        obtain ⟨⟨a0, a1, a2, a3, a4, a5, a6⟩, _⟩ := Blk.facts7 p2
        clear p2
        go_wp2_with fail
        refine (HAP.out _ _).mono ?_
        rintro e w7 ⟨rfl, hb7⟩
        rw [HN2.out]
        have HB7 := hide (bthr HB6.out hb7 HB6.out.size)
        have HT7 := hide (HT6.out.below hb7 (HT6.out.pos))
        clear hb7 a0 a1 a2 a3 a4 a5 a6
        go_wp2_with fail
        refine (awake_any _ HT7.out).mono ?_
        rintro e w8 ⟨rfl, hb8⟩
        go_wp2
        go_ret
        exact ⟨rfl, bthr HB7.out hb8 HB7.out.size⟩
end Go.Proofs.YtkaafihlbhjgpaaDoor
