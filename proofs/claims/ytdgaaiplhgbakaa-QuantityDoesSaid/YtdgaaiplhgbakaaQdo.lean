/-
  All results of the exact arithmetic are the document's: the walk of QuantityDoes. No condition.
-/
import Derived.Test.YtdgaaiplhgbakaaProg
import Derived.Test.YtdgaaiplhgbakaaQfl
import Derived.Test.YtdgaaiplhgbakaaQca
import Derived.Test.YtdgaaiplhgbakaaQbd
namespace Go.Proofs.Ytdgaaiplhgbakaa
open Go.RowKit

theorem cell12 {w : World} {g : Nat} {t : TypeId} {l : List Int} (h : Blk w g t (ints l).toArray) (hl : l.length = 12) {k : Nat} (hk : k < 3) : ∃ p q r s : Int, w.cell? ⟨g, k * 4, none⟩ = some (.int .i64 p) ∧ w.cell? ⟨g, k * 4 + 1, none⟩ = some (.int .i64 q) ∧ w.cell? ⟨g, k * 4 + 2, none⟩ = some (.int .i64 r) ∧ w.cell? ⟨g, k * 4 + 3, none⟩ = some (.int .i64 s) := by
  have hf := fun j (hj : j < 12) => ((h.facts).1 j).trans (show (ints l).toArray[j]? = some (.int .i64 (l.getD j 0)) by simpa using ints_get l j (by omega))
  exact ⟨_, _, _, _, hf _ (by omega), hf _ (by omega), hf _ (by omega), hf _ (by omega)⟩
theorem Blk.facts4 {w : World} {g : Nat} {t : TypeId} {x y z u : Value} (h : Blk w g t #[x, y, z, u]) : w.cell? ⟨g, 0, none⟩ = some x ∧ w.cell? ⟨g, 1, none⟩ = some y ∧ w.cell? ⟨g, 2, none⟩ = some z ∧ w.cell? ⟨g, 3, none⟩ = some u :=
  ⟨h.facts.1 0, h.facts.1 1, h.facts.1 2, h.facts.1 3⟩
theorem met_is (a0 a1 b0 b1 : Int) : ∃ (p q : Int) (o : Bool), metVal a0 a1 b0 b1 = .tuple #[.agg #[.int .i64 p, .int .i64 q], .bool o] := by
  cases h : metOk a0 a1 b0 b1
  · exact ⟨0, 0, false, by simp [metVal, h]⟩
  · exact ⟨_, _, true, by simp [metVal, h]; exact ⟨rfl, rfl⟩⟩
set_option maxHeartbeats 3200000 in
set_option maxRecDepth 20000 in
theorem does_walk (a b c d x0 x1 y0 y1 : Int) (w : World) : Calls Try.prog 8 #[.int .i64 a, .int .i64 b, .int .i64 c, .int .i64 d, .agg #[.int .i64 x0, .int .i64 x1], .agg #[.int .i64 y0, .int .i64 y1]] w fun e w' => e = .returned (.bool true) ∧ Below w.heap.size w w' := by
  have h1 := (Blk.new w 33 #[.int .i64 x0, .int .i64 x1]).alloc (.cells #[.int .i64 y0, .int .i64 y1] 33)
  have h2 := Blk.new (w.alloc (.cells #[.int .i64 x0, .int .i64 x1] 33)) 33 #[.int .i64 y0, .int .i64 y1]
  have hB := (bel1 (w := w) (o := .cells #[.int .i64 x0, .int .i64 x1] 33)).alloc (by simp) (.cells #[.int .i64 y0, .int .i64 y1] 33)
  rw [World.size_alloc] at h2
  go_enter Try.func8, Try.ntmps8
  go_wp2_with (go_at_call 10; refine (mod_any _ _ (by omega) (by omega) _).mono ?_; rintro e w1 ⟨rfl, rfl⟩)
  have hsz : ((w.alloc (.cells #[.int .i64 x0, .int .i64 x1] 33)).alloc (.cells #[.int .i64 y0, .int .i64 y1] 33)).heap.size = w.heap.size + 1 + 1 := by simp only [World.size_alloc]
  generalize ((w.alloc _).alloc _) = w2 at *
  obtain ⟨k1, hk1⟩ : ∃ k1, k1 = a % 1000 := ⟨_, rfl⟩
  obtain ⟨k2, hk2⟩ : ∃ k2, k2 = b % 100 := ⟨_, rfl⟩
  obtain ⟨k3, hk3⟩ : ∃ k3, k3 = c % 50 := ⟨_, rfl⟩
  obtain ⟨k4, hk4⟩ : ∃ k4, k4 = d % 50 := ⟨_, rfl⟩
  obtain ⟨k5, hk5⟩ : ∃ k5, k5 = a % 274877906945 := ⟨_, rfl⟩
  obtain ⟨k6, hk6⟩ : ∃ k6, k6 = b % 16777217 := ⟨_, rfl⟩
  obtain ⟨k7, hk7⟩ : ∃ k7, k7 = 1 + c % 274877906944 := ⟨_, rfl⟩
  obtain ⟨k8, hk8⟩ : ∃ k8, k8 = d % 100 := ⟨_, rfl⟩
  rw [← hk1, ← hk2, ← hk3, ← hk4, ← hk5, ← hk6, ← hk7, ← hk8]
  clear hk1 hk2 hk3 hk4 hk5 hk6 hk7 hk8
  have q := Blk.new w2 43 #[.int .i64 a, .int .i64 b, .int .i64 c, .int .i64 d, .int .i64 k1, .int .i64 k2, .int .i64 k3, .int .i64 k4, .int .i64 k5, .int .i64 k6, .int .i64 k7, .int .i64 k8]
  rw [hsz] at q
  have h1' := h1.alloc (.cells #[.int .i64 a, .int .i64 b, .int .i64 c, .int .i64 d, .int .i64 k1, .int .i64 k2, .int .i64 k3, .int .i64 k4, .int .i64 k5, .int .i64 k6, .int .i64 k7, .int .i64 k8] 43)
  have h2' := h2.alloc (.cells #[.int .i64 a, .int .i64 b, .int .i64 c, .int .i64 d, .int .i64 k1, .int .i64 k2, .int .i64 k3, .int .i64 k4, .int .i64 k5, .int .i64 k6, .int .i64 k7, .int .i64 k8] 43)
  have hB3 := hB.alloc hB.size (.cells #[.int .i64 a, .int .i64 b, .int .i64 c, .int .i64 d, .int .i64 k1, .int .i64 k2, .int .i64 k3, .int .i64 k4, .int .i64 k5, .int .i64 k6, .int .i64 k7, .int .i64 k8] 43)
  clear h1 h2 hB
  generalize w2.alloc _ = w3 at *
  go_loopw [59] (fun i wr => ∃ k : Nat, k ≤ 3 ∧ i = .int .i64 k ∧ Below w3.heap.size w3 wr) (fun i _ => 3 - (intOf i).toNat)
  case atStart => exact ⟨0, by omega, rfl, Below.refl _ _⟩
  case round =>
    obtain ⟨k, hk, rfl, hbr⟩ := hrel
    by_cases hlt : k < 3
    · have hkc : (k : Int) < 3 := by omega
      obtain ⟨p, r, s, t, e0, e1, e2, e3⟩ := cell12 (l := [a, b, c, d, k1, k2, k3, k4, k5, k6, k7, k8]) (q.below hbr q.lt) rfl hlt
      have g1 := Blk.new wr 43 #[.int .i64 p, .int .i64 r, .int .i64 s, .int .i64 t]
      have hb1 := hbr.alloc hbr.size (.cells #[.int .i64 p, .int .i64 r, .int .i64 s, .int .i64 t] 43)
      have G1 := hide g1
      have HB1 := hide hb1
      obtain ⟨c0, c1, c2, c3⟩ := g1.facts4
      clear g1 hb1 hbr
      go_wp2_with (first | (go_at_call 19; refine (floor_any _ _ _).mono ?_; rintro e w' ⟨rfl, rfl⟩) | (go_at_call 20; refine (rfloor_any _ _ _).mono ?_; rintro e w' ⟨rfl, rfl⟩) | (go_at_call 17; refine (scale_any _ _ _ _).mono ?_; rintro e w' ⟨rfl, rfl⟩) | (go_at_call 21; refine (rscale_any _ _ _ _).mono ?_; rintro e w' ⟨rfl, rfl⟩))
      refine (carry_any _ _ _ _ _).mono ?_
      rintro e w4 ⟨rfl, hb4⟩
      have G2 := hide (G1.out.below hb4 G1.out.lt)
      have HB2 := hide (bthr HB1.out hb4 HB1.out.size)
      clear hb4 e0 e1 e2 e3 c0 c1 c2 c3
      obtain ⟨c0, c1, c2, c3⟩ := G2.out.facts4
      go_wp2_with fail
      refine (rcarry_any _ _ _ _ _).mono ?_
      rintro e w5 ⟨rfl, hb5⟩
      have HB3 := hide (bthr HB2.out hb5 HB2.out.size)
      clear hb5 c0 c1 c2 c3 G1 G2 HB1 HB2
      generalize caQ p r s t = v1 at *
      generalize caR p r s t = v2 at *
      generalize caE p r s t = v3 at *
      generalize scV p r s = v4 at *
      generalize scE p r s = v5 at *
      generalize flQ p r = v6 at *
      generalize flE p r = v7 at *
      go_wp2
      go_roundw
      case rel => exact ⟨k + 1, by omega, by go_num, HB3.out⟩
      case measure => simp [intOf]; omega
    · obtain rfl : k = 3 := by omega
      have g1 := h1'.below hbr h1'.lt
      have g2 := h2'.below hbr h2'.lt
      have hB4 := bthr hB3 hbr hB3.size
      clear hbr q h1' h2' hB3
      obtain ⟨c0, c1, _⟩ := g1.facts2
      obtain ⟨d0, d1, _⟩ := g2.facts2
      obtain ⟨mp, mq, mo, hm⟩ := met_is x0 x1 y0 y1
      go_wp2_with fail
      refine (qmeet_any _ _ _ _ _).mono ?_
      rintro e w5 ⟨rfl, hb5⟩
      rw [hm]
      have g3 := (g1.below hb5 g1.lt).alloc (.cells #[.int .i64 mp, .int .i64 mq] 33)
      have g4 := (g2.below hb5 g2.lt).alloc (.cells #[.int .i64 mp, .int .i64 mq] 33)
      have g5 := Blk.new w5 33 #[.int .i64 mp, .int .i64 mq]
      have hB5 := (bthr hB4 hb5 hB4.size).alloc (bthr hB4 hb5 hB4.size).size (.cells #[.int .i64 mp, .int .i64 mq] 33)
      clear hb5 hB4 c0 c1 d0 d1 g1 g2
      obtain ⟨c0, c1, _⟩ := g3.facts2
      obtain ⟨d0, d1, _⟩ := g4.facts2
      go_wp2_with fail
      generalize w5.alloc _ = w6 at *
      refine (rmeet_any _ _ _ _ _).mono ?_
      rintro e w7 ⟨rfl, hb7⟩
      rw [hm]
      have g6 := (g3.below hb7 g3.lt).alloc (.cells #[.int .i64 mp, .int .i64 mq] 33)
      have g7 := (g5.below hb7 g5.lt).alloc (.cells #[.int .i64 mp, .int .i64 mq] 33)
      have g8 := Blk.new w7 33 #[.int .i64 mp, .int .i64 mq]
      have hB7 := (bthr hB5 hb7 hB5.size).alloc (bthr hB5 hb7 hB5.size).size (.cells #[.int .i64 mp, .int .i64 mq] 33)
      clear hb7 hB5 c0 c1 d0 d1 g3 g4 g5 hm
      obtain ⟨c0, c1, _⟩ := g6.facts2
      obtain ⟨d0, d1, _⟩ := g7.facts2
      obtain ⟨e0, e1, _⟩ := g8.facts2
      clear g6 g7 g8
      go_wp2_with fail
      generalize w7.alloc _ = w8 at *
      obtain ⟨m1, hm1⟩ : ∃ m1, m1 = max (min a x1) x0 := ⟨_, rfl⟩
      obtain ⟨bb, hbb⟩ : ∃ bb, bb = b % 60 := ⟨_, rfl⟩
      obtain ⟨m2, hm2⟩ : ∃ m2, m2 = max (min bb x1) x0 := ⟨_, rfl⟩
      have HMod := hide (fun W => show Calls Try.prog 10 #[.int .i64 b, .int .i64 60] W fun e w' => e = .returned (.int .i64 bb) ∧ W = w' by
        rw [hbb]; exact mod_any b 60 (by omega) (by omega) W)
      have HC1 := hide (fun W => show Calls Try.prog 15 #[.int .i64 a, .agg #[.int .i64 x0, .int .i64 x1]] W fun e w' => e = .returned (.int .i64 m1) ∧ Below W.heap.size W w' by
        rw [hm1]; exact clamp_any a x0 x1 W)
      have HC2 := hide (fun W => show Calls Try.prog 15 #[.int .i64 bb, .agg #[.int .i64 x0, .int .i64 x1]] W fun e w' => e = .returned (.int .i64 m2) ∧ Below W.heap.size W w' by
        rw [hm2]; exact clamp_any bb x0 x1 W)
      have HR1 := hide (fun W => show Calls Try.prog 24 #[.int .i64 a, .agg #[.int .i64 x0, .int .i64 x1]] W fun e w' => e = .returned (.int .i64 m1) ∧ Below W.heap.size W w' by
        rw [hm1]; exact rclamp_any a x0 x1 W)
      have HR2 := hide (fun W => show Calls Try.prog 24 #[.int .i64 bb, .agg #[.int .i64 x0, .int .i64 x1]] W fun e w' => e = .returned (.int .i64 m2) ∧ Below W.heap.size W w' by
        rw [hm2]; exact rclamp_any bb x0 x1 W)
      clear hm1 hm2 hbb
      have hne : Nonempty (InW fun W => Below w8.heap.size w8 W) := ⟨⟨w8, Below.refl _ _⟩⟩
      replace c0 := inv_cell c0
      replace c1 := inv_cell c1
      replace d0 := inv_cell d0
      replace d1 := inv_cell d1
      replace e0 := inv_cell e0
      replace e1 := inv_cell e1
      refine wp_region_inv (I := fun W => Below w8.heap.size w8 W) (by kernel_rfl) (by kernel_rfl) (Below.refl _ _).drew ?_
      repeat (go_big_quiet_step (first | (go_at_call 10; refine inv_same (HMod.out _)) | (go_at_call 15; with_reducible first | refine inv_call (inv_closed w8) (HC1.out _) | refine inv_call (inv_closed w8) (HC2.out _)) | (go_at_call 24; with_reducible first | refine inv_call (inv_closed w8) (HR1.out _) | refine inv_call (inv_closed w8) (HR2.out _)) | (go_at_call 9; refine inv_call (inv_closed w8) (awake_any _))))
      refine wpQuiet_nil ?_
      rintro _ ⟨⟨w9, h9⟩, rfl⟩
      clear c0 c1 d0 d1 e0 e1 hne
      have hB9 := hide (bthr hB7 h9 hB7.size)
      clear h9 hB7
      go_wp2
      go_ret
      exact ⟨rfl, hB9.out⟩
end Go.Proofs.Ytdgaaiplhgbakaa
