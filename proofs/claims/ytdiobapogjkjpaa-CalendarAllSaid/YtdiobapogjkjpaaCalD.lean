/-
  The calendar and its reference agree: the walk of CalendarAll. No condition.
-/
import Derived.Test.YtdiobapogjkjpaaProg
import Derived.Test.YtdiobapogjkjpaaCalC
import Derived.Test.YtdiobapogjkjpaaRcal
import Derived.Deep.RegionHeld3
namespace Go.Proofs.Ytdiobapogjkjpaa
open Go.RowKit

theorem timeVal_form (y d s : Int) : ∃ a b : Int, timeVal y d s = .tuple #[.int .i64 a, .int .i64 b] := by
  unfold timeVal
  split
  · split
    · exact ⟨_, _, rfl⟩
    · exact ⟨_, _, rfl⟩
  · exact ⟨_, _, rfl⟩
theorem cell3 {w : World} {g : Nat} {t : TypeId} {x y z : Int} (h : Blk w g t #[.int .i64 x, .int .i64 y, .int .i64 z]) {k : Nat} (hk : k < 3) : ∃ v : Int, w.cell? ⟨g, k, none⟩ = some (.int .i64 v) := by
  have hf := (h.facts).1 k
  obtain rfl | rfl | rfl : k = 0 ∨ k = 1 ∨ k = 2 := by omega
  all_goals exact ⟨_, hf⟩

set_option maxHeartbeats 6400000 in
set_option maxRecDepth 100000 in
theorem call_walk (f t g u a2 a3 a4 a5 : Int) (w : World) : Calls Try.prog 5 #[.agg #[.int .i64 f, .int .i64 t], .agg #[.int .i64 g, .int .i64 u], .int .i64 a2, .int .i64 a3, .int .i64 a4, .int .i64 a5] w fun e w' => e = .returned (.bool true) ∧ Below w.heap.size w w' := by
  go_enter Try.func5, Try.ntmps5
  go_wp2_with (go_at_call 8; refine (mod_any _ _ (by omega) (by omega) _).mono ?_; rintro e w1 ⟨rfl, rfl⟩)
  obtain ⟨r1, hr1⟩ : ∃ r1, r1 = a2 % 16777217 := ⟨_, rfl⟩
  obtain ⟨r2, hr2⟩ : ∃ r2, r2 = a2 % 100000 := ⟨_, rfl⟩
  rw [← hr1, ← hr2]
  clear hr1 hr2
  have q1 := Blk.new w 24 #[.int .i64 f, .int .i64 t]
  have q2 := Blk.new (w.alloc (.cells #[.int .i64 f, .int .i64 t] 24)) 24 #[.int .i64 g, .int .i64 u]
  have q3 := Blk.new ((w.alloc (.cells #[.int .i64 f, .int .i64 t] 24)).alloc (.cells #[.int .i64 g, .int .i64 u] 24)) 3 #[.int .i64 a2, .int .i64 r1, .int .i64 r2]
  have hB := ((bel1 (w := w) (o := .cells #[.int .i64 f, .int .i64 t] 24)).alloc (by simp) (.cells #[.int .i64 g, .int .i64 u] 24)).alloc (by simp only [World.size_alloc]; omega) (.cells #[.int .i64 a2, .int .i64 r1, .int .i64 r2] 3)
  replace q1 := (q1.alloc (.cells #[.int .i64 g, .int .i64 u] 24)).alloc (.cells #[.int .i64 a2, .int .i64 r1, .int .i64 r2] 3)
  replace q2 := q2.alloc (.cells #[.int .i64 a2, .int .i64 r1, .int .i64 r2] 3)
  simp only [World.size_alloc] at q2 q3
  generalize ((w.alloc (.cells #[.int .i64 f, .int .i64 t] 24)).alloc (.cells #[.int .i64 g, .int .i64 u] 24)).alloc (.cells #[.int .i64 a2, .int .i64 r1, .int .i64 r2] 3) = W0 at *
  go_loopw [40] (fun i wr => ∃ k : Nat, k ≤ 3 ∧ i = .int .i64 k ∧ Below W0.heap.size W0 wr) (fun i _ => 3 - (intOf i).toNat)
  case atStart => exact ⟨0, by omega, rfl, Below.refl _ _⟩
  case round =>
    obtain ⟨k, hk, rfl, hbr⟩ := hrel
    by_cases hlt : k < 3
    · obtain ⟨v, hv⟩ := cell3 q3 hlt
      have hv := cell_thr hbr hv
      have hbr1 := hide hbr
      clear q1 q2 q3 hB hbr
      go_wp2_with (first | (go_at_call 16; refine (day_any _ _).mono ?_; rintro e w1 ⟨rfl, rfl⟩; unfold dayVal) | (go_at_call 17; refine (rday_any _ _).mono ?_; rintro e w1 ⟨rfl, rfl⟩; unfold dayVal) | (go_at_call 18; refine (of_any _ _).mono ?_; rintro e w1 ⟨rfl, rfl⟩; unfold ofVal) | (go_at_call 19; refine (rof_any _ _).mono ?_; rintro e w1 ⟨rfl, rfl⟩; unfold ofVal))
      go_roundw
      case rel => exact ⟨k + 1, by omega, by go_num, hbr1.out⟩
      case measure => simp [intOf]; omega
    · obtain rfl : k = 3 := by omega
      have hbw := bthr hB hbr hB.size
      replace q1 := q1.below hbr q1.lt
      replace q2 := q2.below hbr q2.lt
      clear hbr hB q3
      go_wp2_with (go_at_call 8; refine (mod_any _ _ (by omega) (by omega) _).mono ?_; rintro e w1 ⟨rfl, rfl⟩)
      obtain ⟨r3, hr3⟩ : ∃ r3, r3 = a3 % 500 := ⟨_, rfl⟩
      obtain ⟨r4, hr4⟩ : ∃ r4, r4 = a4 % 367 - 1 := ⟨_, rfl⟩
      obtain ⟨r5, hr5⟩ : ∃ r5, r5 = a5 % 98 - 1 := ⟨_, rfl⟩
      rw [← hr3, ← hr4, ← hr5]
      have q3 := Blk.new wr 41 #[.int .i64 a3, .int .i64 a4, .int .i64 a5, .int .i64 r3, .int .i64 r4, .int .i64 r5]
      replace q1 := q1.alloc (.cells #[.int .i64 a3, .int .i64 a4, .int .i64 a5, .int .i64 r3, .int .i64 r4, .int .i64 r5] 41)
      replace q2 := q2.alloc (.cells #[.int .i64 a3, .int .i64 a4, .int .i64 a5, .int .i64 r3, .int .i64 r4, .int .i64 r5] 41)
      have hB := hbw.alloc hbw.size (.cells #[.int .i64 a3, .int .i64 a4, .int .i64 a5, .int .i64 r3, .int .i64 r4, .int .i64 r5] 41)
      clear hr3 hr4 hr5 hbw
      generalize wr.alloc (.cells #[.int .i64 a3, .int .i64 a4, .int .i64 a5, .int .i64 r3, .int .i64 r4, .int .i64 r5] 41) = W1 at *
      obtain ⟨wo, rfl⟩ : ∃ wo : World, wo = wr := ⟨_, rfl⟩
      go_loopw [112] (fun i wq => ∃ k : Nat, k ≤ 2 ∧ i = .int .i64 k ∧ Below W1.heap.size W1 wq) (fun i _ => 2 - (intOf i).toNat)
      case atStart => exact ⟨0, by omega, rfl, Below.refl _ _⟩
      case round =>
        obtain ⟨k, hk, rfl, hbr⟩ := hrel
        replace q1 := q1.below hbr q1.lt
        replace q2 := q2.below hbr q2.lt
        replace q3 := q3.below hbr q3.lt
        have hB2 := bthr hB hbr hB.size
        obtain ⟨x0, x1, _⟩ := q1.facts2
        obtain ⟨x2, x3, _⟩ := q2.facts2
        by_cases hlt : k < 2
        · have hHB := hide hbr
          have hz := hbr.size
          clear hbr hB q1 q2 x2 x3 hB2
          obtain ⟨y, d, s, hy⟩ : ∃ y d s : Int, wr.cell? ⟨wo.heap.size, 3 * k, none⟩ = some (.int .i64 y) ∧ wr.cell? ⟨wo.heap.size, 3 * k + 1, none⟩ = some (.int .i64 d) ∧ wr.cell? ⟨wo.heap.size, 3 * k + 2, none⟩ = some (.int .i64 s) := by
            have hf := q3.facts.1
            obtain rfl | rfl : k = 0 ∨ k = 1 := by omega
            · exact ⟨_, _, _, hf 0, hf 1, hf 2⟩
            · exact ⟨_, _, _, hf 3, hf 4, hf 5⟩
          clear q3
          obtain ⟨ta, tb, hT⟩ := timeVal_form y d s
          have HT := hide hT
          clear hT
          obtain rfl | rfl : k = 0 ∨ k = 1 := by omega
          all_goals
            simp only [Nat.mul_zero, Nat.mul_one, Nat.zero_add, Nat.reduceAdd, Nat.reduceMul] at hy
            obtain ⟨y0, y1, y2⟩ := hy
            cases h1 : inB f t d
            all_goals
              go_wp2_with (first | (go_at_call 20; refine (time_any _ _ _ _).mono ?_; rintro e w1 ⟨rfl, rfl⟩; rw [HT.out]) | (go_at_call 21; refine (rtime_any _ _ _ _).mono ?_; rintro e w1 ⟨rfl, rfl⟩; rw [HT.out]))
              obtain ⟨z1, z2⟩ := (Blk.new wr 41 #[.int .i64 y, .int .i64 d, .int .i64 s]).facts
              have z3 := z2 0
              have z1 := z1 1
              have hb0 := bel1 (w := wr) (o := .cells #[.int .i64 y, .int .i64 d, .int .i64 s] 41)
              have v0 := cell_thr hb0 x0
              have v1 := cell_thr hb0 x1
              clear y0 y1 y2 x0 x1 z2
              go_region_held3 (fun w' => w'.cell? ⟨w.heap.size, 0, none⟩ = some (.int .i64 f) ∧ w'.cell? ⟨w.heap.size, 1, none⟩ = some (.int .i64 t) ∧ w'.cell? ⟨wr.heap.size, 1, none⟩ = some (.int .i64 d) ∧ Below wr.heap.size wr w')
                (first | exact ⟨v0, v1, z1, hb0.drew⟩ | go_keep | (go_split_ands; exact ⟨cell_thr hb (by assumption), cell_thr hb (by assumption), cell_thr hb (by assumption), bthr (by assumption) hb (Below.size (by assumption))⟩))
                (first | (go_at_call 10; refine (in_any _ _ _ _).mono ?_; rintro e w3 ⟨rfl, hb⟩; rw [h1]) | (go_at_call 22; refine (rin_any _ _ _ _).mono ?_; rintro e w3 ⟨rfl, hb⟩; rw [h1]))
              go_split_ands
              go_wp2
              go_roundw
              case rel => first | exact ⟨1, by omega, rfl, bthr hHB.out (by assumption) hz⟩ | exact ⟨2, by omega, rfl, bthr hHB.out (by assumption) hz⟩
              case measure => simp [intOf]
        · obtain rfl : k = 2 := by omega
          have HC := hide (same_self (bothL f t g u 365))
          clear q1 q2 q3 hB hbr
          cases h1 : okSpan f t
          all_goals
            go_wp2_with fail
            go_region_held3 (fun w' => w'.cell? ⟨w.heap.size, 0, none⟩ = some (.int .i64 f) ∧ w'.cell? ⟨w.heap.size, 1, none⟩ = some (.int .i64 t) ∧ w'.cell? ⟨w.heap.size + 1, 0, none⟩ = some (.int .i64 g) ∧ w'.cell? ⟨w.heap.size + 1, 1, none⟩ = some (.int .i64 u) ∧ Below w.heap.size w w')
              (first | exact ⟨x0, x1, x2, x3, hB2.drew⟩ | go_keep | (go_split_ands; exact ⟨cell_thr hb (by assumption), cell_thr hb (by assumption), cell_thr hb (by assumption), cell_thr hb (by assumption), bthr (by assumption) hb (Below.size (by assumption))⟩))
              (first | (go_at_call 23; refine (valid_any _ _ _).mono ?_; rintro e w3 ⟨rfl, hb⟩; rw [h1]) | (go_at_call 24; refine (rvalid_any _ _ _).mono ?_; rintro e w3 ⟨rfl, hb⟩; rw [h1]) | (go_at_call 9; refine (days_any _ _ _).mono ?_; rintro e w3 ⟨rfl, hb⟩) | (go_at_call 25; refine (rdays_any _ _ _).mono ?_; rintro e w3 ⟨rfl, hb⟩) | (go_at_call 12; refine (both_any _ _ _ _ _).mono ?_; rintro e w3 ⟨v, rfl, hown, hb, _⟩; obtain ⟨A1, c1, rfl, hsl1⟩ := own_sl hown; clear hown) | (go_at_call 26; refine (rboth_any _ _ _ _ _).mono ?_; rintro e w4 ⟨v, rfl, hown, hb, _⟩; obtain ⟨A2, c2, rfl, hsl2⟩ := own_sl hown; clear hown; replace hsl1 := hsl1.thr hb) | (go_at_call 15; refine (same_any _ _ _ _ _ _ _ _ _ hsl1 hsl2).mono ?_; rintro e w5 ⟨rfl, hb⟩; rw [HC.out]) | (go_at_call 11; refine (awake_any _).mono ?_; rintro e w5 ⟨rfl, hb⟩))
            go_split_ands
            go_wp2
            go_ret
            exact ⟨rfl, by assumption⟩
end Go.Proofs.Ytdiobapogjkjpaa
