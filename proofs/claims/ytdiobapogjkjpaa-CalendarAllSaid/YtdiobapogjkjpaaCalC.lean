/-
  Both is the days of both spans, ascending, the same both ways: the walk of CalendarBoth. Condition: its list can be read.
-/
import Derived.Test.YtdiobapogjkjpaaProg
import Derived.Test.YtdiobapogjkjpaaCalB
import Derived.Deep.RegionHeld3
namespace Go.Proofs.Ytdiobapogjkjpaa
open Go.RowKit

theorem bothL_comm (f t g u : Int) (k : Nat) : bothL g u f t k = bothL f t g u k := by
  unfold bothL
  congr 1
  exact List.filter_congr fun d _ => Bool.and_comm _ _
theorem bothL_prefix (f t g u : Int) (k m : Nat) : bothL f t g u k <+: bothL f t g u (k + m) := by
  induction m with
  | zero => exact List.prefix_refl _
  | succ m ih => rw [← Nat.add_assoc, bothL_succ]; exact ih.trans (List.prefix_append _ _)
theorem bothL_get {f t g u : Int} {k : Nat} (hk : k < 365) (h : (inB f t (k : Int) && inB g u (k : Int)) = true) : (bothL f t g u k).length < (bothL f t g u 365).length ∧ (bothL f t g u 365).getD (bothL f t g u k).length 0 = k := by
  obtain ⟨r, hr⟩ := bothL_prefix f t g u (k + 1) (365 - (k + 1))
  rw [show k + 1 + (365 - (k + 1)) = 365 from by omega, bothL_yes h] at hr
  rw [← hr]
  simp

theorem same_self (xs : List Int) : sameB xs xs = true := by simp [sameB]
set_option maxHeartbeats 3200000 in
set_option maxRecDepth 20000 in
theorem cboth_walk {A : Option Addr} {n c : Nat} {zs : List Int} {w : World} (hs : Sl w w.heap.size 1 A n c (ints zs)) : Calls Try.prog 4 #[.slice A n c] w fun e w' => e = .returned (.bool true) ∧ Below w.heap.size w w' := by
  go_enter Try.func4, Try.ntmps4
  go_wp2_with fail
  refine (new_any _ _ _ _ _ hs).mono ?_
  rintro e w1 ⟨rfl, hD1, hb1⟩
  clear hs
  go_wp2_with fail
  refine (span_any _ _ hD1).mono ?_
  rintro e w2 ⟨f, t, rfl, hft, hD2, hg2⟩
  go_wp2_with fail
  refine (span_any _ _ hD2).mono ?_
  rintro e w3 ⟨g, u, rfl, hgu, hD3, hg3⟩
  have hb3 : Below w.heap.size w w3 := below_grown hb1 (grown_trans hg2 hg3) hb1.size (Nat.le_refl _)
  clear hD1 hD2 hD3 hg2 hg3 hb1 hft hgu
  have hz3 := hb3.size
  go_wp2_with fail
  have hb4 := hb3.alloc hb3.size (.cells #[.int .i64 f, .int .i64 t] 24)
  have hb5 := hb4.alloc hb4.size (.cells #[.int .i64 g, .int .i64 u] 24)
  refine (both_any _ _ _ _ _).mono ?_
  rintro e w4 ⟨v, rfl, hown, hb6, _⟩
  obtain ⟨A1, c1, rfl, hsl⟩ := own_sl hown
  clear hown
  obtain ⟨y0, y1, _⟩ := (((Blk.new w3 24 #[.int .i64 f, .int .i64 t]).alloc (.cells #[.int .i64 g, .int .i64 u] 24)).below hb6 (by simp only [World.size_alloc]; omega)).facts2
  have hN := Blk.new (w3.alloc (.cells #[.int .i64 f, .int .i64 t] 24)) 24 #[.int .i64 g, .int .i64 u]
  rw [World.size_alloc] at hN
  obtain ⟨y2, y3, _⟩ := (hN.below hb6 (by simp only [World.size_alloc]; omega)).facts2
  have hB := bthr hb5 hb6 hb5.size
  clear hb3 hb4 hb5 hb6 hN hz3
  go_wp2_with fail
  go_loopw [7, 8] (fun m d wr => ∃ k : Nat, k ≤ 365 ∧ d = .int .i64 k ∧ m = .int .i64 ((bothL f t g u k).length : Nat) ∧ Below w4.heap.size w4 wr) (fun _ d _ => 365 - (intOf d).toNat)
  case atStart => exact ⟨0, by omega, rfl, rfl, Below.refl _ _⟩
  case round =>
    obtain ⟨k, hk, rfl, rfl, hbr⟩ := hrel
    have hle := bothL_le f t g u k
    have x0 := cell_thr hbr y0
    have x1 := cell_thr hbr y1
    have x2 := cell_thr hbr y2
    have x3 := cell_thr hbr y3
    by_cases hlt : k < 365
    · cases h1 : inB f t k
      · have HE := hide (bothL_no (f := f) (t := t) (g := g) (u := u) (k := k) (by simp [h1]))
        clear y0 y1 y2 y3
        go_wp2_with fail
        refine (in_any _ _ _ _).mono ?_
        rintro e w5 ⟨rfl, hb7⟩
        rw [h1]
        go_wp2
        go_roundw
        case rel => exact ⟨k + 1, by omega, by go_num, by rw [HE.out], bthr hbr hb7 hbr.size⟩
        case measure => simp [intOf]; omega
      · cases h2 : inB g u k
        · have HE := hide (bothL_no (f := f) (t := t) (g := g) (u := u) (k := k) (by simp [h1, h2]))
          clear y0 y1 y2 y3
          go_wp2_with fail
          refine (in_any _ _ _ _).mono ?_
          rintro e w5 ⟨rfl, hb7⟩
          rw [h1]
          have z2 := cell_thr hb7 x2
          have z3 := cell_thr hb7 x3
          go_wp2_with fail
          refine (in_any _ _ _ _).mono ?_
          rintro e w6 ⟨rfl, hb8⟩
          rw [h2]
          go_wp2
          go_roundw
          case rel => exact ⟨k + 1, by omega, by go_num, by rw [HE.out], bthr (bthr hbr hb7 hbr.size) hb8 (by have := hb7.size; have := hbr.size; omega)⟩
          case measure => simp [intOf]; omega
        · have HE := hide (bothL_yes (f := f) (t := t) (g := g) (u := u) (k := k) (by simp [h1, h2]))
          obtain ⟨hl, hget⟩ := bothL_get (f := f) (t := t) (g := g) (u := u) hlt (by simp [h1, h2])
          obtain ⟨bb, oo, rfl, hbb, hcell⟩ := hsl.at_ hl
          have hx := cell_thr hbr (hcell _ _ (ints_get _ _ hl))
          rw [hget] at hx
          have HL := hide hget
          clear y0 y1 y2 y3 hcell hget
          obtain ⟨m, hm⟩ : ∃ m, m = (bothL f t g u k).length := ⟨_, rfl⟩
          rw [← hm] at hx hl hle
          rw [← hm]
          have HM := hide hm; clear hm
          go_wp2_with fail
          refine (in_any _ _ _ _).mono ?_
          rintro e w5 ⟨rfl, hb7⟩
          rw [h1]
          have z2 := cell_thr hb7 x2
          have z3 := cell_thr hb7 x3
          have hx5 := cell_thr hb7 hx
          clear x0 x1 x2 x3 hx
          go_wp2_with fail
          refine (in_any _ _ _ _).mono ?_
          rintro e w6 ⟨rfl, hb8⟩
          rw [h2]
          have hx6 := cell_thr hb8 hx5
          clear z2 z3 hx5
          go_wp2
          go_roundw
          case rel => exact ⟨k + 1, by omega, by go_num, by rw [HE.out, List.length_append, HM.out]; rfl, bthr (bthr hbr hb7 hbr.size) hb8 (by have := hb7.size; have := hbr.size; omega)⟩
          case measure => simp [intOf]; omega
    · obtain rfl : k = 365 := by omega
      have HC := hide (bothL_comm f t g u 365)
      have HD : Hid (daysN f t = (bothL f t f t 365).length) := rfl
      clear hle y0 y1 y2 y3
      go_wp2_with fail
      go_region_held3 (fun w' => w'.cell? ⟨w3.heap.size, 0, none⟩ = some (.int .i64 f) ∧ w'.cell? ⟨w3.heap.size, 1, none⟩ = some (.int .i64 t) ∧ w'.cell? ⟨w3.heap.size + 1, 0, none⟩ = some (.int .i64 g) ∧ w'.cell? ⟨w3.heap.size + 1, 1, none⟩ = some (.int .i64 u) ∧ Below w4.heap.size w4 w')
        (first | exact ⟨x0, x1, x2, x3, hbr.drew⟩ | go_keep | (go_split_ands; exact ⟨cell_thr hb (by assumption), cell_thr hb (by assumption), cell_thr hb (by assumption), cell_thr hb (by assumption), bthr (by assumption) hb (Below.size (by assumption))⟩))
        (first | (go_at_call 12; ((with_reducible refine (both_any g u f t _).mono ?_)); rintro e w5 ⟨v, rfl, hown, hb, _⟩; rw [HC.out] at hown; obtain ⟨A2, c2, rfl, hsl2⟩ := own_sl hown; clear hown) | (go_at_call 12; ((with_reducible refine (both_any f t f t _).mono ?_)); rintro e w5 ⟨v, rfl, hown, hb, _⟩; rw [← HD.out] at hown; obtain ⟨A2, c2, rfl, hsl2⟩ := own_sl hown; clear hown) | (go_at_call 15; refine (same_any _ _ (bothL f t g u 365) _ _ (bothL f t g u 365) _ _ _ ?_ ?_).mono ?_; (go_split_ands; exact hsl.thr (by assumption)); assumption; rintro e w5 ⟨rfl, hb⟩; rw [same_self]) | (go_at_call 9; refine (days_any _ _ _).mono ?_; rintro e w5 ⟨rfl, hb⟩) | (go_at_call 11; refine (awake_any _).mono ?_; rintro e w5 ⟨rfl, hb⟩))
      go_split_ands
      go_wp2
      go_ret
      exact ⟨rfl, bthr hB (by assumption) hB.size⟩
end Go.Proofs.Ytdiobapogjkjpaa
