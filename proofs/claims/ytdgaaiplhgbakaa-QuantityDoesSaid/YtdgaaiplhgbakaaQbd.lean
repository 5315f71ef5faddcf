/-
  Meet is what both bounds have in common, and Clamp leads to the nearest value: the walk of QuantityBounds. No condition.
-/
import Derived.Test.YtdgaaiplhgbakaaProg
import Derived.Test.YtdgaaiplhgbakaaQmet
import Derived.Test.YtdgaaiplhgbakaaQaw
namespace Go.Proofs.Ytdgaaiplhgbakaa
open Go.RowKit

set_option maxRecDepth 20000 in
theorem clamp_any (x b0 b1 : Int) (w : World) : Calls Try.prog 15 #[.int .i64 x, .agg #[.int .i64 b0, .int .i64 b1]] w fun e w' => e = .returned (.int .i64 (max (min x b1) b0)) ∧ Below w.heap.size w w' := by
  go_enter Try.func15, Try.ntmps15
  go_wp2
  all_goals
    go_ret
    exact ⟨ret_int (by omega), by go_grown⟩
theorem away_any (a b : Int) (ha : -100 ≤ a ∧ a ≤ 100) (hb : -100 ≤ b ∧ b ≤ 100) (w : World) : Calls Try.prog 16 #[.int .i64 a, .int .i64 b] w fun e w' => e = .returned (.int .i64 (max (a - b) (b - a))) ∧ w = w' := by
  obtain ⟨a0, a1⟩ := ha
  obtain ⟨b0, b1⟩ := hb
  go_enter Try.func16, Try.ntmps16
  go_wp2
  all_goals
    go_ret
    exact ⟨ret_int (by omega), rfl⟩
set_option maxHeartbeats 3200000 in
set_option maxRecDepth 20000 in
theorem bounds_walk (a b c d x : Int) (w : World) : Calls Try.prog 5 #[.int .i64 a, .int .i64 b, .int .i64 c, .int .i64 d, .int .i64 x] w fun e w' => e = .returned (.bool true) ∧ Below w.heap.size w w' := by
  go_enter Try.func5, Try.ntmps5
  obtain ⟨p0, hp0⟩ : ∃ p0, p0 = a % 40 := ⟨_, rfl⟩
  obtain ⟨p1, hp1⟩ : ∃ p1, p1 = b % 40 := ⟨_, rfl⟩
  obtain ⟨q0, hq0⟩ : ∃ q0, q0 = c % 40 := ⟨_, rfl⟩
  obtain ⟨q1, hq1⟩ : ∃ q1, q1 = d % 40 := ⟨_, rfl⟩
  have P0 : 0 ≤ p0 ∧ p0 < 40 := by omega
  have P1 : 0 ≤ p1 ∧ p1 < 40 := by omega
  have Q0 : 0 ≤ q0 ∧ q0 < 40 := by omega
  have Q1 : 0 ≤ q1 ∧ q1 < 40 := by omega
  have HP0 := hide hp0
  have HP1 := hide hp1
  have HQ0 := hide hq0
  have HQ1 := hide hq1
  clear hp0 hp1 hq0 hq1
  go_wp2_with (go_at_call 10; refine (mod_any _ _ (by omega) (by omega) _).mono ?_; rintro e w1 ⟨rfl, rfl⟩; first | rw [← HP0.out] | rw [← HP1.out] | rw [← HQ0.out] | rw [← HQ1.out])
  have h1 := (Blk.new w 33 #[.int .i64 p0, .int .i64 p1]).alloc (.cells #[.int .i64 q0, .int .i64 q1] 33)
  have h2 := Blk.new (w.alloc (.cells #[.int .i64 p0, .int .i64 p1] 33)) 33 #[.int .i64 q0, .int .i64 q1]
  have hB := (bel1 (w := w) (o := .cells #[.int .i64 p0, .int .i64 p1] 33)).alloc (by simp) (.cells #[.int .i64 q0, .int .i64 q1] 33)
  rw [World.size_alloc] at h2
  generalize ((w.alloc _).alloc _) = w2 at *
  obtain ⟨t, ht⟩ : ∃ t, t = x % 60 := ⟨_, rfl⟩
  have T0 : 0 ≤ t ∧ t < 60 := by omega
  obtain ⟨y, hy⟩ : ∃ y, y = max (min (t - 10) p1) p0 := ⟨_, rfl⟩
  have HY := hide (fun v (h : p0 ≤ v) (h2 : v ≤ p1) => show ¬ max (v - (t - 10)) (t - 10 - v) < max (y - (t - 10)) (t - 10 - y) by omega)
  have y0 : p0 ≤ y ∧ y ≤ 40 ∧ (p0 ≤ p1 → y ≤ p1) := by omega
  have HT := hide ht
  have HYE := hide hy
  have HMod := hide (fun W => show Calls Try.prog 10 #[.int .i64 x, .int .i64 60] W fun e w' => e = .returned (.int .i64 t) ∧ W = w' by
    rw [ht]; exact mod_any x 60 (by omega) (by omega) W)
  have HCl := hide (fun W => show Calls Try.prog 15 #[.int .i64 (t - 10), .agg #[.int .i64 p0, .int .i64 p1]] W fun e w' => e = .returned (.int .i64 y) ∧ Below W.heap.size W w' by
    rw [hy]; exact clamp_any (t - 10) p0 p1 W)
  clear ht hy HP0 HP1 HQ0 HQ1
  refine (qmeet_any p0 p1 q0 q1 w2).mono ?_
  rintro e w3 ⟨rfl, hb⟩
  have hB3 := bthr hB hb hB.size
  replace h1 := h1.below hb h1.lt
  replace h2 := h2.below hb h2.lt
  clear hB hb
  by_cases hok : p0 ≤ p1 ∧ q0 ≤ q1 ∧ max p0 q0 ≤ min p1 q1
  · obtain ⟨o1, o2, o3⟩ := hok
    obtain ⟨m0, hm0⟩ : ∃ m0, m0 = max p0 q0 := ⟨_, rfl⟩
    obtain ⟨m1, hm1⟩ : ∃ m1, m1 = min p1 q1 := ⟨_, rfl⟩
    rw [met_yes o1 o2 (show m0 ≤ m1 by omega) hm0.symm hm1.symm]
    have M0 : p0 ≤ m0 ∧ q0 ≤ m0 ∧ (m0 = p0 ∨ m0 = q0) := by omega
    have M1 : m1 ≤ p1 ∧ m1 ≤ q1 ∧ (m1 = p1 ∨ m1 = q1) := by omega
    have M2 : m0 ≤ m1 := by omega
    clear hm0 hm1 o3
    have h1' := h1.alloc (.cells #[.int .i64 m0, .int .i64 m1] 33)
    have h2' := h2.alloc (.cells #[.int .i64 m0, .int .i64 m1] 33)
    have h3' := Blk.new w3 33 #[.int .i64 m0, .int .i64 m1]
    have hB4 := hB3.alloc hB3.size (.cells #[.int .i64 m0, .int .i64 m1] 33)
    obtain ⟨c0, c1, _⟩ := h1'.facts2
    obtain ⟨d0, d1, _⟩ := h2'.facts2
    obtain ⟨e0, e1, _⟩ := h3'.facts2
    clear h1 h2 h2' h3' hB3
    go_wp2
    generalize w3.alloc _ = w4 at *
    go_loop [15, 16] (fun vn vv => ∃ (k : Nat) (N : Int), k ≤ 40 ∧ vv = .int .i64 k ∧ vn = .int .i64 N ∧ (0 ≤ N ∧ N ≤ k) ∧ (m0 < k → 0 < N)) (fun _ vv => 40 - (intOf vv).toNat)
    case atStart => exact ⟨0, 0, by omega, rfl, rfl, by omega, by omega⟩
    case round =>
      obtain ⟨k, N, hk, rfl, rfl, hN, hN2⟩ := hrel
      by_cases hlt : k < 40
      · have hkc : (k : Int) < 40 := by omega
        by_cases hq : (k : Int) ≤ q1 <;> by_cases hm : (k : Int) ≤ m1
        all_goals first | have D1 : decide ((k : Int) ≤ q1) = true := decide_eq_true hq | have D1 : decide ((k : Int) ≤ q1) = false := decide_eq_false hq
        all_goals first | have D2 : decide ((k : Int) ≤ m1) = true := decide_eq_true hm | have D2 : decide ((k : Int) ≤ m1) = false := decide_eq_false hm
        all_goals go_wp2
        all_goals first | (exfalso; omega) | (refine ⟨⟨k + 1, N + 1, ?_, ?_, ?_, ?_, ?_⟩, ?_⟩; (focus omega); (focus go_num); (focus (go_num; done)); (focus omega); (focus omega); (focus (simp [intOf]; omega))) | (refine ⟨⟨k + 1, N, ?_, ?_, ?_, ?_, ?_⟩, ?_⟩; (focus omega); (focus go_num); (focus rfl); (focus omega); (focus omega); (focus (simp [intOf]; omega))) | go_show
      · obtain rfl : k = 40 := by omega
        have hN3 : 0 < N := hN2 (by omega)
        go_wp2
        have hne : Nonempty (InW fun W => Below w4.heap.size w4 W) := ⟨⟨w4, Below.refl _ _⟩⟩
        have C0 := hide c0
        have C1 := hide c1
        replace c0 := inv_cell c0
        replace c1 := inv_cell c1
        clear d0 d1 e0 e1
        refine wp_region_inv (I := fun W => Below w4.heap.size w4 W) (by kernel_rfl) (by kernel_rfl) (Below.refl _ _).drew ?_
        repeat (go_big_quiet_step (first | (go_at_call 10; refine inv_same (HMod.out _)) | (go_at_call 15; refine inv_call (inv_closed w4) (HCl.out _))))
        refine wpQuiet_nil ?_
        rintro _ ⟨⟨w9, h9⟩, rfl⟩
        clear c0 c1 hne
        have c0 := cell_thr h9 C0.out
        have c1 := cell_thr h9 C1.out
        have hB9 := hide (bthr hB4 h9 hB4.size)
        clear h9 C0 C1
        go_wp2
        go_loop [19] (fun vv => ∃ v : Int, vv = .int .i64 v ∧ p0 ≤ v ∧ (v ≤ p1 + 1 ∨ v = p0)) (fun vv => (p1 + 1 - intOf vv).toNat)
        case atStart => exact ⟨p0, rfl, by omega, by omega⟩
        case round =>
          obtain ⟨v, rfl, v0, v1⟩ := hrel
          by_cases hlt : v ≤ p1
          · have hd := HY.out v v0 hlt
            go_wp2_with (first | (go_at_call 10; refine (HMod.out _).mono ?_; rintro e w' ⟨rfl, rfl⟩) | (go_at_call 16; refine (away_any _ _ (by omega) (by omega) _).mono ?_; rintro e w' ⟨rfl, rfl⟩))
            go_round
            case rel => exact ⟨v + 1, by go_num, by omega, by omega⟩
            case measure => simp [intOf]; omega
          · go_wp2_with fail
            refine (awake_any _).mono ?_
            rintro e w10 ⟨rfl, hb10⟩
            go_wp2
            go_ret
            exact ⟨rfl, bthr hB9.out hb10 hB9.out.size⟩
  · rw [met_no (show p1 < p0 ∨ q1 < q0 ∨ min p1 q1 < max p0 q0 by omega)]
    have hno : p1 < p0 ∨ q1 < q0 ∨ p1 < q0 ∨ q1 < p0 := by omega
    clear hok
    by_cases hp : p0 ≤ p1
    · have hpp : (decide (p1 < p0)) = false := decide_eq_false (by omega)
      have h1' := h1.alloc (.cells #[.int .i64 0, .int .i64 0] 33)
      have h2' := h2.alloc (.cells #[.int .i64 0, .int .i64 0] 33)
      have h3' := Blk.new w3 33 #[.int .i64 0, .int .i64 0]
      have hB4 := hB3.alloc hB3.size (.cells #[.int .i64 0, .int .i64 0] 33)
      obtain ⟨c0, c1, _⟩ := h1'.facts2
      obtain ⟨d0, d1, _⟩ := h2'.facts2
      obtain ⟨e0, e1, _⟩ := h3'.facts2
      clear h1 h2 h2' h3' hB3
      go_wp2
      generalize w3.alloc _ = w4 at *
      go_loop [15, 16] (fun vn vv => ∃ k : Nat, k ≤ 40 ∧ vv = .int .i64 k ∧ vn = .int .i64 0) (fun _ vv => 40 - (intOf vv).toNat)
      case atStart => exact ⟨0, by omega, rfl, rfl⟩
      case round =>
        obtain ⟨k, hk, rfl, rfl⟩ := hrel
        by_cases hlt : k < 40
        · have hkc : (k : Int) < 40 := by omega
          by_cases hq : (k : Int) ≤ q1
          all_goals first | have D1 : decide ((k : Int) ≤ q1) = true := decide_eq_true hq | have D1 : decide ((k : Int) ≤ q1) = false := decide_eq_false hq
          all_goals go_wp2
          all_goals first | (exfalso; omega) | (refine ⟨⟨k + 1, ?_, ?_, ?_⟩, ?_⟩; (focus omega); (focus go_num); (focus rfl); (focus (simp [intOf]; omega))) | go_show
        · obtain rfl : k = 40 := by omega
          go_wp2
          have hne : Nonempty (InW fun W => Below w4.heap.size w4 W) := ⟨⟨w4, Below.refl _ _⟩⟩
          have C0 := hide c0
          have C1 := hide c1
          replace c0 := inv_cell c0
          replace c1 := inv_cell c1
          clear d0 d1 e0 e1
          refine wp_region_inv (I := fun W => Below w4.heap.size w4 W) (by kernel_rfl) (by kernel_rfl) (Below.refl _ _).drew ?_
          repeat (go_big_quiet_step (first | (go_at_call 10; refine inv_same (HMod.out _)) | (go_at_call 15; refine inv_call (inv_closed w4) (HCl.out _))))
          refine wpQuiet_nil ?_
          rintro _ ⟨⟨w9, h9⟩, rfl⟩
          clear c0 c1 hne
          have c0 := cell_thr h9 C0.out
          have c1 := cell_thr h9 C1.out
          have hB9 := hide (bthr hB4 h9 hB4.size)
          clear h9 C0 C1
          go_wp2
          go_loop [19] (fun vv => ∃ v : Int, vv = .int .i64 v ∧ p0 ≤ v ∧ (v ≤ p1 + 1 ∨ v = p0)) (fun vv => (p1 + 1 - intOf vv).toNat)
          case atStart => exact ⟨p0, rfl, by omega, by omega⟩
          case round =>
            obtain ⟨v, rfl, v0, v1⟩ := hrel
            by_cases hlt : v ≤ p1
            · have hd := HY.out v v0 hlt
              go_wp2_with (first | (go_at_call 10; refine (HMod.out _).mono ?_; rintro e w' ⟨rfl, rfl⟩) | (go_at_call 16; refine (away_any _ _ (by omega) (by omega) _).mono ?_; rintro e w' ⟨rfl, rfl⟩))
              go_round
              case rel => exact ⟨v + 1, by go_num, by omega, by omega⟩
              case measure => simp [intOf]; omega
            · go_wp2_with fail
              refine (awake_any _).mono ?_
              rintro e w10 ⟨rfl, hb10⟩
              go_wp2
              go_ret
              exact ⟨rfl, bthr hB9.out hb10 hB9.out.size⟩
    · have hpp : (decide (p1 < p0)) = true := decide_eq_true (by omega)
      have h1' := h1.alloc (.cells #[.int .i64 0, .int .i64 0] 33)
      have h2' := h2.alloc (.cells #[.int .i64 0, .int .i64 0] 33)
      have h3' := Blk.new w3 33 #[.int .i64 0, .int .i64 0]
      have hB4 := hB3.alloc hB3.size (.cells #[.int .i64 0, .int .i64 0] 33)
      obtain ⟨c0, c1, _⟩ := h1'.facts2
      obtain ⟨d0, d1, _⟩ := h2'.facts2
      obtain ⟨e0, e1, _⟩ := h3'.facts2
      clear h1 h2 h2' h3' hB3
      go_wp2
      generalize w3.alloc _ = w4 at *
      go_loop [15, 16] (fun vn vv => ∃ k : Nat, k ≤ 40 ∧ vv = .int .i64 k ∧ vn = .int .i64 0) (fun _ vv => 40 - (intOf vv).toNat)
      case atStart => exact ⟨0, by omega, rfl, rfl⟩
      case round =>
        obtain ⟨k, hk, rfl, rfl⟩ := hrel
        by_cases hlt : k < 40
        · have hkc : (k : Int) < 40 := by omega
          by_cases hq : (k : Int) ≤ q1
          all_goals first | have D1 : decide ((k : Int) ≤ q1) = true := decide_eq_true hq | have D1 : decide ((k : Int) ≤ q1) = false := decide_eq_false hq
          all_goals go_wp2
          all_goals first | (exfalso; omega) | (refine ⟨⟨k + 1, ?_, ?_, ?_⟩, ?_⟩; (focus omega); (focus go_num); (focus rfl); (focus (simp [intOf]; omega))) | go_show
        · obtain rfl : k = 40 := by omega
          go_wp2
          have hne : Nonempty (InW fun W => Below w4.heap.size w4 W) := ⟨⟨w4, Below.refl _ _⟩⟩
          have C0 := hide c0
          have C1 := hide c1
          replace c0 := inv_cell c0
          replace c1 := inv_cell c1
          clear d0 d1 e0 e1
          refine wp_region_inv (I := fun W => Below w4.heap.size w4 W) (by kernel_rfl) (by kernel_rfl) (Below.refl _ _).drew ?_
          repeat (go_big_quiet_step (first | (go_at_call 10; refine inv_same (HMod.out _)) | (go_at_call 15; refine inv_call (inv_closed w4) (HCl.out _))))
          refine wpQuiet_nil ?_
          rintro _ ⟨⟨w9, h9⟩, rfl⟩
          clear c0 c1 hne
          have c0 := cell_thr h9 C0.out
          have c1 := cell_thr h9 C1.out
          have hB9 := hide (bthr hB4 h9 hB4.size)
          clear h9 C0 C1
          go_wp2
          go_loop [19] (fun vv => ∃ v : Int, vv = .int .i64 v ∧ p0 ≤ v ∧ (v ≤ p1 + 1 ∨ v = p0)) (fun vv => (p1 + 1 - intOf vv).toNat)
          case atStart => exact ⟨p0, rfl, by omega, by omega⟩
          case round =>
            obtain ⟨v, rfl, v0, v1⟩ := hrel
            by_cases hlt : v ≤ p1
            · exfalso; omega
            · go_wp2_with fail
              refine (awake_any _).mono ?_
              rintro e w10 ⟨rfl, hb10⟩
              go_wp2
              go_ret
              exact ⟨rfl, bthr hB9.out hb10 hB9.out.size⟩
end Go.Proofs.Ytdgaaiplhgbakaa
