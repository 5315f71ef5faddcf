/-
  Contracts of the reference's calendar: Valid, In, Both, Days, Time return what the calendar's do. No condition.
-/
import Derived.Test.YtdiobapogjkjpaaProg
import Derived.Test.YtdiobapogjkjpaaTime
namespace Go.Proofs.Ytdiobapogjkjpaa
open Go.RowKit

theorem rvalid_any (f t : Int) (w : World) :
    Calls Try.prog 24 #[.agg #[.int .i64 f, .int .i64 t]] w fun e w' => e = .returned (.bool (okSpan f t)) ∧ Below w.heap.size w w' := by
  cases h : wit f 364
  all_goals
    go_enter Try.func24, Try.ntmps24
    go_wp2_with (go_at_call 31; refine (risday_any _ _).mono ?_; rintro e w' ⟨rfl, rfl⟩)
    go_ret
    exact ⟨ret_bool (by simp [okSpan, h]), bel1⟩
theorem rin_any (f t d : Int) (w : World) :
    Calls Try.prog 22 #[.agg #[.int .i64 f, .int .i64 t], .int .i64 d] w fun e w' => e = .returned (.bool (inB f t d)) ∧ Below w.heap.size w w' := by
  cases h1 : okSpan f t
  · go_enter Try.func22, Try.ntmps22
    go_wp2_with (go_at_call 24; refine (rvalid_any _ _ _).mono ?_; rintro e w' ⟨rfl, hb⟩)
    go_ret
    exact ⟨ret_bool (by simp [inB_1 h1]), bel2 hb⟩
  · cases h2 : wit d 364
    · go_enter Try.func22, Try.ntmps22
      go_wp2_with (first | (go_at_call 24; refine (rvalid_any _ _ _).mono ?_; rintro e w' ⟨rfl, hb⟩) | (go_at_call 31; refine (risday_any _ _).mono ?_; rintro e w' ⟨rfl, rfl⟩))
      go_ret
      exact ⟨ret_bool (by simp [inB_2 h2]), bel2 hb⟩
    · by_cases h3 : f ≤ t
      · by_cases h4 : f ≤ d
        all_goals
          go_enter Try.func22, Try.ntmps22
          go_wp2_with (first | (go_at_call 24; refine (rvalid_any _ _ _).mono ?_; rintro e w' ⟨rfl, hb⟩; obtain ⟨hc, hf⟩ := bcell hb) | (go_at_call 31; refine (risday_any _ _).mono ?_; rintro e w' ⟨rfl, rfl⟩))
          go_ret
          exact ⟨ret_bool (by simp [inB_3 h1 h2 h3]; try omega), bel2 hb⟩
      · by_cases h4 : f ≤ d
        all_goals
          go_enter Try.func22, Try.ntmps22
          go_wp2_with (first | (go_at_call 24; refine (rvalid_any _ _ _).mono ?_; rintro e w' ⟨rfl, hb⟩; obtain ⟨hc, hf⟩ := bcell hb) | (go_at_call 31; refine (risday_any _ _).mono ?_; rintro e w' ⟨rfl, rfl⟩))
          go_ret
          exact ⟨ret_bool (by simp [inB_4 h1 h2 (by omega)]; try omega), bel2 hb⟩

set_option maxRecDepth 20000 in
theorem rboth_any (f t g u : Int) (w : World) :
    Calls Try.prog 26 #[.agg #[.int .i64 f, .int .i64 t], .agg #[.int .i64 g, .int .i64 u]] w fun e w' => ∃ v, e = .returned v ∧ w'.ownsRow w.heap.size 3 1 v (bothL f t g u 365).length (ints (bothL f t g u 365)) ∧ Below w.heap.size w w' ∧ (bothL f t g u 365 = [] → v = .slice none 0 0) := by
  go_enter Try.func26, Try.ntmps26
  go_wp2
  go_loopw [5, 7] (fun v i wr => ∃ k : Nat, k ≤ 365 ∧ i = .int .i64 k ∧ wr.ownsRow (w.heap.size + 2) 3 1 v (bothL f t g u k).length (ints (bothL f t g u k)) ∧ Below (w.heap.size + 2) ((w.alloc (.cells #[.int .i64 f, .int .i64 t] 24)).alloc (.cells #[.int .i64 g, .int .i64 u] 24)) wr ∧ Hid (bothL f t g u k = [] → v = .slice none 0 0))
    (fun _ i _ => 365 - (intOf i).toNat)
  case atStart => exact ⟨0, by omega, rfl, by simpa [bothL, ints] using World.ownsRow_nil _ _ _ _, Below.refl _ _, fun _ => rfl⟩
  case round =>
    obtain ⟨k, hk, rfl, hown, hb, hnil⟩ := hrel
    obtain ⟨hc, hf⟩ := bcell hb
    have hs : w.heap.size + 2 ≤ wr.heap.size := by have := hb.size; simpa using this
    have hs0 : w.heap.size < wr.heap.size := by omega
    have hs1 : w.heap.size + 1 < wr.heap.size := by omega
    by_cases hlt : k < 365
    · cases h1 : inB f t k
      · go_wp2_with (go_at_call 22; refine (rin_any _ _ _ _).mono ?_; rintro e w1 ⟨rfl, hb1⟩)
        go_roundw
        case rel => exact ⟨k + 1, by omega, by go_num, by rw [bothL_no (by simp [h1])]; exact ownsRow_below hown hb1, bthr hb hb1 hs, by rw [bothL_no (by simp [h1])]; exact hnil⟩
        case measure => simp [intOf]; omega
      · cases h2 : inB g u k
        all_goals
          go_wp2_with fail
          refine (rin_any _ _ _ _).mono ?_; rintro e w1 ⟨rfl, hb1⟩; obtain ⟨hc1, hf1⟩ := bcell hb1
          go_wp2_with fail
          refine (rin_any _ _ _ _).mono ?_; rintro e w2 ⟨rfl, hb2⟩
          have hbb := bthr (bthr hb hb1 hs) hb2 (by have := hb1.size; omega)
          have hown2 := ownsRow_below (ownsRow_below hown hb1) hb2
          have hs2 : w.heap.size + 2 ≤ w2.heap.size := by have := hbb.size; simpa using this
          clear hb hb1 hb2 hc hf hc1 hf1 hs hs0 hs1
        · go_wp2
          go_roundw
          case rel => exact ⟨k + 1, by omega, by go_num, by rw [bothL_no (by simp [h1, h2])]; exact hown2, hbb, by rw [bothL_no (by simp [h1, h2])]; exact hnil⟩
          case measure => simp [intOf]; omega
        · have hle := bothL_le f t g u k
          go_wp2_with (at_builtin; refine wpList_push rfl _ _ _ rfl (w.heap.size + 2) _ _ slInt _ _ _ rfl hown2 _ _ rfl rfl rfl (by omega) hs2 ?_)
          intro v' w3 hown3 hg3 _
          have hb3 := hbb.trans (below_push hown2 hg3 hs2)
          go_wp2
          go_roundw
          case rel => exact ⟨k + 1, by omega, by go_num, by rw [bothL_yes (by simp [h1, h2]), ints_append, List.length_append]; exact hown3, hb3, fun he => by rw [bothL_yes (by simp [h1, h2])] at he; simp at he⟩
          case measure => simp [intOf]; omega
    · obtain rfl : k = 365 := by omega
      go_wp2
      go_ret
      exact ⟨_, rfl, ownsRow_base hown (by omega), bel3 hb (by omega), hnil.out⟩
theorem rdays_any (f t : Int) (w : World) :
    Calls Try.prog 25 #[.agg #[.int .i64 f, .int .i64 t]] w fun e w' => e = .returned (.int .i64 (daysN f t)) ∧ Below w.heap.size w w' := by
  go_enter Try.func25, Try.ntmps25
  go_wp2_with fail
  refine (rboth_any _ _ _ _ _).mono ?_; rintro e w' ⟨v, rfl, hown, hb, _⟩
  obtain ⟨A, c, rfl, hsl⟩ := own_sl hown
  clear hown
  go_wp2
  go_ret
  exact ⟨rfl, bel2 hb⟩
theorem rt_eq (y d s : Int) : (y * 365 + d) * 96 + s = y * 35040 + d * 96 + s := by omega
theorem rtime_any (y d s : Int) (w : World) : Calls Try.prog 21 #[.int .i64 y, .int .i64 d, .int .i64 s] w fun e w' => e = .returned (timeVal y d s) ∧ w = w' := by
  cases h1 : wit y 16777216
  · have H := hide (timeVal_no (y := y) (d := d) (s := s) (by simp [okName, h1]))
    go_enter Try.func21, Try.ntmps21
    go_wp2_with (go_at_call 30; refine (refIn_any _ _ _).mono ?_; rintro e w' ⟨rfl, rfl⟩)
    go_ret2
    exact ⟨by rw [H.out]; rfl, rfl⟩
  · cases h2 : wit d 364
    · have H := hide (timeVal_no (y := y) (d := d) (s := s) (by simp [okName, h2]))
      go_enter Try.func21, Try.ntmps21
      go_wp2_with (first | (go_at_call 30; refine (refIn_any _ _ _).mono ?_; rintro e w' ⟨rfl, rfl⟩) | (go_at_call 31; refine (risday_any _ _).mono ?_; rintro e w' ⟨rfl, rfl⟩))
      go_ret2
      exact ⟨by rw [H.out]; rfl, rfl⟩
    · cases h3 : wit s 95
      · have H := hide (timeVal_no (y := y) (d := d) (s := s) (by simp [okName, h3]))
        go_enter Try.func21, Try.ntmps21
        go_wp2_with (first | (go_at_call 30; refine (refIn_any _ _ _).mono ?_; rintro e w' ⟨rfl, rfl⟩) | (go_at_call 31; refine (risday_any _ _).mono ?_; rintro e w' ⟨rfl, rfl⟩))
        go_ret2
        exact ⟨by rw [H.out]; rfl, rfl⟩
      · obtain ⟨a0, a1⟩ := wit_iff.1 h1
        obtain ⟨b0, b1⟩ := wit_iff.1 h2
        obtain ⟨c0, c1⟩ := wit_iff.1 h3
        by_cases hm : 16777216 < y * 35040 + d * 96 + s
        · have H := hide (timeVal_big (y := y) (d := d) (s := s) (by simp [okName, h1, h2, h3]) hm)
          have hm' : 16777216 < (y * 365 + d) * 96 + s := by omega
          go_enter Try.func21, Try.ntmps21
          go_wp2_with (first | (go_at_call 30; refine (refIn_any _ _ _).mono ?_; rintro e w' ⟨rfl, rfl⟩) | (go_at_call 31; refine (risday_any _ _).mono ?_; rintro e w' ⟨rfl, rfl⟩))
          go_ret2
          exact ⟨by rw [H.out]; rfl, rfl⟩
        · have H := hide (timeVal_ok (y := y) (d := d) (s := s) (by simp [okName, h1, h2, h3]) hm)
          have hm' : ¬ 16777216 < (y * 365 + d) * 96 + s := by omega
          have HE := hide (rt_eq y d s)
          go_enter Try.func21, Try.ntmps21
          go_wp2_with (first | (go_at_call 30; refine (refIn_any _ _ _).mono ?_; rintro e w' ⟨rfl, rfl⟩) | (go_at_call 31; refine (risday_any _ _).mono ?_; rintro e w' ⟨rfl, rfl⟩))
          go_ret2
          exact ⟨by rw [H.out, ← HE.out]; rfl, rfl⟩

end Go.Proofs.Ytdiobapogjkjpaa
