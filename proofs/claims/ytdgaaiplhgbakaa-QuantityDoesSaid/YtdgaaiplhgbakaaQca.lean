/-
  Contracts of Scale and Carry on both sides, and of the reference's Clamp, at whatever integers. No condition.
-/
import Derived.Test.YtdgaaiplhgbakaaProg
import Derived.Test.YtdgaaiplhgbakaaQsc
namespace Go.Proofs.Ytdgaaiplhgbakaa
open Go.RowKit

theorem rin_any (n m : Int) (w : World) : Calls Try.prog 30 #[.int .i64 n, .int .i64 m] w fun e w' => e = .returned (.bool (wit n m)) ∧ w = w' := by
  by_cases h : 0 ≤ n
  all_goals
    go_enter Try.func30, Try.ntmps30
    go_wp2
    go_ret
    exact ⟨ret_bool (by simp [wit]; try omega), rfl⟩
theorem ca_one {a num den c : Int} (h : 274877906944 < den) : caE a num den c = 1 := by unfold caE; rw [if_pos h]
theorem ca_sc {a num den c : Int} (h : ¬ 274877906944 < den) (h2 : ¬ scE a num den = 0) : caE a num den c = scE a num den := by unfold caE; rw [if_neg h, if_neg h2]
theorem ca_three {a num den c : Int} (h : ¬ 274877906944 < den) (h2 : scE a num den = 0) (h3 : c < 0 ∨ den ≤ c) : caE a num den c = 3 := by unfold caE; rw [if_neg h, if_pos h2, if_pos h3]
theorem ca_none {a num den c : Int} (h : ¬ 274877906944 < den) (h2 : scE a num den = 0) (h3 : ¬ (c < 0 ∨ den ≤ c)) : caE a num den c = 0 := by unfold caE; rw [if_neg h, if_pos h2, if_neg h3]
theorem ca_no {a num den c : Int} (h : ¬ caE a num den c = 0) : caQ a num den c = 0 ∧ caR a num den c = 0 := by unfold caQ caR; rw [if_neg h, if_neg h]; exact ⟨rfl, rfl⟩
theorem ca_yes {a num den c : Int} (h : caE a num den c = 0) : caQ a num den c = (a * num + c) / den ∧ caR a num den c = (a * num + c) % den := by unfold caQ caR; rw [if_pos h, if_pos h]; exact ⟨rfl, rfl⟩
def CaPost (w : World) (a num den c : Int) (e : Ending) (w' : World) : Prop := e = .returned (.tuple #[.int .i64 (caQ a num den c), .int .i64 (caR a num den c), .int .i64 (caE a num den c)]) ∧ Below w.heap.size w w'
set_option maxRecDepth 20000 in
theorem carry_any (a num den c : Int) (w : World) : Calls Try.prog 18 #[.int .i64 a, .int .i64 num, .int .i64 den, .int .i64 c] w (CaPost w a num den c) := by
  by_cases h0 : caE a num den c = 0
  · refine (carry_ok a num den c h0 w).mono ?_
    rintro e w' ⟨rfl, hb⟩
    exact ⟨by rw [(ca_yes h0).1, (ca_yes h0).2, h0], hb⟩
  · have HN := hide (ca_no h0)
    by_cases h1 : 274877906944 < den
    · have HE := hide (ca_one (a := a) (num := num) (c := c) h1)
      clear h0
      go_enter Try.func18, Try.ntmps18
      go_wp2
      exact bodyPost_ret (v := .tuple #[.int .i64 0, .int .i64 0, .int .i64 1]) (by simp [results, Try.results18, go_sem]) rfl ⟨by rw [HN.out.1, HN.out.2, HE.out], Below.refl _ _⟩
    · by_cases h2 : scE a num den = 0
      · have h3 : c < 0 ∨ den ≤ c := by
          by_cases h3 : c < 0 ∨ den ≤ c
          · exact h3
          · exact absurd (ca_none h1 h2 h3) h0
        have HE := hide (ca_three h1 h2 h3)
        have H2 := hide h2
        clear h0 h2
        by_cases h4 : c < 0
        · clear h3
          go_enter Try.func18, Try.ntmps18
          go_wp2_with fail
          refine (scaled_any _ _ _ _).mono ?_
          rintro e w' ⟨rfl, rfl⟩
          rw [H2.out]
          go_wp2
          exact bodyPost_ret (v := .tuple #[.int .i64 0, .int .i64 0, .int .i64 3]) (by simp [results, Try.results18, go_sem]) rfl ⟨by rw [HN.out.1, HN.out.2, HE.out], Below.refl _ _⟩
        · have h5 : den ≤ c := by omega
          clear h3
          go_enter Try.func18, Try.ntmps18
          go_wp2_with fail
          refine (scaled_any _ _ _ _).mono ?_
          rintro e w' ⟨rfl, rfl⟩
          rw [H2.out]
          go_wp2
          exact bodyPost_ret (v := .tuple #[.int .i64 0, .int .i64 0, .int .i64 3]) (by simp [results, Try.results18, go_sem]) rfl ⟨by rw [HN.out.1, HN.out.2, HE.out], Below.refl _ _⟩
      · have HE := hide (ca_sc (c := c) h1 h2)
        have h3 : (scE a num den != 0) = true := by simpa using h2
        clear h0 h2
        go_enter Try.func18, Try.ntmps18
        go_wp2_with fail
        refine (scaled_any _ _ _ _).mono ?_
        rintro e w' ⟨rfl, rfl⟩
        generalize scE a num den = z at *
        go_wp2
        exact bodyPost_ret (v := .tuple #[.int .i64 0, .int .i64 0, .int .i64 z]) (by simp [results, Try.results18, go_sem]) rfl ⟨by rw [HN.out.1, HN.out.2, HE.out], Below.refl _ _⟩
theorem rscale_any (a num den : Int) (w : World) : Calls Try.prog 21 #[.int .i64 a, .int .i64 num, .int .i64 den] w fun e w' => e = .returned (.tuple #[.int .i64 (scV a num den), .int .i64 (scE a num den)]) ∧ w = w' := by
  cases h1 : wit a 274877906944 <;> cases h2 : wit num 16777216
  all_goals by_cases h3 : den < 1
  all_goals first
    | have HE := hide (sc_one (a := a) (num := num) (den := den) (by rw [h1, h2]; rfl))
    | have HE := hide (sc_two (a := a) (num := num) (den := den) (by rw [h1, h2]; rfl) h3)
    | have HE := hide (sc_ok (a := a) (num := num) (den := den) (by rw [h1, h2]; rfl) h3)
  all_goals first
    | have HV := hide (show scV a num den = 0 from by unfold scV; rw [HE.out]; rfl)
    | have HV := hide (show scV a num den = a * num / den from by unfold scV; rw [HE.out]; rfl)
  all_goals have H1 := hide h1
  all_goals have H2 := hide h2
  all_goals try (obtain ⟨p0, p1⟩ := mul_in (wit_iff.1 h1) (wit_iff.1 h2))
  all_goals clear h1 h2
  all_goals
    go_enter Try.func21, Try.ntmps21
    go_wp2_with (go_at_call 30; refine (rin_any _ _ _).mono ?_; rintro e w' ⟨rfl, rfl⟩; first | rw [H1.out] | rw [H2.out])
    go_ret2
    exact ⟨by rw [HV.out, HE.out]; rfl, rfl⟩
set_option maxHeartbeats 1600000 in
set_option maxRecDepth 20000 in
theorem rcarry_any (a num den c : Int) (w : World) : Calls Try.prog 22 #[.int .i64 a, .int .i64 num, .int .i64 den, .int .i64 c] w (CaPost w a num den c) := by
  by_cases h4 : 274877906944 < den
  · have HE := hide (ca_one (a := a) (num := num) (c := c) h4)
    have HN := hide (ca_no (a := a) (num := num) (den := den) (c := c) (by rw [HE.out]; omega))
    cases h1 : wit a 274877906944 <;> cases h2 : wit num 16777216
    all_goals have H1 := hide h1
    all_goals have H2 := hide h2
    all_goals have H5 := hide h1
    all_goals clear h1 h2
    all_goals
      go_enter Try.func22, Try.ntmps22
      go_wp2_with (go_at_call 30; refine (rin_any _ _ _).mono ?_; rintro e w' ⟨rfl, rfl⟩; first | rw [H1.out] | rw [H2.out] | rw [H5.out])
      exact bodyPost_ret (v := .tuple #[.int .i64 0, .int .i64 0, .int .i64 1]) (by simp [results, Try.results22, go_sem]) rfl ⟨by rw [HN.out.1, HN.out.2, HE.out], Below.refl _ _⟩
  · cases hb : (wit a 274877906944 && wit num 16777216)
    · have HE := hide ((ca_sc (c := c) h4 (by rw [sc_one hb]; omega)).trans (sc_one (den := den) hb))
      have HN := hide (ca_no (a := a) (num := num) (den := den) (c := c) (by rw [HE.out]; omega))
      cases h1 : wit a 274877906944 <;> cases h2 : wit num 16777216
      all_goals first | (rw [h1, h2] at hb; cases hb; done) | skip
      all_goals have H1 := hide h1
      all_goals have H2 := hide h2
      all_goals have H5 := hide h1
      all_goals clear h1 h2 hb
      all_goals
        go_enter Try.func22, Try.ntmps22
        go_wp2_with (go_at_call 30; refine (rin_any _ _ _).mono ?_; rintro e w' ⟨rfl, rfl⟩; first | rw [H1.out] | rw [H2.out] | rw [H5.out])
        exact bodyPost_ret (v := .tuple #[.int .i64 0, .int .i64 0, .int .i64 1]) (by simp [results, Try.results22, go_sem]) rfl ⟨by rw [HN.out.1, HN.out.2, HE.out], Below.refl _ _⟩
    · have h1 : wit a 274877906944 = true := (Bool.and_eq_true_iff.1 hb).1
      have h2 : wit num 16777216 = true := (Bool.and_eq_true_iff.1 hb).2
      have H1 := hide h1
      have H2 := hide h2
      by_cases h3 : den < 1
      · have HE := hide ((ca_sc (c := c) h4 (by rw [sc_two hb h3]; omega)).trans (sc_two hb h3))
        have HN := hide (ca_no (a := a) (num := num) (den := den) (c := c) (by rw [HE.out]; omega))
        have H5 := hide h1
        clear h1 h2 hb
        go_enter Try.func22, Try.ntmps22
        go_wp2_with (go_at_call 30; refine (rin_any _ _ _).mono ?_; rintro e w' ⟨rfl, rfl⟩; first | rw [H1.out] | rw [H2.out] | rw [H5.out])
        exact bodyPost_ret (v := .tuple #[.int .i64 0, .int .i64 0, .int .i64 2]) (by simp [results, Try.results22, go_sem]) rfl ⟨by rw [HN.out.1, HN.out.2, HE.out], Below.refl _ _⟩
      · obtain ⟨p0, p1⟩ := mul_in (wit_iff.1 h1) (wit_iff.1 h2)
        cases h5 : wit c (den - 1)
        · have HE := hide (ca_three (c := c) h4 (sc_ok hb h3) (by have := wit_not.1 h5; omega))
          have HN := hide (ca_no (a := a) (num := num) (den := den) (c := c) (by rw [HE.out]; omega))
          have H5 := hide h5
          clear h1 h2 hb h5
          go_enter Try.func22, Try.ntmps22
          go_wp2_with (go_at_call 30; refine (rin_any _ _ _).mono ?_; rintro e w' ⟨rfl, rfl⟩; first | rw [H1.out] | rw [H2.out] | rw [H5.out])
          exact bodyPost_ret (v := .tuple #[.int .i64 0, .int .i64 0, .int .i64 3]) (by simp [results, Try.results22, go_sem]) rfl ⟨by rw [HN.out.1, HN.out.2, HE.out], Below.refl _ _⟩
        · obtain ⟨c0, c1⟩ := wit_iff.1 h5
          have HE := hide (ca_none (c := c) h4 (sc_ok hb h3) (by omega))
          have HN := hide (ca_yes HE.out)
          have H5 := hide h5
          clear h1 h2 hb h5
          go_enter Try.func22, Try.ntmps22
          go_wp2_with (go_at_call 30; refine (rin_any _ _ _).mono ?_; rintro e w' ⟨rfl, rfl⟩; first | rw [H1.out] | rw [H2.out] | rw [H5.out])
          go_quiet (fail)
          go_wp2
          exact bodyPost_ret (v := .tuple #[.int .i64 ((a * num + c) / den), .int .i64 ((a * num + c) % den), .int .i64 0]) (by simp [results, Try.results22, go_sem]) rfl ⟨by rw [HN.out.1, HN.out.2, HE.out], below_drewN (Below.refl _ _) _⟩
set_option maxRecDepth 20000 in
theorem rclamp_any (x b0 b1 : Int) (w : World) : Calls Try.prog 24 #[.int .i64 x, .agg #[.int .i64 b0, .int .i64 b1]] w fun e w' => e = .returned (.int .i64 (max (min x b1) b0)) ∧ Below w.heap.size w w' := by
  go_enter Try.func24, Try.ntmps24
  go_wp2
  all_goals
    go_ret
    exact ⟨ret_int (by omega), by go_grown⟩
end Go.Proofs.Ytdgaaiplhgbakaa
