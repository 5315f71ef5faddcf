/-
  Contracts of Scale and Carry. No condition.
-/
import Derived.Test.YtdgaaiplhgbakaaProg
import Derived.Test.YtdgaaiplhgbakaaQaw
namespace Go.Proofs.Ytdgaaiplhgbakaa
open Go.RowKit

def scE (a num den : Int) : Int := if wit a 274877906944 && wit num 16777216 then (if den < 1 then 2 else 0) else 1
def scV (a num den : Int) : Int := if scE a num den = 0 then a * num / den else 0
theorem sc_one {a num den : Int} (h : (wit a 274877906944 && wit num 16777216) = false) : scE a num den = 1 := by simp only [scE, h]; simp
theorem sc_two {a num den : Int} (h : (wit a 274877906944 && wit num 16777216) = true) (h2 : den < 1) : scE a num den = 2 := by simp only [scE, h, h2]; simp
theorem sc_ok {a num den : Int} (h : (wit a 274877906944 && wit num 16777216) = true) (h2 : ¬ den < 1) : scE a num den = 0 := by simp only [scE, h, h2]; simp
theorem sc_zero {a num den : Int} (h : scE a num den = 0) : (0 ≤ a ∧ a ≤ 274877906944) ∧ (0 ≤ num ∧ num ≤ 16777216) ∧ 1 ≤ den := by
  cases hw : wit a 274877906944 && wit num 16777216
  · rw [sc_one hw] at h; omega
  · by_cases hd : den < 1
    · rw [sc_two hw hd] at h; omega
    · rw [Bool.and_eq_true, wit_iff, wit_iff] at hw
      exact ⟨hw.1, hw.2, by omega⟩
theorem mul_in {a n : Int} (ha : 0 ≤ a ∧ a ≤ 274877906944) (hn : 0 ≤ n ∧ n ≤ 16777216) : 0 ≤ a * n ∧ a * n ≤ 4611686018427387904 := by
  refine ⟨Int.mul_nonneg ha.1 hn.1, ?_⟩
  have := Int.mul_le_mul ha.2 hn.2 hn.1 (by omega)
  omega
theorem scaled_any (a num den : Int) (w : World) : Calls Try.prog 31 #[.int .i64 a, .int .i64 num, .int .i64 den] w fun e w' => e = .returned (.int .i64 (scE a num den)) ∧ w = w' := by
  cases h1 : wit a 274877906944 <;> cases h2 : wit num 16777216
  all_goals by_cases h3 : den < 1
  all_goals first
    | have HE := hide (sc_one (a := a) (num := num) (den := den) (by rw [h1, h2]; rfl))
    | have HE := hide (sc_two (a := a) (num := num) (den := den) (by rw [h1, h2]; rfl) h3)
    | have HE := hide (sc_ok (a := a) (num := num) (den := den) (by rw [h1, h2]; rfl) h3)
  all_goals have H1 := hide h1
  all_goals have H2 := hide h2
  all_goals clear h1 h2
  all_goals
    go_enter Try.func31, Try.ntmps31
    go_wp2_with (go_at_call 26; refine (within_any _ _ _).mono ?_; rintro e w' ⟨rfl, rfl⟩; first | rw [H1.out] | rw [H2.out])
    go_ret
    exact ⟨ret_int HE.out.symm, rfl⟩
theorem scale_any (a num den : Int) (w : World) : Calls Try.prog 17 #[.int .i64 a, .int .i64 num, .int .i64 den] w fun e w' => e = .returned (.tuple #[.int .i64 (scV a num den), .int .i64 (scE a num den)]) ∧ w = w' := by
  by_cases h : scE a num den = 0
  · obtain ⟨ha, hn, hd⟩ := sc_zero h
    obtain ⟨p0, p1⟩ := mul_in ha hn
    have HV := hide (show scV a num den = a * num / den by simp [scV, h])
    have HE := hide h
    clear h
    go_enter Try.func17, Try.ntmps17
    go_wp2_with fail
    refine (scaled_any _ _ _ _).mono ?_
    rintro e w' ⟨rfl, rfl⟩
    rw [HE.out]
    go_wp2
    go_ret2
    exact ⟨by rw [HV.out, HE.out]; rfl, rfl⟩
  · have HV := hide (show scV a num den = 0 by simp [scV, h])
    have h2 : (scE a num den != 0) = true := by simpa using h
    go_enter Try.func17, Try.ntmps17
    go_wp2_with fail
    refine (scaled_any _ _ _ _).mono ?_
    rintro e w' ⟨rfl, rfl⟩
    go_wp2
    go_ret2
    exact ⟨by rw [HV.out]; rfl, rfl⟩
def caE (a num den c : Int) : Int := if 274877906944 < den then 1 else if scE a num den = 0 then (if c < 0 ∨ den ≤ c then 3 else 0) else scE a num den
def caQ (a num den c : Int) : Int := if caE a num den c = 0 then (a * num + c) / den else 0
def caR (a num den c : Int) : Int := if caE a num den c = 0 then (a * num + c) % den else 0
theorem ca_zero {a num den c : Int} (h : caE a num den c = 0) : scE a num den = 0 ∧ den ≤ 274877906944 ∧ 0 ≤ c ∧ c < den := by
  unfold caE at h
  split at h
  · omega
  · split at h
    · split at h
      · omega
      · refine ⟨by assumption, ?_⟩; omega
    · contradiction
theorem carry_ok (a num den c : Int) (h : caE a num den c = 0) (w : World) : Calls Try.prog 18 #[.int .i64 a, .int .i64 num, .int .i64 den, .int .i64 c] w fun e w' => e = .returned (.tuple #[.int .i64 ((a * num + c) / den), .int .i64 ((a * num + c) % den), .int .i64 0]) ∧ Below w.heap.size w w' := by
  obtain ⟨hs, hd1, hc0, hc1⟩ := ca_zero h
  obtain ⟨ha, hn, hd⟩ := sc_zero hs
  obtain ⟨p0, p1⟩ := mul_in ha hn
  have HS := hide hs
  clear hs h ha hn
  go_enter Try.func18, Try.ntmps18
  go_wp2_with fail
  refine (scaled_any _ _ _ _).mono ?_
  rintro e w' ⟨rfl, rfl⟩
  rw [HS.out]
  go_wp2
  go_quiet (fail)
  go_wp2
  exact bodyPost_ret (v := .tuple #[.int .i64 ((a * num + c) / den), .int .i64 ((a * num + c) % den), .int .i64 0]) (by simp [results, Try.results18, go_sem]) rfl ⟨rfl, below_drewN (Below.refl _ _) _⟩
end Go.Proofs.Ytdgaaiplhgbakaa
