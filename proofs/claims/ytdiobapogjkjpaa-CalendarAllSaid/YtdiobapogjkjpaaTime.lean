/-
  Contracts of Of, Day and Time of the calendar and of its reference, and of the reference's spans: each returns the same plain function of its integers. No condition.
-/
import Derived.Test.YtdiobapogjkjpaaProg
import Derived.Test.YtdiobapogjkjpaaSame
namespace Go.Proofs.Ytdiobapogjkjpaa
open Go.RowKit

theorem tup4 {fn : Func} {t u v x : Tmp} (h : fn.results = #[.tmp t, .tmp u, .tmp v, .tmp x]) (tmps : Array Value) (P : Program) (w : World) :
    (results fn tmps).run P w = .ok (.tuple #[tmps.getD t undef, tmps.getD u undef, tmps.getD v undef, tmps.getD x undef]) w := by simp [results, h]
def okTime (n : Int) : Bool := wit n 16777216
def yearOf (n : Int) : Int := if okTime n then n / 35040 else 0
def dayOf (n : Int) : Int := if okTime n then n / 96 % 365 else 0
def stepOf (n : Int) : Int := if okTime n then n % 96 else 0
def errOf (n : Int) : Int := if okTime n then 0 else 6
def ofVal (n : Int) : Value := .tuple #[.int .i64 (yearOf n), .int .i64 (dayOf n), .int .i64 (stepOf n), .int .i64 (errOf n)]
def dayVal (n : Int) : Value := .tuple #[.int .i64 (dayOf n), .int .i64 (errOf n)]
theorem of_yes {n : Int} (h : okTime n = true) : ofVal n = .tuple #[.int .i64 (n / 35040), .int .i64 (n / 96 % 365), .int .i64 (n % 96), .int .i64 0] := by simp [ofVal, yearOf, dayOf, stepOf, errOf, h]
theorem of_no {n : Int} (h : okTime n = false) : ofVal n = .tuple #[.int .i64 0, .int .i64 0, .int .i64 0, .int .i64 6] := by simp [ofVal, yearOf, dayOf, stepOf, errOf, h]
theorem of_any (n : Int) (w : World) : Calls Try.prog 18 #[.int .i64 n] w fun e w' => e = .returned (ofVal n) ∧ w = w' := by
  cases h : wit n 16777216
  · have H := hide (of_no h)
    go_enter Try.func18, Try.ntmps18
    go_wp2_with (go_at_call 29; refine (within_any _ _ _).mono ?_; rintro e w' ⟨rfl, rfl⟩)
    refine bodyPost_ret (tup4 rfl _ _ _) rfl ⟨?_, rfl⟩
    rw [H.out]; rfl
  · have H := hide (of_yes h)
    have h2 := wit_iff.1 h
    have h0 : 0 ≤ n := h2.1
    have h1 : n ≤ 16777216 := h2.2
    clear h2
    go_enter Try.func18, Try.ntmps18
    go_wp2_with (go_at_call 29; refine (within_any _ _ _).mono ?_; rintro e w' ⟨rfl, rfl⟩)
    refine bodyPost_ret (tup4 rfl _ _ _) rfl ⟨?_, rfl⟩
    rw [H.out]; rfl
theorem day_any (n : Int) (w : World) : Calls Try.prog 16 #[.int .i64 n] w fun e w' => e = .returned (dayVal n) ∧ w = w' := by
  go_enter Try.func16, Try.ntmps16
  go_wp2_with (go_at_call 18; refine (of_any _ _).mono ?_; rintro e w' ⟨rfl, rfl⟩; unfold ofVal)
  go_ret2
  exact ⟨rfl, rfl⟩
theorem refin_any (n m : Int) (w : World) :
    Calls Try.prog 32 #[.int .i64 n, .int .i64 m] w fun e w' => e = .returned (.bool (wit n m)) ∧ w = w' := by
  by_cases h : 0 ≤ n
  all_goals
    go_enter Try.func32, Try.ntmps32
    go_wp2
    go_ret
    exact ⟨ret_bool (by simp [wit]; try omega), rfl⟩
theorem refIn_any (n m : Int) (w : World) :
    Calls Try.prog 30 #[.int .i64 n, .int .i64 m] w fun e w' => e = .returned (.bool (wit n m)) ∧ w = w' := by
  go_enter Try.func30, Try.ntmps30
  go_wp2_with (go_at_call 32; refine (refin_any _ _ _).mono ?_; rintro e w' ⟨rfl, rfl⟩)
  go_ret
  exact ⟨rfl, rfl⟩
theorem rof_eq (n : Int) (h0 : 0 ≤ n) : n / 96 / 365 = n / 35040 := by omega
theorem rof_any (n : Int) (w : World) : Calls Try.prog 19 #[.int .i64 n] w fun e w' => e = .returned (ofVal n) ∧ w = w' := by
  cases h : wit n 16777216
  · have H := hide (of_no h)
    go_enter Try.func19, Try.ntmps19
    go_wp2_with (go_at_call 30; refine (refIn_any _ _ _).mono ?_; rintro e w' ⟨rfl, rfl⟩)
    refine bodyPost_ret (tup4 rfl _ _ _) rfl ⟨?_, rfl⟩
    rw [H.out]; rfl
  · have H := hide (of_yes h)
    have h2 := wit_iff.1 h
    have h0 : 0 ≤ n := h2.1
    have h1 : n ≤ 16777216 := h2.2
    have hd0 : 0 ≤ n / 96 := by omega
    have hd1 : n / 96 ≤ 16777216 := by omega
    have HE := hide (rof_eq n h0)
    clear h2
    go_enter Try.func19, Try.ntmps19
    go_wp2_with (go_at_call 30; refine (refIn_any _ _ _).mono ?_; rintro e w' ⟨rfl, rfl⟩)
    refine bodyPost_ret (tup4 rfl _ _ _) rfl ⟨?_, rfl⟩
    rw [H.out, ← HE.out]; rfl
theorem rday_any (n : Int) (w : World) : Calls Try.prog 17 #[.int .i64 n] w fun e w' => e = .returned (dayVal n) ∧ w = w' := by
  go_enter Try.func17, Try.ntmps17
  go_wp2_with (go_at_call 19; refine (rof_any _ _).mono ?_; rintro e w' ⟨rfl, rfl⟩; unfold ofVal)
  go_ret2
  exact ⟨rfl, rfl⟩
def isDayB (d : Int) : Bool := wit d 364
theorem risday_any (d : Int) (w : World) :
    Calls Try.prog 31 #[.int .i64 d] w fun e w' => e = .returned (.bool (wit d 364)) ∧ w = w' := by
  go_enter Try.func31, Try.ntmps31
  go_wp2_with (go_at_call 30; refine (refIn_any _ _ _).mono ?_; rintro e w' ⟨rfl, rfl⟩)
  go_ret
  exact ⟨rfl, rfl⟩
def okName (y d s : Int) : Bool := wit y 16777216 && wit d 364 && wit s 95
def timeVal (y d s : Int) : Value := if okName y d s then (if y * 35040 + d * 96 + s ≤ 16777216 then .tuple #[.int .i64 (y * 35040 + d * 96 + s), .int .i64 0] else .tuple #[.int .i64 0, .int .i64 6]) else .tuple #[.int .i64 0, .int .i64 1]
theorem timeVal_no {y d s : Int} (h : okName y d s = false) : timeVal y d s = .tuple #[.int .i64 0, .int .i64 1] := by simp [timeVal, h]
theorem timeVal_big {y d s : Int} (h : okName y d s = true) (hm : 16777216 < y * 35040 + d * 96 + s) : timeVal y d s = .tuple #[.int .i64 0, .int .i64 6] := by simp only [timeVal, h, if_true]; rw [if_neg (by omega)]
theorem timeVal_ok {y d s : Int} (h : okName y d s = true) (hm : ¬ 16777216 < y * 35040 + d * 96 + s) : timeVal y d s = .tuple #[.int .i64 (y * 35040 + d * 96 + s), .int .i64 0] := by simp only [timeVal, h, if_true]; rw [if_pos (by omega)]
theorem time_any (y d s : Int) (w : World) : Calls Try.prog 20 #[.int .i64 y, .int .i64 d, .int .i64 s] w fun e w' => e = .returned (timeVal y d s) ∧ w = w' := by
  cases h1 : wit y 16777216
  · have H := hide (timeVal_no (y := y) (d := d) (s := s) (by simp [okName, h1]))
    go_enter Try.func20, Try.ntmps20
    go_wp2_with (go_at_call 29; refine (within_any _ _ _).mono ?_; rintro e w' ⟨rfl, rfl⟩)
    go_ret2
    exact ⟨by rw [H.out]; rfl, rfl⟩
  · cases h2 : wit d 364
    · have H := hide (timeVal_no (y := y) (d := d) (s := s) (by simp [okName, h2]))
      go_enter Try.func20, Try.ntmps20
      go_wp2_with (first | (go_at_call 29; refine (within_any _ _ _).mono ?_; rintro e w' ⟨rfl, rfl⟩) | (go_at_call 27; refine (is_any _ _).mono ?_; rintro e w' ⟨rfl, rfl⟩))
      go_ret2
      exact ⟨by rw [H.out]; rfl, rfl⟩
    · cases h3 : wit s 95
      · have H := hide (timeVal_no (y := y) (d := d) (s := s) (by simp [okName, h3]))
        go_enter Try.func20, Try.ntmps20
        go_wp2_with (first | (go_at_call 29; refine (within_any _ _ _).mono ?_; rintro e w' ⟨rfl, rfl⟩) | (go_at_call 27; refine (is_any _ _).mono ?_; rintro e w' ⟨rfl, rfl⟩))
        go_ret2
        exact ⟨by rw [H.out]; rfl, rfl⟩
      · obtain ⟨a0, a1⟩ := wit_iff.1 h1
        obtain ⟨b0, b1⟩ := wit_iff.1 h2
        obtain ⟨c0, c1⟩ := wit_iff.1 h3
        by_cases hm : 16777216 < y * 35040 + d * 96 + s
        · have H := hide (timeVal_big (y := y) (d := d) (s := s) (by simp [okName, h1, h2, h3]) hm)
          go_enter Try.func20, Try.ntmps20
          go_wp2_with (first | (go_at_call 29; refine (within_any _ _ _).mono ?_; rintro e w' ⟨rfl, rfl⟩) | (go_at_call 27; refine (is_any _ _).mono ?_; rintro e w' ⟨rfl, rfl⟩))
          go_ret2
          exact ⟨by rw [H.out]; rfl, rfl⟩
        · have H := hide (timeVal_ok (y := y) (d := d) (s := s) (by simp [okName, h1, h2, h3]) hm)
          go_enter Try.func20, Try.ntmps20
          go_wp2_with (first | (go_at_call 29; refine (within_any _ _ _).mono ?_; rintro e w' ⟨rfl, rfl⟩) | (go_at_call 27; refine (is_any _ _).mono ?_; rintro e w' ⟨rfl, rfl⟩))
          go_ret2
          exact ⟨by rw [H.out]; rfl, rfl⟩
end Go.Proofs.Ytdiobapogjkjpaa
