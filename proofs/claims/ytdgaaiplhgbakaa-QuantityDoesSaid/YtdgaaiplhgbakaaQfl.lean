/-
  Contracts of Floor on both sides. No condition.
-/
import Derived.Test.YtdgaaiplhgbakaaProg
import Derived.Test.YtdgaaiplhgbakaaMem
namespace Go.Proofs.Ytdgaaiplhgbakaa
open Go.RowKit

def flE (a b : Int) : Int := if b = 0 then 2 else if a = -9223372036854775808 ∧ b = -1 then 1 else 0
def flQ (a b : Int) : Int := if flE a b = 0 then (if a.tmod b ≠ 0 ∧ ¬ (a < 0 ↔ b < 0) then wrap64 (wrap64 (a.tdiv b) - 1) else wrap64 (a.tdiv b)) else 0
theorem fl_zero (a : Int) : flE a 0 = 2 ∧ flQ a 0 = 0 := by simp [flE, flQ]
theorem fl_min : flE (-9223372036854775808) (-1) = 1 ∧ flQ (-9223372036854775808) (-1) = 0 := by decide +kernel
theorem fl_ok {a b : Int} (h : ¬ b = 0) (h1 : ¬ (a = -9223372036854775808 ∧ b = -1)) : flE a b = 0 := by simp only [flE, h, h1]; simp
theorem fl_dec {a b : Int} (h : ¬ b = 0) (h1 : ¬ (a = -9223372036854775808 ∧ b = -1)) (h2 : ¬ a.tmod b = 0) (h3 : ¬ (a < 0 ↔ b < 0)) : flQ a b = wrap64 (wrap64 (a.tdiv b) - 1) := by
  unfold flQ
  rw [if_pos (fl_ok h h1), if_pos ⟨h2, h3⟩]
theorem fl_not {a b : Int} (h : ¬ b = 0) (h1 : ¬ (a = -9223372036854775808 ∧ b = -1)) (h2 : a.tmod b = 0 ∨ (a < 0 ↔ b < 0)) : flQ a b = wrap64 (a.tdiv b) := by
  unfold flQ
  rw [if_pos (fl_ok h h1), if_neg (fun hh => h2.elim (fun h => hh.1 h) (fun h => hh.2 h))]
theorem tmod_sign {a b : Int} (h : ¬ a.tmod b = 0) : (a.tmod b < 0 ↔ a < 0) := by
  constructor
  · intro h1
    rcases (show a < 0 ∨ 0 ≤ a by omega) with h2 | h2
    · exact h2
    · have := Int.tmod_nonneg b h2; omega
  · intro h1
    have h2 := Int.tmod_nonneg b (show 0 ≤ -a by omega)
    rw [Int.neg_tmod] at h2; omega
set_option maxRecDepth 20000 in
theorem floor_any (a b : Int) (w : World) : Calls Try.prog 19 #[.int .i64 a, .int .i64 b] w fun e w' => e = .returned (.tuple #[.int .i64 (flQ a b), .int .i64 (flE a b)]) ∧ w = w' := by
  by_cases h0 : b = 0
  · subst h0
    have H := hide (fl_zero a)
    go_enter Try.func19, Try.ntmps19
    go_wp2
    go_ret2
    exact ⟨by rw [H.out.1, H.out.2]; rfl, rfl⟩
  · by_cases h1 : a = -9223372036854775808 ∧ b = -1
    · obtain ⟨rfl, rfl⟩ := h1
      have H := hide fl_min
      go_enter Try.func19, Try.ntmps19
      go_wp2
      go_ret2
      exact ⟨by rw [H.out.1, H.out.2]; rfl, rfl⟩
    · have HE := hide (fl_ok h0 h1)
      have hb0 : (b == 0) = false := by simpa using h0
      obtain ⟨z, hz⟩ : ∃ z : Bool, (a == -9223372036854775808) = z := ⟨_, rfl⟩
      obtain ⟨y, hy⟩ : ∃ y : Bool, (b == -1) = y := ⟨_, rfl⟩
      have hzy : (z && y) = false := by
        rw [Bool.eq_false_iff]; intro h; apply h1; rw [← hz, ← hy] at h; simp at h; exact h
      have hyz : (y && z) = false := by rw [Bool.and_comm]; exact hzy
      by_cases hr : a.tmod b = 0
      · have HQ := hide (fl_not h0 h1 (.inl hr))
        have H1 := hide h1
        have H0 := hide h0
        clear h1
        go_enter Try.func19, Try.ntmps19
        go_wp2
        all_goals first | (exfalso; simp_all; done) | (go_ret2; exact ⟨by rw [HE.out, HQ.out]; rfl, rfl⟩) | fail
      · have hr0 : (a.tmod b == 0) = false := by simpa using hr
        have hrb : (a.tmod b != 0) = true := by simpa using hr
        have hsg := tmod_sign hr
        by_cases hs : a < 0 ↔ b < 0
        · have HQ := hide (fl_not h0 h1 (.inr hs))
          by_cases ha : a < 0
          · have hb : b < 0 := hs.1 ha
            have hrs : a.tmod b < 0 := hsg.2 ha
            have H1 := hide h1
            clear h1 hsg hs
            go_enter Try.func19, Try.ntmps19
            go_wp2
            all_goals first | (exfalso; simp_all; done) | (go_ret2; exact ⟨by rw [HE.out, HQ.out]; rfl, rfl⟩) | fail
          · have hb : ¬ b < 0 := fun h => ha (hs.2 h)
            have hrs : ¬ a.tmod b < 0 := fun h => ha (hsg.1 h)
            have hre : ¬ a % b = 0 := by rw [← Int.tmod_eq_emod_of_nonneg (by omega)]; exact hr
            have hrf : ¬ a % b < 0 := by rw [← Int.tmod_eq_emod_of_nonneg (by omega)]; exact hrs
            have H1 := hide h1
            clear h1 hsg hs
            go_enter Try.func19, Try.ntmps19
            go_wp2
            all_goals first | (exfalso; simp_all; done) | (go_ret2; exact ⟨by rw [HE.out, HQ.out]; rfl, rfl⟩) | fail
        · have HQ := hide (fl_dec h0 h1 hr hs)
          by_cases ha : a < 0
          · have hb : ¬ b < 0 := fun h => hs ⟨fun _ => h, fun _ => ha⟩
            have hrs : a.tmod b < 0 := hsg.2 ha
            have H1 := hide h1
            clear h1 hsg hs
            go_enter Try.func19, Try.ntmps19
            go_wp2
            all_goals first | (exfalso; simp_all; done) | (go_ret2; exact ⟨by rw [HE.out, HQ.out]; rfl, rfl⟩) | fail
          · have hb : b < 0 := by
              rcases (show b < 0 ∨ ¬ b < 0 by omega) with h | h
              · exact h
              · exact absurd ⟨fun h2 => absurd h2 ha, fun h2 => absurd h2 h⟩ hs
            have hrs : ¬ a.tmod b < 0 := fun h => ha (hsg.1 h)
            have hre : ¬ a % b = 0 := by rw [← Int.tmod_eq_emod_of_nonneg (by omega)]; exact hr
            have hrf : ¬ a % b < 0 := by rw [← Int.tmod_eq_emod_of_nonneg (by omega)]; exact hrs
            have H1 := hide h1
            clear h1 hsg hs
            go_enter Try.func19, Try.ntmps19
            go_wp2
            all_goals first | (exfalso; simp_all; done) | (go_ret2; exact ⟨by rw [HE.out, HQ.out]; rfl, rfl⟩) | fail
set_option maxRecDepth 20000 in
theorem rfloor_any (a b : Int) (w : World) : Calls Try.prog 20 #[.int .i64 a, .int .i64 b] w fun e w' => e = .returned (.tuple #[.int .i64 (flQ a b), .int .i64 (flE a b)]) ∧ w = w' := by
  by_cases h0 : b = 0
  · subst h0
    have H := hide (fl_zero a)
    go_enter Try.func20, Try.ntmps20
    go_wp2
    go_ret2
    exact ⟨by rw [H.out.1, H.out.2]; rfl, rfl⟩
  · by_cases h1 : a = -9223372036854775808 ∧ b = -1
    · obtain ⟨rfl, rfl⟩ := h1
      have H := hide fl_min
      go_enter Try.func20, Try.ntmps20
      go_wp2
      go_ret2
      exact ⟨by rw [H.out.1, H.out.2]; rfl, rfl⟩
    · have HE := hide (fl_ok h0 h1)
      have hb0 : (b == 0) = false := by simpa using h0
      obtain ⟨z, hz⟩ : ∃ z : Bool, (a == -9223372036854775808) = z := ⟨_, rfl⟩
      obtain ⟨y, hy⟩ : ∃ y : Bool, (b == -1) = y := ⟨_, rfl⟩
      have hzy : (z && y) = false := by
        rw [Bool.eq_false_iff]; intro h; apply h1; rw [← hz, ← hy] at h; simp at h; exact h
      have hyz : (y && z) = false := by rw [Bool.and_comm]; exact hzy
      by_cases hr : a.tmod b = 0
      · have HQ := hide (fl_not h0 h1 (.inl hr))
        have H1 := hide h1
        have H0 := hide h0
        clear h1
        go_enter Try.func20, Try.ntmps20
        go_wp2
        all_goals first | (exfalso; simp_all; done) | (go_ret2; exact ⟨by rw [HE.out, HQ.out]; rfl, rfl⟩) | fail
      · have hr0 : (a.tmod b == 0) = false := by simpa using hr
        have hrb : (a.tmod b != 0) = true := by simpa using hr
        have hsg := tmod_sign hr
        by_cases hs : a < 0 ↔ b < 0
        · have HQ := hide (fl_not h0 h1 (.inr hs))
          by_cases ha : a < 0
          · have hb : b < 0 := hs.1 ha
            have hrs : a.tmod b < 0 := hsg.2 ha
            have H1 := hide h1
            clear h1 hsg hs
            go_enter Try.func20, Try.ntmps20
            go_wp2
            all_goals first | (exfalso; simp_all; done) | (go_ret2; exact ⟨by rw [HE.out, HQ.out]; rfl, rfl⟩) | fail
          · have hb : ¬ b < 0 := fun h => ha (hs.2 h)
            have hrs : ¬ a.tmod b < 0 := fun h => ha (hsg.1 h)
            have hre : ¬ a % b = 0 := by rw [← Int.tmod_eq_emod_of_nonneg (by omega)]; exact hr
            have hrf : ¬ a % b < 0 := by rw [← Int.tmod_eq_emod_of_nonneg (by omega)]; exact hrs
            have H1 := hide h1
            clear h1 hsg hs
            go_enter Try.func20, Try.ntmps20
            go_wp2
            all_goals first | (exfalso; simp_all; done) | (go_ret2; exact ⟨by rw [HE.out, HQ.out]; rfl, rfl⟩) | fail
        · have HQ := hide (fl_dec h0 h1 hr hs)
          by_cases ha : a < 0
          · have hb : ¬ b < 0 := fun h => hs ⟨fun _ => h, fun _ => ha⟩
            have hrs : a.tmod b < 0 := hsg.2 ha
            have H1 := hide h1
            clear h1 hsg hs
            go_enter Try.func20, Try.ntmps20
            go_wp2
            all_goals first | (exfalso; simp_all; done) | (go_ret2; exact ⟨by rw [HE.out, HQ.out]; rfl, rfl⟩) | fail
          · have hb : b < 0 := by
              rcases (show b < 0 ∨ ¬ b < 0 by omega) with h | h
              · exact h
              · exact absurd ⟨fun h2 => absurd h2 ha, fun h2 => absurd h2 h⟩ hs
            have hrs : ¬ a.tmod b < 0 := fun h => ha (hsg.1 h)
            have hre : ¬ a % b = 0 := by rw [← Int.tmod_eq_emod_of_nonneg (by omega)]; exact hr
            have hrf : ¬ a % b < 0 := by rw [← Int.tmod_eq_emod_of_nonneg (by omega)]; exact hrs
            have H1 := hide h1
            clear h1 hsg hs
            go_enter Try.func20, Try.ntmps20
            go_wp2
            all_goals first | (exfalso; simp_all; done) | (go_ret2; exact ⟨by rw [HE.out, HQ.out]; rfl, rfl⟩) | fail
end Go.Proofs.Ytdgaaiplhgbakaa
