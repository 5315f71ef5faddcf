/-
  Plain laws of smoothing: sums of groups are kept, values do not rise and differ by at most 1, smoothing again changes nothing. Condition: the width is at least 1.
-/
import Derived.Test.YtbfflggoffmnmaaProg
import Derived.Test.YtbfflggoffmnmaaIsp
namespace Go.Proofs.Ytbfflggoffmnmaa
open Go.RowKit

theorem ev_left {t m : Int} (hm : 0 < m) : 0 ≤ t - t / m * m ∧ t - t / m * m < m := by
  have h1 := Int.ediv_mul_le t (show m ≠ 0 by omega)
  have h2 := Int.lt_ediv_add_one_mul_self t hm
  rw [Int.add_mul, Int.one_mul] at h2
  omega
theorem evenV_mono (t m : Int) {i j : Int} (h : i ≤ j) : evenV t m j ≤ evenV t m i := by
  unfold evenV
  split <;> split <;> omega
theorem evenV_near (t m j : Int) (_h : 0 ≤ j) : evenV t m 0 ≤ evenV t m j + 1 := by
  unfold evenV
  split <;> split <;> omega
/-- the sum of the first j values of an even division -/
def evS (t m : Int) : Nat → Int
  | 0 => 0
  | j + 1 => evS t m j + evenV t m (j : Int)
theorem evS_eq {t m : Int} (hm : 0 < m) : ∀ j : Nat, evS t m j = t / m * (j : Int) + min (j : Int) (t - t / m * m)
  | 0 => by have := ev_left (t := t) hm; simp [evS]; omega
  | j + 1 => by
    have h := ev_left (t := t) hm
    simp only [evS, evS_eq hm j, evenV, Int.natCast_succ, Int.mul_add, Int.mul_one]
    split <;> omega
theorem evS_all {t : Int} {m : Nat} (hm : 0 < m) : evS t (m : Int) m = t := by
  have h := ev_left (t := t) (m := (m : Int)) (by omega)
  rw [evS_eq (by omega)]
  omega
theorem smoK_get {wd : Nat} {xs : List Int} {n i : Nat} (h : i < n) : (smoK wd xs n).getD i 0 = smoAt wd xs i := by
  simp [smoK, List.getD_eq_getElem?_getD, h]
theorem grp_le {wd n s : Nat} : grpLen wd n s ≤ wd := by unfold grpLen; omega
theorem smo_sumTo {wd : Nat} {xs : List Int} {s : Nat} (hw : 1 ≤ wd) (hs : s % wd = 0) : ∀ j, j ≤ grpLen wd xs.length s → s + grpLen wd xs.length s ≤ xs.length →
    sumTo (smoK wd xs xs.length) s j = evS (sumTo xs s (grpLen wd xs.length s)) (grpLen wd xs.length s : Nat) j
  | 0, _, _ => rfl
  | j + 1, h, hn => by
    have := grp_le (wd := wd) (n := xs.length) (s := s)
    simp only [sumTo, evS]
    rw [smo_sumTo hw hs j (by omega) hn, smoK_get (by omega), smoAt_grp hw hs (by omega)]
theorem grp_in {wd n s : Nat} (h : s ≤ n) : s + grpLen wd n s ≤ n := by unfold grpLen; omega
/-- a group's sum is kept -/
theorem smo_group {wd : Nat} {xs : List Int} {s : Nat} (hw : 1 ≤ wd) (hs : s % wd = 0) (hn : s < xs.length) : sumTo (smoK wd xs xs.length) s (grpLen wd xs.length s) = sumTo xs s (grpLen wd xs.length s) := by
  rw [smo_sumTo hw hs _ (Nat.le_refl _) (grp_in (by omega)), evS_all (by unfold grpLen; omega)]
theorem psum_split (xs : List Int) (s : Nat) : ∀ j, psum xs (s + j) = psum xs s + sumTo xs s j
  | 0 => by simp [sumTo]
  | j + 1 => by
    rw [← Nat.add_assoc]
    simp only [psum, sumTo]
    rw [psum_split xs s j]
    omega
theorem smo_psum {wd : Nat} {xs : List Int} (hw : 1 ≤ wd) : ∀ q, q * wd ≤ xs.length → psum (smoK wd xs xs.length) (q * wd) = psum xs (q * wd)
  | 0, _ => by simp [psum]
  | q + 1, h => by
    rw [Nat.add_mul, Nat.one_mul] at h ⊢
    have hg : grpLen wd xs.length (q * wd) = wd := by unfold grpLen; omega
    have := smo_group (wd := wd) (xs := xs) (s := q * wd) hw (Nat.mul_mod_left q wd) (by omega)
    rw [hg] at this
    rw [psum_split, psum_split, smo_psum hw q (by omega), this]
/-- at the end of a group all sums agree -/
theorem smo_ends {wd : Nat} {xs : List Int} {s : Nat} (hw : 1 ≤ wd) (hs : s % wd = 0 ∨ s = xs.length) (hn : s ≤ xs.length) : psum (smoK wd xs xs.length) s = psum xs s := by
  have hmul : ∀ s, s % wd = 0 → s ≤ xs.length → psum (smoK wd xs xs.length) s = psum xs s := by
    intro s h1 h2
    obtain ⟨q, rfl⟩ := Nat.dvd_of_mod_eq_zero h1
    rw [Nat.mul_comm] at h2 ⊢
    exact smo_psum hw q h2
  rcases hs with h | h
  · exact hmul s h hn
  · subst h
    by_cases hz : xs.length % wd = 0
    · exact hmul _ hz (Nat.le_refl _)
    · have hd := Nat.div_add_mod xs.length wd
      have hlt := Nat.mod_lt xs.length (show wd > 0 by omega)
      have hmm : wd * (xs.length / wd) % wd = 0 := Nat.mul_mod_right _ _
      have hg : grpLen wd xs.length (wd * (xs.length / wd)) = xs.length % wd := by unfold grpLen; omega
      have h1 := smo_group (xs := xs) hw hmm (by omega)
      rw [hg] at h1
      have h2 := hmul _ hmm (by omega)
      have e : xs.length = wd * (xs.length / wd) + xs.length % wd := hd.symm
      have h3 : psum (smoK wd xs xs.length) (wd * (xs.length / wd) + xs.length % wd) = psum xs (wd * (xs.length / wd) + xs.length % wd) := by
        rw [psum_split, psum_split, h2, h1]
      rw [← e] at h3
      exact h3
theorem sumTo_in {xs : List Int} {lo hi : Int} (h : ∀ k, lo ≤ xs.getD k 0 ∧ xs.getD k 0 ≤ hi) (s : Nat) : ∀ j : Nat, lo * (j : Int) ≤ sumTo xs s j ∧ sumTo xs s j ≤ hi * (j : Int)
  | 0 => by simp [sumTo]
  | j + 1 => by
    have h1 := sumTo_in h s j
    have h2 := h (s + j)
    simp only [sumTo, Int.natCast_succ, Int.mul_add, Int.mul_one]
    omega
theorem smoAt_in {wd : Nat} {xs : List Int} {lo hi : Int} (h : ∀ k, lo ≤ xs.getD k 0 ∧ xs.getD k 0 ≤ hi) {i : Nat} (hw : 1 ≤ wd) (hi' : i < xs.length) : lo ≤ smoAt wd xs i ∧ smoAt wd xs i ≤ hi + 1 := by
  have hs : i / wd * wd ≤ i := Nat.div_mul_le_self i wd
  have hg : 0 < grpLen wd xs.length (i / wd * wd) := by unfold grpLen; omega
  obtain ⟨h1, h2⟩ := sumTo_in h (i / wd * wd) (grpLen wd xs.length (i / wd * wd))
  unfold smoAt evenV
  generalize sumTo xs (i / wd * wd) (grpLen wd xs.length (i / wd * wd)) = t at *
  generalize grpLen wd xs.length (i / wd * wd) = m at *
  have hm : (0 : Int) < (m : Int) := by omega
  have a1 : lo ≤ t / (m : Int) := by rw [Int.le_ediv_iff_mul_le hm]; exact h1
  have a2 : t / (m : Int) < hi + 1 := by rw [Int.ediv_lt_iff_lt_mul hm, Int.add_mul, Int.one_mul]; omega
  split <;> omega
/-- smoothing again changes nothing -/
theorem smo_again {wd : Nat} {xs : List Int} (hw : 1 ≤ wd) : smoK wd (smoK wd xs xs.length) xs.length = smoK wd xs xs.length := by
  unfold smoK
  refine List.map_congr_left fun i hi => ?_
  rw [List.mem_range] at hi
  have hs : i / wd * wd ≤ i := Nat.div_mul_le_self i wd
  show smoAt wd (smoK wd xs xs.length) i = smoAt wd xs i
  unfold smoAt
  rw [smoK_length, smo_group hw (Nat.mul_mod_left _ wd) (by omega)]
theorem smo_fall {wd : Nat} {xs : List Int} {i : Nat} (hw : 1 ≤ wd) (hi : i % wd ≠ 0) : smoAt wd xs i ≤ smoAt wd xs (i - 1) ∧ smoAt wd xs (i / wd * wd) ≤ smoAt wd xs i + 1 := by
  have hd := Nat.div_add_mod i wd
  have hlt := Nat.mod_lt i (show wd > 0 by omega)
  rw [Nat.mul_comm] at hd
  have hmm : i / wd * wd % wd = 0 := Nat.mul_mod_left _ _
  have e0 := smoAt_grp (xs := xs) (j := 0) hw hmm (by omega)
  have e1 := smoAt_grp (xs := xs) (j := i % wd) hw hmm hlt
  have e2 := smoAt_grp (xs := xs) (j := i % wd - 1) hw hmm (by omega)
  rw [hd] at e1
  rw [show i / wd * wd + (i % wd - 1) = i - 1 by omega] at e2
  rw [Nat.add_zero] at e0
  rw [e0, e1, e2]
  exact ⟨evenV_mono _ _ (by omega), evenV_near _ _ _ (by omega)⟩
theorem big_of {xs : List Int} (h : ∀ x ∈ xs, -1000000 ≤ x ∧ x ≤ 1000000) : xs.any bigB = false := by
  rw [List.any_eq_false]
  intro x hx
  have := h x hx
  simp [bigB]; omega
theorem smo_ok {wd : Nat} {xs : List Int} (hw : 1 ≤ wd) (hw2 : wd ≤ 4096) (hl : xs.length ≤ 4096) (h : ∀ x ∈ xs, -1000000 ≤ x ∧ x ≤ 1000000) : smoE (wd : Int) xs = 0 ∧ smoL (wd : Int) xs = smoK wd xs xs.length := by
  have he : smoE (wd : Int) xs = 0 := by simp only [smoE, big_of h]; rw [if_neg (by simp; omega), if_neg (by omega)]
  exact ⟨he, by simp [smoL, he]⟩
theorem smoK_mem {wd : Nat} {xs : List Int} {lo hi : Int} (h : ∀ k, lo ≤ xs.getD k 0 ∧ xs.getD k 0 ≤ hi) (hw : 1 ≤ wd) : ∀ x ∈ smoK wd xs xs.length, lo ≤ x ∧ x ≤ hi + 1 := by
  intro x hx
  unfold smoK at hx
  rw [List.mem_map] at hx
  obtain ⟨i, hi, rfl⟩ := hx
  rw [List.mem_range] at hi
  exact smoAt_in h hw hi
end Go.Proofs.Ytbfflggoffmnmaa
