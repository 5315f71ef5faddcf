/-
  Contracts of the first error of a condition (the program's and the reference's), for whatever condition. No condition.
-/
import Derived.Test.YtphgddanbgdemaaDoorProg
import Derived.Test.YtphgddanbgdemaaDoorCond
namespace Go.Proofs.YtphgddanbgdemaaDoor
open Go.RowKit

def Cd.rest (c : Cd) : Bool := wit c.value 1073741824 && okSpan c.from_ c.to_ && wit c.above 16777216 && wit c.below 16777216 && decide (c.above ≤ c.below)
def Cd.err (c : Cd) : Int := if c.rank < 1 ∨ 9 < c.rank then 1 else if c.kind < 1 ∨ 4 < c.kind then 5 else if c.rest then 0 else 1
theorem err_rank {c : Cd} (h : c.rank < 1 ∨ 9 < c.rank) : c.err = 1 := by simp [Cd.err, h]
theorem err_kind {c : Cd} (h : ¬ (c.rank < 1 ∨ 9 < c.rank)) (h2 : c.kind < 1 ∨ 4 < c.kind) : c.err = 5 := by simp [Cd.err, h, h2]
theorem err_rest {c : Cd} (h : ¬ (c.rank < 1 ∨ 9 < c.rank)) (h2 : ¬ (c.kind < 1 ∨ 4 < c.kind)) (h3 : c.rest = false) : c.err = 1 := by simp [Cd.err, h, h2, h3]
theorem err_none {c : Cd} (h : ¬ (c.rank < 1 ∨ 9 < c.rank)) (h2 : ¬ (c.kind < 1 ∨ 4 < c.kind)) (h3 : c.rest = true) : c.err = 0 := by simp [Cd.err, h, h2, h3]
theorem err_zero {c : Cd} (h : c.err = 0) : (1 ≤ c.rank ∧ c.rank ≤ 9) ∧ (1 ≤ c.kind ∧ c.kind ≤ 4) ∧ c.rest = true := by
  unfold Cd.err at h
  by_cases h1 : c.rank < 1 ∨ 9 < c.rank
  · simp [h1] at h
  · by_cases h2 : c.kind < 1 ∨ 4 < c.kind
    · simp [h1, h2] at h
    · cases h3 : c.rest
      · simp [h1, h2, h3] at h
      · exact ⟨by omega, by omega, rfl⟩
theorem rest_iff {c : Cd} : c.rest = true ↔ (0 ≤ c.value ∧ c.value ≤ 1073741824) ∧ okSpan c.from_ c.to_ = true ∧ (0 ≤ c.above ∧ c.above ≤ 16777216) ∧ (0 ≤ c.below ∧ c.below ≤ 16777216) ∧ c.above ≤ c.below := by
  simp only [Cd.rest, Bool.and_eq_true, wit_iff, decide_eq_true_eq, and_assoc]
theorem good_err {c : Cd} (h : c.good) : c.err = 0 := by
  obtain ⟨h1, h2, h3, h4, h5, h6⟩ := h
  exact err_none (by omega) (by omega) (rest_iff.2 ⟨by omega, by simp [okSpan, wit_of h4.1 h4.2, wit_of h5.1 h5.2], by omega, by omega, by omega⟩)
theorem level_any (n : Int) (w : World) : Calls Tryd.prog 69 #[.int .i64 n] w fun e w' => e = .returned (.bool (wit n 16777216)) ∧ w = w' := by
  go_enter Tryd.func69, Tryd.ntmps69
  go_wp2_with (go_at_call 51; refine (within_any _ _ _).mono ?_; rintro e w' ⟨rfl, rfl⟩)
  go_ret
  exact ⟨rfl, rfl⟩
set_option maxHeartbeats 1600000 in
set_option maxRecDepth 20000 in
theorem one_any (c : Cd) (w : World) : Calls Tryd.prog 50 #[.agg c.arr] w fun e w' => e = .returned (.int .i64 c.err) ∧ Below w.heap.size w w' := by
  obtain ⟨r, k, v, f, t, a, b⟩ := c
  have hmf : ∀ (fn : Fn) (first cap : Array Value) (w : World), (Instr.makeFunc fn first cap).run Tryd.prog w = .ok (.func fn first cap) w := fun _ _ _ _ => rfl
  by_cases h1 : r < 1 ∨ 9 < r
  · have H := hide (err_rank (c := ⟨r, k, v, f, t, a, b⟩) h1)
    unfold Cd.arr
    rcases h1 with h1 | h1
    · go_enter Tryd.func50, Tryd.ntmps50
      go_wp2
      go_ret
      exact ⟨ret_int (by rw [H.out]), bel1⟩
    · have h2 : ¬ r < 1 := by omega
      go_enter Tryd.func50, Tryd.ntmps50
      go_wp2
      go_ret
      exact ⟨ret_int (by rw [H.out]), bel1⟩
  · by_cases h2 : k < 1 ∨ 4 < k
    · have H := hide (err_kind (c := ⟨r, k, v, f, t, a, b⟩) h1 h2)
      have h3 : ¬ r < 1 := by omega
      have h4 : ¬ 9 < r := by omega
      unfold Cd.arr
      clear h1
      rcases h2 with h2 | h2
      · go_enter Tryd.func50, Tryd.ntmps50
        go_wp2
        go_ret
        exact ⟨ret_int (by rw [H.out]), bel1⟩
      · have h5 : ¬ k < 1 := by omega
        go_enter Tryd.func50, Tryd.ntmps50
        go_wp2
        go_ret
        exact ⟨ret_int (by rw [H.out]), bel1⟩
    · have HR := hide (fun h => err_rest (c := ⟨r, k, v, f, t, a, b⟩) h1 h2 h)
      have HN := hide (fun h => err_none (c := ⟨r, k, v, f, t, a, b⟩) h1 h2 h)
      have h3 : ¬ r < 1 := by omega
      have h4 : ¬ 9 < r := by omega
      have h5 : ¬ k < 1 := by omega
      have h6 : ¬ 4 < k := by omega
      unfold Cd.arr
      clear h1 h2
      cases q1 : wit v 1073741824
      · have H := hide (HR.out (by simp [Cd.rest, q1]))
        clear HR HN
        go_enter Tryd.func50, Tryd.ntmps50
        go_wp2_with (first | (go_at_call 51; refine (within_any _ _ _).mono ?_; rintro e w' ⟨rfl, rfl⟩) | (go_at_call 70; refine (valid_any _ _ _).mono ?_; rintro e w' ⟨rfl, hb⟩; obtain ⟨hc, hf⟩ := bcell hb) | (go_at_call 69; refine (level_any _ _).mono ?_; rintro e w' ⟨rfl, rfl⟩))
        go_ret
        exact ⟨ret_int (by rw [H.out]), bel1⟩
      · cases q2 : okSpan f t
        · have H := hide (HR.out (by simp [Cd.rest, q2]))
          clear HR HN
          go_enter Tryd.func50, Tryd.ntmps50
          go_wp2_with (first | (go_at_call 51; refine (within_any _ _ _).mono ?_; rintro e w' ⟨rfl, rfl⟩) | (go_at_call 70; refine (valid_any _ _ _).mono ?_; rintro e w' ⟨rfl, hb⟩; obtain ⟨hc, hf⟩ := bcell hb) | (go_at_call 69; refine (level_any _ _).mono ?_; rintro e w' ⟨rfl, rfl⟩))
          go_ret
          exact ⟨ret_int (by rw [H.out]), bel2 hb⟩
        · cases q3 : wit a 16777216
          · have H := hide (HR.out (by simp [Cd.rest, q3]))
            clear HR HN
            go_enter Tryd.func50, Tryd.ntmps50
            go_wp2_with (first | (go_at_call 51; refine (within_any _ _ _).mono ?_; rintro e w' ⟨rfl, rfl⟩) | (go_at_call 70; refine (valid_any _ _ _).mono ?_; rintro e w' ⟨rfl, hb⟩; obtain ⟨hc, hf⟩ := bcell hb) | (go_at_call 69; refine (level_any _ _).mono ?_; rintro e w' ⟨rfl, rfl⟩))
            go_ret
            exact ⟨ret_int (by rw [H.out]), bel2 hb⟩
          · cases q4 : wit b 16777216
            · have H := hide (HR.out (by simp [Cd.rest, q4]))
              clear HR HN
              go_enter Tryd.func50, Tryd.ntmps50
              go_wp2_with (first | (go_at_call 51; refine (within_any _ _ _).mono ?_; rintro e w' ⟨rfl, rfl⟩) | (go_at_call 70; refine (valid_any _ _ _).mono ?_; rintro e w' ⟨rfl, hb⟩; obtain ⟨hc, hf⟩ := bcell hb) | (go_at_call 69; refine (level_any _ _).mono ?_; rintro e w' ⟨rfl, rfl⟩))
              go_ret
              exact ⟨ret_int (by rw [H.out]), bel2 hb⟩
            · by_cases q5 : b < a
              · have H := hide (HR.out (by simp [Cd.rest]; omega))
                clear HR HN
                go_enter Tryd.func50, Tryd.ntmps50
                go_wp2_with (first | (go_at_call 51; refine (within_any _ _ _).mono ?_; rintro e w' ⟨rfl, rfl⟩) | (go_at_call 70; refine (valid_any _ _ _).mono ?_; rintro e w' ⟨rfl, hb⟩; obtain ⟨hc, hf⟩ := bcell hb) | (go_at_call 69; refine (level_any _ _).mono ?_; rintro e w' ⟨rfl, rfl⟩))
                go_ret
                exact ⟨ret_int (by rw [H.out]), bel2 hb⟩
              · have H := hide (HN.out (by simp [Cd.rest, q1, q2, q3, q4]; omega))
                clear HR HN
                go_enter Tryd.func50, Tryd.ntmps50
                go_wp2_with (first | (go_at_call 51; refine (within_any _ _ _).mono ?_; rintro e w' ⟨rfl, rfl⟩) | (go_at_call 70; refine (valid_any _ _ _).mono ?_; rintro e w' ⟨rfl, hb⟩; obtain ⟨hc, hf⟩ := bcell hb) | (go_at_call 69; refine (level_any _ _).mono ?_; rintro e w' ⟨rfl, rfl⟩))
                go_ret
                exact ⟨ret_int (by rw [H.out]), bel2 hb⟩
end Go.Proofs.YtphgddanbgdemaaDoor
