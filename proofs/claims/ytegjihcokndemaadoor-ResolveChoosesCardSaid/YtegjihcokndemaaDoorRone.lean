/-
  The contract of the reference's first error of a condition. No condition.
-/
import Derived.Test.YtegjihcokndemaaDoorProg
import Derived.Test.YtegjihcokndemaaDoorOne
import Derived.Test.YtegjihcokndemaaDoorRday
namespace Go.Proofs.YtegjihcokndemaaDoor
open Go.RowKit

set_option maxHeartbeats 1600000 in
set_option maxRecDepth 20000 in
theorem rone_any (c : Cd) (w : World) : Calls Tryd.prog 39 #[.agg c.arr] w fun e w' => e = .returned (.int .i64 c.err) ∧ Below w.heap.size w w' := by
  obtain ⟨r, k, v, f, t, a, b⟩ := c
  have hmf : ∀ (fn : Fn) (first cap : Array Value) (w : World), (Instr.makeFunc fn first cap).run Tryd.prog w = .ok (.func fn first cap) w := fun _ _ _ _ => rfl
  by_cases h1 : r < 1 ∨ 9 < r
  · have H := hide (err_rank (c := ⟨r, k, v, f, t, a, b⟩) h1)
    unfold Cd.arr
    rcases h1 with h1 | h1
    · go_enter Tryd.func39, Tryd.ntmps39
      go_wp2
      go_ret
      exact ⟨ret_int (by rw [H.out]), bel1⟩
    · have h2 : ¬ r < 1 := by omega
      go_enter Tryd.func39, Tryd.ntmps39
      go_wp2
      go_ret
      exact ⟨ret_int (by rw [H.out]), bel1⟩
  · by_cases h2 : k < 1 ∨ 4 < k
    · have H := hide (err_kind (c := ⟨r, k, v, f, t, a, b⟩) h1 h2)
      have h3 : ¬ r < 1 := by omega
      have h4 : ¬ 9 < r := by omega
      unfold Cd.arr
      clear h1
      rcases h2 with h2 | h2
      · go_enter Tryd.func39, Tryd.ntmps39
        go_wp2
        go_ret
        exact ⟨ret_int (by rw [H.out]), bel1⟩
      · have h5 : ¬ k < 1 := by omega
        go_enter Tryd.func39, Tryd.ntmps39
        go_wp2
        go_ret
        exact ⟨ret_int (by rw [H.out]), bel1⟩
    · have HR := hide (fun h => err_rest (c := ⟨r, k, v, f, t, a, b⟩) h1 h2 h)
      have HN := hide (fun h => err_none (c := ⟨r, k, v, f, t, a, b⟩) h1 h2 h)
      have h3 : ¬ r < 1 := by omega
      have h4 : ¬ 9 < r := by omega
      have h5 : ¬ k < 1 := by omega
      have h6 : ¬ 4 < k := by omega
      unfold Cd.arr
      clear h1 h2
      cases q1 : wit v 1073741824
      · have H := hide (HR.out (by simp [Cd.rest, q1]))
        clear HR HN
        go_enter Tryd.func39, Tryd.ntmps39
        go_wp2_with (first | (go_at_call 47; refine (refIn_any _ _ _).mono ?_; rintro e w' ⟨rfl, rfl⟩) | (go_at_call 68; refine (rvalid_any _ _ _).mono ?_; rintro e w' ⟨rfl, hb⟩; obtain ⟨hc, hf⟩ := bcell hb))
        go_ret
        exact ⟨ret_int (by rw [H.out]), bel1⟩
      · cases q2 : okSpan f t
        · have H := hide (HR.out (by simp [Cd.rest, q2]))
          clear HR HN
          go_enter Tryd.func39, Tryd.ntmps39
          go_wp2_with (first | (go_at_call 47; refine (refIn_any _ _ _).mono ?_; rintro e w' ⟨rfl, rfl⟩) | (go_at_call 68; refine (rvalid_any _ _ _).mono ?_; rintro e w' ⟨rfl, hb⟩; obtain ⟨hc, hf⟩ := bcell hb))
          go_ret
          exact ⟨ret_int (by rw [H.out]), bel2 hb⟩
        · cases q3 : wit a 16777216
          · have H := hide (HR.out (by simp [Cd.rest, q3]))
            clear HR HN
            go_enter Tryd.func39, Tryd.ntmps39
            go_wp2_with (first | (go_at_call 47; refine (refIn_any _ _ _).mono ?_; rintro e w' ⟨rfl, rfl⟩) | (go_at_call 68; refine (rvalid_any _ _ _).mono ?_; rintro e w' ⟨rfl, hb⟩; obtain ⟨hc, hf⟩ := bcell hb))
            go_ret
            exact ⟨ret_int (by rw [H.out]), bel2 hb⟩
          · cases q4 : wit b 16777216
            · have H := hide (HR.out (by simp [Cd.rest, q4]))
              clear HR HN
              go_enter Tryd.func39, Tryd.ntmps39
              go_wp2_with (first | (go_at_call 47; refine (refIn_any _ _ _).mono ?_; rintro e w' ⟨rfl, rfl⟩) | (go_at_call 68; refine (rvalid_any _ _ _).mono ?_; rintro e w' ⟨rfl, hb⟩; obtain ⟨hc, hf⟩ := bcell hb))
              go_ret
              exact ⟨ret_int (by rw [H.out]), bel2 hb⟩
            · by_cases q5 : b < a
              · have H := hide (HR.out (by simp [Cd.rest]; omega))
                clear HR HN
                go_enter Tryd.func39, Tryd.ntmps39
                go_wp2_with (first | (go_at_call 47; refine (refIn_any _ _ _).mono ?_; rintro e w' ⟨rfl, rfl⟩) | (go_at_call 68; refine (rvalid_any _ _ _).mono ?_; rintro e w' ⟨rfl, hb⟩; obtain ⟨hc, hf⟩ := bcell hb))
                go_ret
                exact ⟨ret_int (by rw [H.out]), bel2 hb⟩
              · have H := hide (HN.out (by simp [Cd.rest, q1, q2, q3, q4]; omega))
                clear HR HN
                go_enter Tryd.func39, Tryd.ntmps39
                go_wp2_with (first | (go_at_call 47; refine (refIn_any _ _ _).mono ?_; rintro e w' ⟨rfl, rfl⟩) | (go_at_call 68; refine (rvalid_any _ _ _).mono ?_; rintro e w' ⟨rfl, hb⟩; obtain ⟨hc, hf⟩ := bcell hb))
                go_ret
                exact ⟨ret_int (by rw [H.out]), bel2 hb⟩
end Go.Proofs.YtegjihcokndemaaDoor
