/-
  Contracts of the reference's In, IsDay and Valid. No condition.
  The contract of the reference's first error of a condition. No condition.
  The contract of the reference's In of a span. No condition.
  Contracts of the reference's Check and Applies of conditions. Condition: each of them is valid.
-/
import Derived.Test.YtphgddanbgdemaaDoorProg
import Derived.Test.YtphgddanbgdemaaDoorCal
import Derived.Test.YtphgddanbgdemaaDoorOne
import Derived.Test.YtphgddanbgdemaaDoorApp
namespace Go.Proofs.YtphgddanbgdemaaDoor
open Go.RowKit

theorem refin_any (n m : Int) (w : World) :
    Calls Tryd.prog 57 #[.int .i64 n, .int .i64 m] w fun e w' => e = .returned (.bool (wit n m)) ∧ w = w' := by
  by_cases h : 0 ≤ n
  all_goals
    go_enter Tryd.func57, Tryd.ntmps57
    go_wp2
    go_ret
    exact ⟨ret_bool (by simp [wit]; try omega), rfl⟩
theorem refIn_any (n m : Int) (w : World) :
    Calls Tryd.prog 38 #[.int .i64 n, .int .i64 m] w fun e w' => e = .returned (.bool (wit n m)) ∧ w = w' := by
  go_enter Tryd.func38, Tryd.ntmps38
  go_wp2_with (go_at_call 57; refine (refin_any _ _ _).mono ?_; rintro e w' ⟨rfl, rfl⟩)
  go_ret
  exact ⟨rfl, rfl⟩
theorem risday_any (d : Int) (w : World) :
    Calls Tryd.prog 40 #[.int .i64 d] w fun e w' => e = .returned (.bool (wit d 364)) ∧ w = w' := by
  go_enter Tryd.func40, Tryd.ntmps40
  go_wp2_with (go_at_call 38; refine (refIn_any _ _ _).mono ?_; rintro e w' ⟨rfl, rfl⟩)
  go_ret
  exact ⟨rfl, rfl⟩
theorem rvalid_any (f t : Int) (w : World) :
    Calls Tryd.prog 59 #[.agg #[.int .i64 f, .int .i64 t]] w fun e w' => e = .returned (.bool (okSpan f t)) ∧ Below w.heap.size w w' := by
  cases h : wit f 364
  all_goals
    go_enter Tryd.func59, Tryd.ntmps59
    go_wp2_with (go_at_call 40; refine (risday_any _ _).mono ?_; rintro e w' ⟨rfl, rfl⟩)
    go_ret
    exact ⟨ret_bool (by simp [okSpan, h]), bel1⟩
end Go.Proofs.YtphgddanbgdemaaDoor
namespace Go.Proofs.YtphgddanbgdemaaDoor
open Go.RowKit

set_option maxHeartbeats 1600000 in
set_option maxRecDepth 20000 in
theorem rone_any (c : Cd) (w : World) : Calls Tryd.prog 43 #[.agg c.arr] w fun e w' => e = .returned (.int .i64 c.err) ∧ Below w.heap.size w w' := by
  obtain ⟨r, k, v, f, t, a, b⟩ := c
  have hmf : ∀ (fn : Fn) (first cap : Array Value) (w : World), (Instr.makeFunc fn first cap).run Tryd.prog w = .ok (.func fn first cap) w := fun _ _ _ _ => rfl
  by_cases h1 : r < 1 ∨ 9 < r
  · have H := hide (err_rank (c := ⟨r, k, v, f, t, a, b⟩) h1)
    unfold Cd.arr
    rcases h1 with h1 | h1
    · go_enter Tryd.func43, Tryd.ntmps43
      go_wp2
      go_ret
      exact ⟨ret_int (by rw [H.out]), bel1⟩
    · have h2 : ¬ r < 1 := by omega
      go_enter Tryd.func43, Tryd.ntmps43
      go_wp2
      go_ret
      exact ⟨ret_int (by rw [H.out]), bel1⟩
  · by_cases h2 : k < 1 ∨ 4 < k
    · have H := hide (err_kind (c := ⟨r, k, v, f, t, a, b⟩) h1 h2)
      have h3 : ¬ r < 1 := by omega
      have h4 : ¬ 9 < r := by omega
      unfold Cd.arr
      clear h1
      rcases h2 with h2 | h2
      · go_enter Tryd.func43, Tryd.ntmps43
        go_wp2
        go_ret
        exact ⟨ret_int (by rw [H.out]), bel1⟩
      · have h5 : ¬ k < 1 := by omega
        go_enter Tryd.func43, Tryd.ntmps43
        go_wp2
        go_ret
        exact ⟨ret_int (by rw [H.out]), bel1⟩
    · have HR := hide (fun h => err_rest (c := ⟨r, k, v, f, t, a, b⟩) h1 h2 h)
      have HN := hide (fun h => err_none (c := ⟨r, k, v, f, t, a, b⟩) h1 h2 h)
      have h3 : ¬ r < 1 := by omega
      have h4 : ¬ 9 < r := by omega
      have h5 : ¬ k < 1 := by omega
      have h6 : ¬ 4 < k := by omega
      unfold Cd.arr
      clear h1 h2
      cases q1 : wit v 1073741824
      · have H := hide (HR.out (by simp [Cd.rest, q1]))
        clear HR HN
        go_enter Tryd.func43, Tryd.ntmps43
        go_wp2_with (first | (go_at_call 38; refine (refIn_any _ _ _).mono ?_; rintro e w' ⟨rfl, rfl⟩) | (go_at_call 59; refine (rvalid_any _ _ _).mono ?_; rintro e w' ⟨rfl, hb⟩; obtain ⟨hc, hf⟩ := bcell hb))
        go_ret
        exact ⟨ret_int (by rw [H.out]), bel1⟩
      · cases q2 : okSpan f t
        · have H := hide (HR.out (by simp [Cd.rest, q2]))
          clear HR HN
          go_enter Tryd.func43, Tryd.ntmps43
          go_wp2_with (first | (go_at_call 38; refine (refIn_any _ _ _).mono ?_; rintro e w' ⟨rfl, rfl⟩) | (go_at_call 59; refine (rvalid_any _ _ _).mono ?_; rintro e w' ⟨rfl, hb⟩; obtain ⟨hc, hf⟩ := bcell hb))
          go_ret
          exact ⟨ret_int (by rw [H.out]), bel2 hb⟩
        · cases q3 : wit a 16777216
          · have H := hide (HR.out (by simp [Cd.rest, q3]))
            clear HR HN
            go_enter Tryd.func43, Tryd.ntmps43
            go_wp2_with (first | (go_at_call 38; refine (refIn_any _ _ _).mono ?_; rintro e w' ⟨rfl, rfl⟩) | (go_at_call 59; refine (rvalid_any _ _ _).mono ?_; rintro e w' ⟨rfl, hb⟩; obtain ⟨hc, hf⟩ := bcell hb))
            go_ret
            exact ⟨ret_int (by rw [H.out]), bel2 hb⟩
          · cases q4 : wit b 16777216
            · have H := hide (HR.out (by simp [Cd.rest, q4]))
              clear HR HN
              go_enter Tryd.func43, Tryd.ntmps43
              go_wp2_with (first | (go_at_call 38; refine (refIn_any _ _ _).mono ?_; rintro e w' ⟨rfl, rfl⟩) | (go_at_call 59; refine (rvalid_any _ _ _).mono ?_; rintro e w' ⟨rfl, hb⟩; obtain ⟨hc, hf⟩ := bcell hb))
              go_ret
              exact ⟨ret_int (by rw [H.out]), bel2 hb⟩
            · by_cases q5 : b < a
              · have H := hide (HR.out (by simp [Cd.rest]; omega))
                clear HR HN
                go_enter Tryd.func43, Tryd.ntmps43
                go_wp2_with (first | (go_at_call 38; refine (refIn_any _ _ _).mono ?_; rintro e w' ⟨rfl, rfl⟩) | (go_at_call 59; refine (rvalid_any _ _ _).mono ?_; rintro e w' ⟨rfl, hb⟩; obtain ⟨hc, hf⟩ := bcell hb))
                go_ret
                exact ⟨ret_int (by rw [H.out]), bel2 hb⟩
              · have H := hide (HN.out (by simp [Cd.rest, q1, q2, q3, q4]; omega))
                clear HR HN
                go_enter Tryd.func43, Tryd.ntmps43
                go_wp2_with (first | (go_at_call 38; refine (refIn_any _ _ _).mono ?_; rintro e w' ⟨rfl, rfl⟩) | (go_at_call 59; refine (rvalid_any _ _ _).mono ?_; rintro e w' ⟨rfl, hb⟩; obtain ⟨hc, hf⟩ := bcell hb))
                go_ret
                exact ⟨ret_int (by rw [H.out]), bel2 hb⟩
end Go.Proofs.YtphgddanbgdemaaDoor
namespace Go.Proofs.YtphgddanbgdemaaDoor
open Go.RowKit

theorem rin_any (f t d : Int) (w : World) :
    Calls Tryd.prog 58 #[.agg #[.int .i64 f, .int .i64 t], .int .i64 d] w fun e w' => e = .returned (.bool (inB f t d)) ∧ Below w.heap.size w w' := by
  cases h1 : okSpan f t
  · go_enter Tryd.func58, Tryd.ntmps58
    go_wp2_with (go_at_call 59; refine (rvalid_any _ _ _).mono ?_; rintro e w' ⟨rfl, hb⟩)
    go_ret
    exact ⟨ret_bool (by simp [inB_1 h1]), bel2 hb⟩
  · cases h2 : wit d 364
    · go_enter Tryd.func58, Tryd.ntmps58
      go_wp2_with (first | (go_at_call 59; refine (rvalid_any _ _ _).mono ?_; rintro e w' ⟨rfl, hb⟩) | (go_at_call 40; refine (risday_any _ _).mono ?_; rintro e w' ⟨rfl, rfl⟩))
      go_ret
      exact ⟨ret_bool (by simp [inB_2 h2]), bel2 hb⟩
    · by_cases h3 : f ≤ t
      · by_cases h4 : f ≤ d
        all_goals
          go_enter Tryd.func58, Tryd.ntmps58
          go_wp2_with (first | (go_at_call 59; refine (rvalid_any _ _ _).mono ?_; rintro e w' ⟨rfl, hb⟩; obtain ⟨hc, hf⟩ := bcell hb) | (go_at_call 40; refine (risday_any _ _).mono ?_; rintro e w' ⟨rfl, rfl⟩))
          go_ret
          exact ⟨ret_bool (by simp [inB_3 h1 h2 h3]; try omega), bel2 hb⟩
      · by_cases h4 : f ≤ d
        all_goals
          go_enter Tryd.func58, Tryd.ntmps58
          go_wp2_with (first | (go_at_call 59; refine (rvalid_any _ _ _).mono ?_; rintro e w' ⟨rfl, hb⟩; obtain ⟨hc, hf⟩ := bcell hb) | (go_at_call 40; refine (risday_any _ _).mono ?_; rintro e w' ⟨rfl, rfl⟩))
          go_ret
          exact ⟨ret_bool (by simp [inB_4 h1 h2 (by omega)]; try omega), bel2 hb⟩

end Go.Proofs.YtphgddanbgdemaaDoor
namespace Go.Proofs.YtphgddanbgdemaaDoor
open Go.RowKit

/-- A condition applies on a day, at a level. -/
def apyB (d lv : Int) (c : Cd) : Bool := inB c.from_ c.to_ d && decide (c.above ≤ lv) && decide (lv ≤ c.below)
set_option maxHeartbeats 1600000 in
set_option maxRecDepth 20000 in
theorem rapplies_ok (c : Cd) (d x : Int) (w : World) (he : c.err = 0) : Calls Tryd.prog 42 #[.agg c.arr, .int .i64 d, .int .i64 x] w fun e w' => e = .returned (.bool (apyB d x c)) ∧ Below w.heap.size w w' := by
  have h0 := Blk.new w 47 c.arr
  have hB := bel1 (w := w) (o := .cells c.arr 47)
  have HA := hide (fun W => rone_any c W)
  have H9 := hide he
  clear he
  obtain ⟨r, k, v, f, t, a, b⟩ := c
  have HI := hide (fun W => rin_any f t d W)
  have HR := hide (show apyB d x ⟨r, k, v, f, t, a, b⟩ = (inB f t d && decide (a ≤ x) && decide (x ≤ b)) from rfl)
  generalize apyB d x ⟨r, k, v, f, t, a, b⟩ = res at *
  unfold Cd.arr at h0 hB HA ⊢
  simp only
  go_enter Tryd.func42, Tryd.ntmps42
  go_wp2_with fail
  generalize (w.alloc _) = w2 at *
  refine (HA.out _).mono ?_
  rintro e w3 ⟨rfl, hb1⟩
  rw [H9.out]
  have hB1 := bthr hB hb1 hB.size
  replace h0 := h0.below hb1 h0.lt
  clear hB hb1
  obtain ⟨⟨a0, a1, a2, a3, a4, a5, a6⟩, _⟩ := Blk.facts7 h0
  go_wp2_with fail
  refine (HI.out _).mono ?_
  rintro e w4 ⟨rfl, hb4⟩
  have hB4 := bthr hB1 hb4 hB1.size
  replace h0 := h0.below hb4 h0.lt
  clear hB1 hb4 a0 a1 a2 a3 a4 a5 a6 HA HI H9
  obtain ⟨⟨a0, a1, a2, a3, a4, a5, a6⟩, _⟩ := Blk.facts7 h0
  clear h0 a0 a1 a2
  cases hi : inB f t d
  all_goals by_cases h1 : a ≤ x <;> by_cases h2 : x ≤ b
  all_goals
    go_wp2
    go_ret
    exact ⟨ret_bool (by rw [HR.out]; simp [h1, h2, hi]), hB4⟩
set_option maxHeartbeats 1600000 in
set_option maxRecDepth 20000 in
theorem rcheck_ok (A : Option Addr) (n c : Nat) (cs : List Cd) (w : World) (hn : n ≤ 200) (hg : ∀ x ∈ cs, x.err = 0) (hs : Sl w w.heap.size 7 A n c (cdCells cs)) :
    Calls Tryd.prog 39 #[.slice A n c] w fun e w' => e = .returned (.int .i64 0) ∧ Below w.heap.size w w' := by
  have hl : n = cs.length := by have := hs.1; rw [cdCells_length] at this; omega
  have HL := hide hl
  have HS := hide hs
  have HG := hide hg
  clear hl hs hg
  go_enter Tryd.func39, Tryd.ntmps39
  go_wp2
  go_loopw [11] (fun i wr => ∃ k : Nat, k ≤ n ∧ i = .int .i64 k ∧ Below w.heap.size w wr) (fun i _ => n - (intOf i).toNat)
  case atStart => exact ⟨0, by omega, rfl, Below.refl _ _⟩
  case round =>
    obtain ⟨k, hk, rfl, hb⟩ := hrel
    by_cases hlt : k < n
    · obtain ⟨b, o, rfl, hb1, hc⟩ := (HS.out.below hb).at_ hlt
      have hL := HL.out
      have hE := HG.out _ (List.getElem_mem (show k < cs.length by omega))
      rcases he : cs[k]'(by omega) with ⟨r, kd, v, f, t, x, y⟩
      obtain ⟨c0, c1, c2, c3, c4, c5, c6⟩ := cd_cells (B := 0) (n := 0) (c := 0) hc (by omega) he
      rw [he] at hE
      have HE := hide hE
      have HA := hide (fun W => rone_any ⟨r, kd, v, f, t, x, y⟩ W)
      have hB2 := hide (hb.alloc hb.size (.cells (Cd.arr ⟨r, kd, v, f, t, x, y⟩) 47))
      unfold Cd.arr at HA hB2
      clear hc hL he hE hb
      go_wp2_with fail
      refine (HA.out _).mono ?_
      rintro e w2 ⟨rfl, hb2⟩
      rw [HE.out]
      have hB3 := hide (bthr hB2.out hb2 hB2.out.size)
      clear hB2 hb2 c0 c1 c2 c3 c4 c5 c6
      go_wp2
      go_roundw
      case rel => exact ⟨k + 1, by omega, by go_num, hB3.out⟩
      case measure => simp [intOf]; omega
    · obtain rfl : k = n := by omega
      go_wp2
      go_ret
      exact ⟨rfl, hb⟩
end Go.Proofs.YtphgddanbgdemaaDoor
