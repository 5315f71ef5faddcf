/-
  Contracts of the reference's Check and Applies of conditions. Condition: each of them is valid.
-/
import Derived.Test.YtegjihcokndemaaDoorProg
import Derived.Test.YtegjihcokndemaaDoorRone
import Derived.Test.YtegjihcokndemaaDoorRin
import Derived.Test.YtegjihcokndemaaDoorApp
namespace Go.Proofs.YtegjihcokndemaaDoor
open Go.RowKit

/-- A condition applies on a day, at a level. -/
def apyB (d lv : Int) (c : Cd) : Bool := inB c.from_ c.to_ d && decide (c.above ≤ lv) && decide (lv ≤ c.below)
set_option maxHeartbeats 1600000 in
set_option maxRecDepth 20000 in
theorem rapplies_ok (c : Cd) (d x : Int) (w : World) (he : c.err = 0) : Calls Tryd.prog 24 #[.agg c.arr, .int .i64 d, .int .i64 x] w fun e w' => e = .returned (.bool (apyB d x c)) ∧ Below w.heap.size w w' := by
  have h0 := Blk.new w 32 c.arr
  have hB := bel1 (w := w) (o := .cells c.arr 32)
  have HA := hide (fun W => rone_any c W)
  have H9 := hide he
  clear he
  obtain ⟨r, k, v, f, t, a, b⟩ := c
  have HI := hide (fun W => rin_any f t d W)
  have HR := hide (show apyB d x ⟨r, k, v, f, t, a, b⟩ = (inB f t d && decide (a ≤ x) && decide (x ≤ b)) from rfl)
  generalize apyB d x ⟨r, k, v, f, t, a, b⟩ = res at *
  unfold Cd.arr at h0 hB HA ⊢
  simp only
  go_enter Tryd.func24, Tryd.ntmps24
  go_wp2_with fail
  generalize (w.alloc _) = w2 at *
  refine (HA.out _).mono ?_
  rintro e w3 ⟨rfl, hb1⟩
  rw [H9.out]
  have hB1 := bthr hB hb1 hB.size
  replace h0 := h0.below hb1 h0.lt
  clear hB hb1
  obtain ⟨⟨a0, a1, a2, a3, a4, a5, a6⟩, _⟩ := Blk.facts7 h0
  go_wp2_with fail
  refine (HI.out _).mono ?_
  rintro e w4 ⟨rfl, hb4⟩
  have hB4 := bthr hB1 hb4 hB1.size
  replace h0 := h0.below hb4 h0.lt
  clear hB1 hb4 a0 a1 a2 a3 a4 a5 a6 HA HI H9
  obtain ⟨⟨a0, a1, a2, a3, a4, a5, a6⟩, _⟩ := Blk.facts7 h0
  clear h0 a0 a1 a2
  cases hi : inB f t d
  all_goals by_cases h1 : a ≤ x <;> by_cases h2 : x ≤ b
  all_goals
    go_wp2
    go_ret
    exact ⟨ret_bool (by rw [HR.out]; simp [h1, h2, hi]), hB4⟩
set_option maxHeartbeats 1600000 in
set_option maxRecDepth 20000 in
theorem rcheck_ok (A : Option Addr) (n c : Nat) (cs : List Cd) (w : World) (hn : n ≤ 200) (hg : ∀ x ∈ cs, x.err = 0) (hs : Sl w w.heap.size 7 A n c (cdCells cs)) :
    Calls Tryd.prog 12 #[.slice A n c] w fun e w' => e = .returned (.int .i64 0) ∧ Below w.heap.size w w' := by
  have hl : n = cs.length := by have := hs.1; rw [cdCells_length] at this; omega
  have HL := hide hl
  have HS := hide hs
  have HG := hide hg
  clear hl hs hg
  go_enter Tryd.func12, Tryd.ntmps12
  go_wp2
  go_loopw [11] (fun i wr => ∃ k : Nat, k ≤ n ∧ i = .int .i64 k ∧ Below w.heap.size w wr) (fun i _ => n - (intOf i).toNat)
  case atStart => exact ⟨0, by omega, rfl, Below.refl _ _⟩
  case round =>
    obtain ⟨k, hk, rfl, hb⟩ := hrel
    by_cases hlt : k < n
    · obtain ⟨b, o, rfl, hb1, hc⟩ := (HS.out.below hb).at_ hlt
      have hL := HL.out
      have hE := HG.out _ (List.getElem_mem (show k < cs.length by omega))
      rcases he : cs[k]'(by omega) with ⟨r, kd, v, f, t, x, y⟩
      obtain ⟨c0, c1, c2, c3, c4, c5, c6⟩ := cd_cells (B := 0) (n := 0) (c := 0) hc (by omega) he
      rw [he] at hE
      have HE := hide hE
      have HA := hide (fun W => rone_any ⟨r, kd, v, f, t, x, y⟩ W)
      have hB2 := hide (hb.alloc hb.size (.cells (Cd.arr ⟨r, kd, v, f, t, x, y⟩) 32))
      unfold Cd.arr at HA hB2
      clear hc hL he hE hb
      go_wp2_with fail
      refine (HA.out _).mono ?_
      rintro e w2 ⟨rfl, hb2⟩
      rw [HE.out]
      have hB3 := hide (bthr hB2.out hb2 hB2.out.size)
      clear hB2 hb2 c0 c1 c2 c3 c4 c5 c6
      go_wp2
      go_roundw
      case rel => exact ⟨k + 1, by omega, by go_num, hB3.out⟩
      case measure => simp [intOf]; omega
    · obtain rfl : k = n := by omega
      go_wp2
      go_ret
      exact ⟨rfl, hb⟩
end Go.Proofs.YtegjihcokndemaaDoor
