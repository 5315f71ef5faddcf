/-
  Contracts of Applies and Check of conditions. Conditions: Check: each of them is valid.
-/
import Derived.Test.YtphgddanbgdemaaDoorProg
import Derived.Test.YtphgddanbgdemaaDoorOne
import Derived.Test.YtphgddanbgdemaaDoorReg
namespace Go.Proofs.YtphgddanbgdemaaDoor
open Go.RowKit

def appB (c : Cd) (d x : Int) : Bool := decide (c.err = 0) && inB c.from_ c.to_ d && decide (c.above ≤ x) && decide (x ≤ c.below)
set_option maxHeartbeats 1600000 in
set_option maxRecDepth 20000 in
theorem applies_ok (c : Cd) (d x : Int) (w : World) (he : c.err = 0) : Calls Tryd.prog 48 #[.agg c.arr, .int .i64 d, .int .i64 x] w fun e w' => e = .returned (.bool (inB c.from_ c.to_ d && decide (c.above ≤ x) && decide (x ≤ c.below))) ∧ Below w.heap.size w w' := by
  have h0 := Blk.new w 47 c.arr
  have hB := bel1 (w := w) (o := .cells c.arr 47)
  have HA := hide (fun W => one_any c W)
  have H9 := hide he
  clear he
  obtain ⟨r, k, v, f, t, a, b⟩ := c
  have HI := hide (fun W => in_any f t d W)
  unfold Cd.arr at h0 hB HA ⊢
  simp only
  go_enter Tryd.func48, Tryd.ntmps48
  go_wp2_with fail
  generalize (w.alloc _) = w2 at *
  refine (HA.out _).mono ?_
  rintro e w3 ⟨rfl, hb1⟩
  rw [H9.out]
  have hB1 := bthr hB hb1 hB.size
  replace h0 := h0.below hb1 h0.lt
  clear hB hb1
  obtain ⟨⟨a0, a1, a2, a3, a4, a5, a6⟩, _⟩ := Blk.facts7 h0
  go_wp2_with fail
  refine (HI.out _).mono ?_
  rintro e w4 ⟨rfl, hb4⟩
  have hB4 := bthr hB1 hb4 hB1.size
  replace h0 := h0.below hb4 h0.lt
  clear hB1 hb4 a0 a1 a2 a3 a4 a5 a6 HA HI H9
  obtain ⟨⟨a0, a1, a2, a3, a4, a5, a6⟩, _⟩ := Blk.facts7 h0
  clear h0 a0 a1 a2
  cases hi : inB f t d
  all_goals by_cases h1 : a ≤ x <;> by_cases h2 : x ≤ b
  all_goals
    go_wp2
    go_ret
    exact ⟨ret_bool (by simp [h1, h2, hi]), hB4⟩
/-- Conditions as cells. -/
def cdCells (cs : List Cd) : List Value := cs.flatMap fun c => c.arr.toList
theorem cdCells_append (a b : List Cd) : cdCells (a ++ b) = cdCells a ++ cdCells b := by simp [cdCells]
theorem cdCells_length (cs : List Cd) : (cdCells cs).length = cs.length * 7 := by
  induction cs with
  | nil => rfl
  | cons c t ih => simp only [cdCells, List.flatMap_cons, List.length_append, List.length_cons] at ih ⊢; rw [ih]; simp [Cd.arr]; omega
theorem cdCells_get : ∀ (cs : List Cd) (i : Nat) (h : i < cs.length) (j : Nat), j < 7 → (cdCells cs)[i * 7 + j]? = cs[i].arr.toList[j]?
  | c :: t, 0, _, j, hj => by
    simp only [cdCells, List.flatMap_cons, Nat.zero_mul, Nat.zero_add, List.getElem_cons_zero]
    rw [List.getElem?_append_left (by simp [Cd.arr]; omega)]
  | c :: t, i + 1, h, j, hj => by
    have := cdCells_get t i (by simpa using h) j hj
    simp only [cdCells, List.flatMap_cons, List.getElem_cons_succ] at this ⊢
    rw [List.getElem?_append_right (by simp [Cd.arr]; omega), ← this]
    congr 1
    simp [Cd.arr]; omega
/-- The seven cells of element i. -/
theorem cd_cells {w : World} {B n c b o : Nat} {cs : List Cd} (hc : ∀ j u, (cdCells cs)[j]? = some u → w.cell? ⟨b, o + j, none⟩ = some u) {i : Nat} (hi : i < cs.length) {r k v f t x y : Int} (he : cs[i] = ⟨r, k, v, f, t, x, y⟩) :
    w.cell? ⟨b, o + i * 7, none⟩ = some (.int .i64 r) ∧ w.cell? ⟨b, o + i * 7 + 1, none⟩ = some (.int .i64 k) ∧ w.cell? ⟨b, o + i * 7 + 2, none⟩ = some (.int .i64 v) ∧ w.cell? ⟨b, o + i * 7 + 3, none⟩ = some (.int .i64 f) ∧ w.cell? ⟨b, o + i * 7 + 4, none⟩ = some (.int .i64 t) ∧ w.cell? ⟨b, o + i * 7 + 5, none⟩ = some (.int .i64 x) ∧ w.cell? ⟨b, o + i * 7 + 6, none⟩ = some (.int .i64 y) := by
  have h := fun j hj => cdCells_get cs i hi j hj
  rw [he] at h
  exact ⟨hc _ _ (h 0 (by omega)), hc _ _ (h 1 (by omega)), hc _ _ (h 2 (by omega)), hc _ _ (h 3 (by omega)), hc _ _ (h 4 (by omega)), hc _ _ (h 5 (by omega)), hc _ _ (h 6 (by omega))⟩
set_option maxHeartbeats 1600000 in
set_option maxRecDepth 20000 in
theorem check_ok (A : Option Addr) (n c : Nat) (cs : List Cd) (w : World) (hn : n ≤ 200) (hg : ∀ x ∈ cs, x.err = 0) (hs : Sl w w.heap.size 7 A n c (cdCells cs)) :
    Calls Tryd.prog 60 #[.slice A n c] w fun e w' => e = .returned (.int .i64 0) ∧ Below w.heap.size w w' := by
  have hl : n = cs.length := by have := hs.1; rw [cdCells_length] at this; omega
  have HL := hide hl
  have HS := hide hs
  have HG := hide hg
  clear hl hs hg
  go_enter Tryd.func60, Tryd.ntmps60
  go_wp2
  go_loopw [11] (fun i wr => ∃ k : Nat, k ≤ n ∧ i = .int .i64 k ∧ Below w.heap.size w wr) (fun i _ => n - (intOf i).toNat)
  case atStart => exact ⟨0, by omega, rfl, Below.refl _ _⟩
  case round =>
    obtain ⟨k, hk, rfl, hb⟩ := hrel
    by_cases hlt : k < n
    · obtain ⟨b, o, rfl, hb1, hc⟩ := (HS.out.below hb).at_ hlt
      have hL := HL.out
      have hE := HG.out _ (List.getElem_mem (show k < cs.length by omega))
      rcases he : cs[k]'(by omega) with ⟨r, kd, v, f, t, x, y⟩
      obtain ⟨c0, c1, c2, c3, c4, c5, c6⟩ := cd_cells (B := 0) (n := 0) (c := 0) hc (by omega) he
      rw [he] at hE
      have HE := hide hE
      have HA := hide (fun W => one_any ⟨r, kd, v, f, t, x, y⟩ W)
      have hB2 := hide (hb.alloc hb.size (.cells (Cd.arr ⟨r, kd, v, f, t, x, y⟩) 47))
      unfold Cd.arr at HA hB2
      clear hc hL he hE hb
      go_wp2_with fail
      refine (HA.out _).mono ?_
      rintro e w2 ⟨rfl, hb2⟩
      rw [HE.out]
      have hB3 := hide (bthr hB2.out hb2 hB2.out.size)
      clear hB2 hb2 c0 c1 c2 c3 c4 c5 c6
      go_wp2
      go_roundw
      case rel => exact ⟨k + 1, by omega, by go_num, hB3.out⟩
      case measure => simp [intOf]; omega
    · obtain rfl : k = n := by omega
      go_wp2
      go_ret
      exact ⟨rfl, hb⟩
end Go.Proofs.YtphgddanbgdemaaDoor
