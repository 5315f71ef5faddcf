/-
  Contracts of both Checks of conditions: the first error. Condition: there are 200 at most.
-/
import Derived.Test.YtphgddanbgdemaaDoorProg
import Derived.Test.YtphgddanbgdemaaDoorApp
import Derived.Test.YtphgddanbgdemaaDoorRap
namespace Go.Proofs.YtphgddanbgdemaaDoor
open Go.RowKit

/-- The first error of some conditions. -/
def errL : List Cd → Int
  | [] => 0
  | c :: t => if c.err = 0 then errL t else c.err
theorem errL_at : ∀ (cs : List Cd) (k : Nat) (h : k < cs.length), (∀ j (hj : j < k), (cs[j]'(by omega)).err = 0) → cs[k].err ≠ 0 → errL cs = cs[k].err
  | c :: t, 0, _, _, hk => by simp [errL] at hk ⊢; intro h; exact absurd h hk
  | c :: t, k + 1, h, hp, hk => by
    have h0 : c.err = 0 := hp 0 (by omega)
    unfold errL
    rw [if_pos h0]
    exact errL_at t k (by simpa using h) (fun j hj => hp (j + 1) (by omega)) hk
theorem errL_zero : ∀ (cs : List Cd), errL cs = 0 ↔ ∀ x ∈ cs, x.err = 0
  | [] => by simp [errL]
  | c :: t => by
    unfold errL
    by_cases h : c.err = 0
    · rw [if_pos h, errL_zero t]; simp [h]
    · rw [if_neg h]; simp [h]
theorem errL_all {cs : List Cd} (h : ∀ j (hj : j < cs.length), cs[j].err = 0) : errL cs = 0 := by
  rw [errL_zero]
  intro x hx
  obtain ⟨j, hj, rfl⟩ := List.getElem_of_mem hx
  exact h j hj
set_option maxHeartbeats 1600000 in
set_option maxRecDepth 20000 in
theorem check_any (A : Option Addr) (n c : Nat) (cs : List Cd) (w : World) (hn : n ≤ 200) (hs : Sl w w.heap.size 7 A n c (cdCells cs)) :
    Calls Tryd.prog 60 #[.slice A n c] w fun e w' => e = .returned (.int .i64 (errL cs)) ∧ Below w.heap.size w w' := by
  have hl : n = cs.length := by have := hs.1; rw [cdCells_length] at this; omega
  have HL := hide hl
  have HS := hide hs
  clear hl hs
  go_enter Tryd.func60, Tryd.ntmps60
  go_wp2
  go_loopw [11] (fun i wr => ∃ k : Nat, k ≤ n ∧ i = .int .i64 k ∧ Hid (∀ j (hj : j < k) (h : j < cs.length), cs[j].err = 0) ∧ Below w.heap.size w wr) (fun i _ => n - (intOf i).toNat)
  case atStart => exact ⟨0, by omega, rfl, hide (fun j hj => by omega), Below.refl _ _⟩
  case round =>
    obtain ⟨k, hk, rfl, HP, hb⟩ := hrel
    by_cases hlt : k < n
    · obtain ⟨b, o, rfl, hb1, hc⟩ := (HS.out.below hb).at_ hlt
      have hL := HL.out
      have hE := hide (fun (h : ¬ (cs[k]'(by omega)).err = 0) => errL_at cs k (by omega) (fun j hj => HP.out j hj (by omega)) h)
      have HN := hide (fun (h : (cs[k]'(by omega)).err = 0) => show ∀ j (hj : j < k + 1) (h : j < cs.length), cs[j].err = 0 from fun j hj h2 => by
        by_cases hjk : j = k
        · subst hjk; exact h
        · exact HP.out j (by omega) h2)
      rcases he : cs[k]'(by omega) with ⟨r, kd, v, f, t, x, y⟩
      obtain ⟨c0, c1, c2, c3, c4, c5, c6⟩ := cd_cells (B := 0) (n := 0) (c := 0) hc (by omega) he
      rw [he] at hE HN
      have HA := hide (fun W => one_any ⟨r, kd, v, f, t, x, y⟩ W)
      have hB2 := hide (hb.alloc hb.size (.cells (Cd.arr ⟨r, kd, v, f, t, x, y⟩) 47))
      unfold Cd.arr at HA hB2
      generalize Cd.err ⟨r, kd, v, f, t, x, y⟩ = er at *
      clear hc hL he hb HP
      go_wp2_with fail
      refine (HA.out _).mono ?_
      rintro e w2 ⟨rfl, hb2⟩
      have hB3 := hide (bthr hB2.out hb2 hB2.out.size)
      clear hB2 hb2 c0 c1 c2 c3 c4 c5 c6 HA
      by_cases h0 : er = 0
      · have HN2 := hide (HN.out h0)
        have hq : (er != 0) = false := by simp [h0]
        clear HN hE h0
        go_wp2
        go_roundw
        case rel => exact ⟨k + 1, by omega, by go_num, HN2, hB3.out⟩
        case measure => simp [intOf]; omega
      · have HE := hide (hE.out h0)
        have hq : (er != 0) = true := by simp [h0]
        clear HN hE h0
        go_wp2
        go_ret
        exact ⟨by rw [HE.out]; rfl, hB3.out⟩
    · obtain rfl : k = n := by omega
      have HE := hide (errL_all (cs := cs) (fun j hj => HP.out j (by have := HL.out; omega) hj))
      have HB := hide hb
      clear hb HP
      go_wp2
      go_ret
      exact ⟨by rw [HE.out]; rfl, HB.out⟩
set_option maxHeartbeats 1600000 in
set_option maxRecDepth 20000 in
theorem rcheck_any (A : Option Addr) (n c : Nat) (cs : List Cd) (w : World) (hn : n ≤ 200) (hs : Sl w w.heap.size 7 A n c (cdCells cs)) :
    Calls Tryd.prog 39 #[.slice A n c] w fun e w' => e = .returned (.int .i64 (errL cs)) ∧ Below w.heap.size w w' := by
  have hl : n = cs.length := by have := hs.1; rw [cdCells_length] at this; omega
  have HL := hide hl
  have HS := hide hs
  clear hl hs
  go_enter Tryd.func39, Tryd.ntmps39
  go_wp2
  go_loopw [11] (fun i wr => ∃ k : Nat, k ≤ n ∧ i = .int .i64 k ∧ Hid (∀ j (hj : j < k) (h : j < cs.length), cs[j].err = 0) ∧ Below w.heap.size w wr) (fun i _ => n - (intOf i).toNat)
  case atStart => exact ⟨0, by omega, rfl, hide (fun j hj => by omega), Below.refl _ _⟩
  case round =>
    obtain ⟨k, hk, rfl, HP, hb⟩ := hrel
    by_cases hlt : k < n
    · obtain ⟨b, o, rfl, hb1, hc⟩ := (HS.out.below hb).at_ hlt
      have hL := HL.out
      have hE := hide (fun (h : ¬ (cs[k]'(by omega)).err = 0) => errL_at cs k (by omega) (fun j hj => HP.out j hj (by omega)) h)
      have HN := hide (fun (h : (cs[k]'(by omega)).err = 0) => show ∀ j (hj : j < k + 1) (h : j < cs.length), cs[j].err = 0 from fun j hj h2 => by
        by_cases hjk : j = k
        · subst hjk; exact h
        · exact HP.out j (by omega) h2)
      rcases he : cs[k]'(by omega) with ⟨r, kd, v, f, t, x, y⟩
      obtain ⟨c0, c1, c2, c3, c4, c5, c6⟩ := cd_cells (B := 0) (n := 0) (c := 0) hc (by omega) he
      rw [he] at hE HN
      have HA := hide (fun W => rone_any ⟨r, kd, v, f, t, x, y⟩ W)
      have hB2 := hide (hb.alloc hb.size (.cells (Cd.arr ⟨r, kd, v, f, t, x, y⟩) 47))
      unfold Cd.arr at HA hB2
      generalize Cd.err ⟨r, kd, v, f, t, x, y⟩ = er at *
      clear hc hL he hb HP
      go_wp2_with fail
      refine (HA.out _).mono ?_
      rintro e w2 ⟨rfl, hb2⟩
      have hB3 := hide (bthr hB2.out hb2 hB2.out.size)
      clear hB2 hb2 c0 c1 c2 c3 c4 c5 c6 HA
      by_cases h0 : er = 0
      · have HN2 := hide (HN.out h0)
        have hq : (er != 0) = false := by simp [h0]
        clear HN hE h0
        go_wp2
        go_roundw
        case rel => exact ⟨k + 1, by omega, by go_num, HN2, hB3.out⟩
        case measure => simp [intOf]; omega
      · have HE := hide (hE.out h0)
        have hq : (er != 0) = true := by simp [h0]
        clear HN hE h0
        go_wp2
        go_ret
        exact ⟨by rw [HE.out]; rfl, hB3.out⟩
    · obtain rfl : k = n := by omega
      have HE := hide (errL_all (cs := cs) (fun j hj => HP.out j (by have := HL.out; omega) hj))
      have HB := hide hb
      clear hb HP
      go_wp2
      go_ret
      exact ⟨by rw [HE.out]; rfl, HB.out⟩
end Go.Proofs.YtphgddanbgdemaaDoor
