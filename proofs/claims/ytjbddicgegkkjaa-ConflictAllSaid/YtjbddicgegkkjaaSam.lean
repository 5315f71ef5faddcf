/-
  Contracts of the Sames of pairs and of conditions: what is equal is the same. Condition: the lists are equal.
-/
import Derived.Test.YtjbddicgegkkjaaProg
import Derived.Test.YtjbddicgegkkjaaCke
import Derived.Test.YtjbddicgegkkjaaSame
import Derived.ChangeKeysEq
namespace Go.Proofs.Ytjbddicgegkkjaa
open Go.RowKit

theorem pCells_len (xs : List (Int × Int)) : (pCells xs).length = xs.length * 2 := by
  induction xs with
  | nil => rfl
  | cons a t ih =>
    have e : pCells (a :: t) = [.int .i64 a.1, .int .i64 a.2] ++ pCells t := by simp [pCells]
    rw [e, List.length_append, ih]; simp; omega
theorem pCells_get : ∀ (xs : List (Int × Int)) (k : Nat), k < xs.length → (pCells xs)[k * 2]? = some (.int .i64 (xs.getD k (0, 0)).1) ∧ (pCells xs)[k * 2 + 1]? = some (.int .i64 (xs.getD k (0, 0)).2)
  | a :: t, 0, _ => by simp [pCells]
  | a :: t, k + 1, h => by
    have e : pCells (a :: t) = [.int .i64 a.1, .int .i64 a.2] ++ pCells t := by simp [pCells]
    have ih := pCells_get t k (by simpa using h)
    rw [e, List.getElem?_append_right (by simp; omega), List.getElem?_append_right (by simp; omega), List.getD_cons_succ]
    rw [show (k + 1) * 2 - [Value.int .i64 a.1, Value.int .i64 a.2].length = k * 2 by simp; omega, show (k + 1) * 2 + 1 - [Value.int .i64 a.1, Value.int .i64 a.2].length = k * 2 + 1 by simp; omega]
    exact ih
theorem neq_pair (u0 u1 : Int) (w : World) : (binOp .neq 48 (.agg #[.int .i64 u0, .int .i64 u1]) (.agg #[.int .i64 u0, .int .i64 u1])).run Try.prog w = .ok (.bool false) w := by
  rw [run_neq_struct, show (10000 : Nat) = 9999 + 1 from rfl, run_equalIn_array (i := (Try.prog.info? 3).get (by kernel_rfl)) w 9999 _ _ Try.underlying48 (Option.some_get _).symm, show Try.prog.cellsOf 3 = 1 by kernel_rfl]
  simp only [show List.range 2 = [0, 1] from rfl, Op.eqItems, Sem.run_bind]
  have p0 : ∀ u1 : Value, ∀ w, (part 3 #[.int .i64 u0, u1] (0 * 1)).run Try.prog w = .ok (.int .i64 u0) w := fun u1 w => by kernel_rfl
  have p1 : ∀ u0 : Value, ∀ w, (part 3 #[u0, .int .i64 u1] (1 * 1)).run Try.prog w = .ok (.int .i64 u1) w := fun u0 w => by kernel_rfl
  simp [p0, p1, run_equalIn_int w 9998 3 .i64 .i64 _ _ Try.underlying3]
theorem same15_any (A1 A2 : Option Addr) (c1 c2 n : Nat) (xs : List (Int × Int)) (w : World) (h1 : Sl w w.heap.size 2 A1 n c1 (pCells xs)) (h2 : Sl w w.heap.size 2 A2 n c2 (pCells xs)) :
    Calls Try.prog 27 #[.slice A1 n c1, .slice A2 n c2] w fun e w' => e = .returned (.bool true) ∧ Below w.heap.size w w' := by
  have l1 : n = xs.length := by have := h1.1; rw [pCells_len] at this; omega
  have m1 : n ≤ 9223372036854775807 := by have a1 := h1.2.1; have a2 := h1.2.2.1; unfold maxLen at a2; omega
  have L1 := hide l1
  have H1 := hide h1
  have H2 := hide h2
  clear l1 h1 h2
  go_enter Try.func27, Try.ntmps27
  go_wp2
  go_loopw [13] (fun i wr => ∃ k : Nat, k ≤ n ∧ i = .int .i64 k ∧ Below w.heap.size w wr) (fun i _ => n - (intOf i).toNat)
  case atStart => exact ⟨0, by omega, rfl, Below.refl _ _⟩
  case round =>
    obtain ⟨k, hk, rfl, hb⟩ := hrel
    by_cases hlt : k < n
    · obtain ⟨b1, o1, rfl, hb1, hc1⟩ := H1.out.at_ hlt
      obtain ⟨b2, o2, rfl, hb2, hc2⟩ := H2.out.at_ hlt
      have gt := pCells_get xs k (by have := L1.out; omega)
      have y0 := (hb.cell (p := ⟨b1, o1 + k * 2, none⟩) hb1).trans (hc1 _ _ gt.1)
      have y1 := (hb.cell (p := ⟨b1, o1 + k * 2 + 1, none⟩) hb1).trans (hc1 _ _ gt.2)
      have z0 := (hb.cell (p := ⟨b2, o2 + k * 2, none⟩) hb2).trans (hc2 _ _ gt.1)
      have z1 := (hb.cell (p := ⟨b2, o2 + k * 2 + 1, none⟩) hb2).trans (hc2 _ _ gt.2)
      have hbN : ∀ q, Below w.heap.size w (wr.drewN q) := fun q => hb.grown (grown_drewN (grown_refl wr none) q) hb.size (fun k hk => by cases hk)
      have hki : (k : Int) < (n : Int) := by omega
      clear gt hc1 hc2
      generalize (xs.getD k (0, 0)).1 = u0 at *
      generalize (xs.getD k (0, 0)).2 = u1 at *
      have hnp := neq_pair u0 u1
      go_wp2
      go_quiet (fail)
      go_wp2
      go_roundw
      case rel => exact ⟨k + 1, by omega, by go_num, hbN _⟩
      case measure => simp [intOf]; omega
    · obtain rfl : k = n := by omega
      go_wp2
      go_ret
      exact ⟨rfl, hb⟩
theorem same12_any (A1 A2 : Option Addr) (c1 c2 n : Nat) (cs : List Cd) (w : World) (h1 : Sl w w.heap.size 7 A1 n c1 (cdCells cs)) (h2 : Sl w w.heap.size 7 A2 n c2 (cdCells cs)) :
    Calls Try.prog 29 #[.slice A1 n c1, .slice A2 n c2] w fun e w' => e = .returned (.bool true) ∧ Below w.heap.size w w' := by
  have l1 := len_sl h1
  have m1 : n ≤ 9223372036854775807 := by have a1 := h1.2.1; have a2 := h1.2.2.1; unfold maxLen at a2; omega
  have L1 := hide l1
  have H1 := hide h1
  have H2 := hide h2
  clear l1 h1 h2
  go_enter Try.func29, Try.ntmps29
  go_wp2
  go_loopw [13] (fun i wr => ∃ k : Nat, k ≤ n ∧ i = .int .i64 k ∧ Below w.heap.size w wr) (fun i _ => n - (intOf i).toNat)
  case atStart => exact ⟨0, by omega, rfl, Below.refl _ _⟩
  case round =>
    obtain ⟨k, hk, rfl, hb⟩ := hrel
    by_cases hlt : k < n
    · obtain ⟨b1, o1, rfl, hb1, hc1⟩ := (H1.out.below hb).at_ hlt
      obtain ⟨b2, o2, rfl, hb2, hc2⟩ := (H2.out.below hb).at_ hlt
      rcases ek : cs[k]'(by have := L1.out; omega) with ⟨r, kd, vv, f, t, x, y⟩
      obtain ⟨e0, e1, e2, e3, e4, e5, e6⟩ := cd_cells (B := 0) (n := 0) (c := 0) hc1 (by have := L1.out; omega) ek
      obtain ⟨d0, d1, d2, d3, d4, d5, d6⟩ := cd_cells (B := 0) (n := 0) (c := 0) hc2 (by have := L1.out; omega) ek
      have hbN : ∀ q, Below w.heap.size w (wr.drewN q) := fun q => hb.grown (grown_drewN (grown_refl wr none) q) hb.size (fun k hk => by cases hk)
      have hki : (k : Int) < (n : Int) := by omega
      clear hc1 hc2 ek
      go_wp2
      go_quiet (fail)
      go_wp2
      go_roundw
      case rel => exact ⟨k + 1, by omega, by go_num, hbN _⟩
      case measure => simp [intOf]; omega
    · obtain rfl : k = n := by omega
      go_wp2
      go_ret
      exact ⟨rfl, hb⟩
end Go.Proofs.Ytjbddicgegkkjaa
