/-
  Contracts of cmp.Or at two numbers, and of the order of two rights: by date, then by number. Conditions: the list can be read, the numbers are in it.
-/
import Derived.Test.YtfcmgmcidngjeaaProg
import Derived.Test.YtfcmgmcidngjeaaRga
import Derived.Deep.RegionLaw
import Derived.Deep.DeepCutAuto
namespace Go.Proofs.Ytfcmgmcidngjeaa
open Go.RowKit

theorem isnan_any (x : Int) (w : World) : Calls Try.prog 58 #[.int .i64 x] w fun e w' => e = .returned (.bool false) ∧ w = w' := by
  go_enter Try.func58, Try.ntmps58
  go_wp2
  go_ret
  exact ⟨rfl, rfl⟩
def cmp3 (x y : Int) : Int := if x < y then -1 else if y < x then 1 else 0
theorem compare_any (x y : Int) (w : World) : Calls Try.prog 43 #[.int .i64 x, .int .i64 y] w fun e w' => e = .returned (.int .i64 (cmp3 x y)) ∧ w = w' := by
  have HC := hide (show (x < y → cmp3 x y = -1) ∧ (¬ x < y → y < x → cmp3 x y = 1) ∧ (¬ x < y → ¬ y < x → cmp3 x y = 0) by
    unfold cmp3; refine ⟨fun h => if_pos h, fun h h2 => by rw [if_neg h, if_pos h2], fun h h2 => by rw [if_neg h, if_neg h2]⟩)
  by_cases h1 : x < y
  · have HE := hide (HC.out.1 h1)
    go_enter Try.func43, Try.ntmps43
    go_wp2_with (go_at_call 58; refine (isnan_any _ _).mono ?_; rintro e w' ⟨rfl, rfl⟩)
    go_ret
    exact ⟨ret_int HE.out.symm, rfl⟩
  · by_cases h2 : y < x
    · have HE := hide (HC.out.2.1 h1 h2)
      go_enter Try.func43, Try.ntmps43
      go_wp2_with (go_at_call 58; refine (isnan_any _ _).mono ?_; rintro e w' ⟨rfl, rfl⟩)
      go_ret
      exact ⟨ret_int HE.out.symm, rfl⟩
    · have HE := hide (HC.out.2.2 h1 h2)
      go_enter Try.func43, Try.ntmps43
      go_wp2_with (go_at_call 58; refine (isnan_any _ _).mono ?_; rintro e w' ⟨rfl, rfl⟩)
      go_ret
      exact ⟨ret_int HE.out.symm, rfl⟩
def or2 (x y : Int) : Int := if x ≠ 0 then x else y
set_option maxRecDepth 20000 in
theorem or_any (x y : Int) (g : Nat) (w : World) (h : Blk w g 3 #[.int .i64 x, .int .i64 y]) : Calls Try.prog 42 #[.slice (some ⟨g, 0, none⟩) 2 2] w fun e w' => e = .returned (.int .i64 (or2 x y)) ∧ Below w.heap.size w w' := by
  have HE := hide (show (x ≠ 0 → or2 x y = x) ∧ (x = 0 → y ≠ 0 → or2 x y = y) ∧ (x = 0 → y = 0 → or2 x y = 0) from ⟨fun h => if_pos h, fun h h2 => if_neg (by simp [h]), fun h h2 => by unfold or2; rw [if_neg (by simp [h]), h2]⟩)
  generalize or2 x y = r at *
  obtain ⟨c0, c1, cf⟩ := h.facts2
  clear h
  by_cases hx : x = 0
  · subst hx
    have hx0 : ((0 : Int) != 0) = false := by simp
    by_cases hy : y = 0
    · subst hy
      have HR := hide (HE.out.2.2 rfl rfl)
      clear HE
      go_enter Try.func42, Try.ntmps42
      go_wp2
      refine wp_loop_rounds 3 ?_
      rw [rounds_succ]
      go_wp2
      rw [rounds_succ]
      go_wp2
      rw [rounds_succ]
      go_wp2
      go_ret
      exact ⟨by rw [HR.out]; first | done | rfl, Below.refl _ _⟩
    · have HR := hide (HE.out.2.1 rfl hy)
      have hyt : (y != 0) = true := by simp [hy]
      clear HE
      go_enter Try.func42, Try.ntmps42
      go_wp2
      refine wp_loop_rounds 2 ?_
      rw [rounds_succ]
      go_wp2
      rw [rounds_succ]
      go_wp2
      go_ret
      exact ⟨by rw [HR.out]; first | done | rfl, Below.refl _ _⟩
  · have HR := hide (HE.out.1 hx)
    have hxt : (x != 0) = true := by simp [hx]
    clear HE
    go_enter Try.func42, Try.ntmps42
    go_wp2
    refine wp_loop_rounds 1 ?_
    rw [rounds_succ]
    go_wp2
    go_ret
    exact ⟨by rw [HR.out]; first | done | rfl, Below.refl _ _⟩
def rt0 : Rt := ⟨0, 0, 0, 0⟩
def dateR (rs : List Rt) (i : Int) : Int := (rs.getD i.toNat rt0).date
def ordR (rs : List Rt) (i k : Int) : Int := or2 (cmp3 (dateR rs i) (dateR rs k)) (cmp3 i k)
set_option maxHeartbeats 800000 in
set_option maxRecDepth 20000 in
theorem order_any (A : Option Addr) (n c : Nat) (rs : List Rt) (x y : Int) (W : World) (hs : Sl W W.heap.size 4 A n c (rtCells rs)) (hx : 0 ≤ x ∧ x < n) (hy : 0 ≤ y ∧ y < n) :
    Calls Try.prog 38 #[.slice A n c, .int .i64 x, .int .i64 y] W fun e w' => e = .returned (.int .i64 (ordR rs x y)) ∧ Below W.heap.size W w' := by
  have hl : n = rs.length := by have := hs.1; rw [rtCells_len] at this; omega
  obtain ⟨i, rfl⟩ : ∃ i : Nat, x = (i : Int) := ⟨x.toNat, by omega⟩
  obtain ⟨j, rfl⟩ : ∃ j : Nat, y = (j : Int) := ⟨y.toNat, by omega⟩
  obtain ⟨b, o, rfl, _, hc⟩ := hs.at_ (k := i) (by omega)
  have hi : i < rs.length := by omega
  have hj : j < rs.length := by omega
  have HE := hide (show ordR rs i j = or2 (cmp3 (rs[i]'hi).date (rs[j]'hj).date) (cmp3 i j) by
    unfold ordR dateR; simp [List.getD_eq_getElem?_getD, hi, hj])
  rcases ei : rs[i]'hi with ⟨d1, q1, f1, t1⟩
  rcases ej : rs[j]'hj with ⟨d2, q2, f2, t2⟩
  rw [ei, ej] at HE
  simp only at HE
  have ci := (rt_cells hc hi ei).1
  have cj := (rt_cells hc hj ej).1
  generalize ordR rs i j = r at *
  obtain ⟨hx0, hx1⟩ := hx
  obtain ⟨hy0, hy1⟩ := hy
  have HC1 := hide (fun W => compare_any d1 d2 W)
  have HC2 := hide (fun W => compare_any (i : Int) (j : Int) W)
  generalize cmp3 d1 d2 = k1 at *
  generalize cmp3 (i : Int) (j : Int) = k2 at *
  clear hs hc ei ej hl hi hj
  go_enter Try.func38, Try.ntmps38
  go_upto_region 1 with fail
  go_cut [6] (fun v wx => v = .int .i64 (or2 k1 k2) ∧ Below W.heap.size W wx)
  case first =>
    go_region_law (first | (go_simp; go_at_call 42; refine (or_any k1 k2 W.heap.size _ (Blk.drew (Blk.new W 3 #[.int .i64 k1, .int .i64 k2]))).mono ?_; rintro e w9 ⟨rfl, hb9⟩) | (go_simp; go_at_call 43; first | (with_reducible refine (HC1.out _).mono ?_; rintro e w' ⟨rfl, rfl⟩) | (with_reducible refine (HC2.out _).mono ?_; rintro e w' ⟨rfl, rfl⟩)))
    all_goals
      go_wp2_with fail
      go_meet
      exact ⟨rfl, bthr (Below.drew bel1) hb9 (show W.heap.size ≤ (W.alloc _).heap.size by simp)⟩
  case rest =>
    obtain ⟨rfl, hb⟩ := hcut
    clear ci cj
    go_wp2
    go_ret
    exact ⟨by rw [HE.out]; first | done | rfl, hb⟩
end Go.Proofs.Ytfcmgmcidngjeaa
