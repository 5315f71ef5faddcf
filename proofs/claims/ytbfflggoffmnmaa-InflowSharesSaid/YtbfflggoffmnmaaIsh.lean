/-
  A total spread by weights and smoothed keeps its sum, smoothing in groups of 1 changes nothing: the walk of InflowShares. Condition: its list can be read.
-/
import Derived.Test.YtbfflggoffmnmaaProg
import Derived.Test.YtbfflggoffmnmaaIml
import Derived.Test.YtbfflggoffmnmaaShb
namespace Go.Proofs.Ytbfflggoffmnmaa
open Go.RowKit

theorem spread_any (a : Int) (ws : List Int) (A : Option Addr) (n c : Nat) (w : World) (hn : n ≤ 20) (ha : 0 ≤ a ∧ a ≤ 274877906944) (hw : ∀ w ∈ ws, 0 ≤ w ∧ w ≤ 10000) (hs : Sl w w.heap.size 1 A n c (ints ws)) :
    Calls Try.prog 23 #[.int .i64 a, .slice A n c] w (ShaPost w a ws) := by
  have HC := hide (share_any a ws A n c w hn ha hw hs)
  clear hs
  go_enter Try.func23, Try.ntmps23
  go_wp2_with fail
  refine HC.out.mono ?_
  rintro e w' ⟨v, rfl, hv, hb⟩
  have HV := hide hv
  clear hv
  go_wp2
  go_ret2
  exact ⟨v, rfl, HV.out, hb⟩
theorem sum_nonneg : ∀ {ws : List Int}, (∀ w ∈ ws, 0 ≤ w) → 0 ≤ ws.sum
  | [], _ => by simp
  | x :: t, h => by
    have h1 := h x (by simp)
    have h2 := sum_nonneg (ws := t) fun w hw => h w (by simp [hw])
    simp; omega
theorem get_le_sum : ∀ {ws : List Int} (_ : ∀ w ∈ ws, 0 ≤ w) (k : Nat), ws.getD k 0 ≤ ws.sum
  | [], _, k => by simp
  | x :: t, h, 0 => by
    have h2 := sum_nonneg (ws := t) fun w hw => h w (by simp [hw])
    simp; omega
  | x :: t, h, k + 1 => by
    have h1 := h x (by simp)
    have h2 := get_le_sum (ws := t) (fun w hw => h w (by simp [hw])) k
    simp only [List.getD_cons_succ, List.sum_cons]; omega
theorem share_in {a : Int} {ws xs : List Int} (h : Shared a ws xs) (ha : 0 ≤ a) (hw : ∀ w ∈ ws, 0 ≤ w) (hS : 0 < ws.sum) : ∀ x ∈ xs, 0 ≤ x ∧ x ≤ a + 1 := by
  intro x hx
  obtain ⟨k, hk, rfl⟩ := List.getElem_of_mem hx
  have hk2 : k < ws.length := by rw [← h.len]; exact hk
  have he := h.each k hk2
  rw [List.getD_eq_getElem?_getD, List.getElem?_eq_getElem hk] at he
  simp only [Option.getD_some] at he
  have h0 := getD_in (p := fun x => 0 ≤ x) hw (Int.le_refl 0) k
  have h1 := get_le_sum hw k
  have h2 : a * ws.getD k 0 ≤ a * ws.sum := Int.mul_le_mul_of_nonneg_left h1 ha
  have h3 : 0 ≤ a * ws.getD k 0 / ws.sum := Int.ediv_nonneg (Int.mul_nonneg ha h0) (by omega)
  have h4 : a * ws.getD k 0 / ws.sum < a + 1 := by rw [Int.ediv_lt_iff_lt_mul hS, Int.add_mul, Int.one_mul]; omega
  omega
theorem psum_sum : ∀ (pre xs : List Int), psum (pre ++ xs) pre.length + xs.sum = psum (pre ++ xs) (pre.length + xs.length)
  | pre, [] => by simp
  | pre, x :: t => by
    have h := psum_sum (pre ++ [x]) t
    simp only [List.append_assoc, List.singleton_append, List.length_append, List.length_singleton] at h
    have e : psum (pre ++ x :: t) (pre.length + 1) = psum (pre ++ x :: t) pre.length + x := by
      show psum (pre ++ x :: t) pre.length + (pre ++ x :: t).getD pre.length 0 = _
      rw [List.getD_eq_getElem?_getD, List.getElem?_append_right (Nat.le_refl _)]
      simp
    rw [e] at h
    rw [List.sum_cons, List.length_cons, show pre.length + (t.length + 1) = pre.length + 1 + t.length by omega, ← h]
    omega
theorem psum_all (xs : List Int) : psum xs xs.length = xs.sum := by
  have := psum_sum [] xs
  simpa [psum] using this.symm
theorem psum_gen {xs : List Int} {lo hi : Int} (h : ∀ j, lo ≤ xs.getD j 0 ∧ xs.getD j 0 ≤ hi) : ∀ k : Nat, lo * (k : Int) ≤ psum xs k ∧ psum xs k ≤ hi * (k : Int)
  | 0 => by simp [psum]
  | k + 1 => by
    have h1 := psum_gen h k
    have h2 := h k
    simp only [psum, Int.natCast_succ, Int.mul_add, Int.mul_one]
    omega
theorem smo_one (xs : List Int) : smoK 1 xs xs.length = xs := by
  apply List.ext_getElem
  · rw [smoK_length]
  · intro i h1 h2
    have e := smoK_get (wd := 1) (xs := xs) (n := xs.length) h2
    rw [List.getD_eq_getElem?_getD, List.getElem?_eq_getElem h1, Option.getD_some] at e
    rw [e]
    have h3 := smoAt_grp (wd := 1) (xs := xs) (s := i) (j := 0) (by omega) (Nat.mod_one i) (by omega)
    rw [Nat.add_zero] at h3
    rw [h3]
    have h4 : grpLen 1 xs.length i = 1 := by unfold grpLen; omega
    rw [h4]
    have h5 : sumTo xs i 1 = xs[i] := by simp [sumTo, List.getD_eq_getElem?_getD, h2]
    rw [h5]
    simp [evenV]
theorem smo_whole {xs : List Int} {n i : Nat} (h : xs.length ≤ n) (hi : i < xs.length) (hn : 1 ≤ n) : smoAt n xs 0 ≤ smoAt n xs i + 1 := by
  have h1 := smoAt_grp (wd := n) (xs := xs) (s := 0) (j := 0) hn (Nat.zero_mod n) (by omega)
  have h2 := smoAt_grp (wd := n) (xs := xs) (s := 0) (j := i) hn (Nat.zero_mod n) (by omega)
  rw [Nat.zero_add] at h1 h2
  rw [h1, h2]
  exact evenV_near _ _ _ (by omega)
end Go.Proofs.Ytbfflggoffmnmaa
