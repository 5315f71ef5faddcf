/-
  What inflow.Smooth answers, in plain terms. No condition.
-/
import Derived.Test.YtbfflggoffmnmaaProg
import Derived.Test.YtbfflggoffmnmaaFind
namespace Go.Proofs.Ytbfflggoffmnmaa
open Go.RowKit

def sumTo (xs : List Int) (s : Nat) : Nat → Int
  | 0 => 0
  | j + 1 => sumTo xs s j + xs.getD (s + j) 0
def grpLen (wd n s : Nat) : Nat := min wd (n - s)
def evenV (t m j : Int) : Int := t / m + if j < t - t / m * m then 1 else 0
def smoAt (wd : Nat) (xs : List Int) (i : Nat) : Int :=
  evenV (sumTo xs (i / wd * wd) (grpLen wd xs.length (i / wd * wd))) (grpLen wd xs.length (i / wd * wd) : Nat) ((i - i / wd * wd : Nat) : Int)
def smoK (wd : Nat) (xs : List Int) (k : Nat) : List Int := (List.range k).map (smoAt wd xs)
theorem smoK_succ (wd : Nat) (xs : List Int) (k : Nat) : smoK wd xs (k + 1) = smoK wd xs k ++ [smoAt wd xs k] := by simp [smoK, List.range_succ]
theorem smoK_length (wd : Nat) (xs : List Int) (k : Nat) : (smoK wd xs k).length = k := by simp [smoK]
def bigB (x : Int) : Bool := decide (x < -274877906944) || decide (274877906944 < x)
def smoE (wd : Int) (xs : List Int) : Int := if wd < 1 ∨ 4096 < wd ∨ xs.any bigB = true then 1 else if 4096 < xs.length then 10 else 0
def smoL (wd : Int) (xs : List Int) : List Int := if smoE wd xs = 0 then smoK wd.toNat xs xs.length else []
theorem big_at {l : List Int} (h : l.any bigB = false) (k : Nat) : -274877906944 ≤ l.getD k 0 ∧ l.getD k 0 ≤ 274877906944 := by
  rw [List.getD_eq_getElem?_getD]
  by_cases hk : k < l.length
  · have := List.any_eq_false.1 h _ (List.getElem_mem hk)
    rw [List.getElem?_eq_getElem hk]
    simp [bigB] at this
    simp; omega
  · rw [List.getElem?_eq_none (by omega)]; simp
theorem sumTo_bound {xs : List Int} (h : xs.any bigB = false) (s j : Nat) : -(274877906944 * (j : Int)) ≤ sumTo xs s j ∧ sumTo xs s j ≤ 274877906944 * (j : Int) := by
  induction j with
  | zero => simp [sumTo]
  | succ j ih => have := big_at h (s + j); simp only [sumTo]; omega
/-- the group that begins at s: its values -/
theorem smoAt_grp {wd : Nat} {xs : List Int} {s j : Nat} (hw : 1 ≤ wd) (hs : s % wd = 0) (hj : j < wd) :
    smoAt wd xs (s + j) = evenV (sumTo xs s (grpLen wd xs.length s)) (grpLen wd xs.length s : Nat) (j : Int) := by
  have h1 : (s + j) / wd * wd = s := by
    obtain ⟨q, rfl⟩ := Nat.dvd_of_mod_eq_zero hs
    rw [Nat.mul_add_div (by omega), Nat.div_eq_of_lt hj, Nat.add_zero, Nat.mul_comm]
  unfold smoAt
  rw [h1]
  congr 1
  omega
theorem next_mod {wd n s : Nat} (_hw : 1 ≤ wd) (hs : s % wd = 0) (hn : s < n) : (s + min wd (n - s)) % wd = 0 ∨ s + min wd (n - s) = n := by
  rcases Nat.lt_or_ge wd (n - s) with h | h
  · left; rw [Nat.min_eq_left (by omega), Nat.add_mod_right]; exact hs
  · right; rw [Nat.min_eq_right h]; omega
end Go.Proofs.Ytbfflggoffmnmaa
