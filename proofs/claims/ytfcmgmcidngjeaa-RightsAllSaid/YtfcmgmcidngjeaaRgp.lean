/-
  What rights.allot gives: the rights' numbers in their order, group by group of one date; and its closed form. No condition.
-/
import Derived.Test.YtfcmgmcidngjeaaProg
import Derived.Test.YtfcmgmcidngjeaaRgv
import Derived.Test.YtfcmgmcidngjeaaShb
namespace Go.Proofs.Ytfcmgmcidngjeaa
open Go.RowKit

def flowR (rs : List Rt) (x : Int) : Int := (rs.getD x.toNat rt0).flow
/-- how many of the first have the date d -/
def runL (rs : List Rt) (d : Int) : List Int → Nat
  | [] => 0
  | x :: t => if dateR rs x = d then runL rs d t + 1 else 0
/-- what one group gets -/
def grpV (a : Int) (fl : List Int) : List Int := if a < fl.sum then shV a fl else fl
/-- the values are put at their numbers -/
def putL : List Int → List Int → List Int → List Int
  | out, x :: g, v :: sh => putL (out.set x.toNat v) g sh
  | out, _, _ => out
def allotL (rs : List Rt) : Nat → List Int → Int → List Int → List Int
  | 0, _, _, out => out
  | _ + 1, [], _, out => out
  | f + 1, x :: t, a, out => allotL rs f ((x :: t).drop (runL rs (dateR rs x) (x :: t))) (a - min (((x :: t).take (runL rs (dateR rs x) (x :: t))).map (flowR rs)).sum a) (putL out ((x :: t).take (runL rs (dateR rs x) (x :: t))) (grpV a (((x :: t).take (runL rs (dateR rs x) (x :: t))).map (flowR rs))))
def allotR (rs : List Rt) (day a : Int) : List Int := allotL rs (actR rs day).length (actR rs day) a (List.replicate rs.length 0)
section
variable {rs : List Rt}
theorem runL_le (d : Int) : ∀ l : List Int, runL rs d l ≤ l.length
  | [] => Nat.le_refl _
  | x :: t => by
    have := runL_le d t
    unfold runL
    split
    · simp; omega
    · simp
theorem runL_pos {x : Int} {t : List Int} : 1 ≤ runL rs (dateR rs x) (x :: t) := by
  unfold runL
  rw [if_pos rfl]; omega
/-- the first of the run have the date, and the next one not -/
theorem runL_at {d : Int} : ∀ {l : List Int} {k : Nat}, k < runL rs d l → dateR rs (l.getD k 0) = d
  | [], k, h => absurd h (Nat.not_lt_zero _)
  | x :: t, 0, h => by
    unfold runL at h
    by_cases e : dateR rs x = d
    · simpa using e
    · rw [if_neg e] at h; omega
  | x :: t, k + 1, h => by
    unfold runL at h
    by_cases e : dateR rs x = d
    · rw [if_pos e] at h
      have := runL_at (l := t) (k := k) (d := d) (by omega)
      simpa using this
    · rw [if_neg e] at h; omega
theorem runL_end {d : Int} : ∀ {l : List Int}, runL rs d l < l.length → dateR rs (l.getD (runL rs d l) 0) ≠ d
  | [], h => absurd h (Nat.not_lt_zero _)
  | x :: t, h => by
    unfold runL at h ⊢
    by_cases e : dateR rs x = d
    · rw [if_pos e] at h ⊢
      have := runL_end (l := t) (d := d) (by simpa using h)
      simpa using this
    · rw [if_neg e]
      simpa using e
theorem allotL_nil {f : Nat} {a : Int} {out : List Int} : allotL rs f [] a out = out := by
  cases f <;> rfl
theorem putL_len : ∀ (g sh out : List Int), (putL out g sh).length = out.length
  | [], _, _ => rfl
  | _ :: _, [], _ => rfl
  | x :: g, v :: sh, out => by
    have := putL_len g sh (out.set x.toNat v)
    show (putL (out.set x.toNat v) g sh).length = _
    rw [this, List.length_set]
theorem putL_snoc : ∀ (g sh out : List Int) {x v : Int}, g.length = sh.length → putL out (g ++ [x]) (sh ++ [v]) = (putL out g sh).set x.toNat v
  | [], [], _, _, _, _ => rfl
  | [], _ :: _, _, _, _, h => by simp at h
  | _ :: _, [], _, _, _, h => by simp at h
  | y :: g, u :: sh, out, x, v, h => putL_snoc g sh (out.set y.toNat u) (by simpa using h)
theorem putL_take {g sh out : List Int} {j : Nat} (h1 : j < g.length) (h2 : j < sh.length) : putL out (g.take (j + 1)) (sh.take (j + 1)) = (putL out (g.take j) (sh.take j)).set (g.getD j 0).toNat (sh.getD j 0) := by
  rw [List.take_succ_eq_append_getElem h1, List.take_succ_eq_append_getElem h2, putL_snoc _ _ _ (by simp; omega)]
  simp [List.getD_eq_getElem?_getD, h1, h2]
end
theorem grpV_len {a : Int} {fl : List Int} (ha : 0 ≤ a) (_ : ∀ x ∈ fl, 0 ≤ x ∧ x ≤ 10000) : (grpV a fl).length = fl.length := by
  unfold grpV
  split
  · unfold shV
    rw [if_neg (by omega)]
    exact (shareL_spec (by omega)).len
  · rfl
end Go.Proofs.Ytfcmgmcidngjeaa
