/-
  The plain law of a choice: what is left, who gave its ends, who yields; if each two conditions have a value in common, none yields. No condition.
-/
import Derived.Test.YtphgddanbgdemaaDoorProg
import Derived.Test.YtphgddanbgdemaaDoorRwr
import Derived.Test.YtphgddanbgdemaaDoorRbnd
import Derived.Test.YtphgddanbgdemaaDoorRmet
namespace Go.Proofs.YtphgddanbgdemaaDoor

/-- What a choice knows behind some conditions: the bounds left, who gave its ends, who yields, the bounds of the first that yields. -/
structure Chs where
  lo : Int
  hi : Int
  lb : Int
  mb : Int
  ys : List (Int × Int)
  f0 : Int
  f1 : Int
def chStep (bf : Int) (cs : List Cd) (s : Chs) (i : Int) : Chs :=
  if max s.lo (bLeast (cs.getD i.toNat cdz) bf) ≤ min s.hi (bMost (cs.getD i.toNat cdz) bf) then
    { s with lo := max s.lo (bLeast (cs.getD i.toNat cdz) bf), hi := min s.hi (bMost (cs.getD i.toNat cdz) bf), lb := if s.lo < bLeast (cs.getD i.toNat cdz) bf then i else s.lb, mb := if bMost (cs.getD i.toNat cdz) bf < s.hi then i else s.mb }
  else { s with ys := s.ys ++ [(i, if bMost (cs.getD i.toNat cdz) bf < s.lo then s.lb else s.mb)], f0 := if s.ys = [] then bLeast (cs.getD i.toNat cdz) bf else s.f0, f1 := if s.ys = [] then bMost (cs.getD i.toNat cdz) bf else s.f1 }
def chAll (bf : Int) (cs : List Cd) (g0 g1 : Int) (os : List Int) : Chs := os.foldl (chStep bf cs) ⟨g0, g1, -1, -1, [], 0, 0⟩
def chRel (wn : Int) (s : Chs) : Int := if s.ys = [] then max s.lo (min wn s.hi) else if s.f1 < s.lo then s.lo else s.hi
theorem chAll_snoc {bf : Int} {cs : List Cd} {g0 g1 : Int} {os : List Int} {k : Nat} (h : k < os.length) : chAll bf cs g0 g1 (os.take (k + 1)) = chStep bf cs (chAll bf cs g0 g1 (os.take k)) (os.getD k 0) := by
  unfold chAll
  rw [List.take_succ_eq_append_getElem h, List.foldl_append]
  simp [List.getD_eq_getElem?_getD, h]
theorem chStep_le {bf : Int} {cs : List Cd} {s : Chs} {i : Int} (h : s.lo ≤ s.hi) : (chStep bf cs s i).lo ≤ (chStep bf cs s i).hi := by
  unfold chStep; split
  · assumption
  · exact h
theorem chAll_le {bf : Int} {cs : List Cd} {g0 g1 : Int} (hg : g0 ≤ g1) (os : List Int) : (chAll bf cs g0 g1 os).lo ≤ (chAll bf cs g0 g1 os).hi := by
  unfold chAll
  suffices ∀ (os : List Int) (s : Chs), s.lo ≤ s.hi → (os.foldl (chStep bf cs) s).lo ≤ (os.foldl (chStep bf cs) s).hi from this os _ hg
  intro os
  induction os with
  | nil => exact fun s h => h
  | cons x t ih => exact fun s h => ih _ (chStep_le h)
theorem bnd_le {c : Cd} {bf : Int} (he : c.err = 0) (hb : 0 ≤ bf ∧ bf ≤ 1073741824) : 0 ≤ bLeast c bf ∧ bLeast c bf ≤ bMost c bf ∧ bMost c bf ≤ 1073741824 := by
  have hv := (rest_iff.1 (err_zero he).2.2).1
  have hk := (err_zero he).2.1
  unfold bLeast bMost
  rcases kind_4 hk with h | h | h | h <;> simp [h] <;> omega
/-- The ends of what is left are ends of the given bounds, or of some condition. -/
theorem ch_free {bf : Int} {cs : List Cd} {g0 g1 : Int} (hg : g0 ≤ g1) : ∀ (os : List Int), (∀ i ∈ os, bLeast (cs.getD i.toNat cdz) bf ≤ g1 ∧ g0 ≤ bMost (cs.getD i.toNat cdz) bf) → (∀ i ∈ os, ∀ k ∈ os, bLeast (cs.getD i.toNat cdz) bf ≤ bMost (cs.getD k.toNat cdz) bf) →
    ∀ s : Chs, s.ys = [] → s.lo ≤ s.hi → (∀ i ∈ os, s.lo ≤ bMost (cs.getD i.toNat cdz) bf ∧ bLeast (cs.getD i.toNat cdz) bf ≤ s.hi) → (os.foldl (chStep bf cs) s).ys = []
  | [], _, _, _, hy, _, _ => hy
  | x :: t, h1, h2, s, hy, hl, hx => by
    rw [List.foldl_cons]
    have hm : max s.lo (bLeast (cs.getD x.toNat cdz) bf) ≤ min s.hi (bMost (cs.getD x.toNat cdz) bf) := by
      have a1 := hx x (by simp)
      have a2 := h2 x (by simp) x (by simp)
      omega
    have e : chStep bf cs s x = { s with lo := max s.lo (bLeast (cs.getD x.toNat cdz) bf), hi := min s.hi (bMost (cs.getD x.toNat cdz) bf), lb := if s.lo < bLeast (cs.getD x.toNat cdz) bf then x else s.lb, mb := if bMost (cs.getD x.toNat cdz) bf < s.hi then x else s.mb } := by
      unfold chStep; rw [if_pos hm]
    refine ch_free hg t (fun i hi => h1 i (by simp [hi])) (fun i hi k hk => h2 i (by simp [hi]) k (by simp [hk])) _ (by rw [e]; exact hy) (chStep_le hl) (fun i hi => ?_)
    rw [e]
    have a1 := hx i (by simp [hi])
    have a2 := h2 x (by simp) i (by simp [hi])
    have a3 := h2 i (by simp [hi]) x (by simp)
    simp only
    omega
end Go.Proofs.YtphgddanbgdemaaDoor
