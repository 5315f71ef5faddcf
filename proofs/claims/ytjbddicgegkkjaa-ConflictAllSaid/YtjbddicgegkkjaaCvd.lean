/-
  What covers, dead and Dead answer, in plain terms. No condition.
-/
import Derived.Test.YtjbddicgegkkjaaProg
import Derived.Test.YtjbddicgegkkjaaPair
import Derived.Test.YtjbddicgegkkjaaApp
import Derived.Test.YtjbddicgegkkjaaCds
namespace Go.Proofs.Ytjbddicgegkkjaa

def cdv : Cd := ⟨0, 0, 0, 0, 0, 0, 0⟩
def coverB (a b : Cd) : Bool := decide (a.kind = b.kind) && decide (a.above ≤ b.above) && decide (b.below ≤ a.below) && decide (daysN b.from_ b.to_ ≤ (bothL a.from_ a.to_ b.from_ b.to_ 365).length) && (if a.kind = 1 then decide (b.value ≤ a.value) else decide (a.value ≤ b.value))
def prior (cs : List Cd) (k i : Nat) : Bool := decide ((cs.getD k cdv).rank < (cs.getD i cdv).rank) || decide ((cs.getD k cdv).rank = (cs.getD i cdv).rank) && decide (k < i)
def deadK (cs : List Cd) (i m : Nat) : Bool := (List.range m).any fun k => prior cs k i && coverB (cs.getD k cdv) (cs.getD i cdv)
def deadB (cs : List Cd) (i : Nat) : Bool := deadK cs i cs.length
theorem deadK_succ (cs : List Cd) (i m : Nat) : deadK cs i (m + 1) = (deadK cs i m || (prior cs m i && coverB (cs.getD m cdv) (cs.getD i cdv))) := by
  unfold deadK; rw [List.range_succ, List.any_append]; simp
theorem deadK_of {cs : List Cd} {i m : Nat} (hm : m < cs.length) (h : (prior cs m i && coverB (cs.getD m cdv) (cs.getD i cdv)) = true) : deadB cs i = true := by
  unfold deadB deadK
  rw [List.any_eq_true]
  exact ⟨m, List.mem_range.2 hm, h⟩
def deadL (cs : List Cd) (k : Nat) : List Int := ((List.range k).filter fun i => deadB cs i).map fun i : Nat => (i : Int)
theorem deadL_in {cs : List Cd} {k : Nat} (h : deadB cs k = true) : deadL cs (k + 1) = deadL cs k ++ [(k : Int)] := by
  unfold deadL; rw [List.range_succ, List.filter_append, List.map_append]
  congr 1
  simp [h]
theorem deadL_out {cs : List Cd} {k : Nat} (h : deadB cs k = false) : deadL cs (k + 1) = deadL cs k := by
  unfold deadL; rw [List.range_succ, List.filter_append, List.map_append]
  simp [h]
theorem deadL_mem {cs : List Cd} {k i : Nat} : ((i : Int) ∈ deadL cs k) ↔ i < k ∧ deadB cs i = true := by
  unfold deadL
  simp only [List.mem_map, List.mem_filter, List.mem_range]
  constructor
  · rintro ⟨j, h, e⟩
    have : j = i := by omega
    subst this; exact h
  · intro h; exact ⟨i, h, rfl⟩
end Go.Proofs.Ytjbddicgegkkjaa
