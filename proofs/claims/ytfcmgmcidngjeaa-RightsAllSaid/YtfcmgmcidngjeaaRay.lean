/-
  Plain law of the reference's order of rights: an insertion by date alone gives the same order as the sort by date and number. No condition.
-/
import Derived.Test.YtfcmgmcidngjeaaProg
import Derived.Test.YtfcmgmcidngjeaaRgv
namespace Go.Proofs.Ytfcmgmcidngjeaa
open Go.RowKit

/-- The first i rights in force, by date, and of one date ascending. -/
def RaOf (rs : List Rt) (day : Int) (i : Nat) (os : List Int) : Prop := os.Pairwise (Rlt rs) ∧ os.Perm (actF rs day i)
section
variable {rs : List Rt} {day : Int} {i k : Nat} {os : List Int}
theorem RaOf.len (h : RaOf rs day i os) : os.length = (actF rs day i).length := h.2.length_eq
theorem RaOf.in_ (h : RaOf rs day i os) {x : Int} (hx : x ∈ os) : 0 ≤ x ∧ x < i := by
  obtain ⟨j, rfl, h1, _⟩ := actF_mem.1 (h.2.mem_iff.1 hx)
  omega
theorem ra_zero : RaOf rs day 0 [] := ⟨List.Pairwise.nil, by rw [actF_zero]⟩
theorem ra_skip (h : RaOf rs day i os) (hon : onR rs day i = false) : RaOf rs day (i + 1) os := ⟨h.1, by rw [actF_no hon]; exact h.2⟩
theorem ra_ins (h : RaOf rs day i os) (hon : onR rs day i = true) (hk : k ≤ os.length) (hlo : 0 < k → dateR rs (os.getD (k - 1) 0) ≤ dateR rs i) (hhi : ∀ j, k ≤ j → j < os.length → dateR rs i < dateR rs (os.getD j 0)) : RaOf rs day (i + 1) (os.take k ++ (i : Int) :: os.drop k) := by
  have hsp : (os.take k ++ os.drop k).Pairwise (Rlt rs) := by rw [List.take_append_drop]; exact h.1
  rw [List.pairwise_append] at hsp
  refine ⟨List.pairwise_append.2 ⟨hsp.1, List.pairwise_cons.2 ⟨fun y hy => ?_, hsp.2.1⟩, fun x hx y hy => ?_⟩, ?_⟩
  · obtain ⟨j, hj, rfl⟩ := List.mem_iff_getElem.1 hy
    rw [List.length_drop] at hj
    have h2 := hhi (k + j) (by omega) (by omega)
    left
    simpa [List.getD_eq_getElem?_getD, show k + j < os.length by omega] using h2
  · rcases List.mem_cons.1 hy with rfl | hy
    · obtain ⟨j, hj, rfl⟩ := List.mem_iff_getElem.1 hx
      rw [List.length_take] at hj
      have h2 := hlo (by omega)
      have hin := h.in_ (List.getElem_mem (show j < os.length by omega))
      have h3 : dateR rs (os[j]'(by omega)) ≤ dateR rs (os.getD (k - 1) 0) := by
        by_cases e : j = k - 1
        · subst e; simp [List.getD_eq_getElem?_getD, show k - 1 < os.length by omega]
        · have := List.pairwise_iff_getElem.1 h.1 j (k - 1) (by omega) (by omega) (by omega)
          have h4 : dateR rs (os[j]'(by omega)) ≤ dateR rs (os[k - 1]'(by omega)) := by rcases this with h | h <;> omega
          simpa [List.getD_eq_getElem?_getD, show k - 1 < os.length by omega] using h4
      rw [List.getElem_take]
      simp only [Rlt]
      omega
    · exact hsp.2.2 x hx y hy
  · rw [actF_yes hon]
    refine List.perm_middle.trans ?_
    rw [List.take_append_drop]
    exact (List.Perm.cons _ h.2).trans (List.perm_append_comm (l₁ := [(i : Int)]) (l₂ := actF rs day i))
/-- It is the program's order. -/
theorem ra_done (h : RaOf rs day rs.length os) : os = actR rs day := by
  have hs := actR_spec rs day
  exact perm_sorted_eq (R := Rlt rs) (fun x y h1 h2 => by unfold Rlt at h1 h2; omega) (h.2.trans hs.2.symm) h.1 hs.1
end
end Go.Proofs.Ytfcmgmcidngjeaa
