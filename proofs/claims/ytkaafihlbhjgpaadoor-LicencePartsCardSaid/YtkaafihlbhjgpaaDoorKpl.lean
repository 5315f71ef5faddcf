/-
  The plain law of what a release keeps and violates: how many, which ones, and how that turns with the release. No condition.
-/
import Derived.Test.YtkaafihlbhjgpaaDoorProg
import Derived.Test.YtkaafihlbhjgpaaDoorKep
import Derived.Test.YtkaafihlbhjgpaaDoorLord
namespace Go.Proofs.YtkaafihlbhjgpaaDoor

def apyB (d lv : Int) (c : Cd) : Bool := inB c.from_ c.to_ d && decide (c.above ≤ lv) && decide (lv ≤ c.below)
theorem actC_mem {cs : List Cd} {d lv x : Int} : x ∈ actC cs d lv ↔ (0 ≤ x ∧ x < cs.length) ∧ appC cs d lv x = true := by
  unfold actC keepL
  rw [List.mem_filter, (ordC_spec cs).2.mem_iff, idxs_mem]
  simp
theorem keptL_mem {cs : List Cd} {d lv bf rl x : Int} : x ∈ keptL cs d lv bf rl ↔ ((0 ≤ x ∧ x < cs.length) ∧ appC cs d lv x = true) ∧ kepC cs bf rl x = true := by
  unfold keptL
  rw [keepL, List.mem_filter, actC_mem, Bool.not_not]
theorem range_getD (cs : List Cd) : (List.range cs.length).map (fun i => cs.getD i cd0) = cs := by
  refine List.ext_getElem (by simp) fun i h1 h2 => ?_
  simp [List.getD_eq_getElem?_getD, h2]
theorem count_ord (cs : List Cd) (q : Cd → Bool) : (ordC cs).countP (fun x => q (cs.getD x.toNat cd0)) = cs.countP q := by
  rw [(ordC_spec cs).2.countP_eq]
  unfold idxs
  rw [List.countP_map]
  have h : (List.range cs.length).countP ((fun x : Int => q (cs.getD x.toNat cd0)) ∘ fun i : Nat => (i : Int)) = (List.range cs.length).countP (q ∘ fun i => cs.getD i cd0) := by
    congr 1
  rw [h, ← List.countP_map, range_getD]
theorem act_len (cs : List Cd) (d lv : Int) : (actC cs d lv).length = cs.countP (apyB d lv) := by
  rw [← count_ord]
  unfold actC keepL
  rw [← List.countP_eq_length_filter]
  congr 1
  funext x
  simp [appC, apyB]
theorem kept_len (cs : List Cd) (d lv bf rl : Int) : (keptL cs d lv bf rl).length = cs.countP (fun c => apyB d lv c && kepB c bf rl) := by
  rw [← count_ord]
  unfold keptL actC keepL
  rw [List.filter_filter, ← List.countP_eq_length_filter]
  congr 1
  funext x
  simp [appC, apyB, kepC, Bool.and_comm]
theorem viol_len (cs : List Cd) (d lv bf rl : Int) : (violL cs d lv bf rl).length = cs.countP (fun c => apyB d lv c && !kepB c bf rl) := by
  rw [← count_ord]
  unfold violL actC keepL
  rw [List.filter_filter, ← List.countP_eq_length_filter]
  congr 1
  funext x
  simp [appC, apyB, kepC, Bool.and_comm]
theorem filter_both (p : Int → Bool) : ∀ l : List Int, (l.filter p).length + (l.filter fun x => !p x).length = l.length
  | [] => rfl
  | x :: l => by
    have := filter_both p l
    cases h : p x <;> simp [List.filter_cons, h] <;> omega
theorem both_len (cs : List Cd) (d lv bf rl : Int) : (keptL cs d lv bf rl).length + (violL cs d lv bf rl).length = (actC cs d lv).length := by
  have h := filter_both (fun i => kepC cs bf rl i) (actC cs d lv)
  unfold keptL violL keepL
  simpa using h
theorem kept_cut (cs : List Cd) (d lv bf rl : Int) (k : Nat) : (keptL cs d lv bf rl).length = (keptL (cs.take k) d lv bf rl).length + (keptL (cs.drop k) d lv bf rl).length := by
  rw [kept_len, kept_len, kept_len, ← List.countP_append, List.take_append_drop]
theorem viol_cut (cs : List Cd) (d lv bf rl : Int) (k : Nat) : (violL cs d lv bf rl).length = (violL (cs.take k) d lv bf rl).length + (violL (cs.drop k) d lv bf rl).length := by
  rw [viol_len, viol_len, viol_len, ← List.countP_append, List.take_append_drop]
theorem kep_rise {c : Cd} {bf rl more : Int} (hk : c.kind = 1 ∨ c.kind = 4) (h : kepB c bf rl = true) (h1 : rl ≤ more) (h2 : more ≤ 1073741824) : kepB c bf more = true := by
  unfold kepB bLeast bMost at *
  simp only [Bool.and_eq_true, decide_eq_true_eq] at *
  rcases hk with hk | hk <;> simp [hk] at * <;> omega
theorem kep_fall {c : Cd} {bf rl more : Int} (hk : ¬ (c.kind = 1 ∨ c.kind = 4)) (h : kepB c bf more = true) (h1 : rl ≤ more) (h2 : 0 ≤ rl) : kepB c bf rl = true := by
  unfold kepB bLeast bMost at *
  simp only [Bool.and_eq_true, decide_eq_true_eq, not_or] at *
  obtain ⟨k1, k4⟩ := hk
  simp only [k1, k4, if_false] at *
  omega
end Go.Proofs.YtkaafihlbhjgpaaDoor
