/-
  A part of the rights gets what it got among all, where all that matter to it are in the part. No condition.
-/
import Derived.Test.YtbkadeoganaemaaProg
import Derived.Test.YtbkadeoganaemaaRgj
namespace Go.Proofs.Ytbkadeoganaemaa
open Go.RowKit

/-- the numbers below k of those that meet p -/
def atI (rs : List Rt) (p : Rt → Bool) (k : Nat) : List Int := ((List.range k).filter fun i : Nat => p (getR rs (i : Int))).map fun i : Nat => (i : Int)
section
variable {rs : List Rt} {p : Rt → Bool} {day a : Int}
theorem getR_at {i : Nat} (h : i < rs.length) : getR rs (i : Int) = rs[i] := by unfold getR; simp [List.getD_eq_getElem?_getD, h]
theorem atI_yes {k : Nat} (h : p (getR rs (k : Int)) = true) : atI rs p (k + 1) = atI rs p k ++ [(k : Int)] := by
  unfold atI
  rw [List.range_succ, List.filter_append, List.map_append]
  simp [h]
theorem atI_no {k : Nat} (h : p (getR rs (k : Int)) = false) : atI rs p (k + 1) = atI rs p k := by
  unfold atI
  rw [List.range_succ, List.filter_append, List.map_append]
  simp [h]
theorem sub_yes {k : Nat} (hk : k < rs.length) (h : p (getR rs (k : Int)) = true) : (rs.take (k + 1)).filter p = (rs.take k).filter p ++ [getR rs (k : Int)] := by
  rw [List.take_succ_eq_append_getElem hk, List.filter_append, ← getR_at hk]
  simp [h]
theorem sub_no {k : Nat} (hk : k < rs.length) (h : p (getR rs (k : Int)) = false) : (rs.take (k + 1)).filter p = (rs.take k).filter p := by
  rw [List.take_succ_eq_append_getElem hk, List.filter_append, ← getR_at hk]
  simp [h]
theorem at_len : ∀ k, k ≤ rs.length → (atI rs p k).length = ((rs.take k).filter p).length
  | 0, _ => rfl
  | k + 1, h => by
    have ih := at_len k (by omega)
    cases hp : p (getR rs (k : Int))
    · rw [atI_no hp, sub_no (by omega) hp, ih]
    · rw [atI_yes hp, sub_yes (by omega) hp, List.length_append, List.length_append, ih]; rfl
/-- the j-th of the part -/
theorem at_get : ∀ k, k ≤ rs.length → ∀ j, j < (atI rs p k).length → ∃ i : Nat, i < k ∧ (atI rs p k).getD j 0 = (i : Int) ∧ p (getR rs (i : Int)) = true ∧ ((rs.take i).filter p).length = j
  | 0, _, j, h => by simp [atI] at h
  | k + 1, hk, j, h => by
    cases hp : p (getR rs (k : Int))
    · rw [atI_no hp] at h ⊢
      obtain ⟨i, h1, h2⟩ := at_get k (by omega) j h
      exact ⟨i, by omega, h2⟩
    · rw [atI_yes hp] at h ⊢
      by_cases hj : j < (atI rs p k).length
      · obtain ⟨i, h1, h2, h3⟩ := at_get k (by omega) j hj
        refine ⟨i, by omega, ?_, h3⟩
        rw [← h2, List.getD_eq_getElem?_getD, List.getD_eq_getElem?_getD, List.getElem?_append_left hj]
      · have hj2 : j = (atI rs p k).length := by simp at h; omega
        refine ⟨k, by omega, ?_, hp, ?_⟩
        · rw [hj2]; simp [List.getD_eq_getElem?_getD]
        · rw [hj2, at_len k (by omega)]
theorem sub_ck (h : ckR rs = 0) (p : Rt → Bool) : ckR (rs.filter p) = 0 := by
  unfold ckR at *
  have hl := List.length_filter_le p rs
  by_cases h2 : 200 < rs.length
  · rw [if_pos h2] at h; omega
  · rw [if_neg h2] at h
    rw [if_neg (by omega), rtsErr_zero]
    exact fun r hr => (rtsErr_zero rs).1 h r (List.mem_filter.1 hr).1
/-- the part gets the same -/
theorem sub_law (hck : ckR rs = 0) (ha : 0 ≤ a) {i : Nat} (hi : i < rs.length) (hpi : p (getR rs (i : Int)) = true) (hp : ∀ r ∈ rs, onT day r = true → r.date ≤ dateR rs i → p r = true) :
    (allotR (rs.filter p) day a).getD ((rs.take i).filter p).length 0 = (allotR rs day a).getD i 0 := by
  have hsplit : rs.filter p = (rs.take i).filter p ++ getR rs (i : Int) :: (rs.drop (i + 1)).filter p := by
    conv => lhs; rw [← List.take_append_drop i rs, List.drop_eq_getElem_cons hi]
    rw [List.filter_append, List.filter_cons_of_pos (by rw [← getR_at hi]; exact hpi), getR_at hi]
  have hjl : ((rs.take i).filter p).length < (rs.filter p).length := by rw [hsplit]; simp
  have hgj : getR (rs.filter p) ((((rs.take i).filter p).length : Nat) : Int) = getR rs (i : Int) := by
    rw [getR_at hjl]
    have : (rs.filter p)[((rs.take i).filter p).length]? = some (getR rs (i : Int)) := by
      rw [hsplit, List.getElem?_append_right (Nat.le_refl _), Nat.sub_self]; rfl
    exact (List.getElem?_eq_some_iff.1 this).2
  have hdj : dateR (rs.filter p) ((((rs.take i).filter p).length : Nat) : Int) = dateR rs i := by rw [dateR_get, dateR_get, hgj]
  rw [alloc_at (flowR_in (sub_ck hck p)) ha hjl, alloc_at (flowR_in hck) ha hi, hgj, hdj]
  generalize hd : dateR rs i = d at *
  have hb : befT (rs.filter p) day d = befT rs day d := by
    unfold befT
    rw [List.filter_filter]
    congr 2
    refine List.filter_congr fun r hr => ?_
    by_cases h : onT day r = true ∧ r.date < d
    · rw [hp r hr h.1 (by omega)]; simp
    · rcases Decidable.not_and_iff_or_not.1 h with h | h
      · simp [h]
      · simp [h]
  have hg : grpT (rs.filter p) day d = grpT rs day d := by
    unfold grpT
    rw [List.filter_filter]
    congr 1
    refine List.filter_congr fun r hr => ?_
    by_cases h : onT day r = true ∧ r.date = d
    · rw [hp r hr h.1 (by omega)]; simp
    · rcases Decidable.not_and_iff_or_not.1 h with h | h
      · simp [h]
      · simp [h]
  have hq : posT (rs.filter p) day d ((rs.take i).filter p).length = posT rs day d i := by
    unfold posT
    have ht : (rs.filter p).take ((rs.take i).filter p).length = (rs.take i).filter p := by rw [hsplit, List.take_left]
    rw [ht, List.filter_filter]
    congr 1
    refine List.filter_congr fun r hr => ?_
    by_cases h : onT day r = true ∧ r.date = d
    · rw [hp r (List.mem_of_mem_take hr) h.1 (by omega)]; simp
    · rcases Decidable.not_and_iff_or_not.1 h with h | h
      · simp [h]
      · simp [h]
  rw [hb, hg, hq]
theorem inc_alone {a : Int} {fl : List Int} (ha : 0 ≤ a) (hl : fl.length ≤ 1) (hf : ∀ x ∈ fl, 0 ≤ x) (k : Nat) : (grpV a fl).getD k 0 = min a (fl.getD k 0) ∨ fl.getD k 0 = 0 ∧ (grpV a fl).getD k 0 = 0 := by
  match fl, hl with
  | [], _ => 
    right
    have h := grpV_each (a := a) (fl := []) ha (by simp) k
    simp at h ⊢
    omega
  | [x], _ =>
    have hx := hf x (by simp)
    have hs := grpV_sum (a := a) (fl := [x]) ha
    have he := grpV_each (a := a) (fl := [x]) ha (by simpa using hx)
    have hlen : (grpV a [x]).length ≤ 1 := by
      unfold grpV
      split
      · unfold shV
        rw [if_neg (by omega)]
        rw [(shareL_spec (by omega)).len]; simp
      · simp
    cases k with
    | zero =>
      left
      match hg : grpV a [x], hlen with
      | [], _ => rw [hg] at hs; simp at hs ⊢; omega
      | [y], _ => rw [hg] at hs; simp at hs ⊢; omega
    | succ k =>
      right
      have := he (k + 1)
      simp at this ⊢
      omega
/-- more water is no less to one who is alone with its date -/
theorem more_law (hck : ckR rs = 0) (ha : 0 ≤ a) {i : Nat} (hi : i < rs.length) (hal : ∀ k, k < rs.length → k ≠ i → dateR rs k ≠ dateR rs i) : (allotR rs day a).getD i 0 ≤ (allotR rs day (a + 1)).getD i 0 := by
  rw [alloc_at (flowR_in hck) ha hi, alloc_at (flowR_in hck) (by omega) hi]
  by_cases ho : onT day (getR rs (i : Int)) = true
  · rw [if_pos ho, if_pos ho]
    have hl : (grpT rs day (dateR rs i)).length ≤ 1 := by
      unfold grpT
      rw [List.length_map]
      have hsplit : rs = rs.take i ++ getR rs (i : Int) :: rs.drop (i + 1) := by
        conv => lhs; rw [← List.take_append_drop i rs, List.drop_eq_getElem_cons hi]
        rw [getR_at hi]
      have hz1 : (rs.take i).filter (fun r => onT day r && decide (r.date = dateR rs i)) = [] := by
        rw [List.filter_eq_nil_iff]
        intro r hr
        obtain ⟨k, hk, rfl⟩ := List.getElem_of_mem hr
        rw [List.length_take] at hk
        have := hal k (by omega) (by omega)
        rw [dateR_get, getR_at (show k < rs.length by omega)] at this
        simp; intro _; exact this
      have hz2 : (rs.drop (i + 1)).filter (fun r => onT day r && decide (r.date = dateR rs i)) = [] := by
        rw [List.filter_eq_nil_iff]
        intro r hr
        obtain ⟨k, hk, rfl⟩ := List.getElem_of_mem hr
        rw [List.length_drop] at hk
        have := hal (i + 1 + k) (by omega) (by omega)
        rw [dateR_get, getR_at (show i + 1 + k < rs.length by omega)] at this
        simp; intro _; exact this
      have hfl : (rs.filter (fun r => onT day r && decide (r.date = dateR rs i))).length = ((rs.take i ++ getR rs (i : Int) :: rs.drop (i + 1)).filter (fun r => onT day r && decide (r.date = dateR rs i))).length := by rw [← hsplit]
      rw [hfl, List.filter_append, hz1, List.nil_append, List.filter_cons, hz2]
      split <;> simp
    have hf : ∀ x ∈ grpT rs day (dateR rs i), 0 ≤ x := fun x hx => (grpT_in hck _ x hx).1
    have h1 := inc_alone (a := max 0 (a - befT rs day (dateR rs i))) (by omega) hl hf (posT rs day (dateR rs i) i)
    have h2 := inc_alone (a := max 0 (a + 1 - befT rs day (dateR rs i))) (by omega) hl hf (posT rs day (dateR rs i) i)
    omega
  · rw [if_neg ho, if_neg ho]; exact Int.le_refl _
end
end Go.Proofs.Ytbkadeoganaemaa
