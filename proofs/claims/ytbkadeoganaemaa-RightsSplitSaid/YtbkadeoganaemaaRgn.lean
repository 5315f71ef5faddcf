/-
  The closed form of an allotment over the list of rights alone. No condition.
-/
import Derived.Test.YtbkadeoganaemaaProg
import Derived.Test.YtbkadeoganaemaaRgm2
namespace Go.Proofs.Ytbkadeoganaemaa
open Go.RowKit

def onT (day : Int) (r : Rt) : Bool := inB r.f r.t day
def grpT (rs : List Rt) (day d : Int) : List Int := (rs.filter fun r => onT day r && decide (r.date = d)).map Rt.flow
def befT (rs : List Rt) (day d : Int) : Int := ((rs.filter fun r => onT day r && decide (r.date < d)).map Rt.flow).sum
def totT (rs : List Rt) (day : Int) : Int := ((rs.filter (onT day)).map Rt.flow).sum
def posT (rs : List Rt) (day d : Int) (i : Nat) : Nat := ((rs.take i).filter fun r => onT day r && decide (r.date = d)).length
def getR (rs : List Rt) (x : Int) : Rt := rs.getD x.toNat rt0
theorem flowR_get (rs : List Rt) (x : Int) : flowR rs x = (getR rs x).flow := rfl
theorem dateR_get (rs : List Rt) (x : Int) : dateR rs x = (getR rs x).date := rfl
section
variable {rs : List Rt} {day : Int}
theorem onR_at {k : Nat} (h : k < rs.length) : onR rs day k = onT day (getR rs (k : Int)) := by
  unfold onR onT getR
  simp [List.getD_eq_getElem?_getD, h]
theorem actF_filter (p : Rt → Bool) : ∀ k, k ≤ rs.length → ((actF rs day k).filter fun x => p (getR rs x)).map (getR rs) = (rs.take k).filter fun r => onT day r && p r
  | 0, _ => by simp [actF_zero]
  | k + 1, h => by
    have ih := actF_filter p k (by omega)
    have hk : k < rs.length := by omega
    have hg : getR rs (k : Int) = rs[k] := by unfold getR; simp [List.getD_eq_getElem?_getD, hk]
    rw [List.take_succ_eq_append_getElem hk, List.filter_append, ← ih]
    cases ho : onR rs day k
    · rw [actF_no ho]
      rw [onR_at hk, hg] at ho
      simp [ho]
    · rw [actF_yes ho]
      rw [onR_at hk, hg] at ho
      rw [List.filter_append, List.map_append]
      congr 1
      cases hp : p rs[k]
      · simp [ho, hp, hg]
      · simp [ho, hp, hg]
theorem actF_all : (actF rs day rs.length).map (getR rs) = rs.filter (onT day) := by
  have h := actF_filter (rs := rs) (day := day) (fun _ => true) rs.length (Nat.le_refl _)
  rw [List.take_length, List.filter_eq_self.2 (fun _ _ => rfl)] at h
  rw [h]
  exact List.filter_congr (fun x _ => by simp)
theorem act_perm_filter (p : Int → Bool) : ((actR rs day).filter p).Perm ((actF rs day rs.length).filter p) := (actR_spec rs day).2.filter p
theorem sum_perm_map {f : Int → Int} {l l' : List Int} (h : l.Perm l') : (l.map f).sum = (l'.map f).sum := perm_sum_map h
theorem bef_eq (d : Int) : befFl rs (actR rs day) d = befT rs day d := by
  unfold befFl sumFl befT
  rw [sum_perm_map (act_perm_filter _)]
  have h := actF_filter (rs := rs) (day := day) (fun r => decide (r.date < d)) rs.length (Nat.le_refl _)
  rw [List.take_length] at h
  rw [← h, List.map_map]
  rfl
theorem tot_eq : sumFl rs (actR rs day) = totT rs day := by
  unfold sumFl totT
  rw [sum_perm_map (actR_spec rs day).2, ← actF_all, List.map_map]
  rfl
theorem lt_eq_of_perm : ∀ {l l' : List Int}, l.Perm l' → l.Pairwise (fun x z => x < z) → l'.Pairwise (fun x z => x < z) → l = l'
  | [], l', h, _, _ => (List.nil_perm.1 h).symm
  | x :: t, [], h, _, _ => by have := h.length_eq; simp at this
  | x :: t, y :: t', h, h1, h2 => by
    have a1 := List.pairwise_cons.1 h1
    have a2 := List.pairwise_cons.1 h2
    have e : x = y := by
      have m1 : x ∈ y :: t' := h.mem_iff.1 (by simp)
      have m2 : y ∈ x :: t := h.mem_iff.2 (by simp)
      rcases List.mem_cons.1 m1 with r | r
      · exact r
      · rcases List.mem_cons.1 m2 with q | q
        · exact q.symm
        · have := a1.1 y q
          have := a2.1 x r
          omega
    subst e
    rw [lt_eq_of_perm ((List.perm_cons x).1 h) a1.2 a2.2]
theorem same_filter (d : Int) : (actR rs day).filter (fun x => decide (dateR rs x = d)) = (actF rs day rs.length).filter (fun x => decide (dateR rs x = d)) := by
  refine lt_eq_of_perm (act_perm_filter _) ?_ ((actF_lt rs day rs.length).sublist List.filter_sublist)
  have h := (actR_spec rs day).1.sublist (List.filter_sublist (p := fun x => decide (dateR rs x = d)))
  refine h.imp_of_mem ?_
  intro x y hx hy hr
  have e1 := (List.mem_filter.1 hx).2
  have e2 := (List.mem_filter.1 hy).2
  simp only [decide_eq_true_eq] at e1 e2
  unfold Rlt at hr
  omega
theorem grp_eq (d : Int) : grpFl rs (actR rs day) d = grpT rs day d := by
  unfold grpFl grpT
  rw [same_filter]
  have h := actF_filter (rs := rs) (day := day) (fun r => decide (r.date = d)) rs.length (Nat.le_refl _)
  rw [List.take_length] at h
  rw [← h, List.map_map]
  rfl
theorem actF_split {i : Nat} : ∀ m, i + 1 ≤ m → onR rs day i = true → ∃ t, actF rs day m = actF rs day i ++ (i : Int) :: t
  | 0, h, _ => by omega
  | m + 1, h, ho => by
    by_cases e : m = i
    · subst e
      exact ⟨[], actF_yes ho⟩
    · obtain ⟨t, ht⟩ := actF_split m (by omega) ho
      cases hm : onR rs day m
      · exact ⟨t, by rw [actF_no hm, ht]⟩
      · exact ⟨t ++ [(m : Int)], by rw [actF_yes hm, ht]; simp⟩
theorem pos_at {i : Nat} (hi : i < rs.length) (ho : onR rs day i = true) : ((actR rs day).filter fun x => decide (dateR rs x = dateR rs i))[posT rs day (dateR rs i) i]? = some (i : Int) := by
  rw [same_filter]
  obtain ⟨t, ht⟩ := actF_split (rs := rs) (day := day) rs.length hi ho
  have h := actF_filter (rs := rs) (day := day) (fun r => decide (r.date = dateR rs i)) i (by omega)
  have hl : ((actF rs day i).filter fun x => decide (dateR rs x = dateR rs i)).length = posT rs day (dateR rs i) i := by
    have := congrArg List.length h
    rw [List.length_map] at this
    exact this
  rw [ht, List.filter_append, List.getElem?_append_right (by omega), hl, Nat.sub_self, List.filter_cons_of_pos (by simp)]
  rfl
/-- right i gets -/
theorem alloc_at (hf : ∀ x, 0 ≤ flowR rs x ∧ flowR rs x ≤ 10000) {a : Int} (ha : 0 ≤ a) {i : Nat} (hi : i < rs.length) : (allotR rs day a).getD i 0 = if onT day (getR rs (i : Int)) = true then (grpV (max 0 (a - befT rs day (dateR rs i))) (grpT rs day (dateR rs i))).getD (posT rs day (dateR rs i) i) 0 else 0 := by
  obtain ⟨_, h2, h3⟩ := allotL_at hf (actR rs day).length (actR rs day) a (List.replicate rs.length 0) (Nat.le_refl _) (actR_spec rs day).1 ha (fun x hx => by rw [List.length_replicate]; exact actR_in hx)
  rw [← onR_at hi]
  by_cases ho : onR rs day i = true
  · rw [if_pos ho]
    have h := h3 i _ (pos_at hi ho)
    rw [bef_eq, grp_eq] at h
    exact h
  · rw [if_neg ho]
    have hni : (i : Int) ∉ actR rs day := fun h => by
      obtain ⟨k, e, _, h5⟩ := actF_mem.1 ((actR_spec rs day).2.mem_iff.1 h)
      have : k = i := by omega
      subst this
      exact ho h5
    have h := h2 i hni
    rw [show (List.replicate rs.length (0 : Int)).getD i 0 = 0 by simp [List.getD_eq_getElem?_getD, List.getElem?_replicate, hi]] at h
    exact h
theorem alloc_len (hf : ∀ x, 0 ≤ flowR rs x ∧ flowR rs x ≤ 10000) {a : Int} (ha : 0 ≤ a) : (allotR rs day a).length = rs.length := by
  have h := (allotL_at hf (actR rs day).length (actR rs day) a (List.replicate rs.length 0) (Nat.le_refl _) (actR_spec rs day).1 ha (fun x hx => by rw [List.length_replicate]; exact actR_in hx)).1
  rw [List.length_replicate] at h
  exact h
theorem sum_zeros (n : Nat) : (List.replicate n (0 : Int)).sum = 0 := by
  induction n with
  | zero => rfl
  | succ n ih => rw [List.replicate_succ, List.sum_cons, ih]; rfl
theorem alloc_sum (hf : ∀ x, 0 ≤ flowR rs x ∧ flowR rs x ≤ 10000) {a : Int} (ha : 0 ≤ a) : (allotR rs day a).sum = min a (totT rs day) := by
  have h := allotL_sum hf (actR rs day).length (actR rs day) a (List.replicate rs.length 0) (Nat.le_refl _) (rlt_nodup (actR_spec rs day).1) ha (fun x hx => by rw [List.length_replicate]; exact actR_in hx) (fun x hx => by
    have := actR_in hx
    simp [List.getD_eq_getElem?_getD, List.getElem?_replicate, show x.toNat < rs.length by omega])
  rw [sum_zeros, tot_eq] at h
  unfold allotR
  omega
end
end Go.Proofs.Ytbkadeoganaemaa
