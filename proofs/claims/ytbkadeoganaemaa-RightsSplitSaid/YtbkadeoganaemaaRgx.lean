/-
  A right split into two of the same date and days: what the parts get, and that rights of other dates get the same. No condition.
-/
import Derived.Test.YtbkadeoganaemaaProg
import Derived.Test.YtbkadeoganaemaaRgq
namespace Go.Proofs.Ytbkadeoganaemaa
open Go.RowKit

def withFl (r : Rt) (x : Int) : Rt := { r with flow := x }
def splitR (rs : List Rt) (i : Nat) (k : Int) : List Rt := rs.set i (withFl (getR rs (i : Int)) k) ++ [withFl (getR rs (i : Int)) ((getR rs (i : Int)).flow - k)]
theorem div_split {p q S : Int} (hS : 0 < S) : (p + q) / S = p / S + q / S ∨ (p + q) / S = p / S + q / S + 1 := by
  have h1 := Int.mul_ediv_add_emod p S
  have h2 := Int.mul_ediv_add_emod q S
  have a1 := Int.emod_nonneg p (show S ≠ 0 by omega)
  have a2 := Int.emod_nonneg q (show S ≠ 0 by omega)
  have b1 := Int.emod_lt_of_pos p hS
  have b2 := Int.emod_lt_of_pos q hS
  have e : p + q = (p % S + q % S) + S * (p / S + q / S) := by rw [Int.mul_add]; omega
  have e2 : (p + q) / S = (p % S + q % S) / S + (p / S + q / S) := by rw [e, Int.add_mul_ediv_left _ _ (by omega)]
  generalize p / S = x at *
  generalize q / S = y at *
  generalize p % S = r at *
  generalize q % S = s at *
  rw [e2]
  have c1 : 0 ≤ (r + s) / S := Int.ediv_nonneg (by omega) (by omega)
  have c2 : (r + s) / S < 2 := Int.ediv_lt_of_lt_mul hS (by omega)
  omega
theorem getD_mid (G1 G2 : List Int) (x : Int) : (G1 ++ x :: G2).getD G1.length 0 = x := by simp [List.getD_eq_getElem?_getD]
theorem getD_last (G1 G2 : List Int) (x y : Int) : (G1 ++ x :: (G2 ++ [y])).getD (G1.length + 1 + G2.length) 0 = y := by
  rw [List.getD_eq_getElem?_getD, List.getElem?_append_right (by omega), show G1.length + 1 + G2.length - G1.length = G2.length + 1 by omega, List.getElem?_cons_succ, List.getElem?_append_right (Nat.le_refl _), Nat.sub_self]; rfl
/-- the parts of a group in which one is split -/
theorem grpV_split {a x y : Int} {G1 G2 : List Int} (ha : 0 ≤ a) :
    -2 ≤ (grpV a (G1 ++ x :: (G2 ++ [y]))).getD G1.length 0 + (grpV a (G1 ++ x :: (G2 ++ [y]))).getD (G1.length + 1 + G2.length) 0 - (grpV a (G1 ++ (x + y) :: G2)).getD G1.length 0 ∧
    (grpV a (G1 ++ x :: (G2 ++ [y]))).getD G1.length 0 + (grpV a (G1 ++ x :: (G2 ++ [y]))).getD (G1.length + 1 + G2.length) 0 - (grpV a (G1 ++ (x + y) :: G2)).getD G1.length 0 ≤ 2 := by
  have hs : (G1 ++ x :: (G2 ++ [y])).sum = (G1 ++ (x + y) :: G2).sum := by simp [List.sum_append]; omega
  unfold grpV
  rw [hs]
  by_cases h : a < (G1 ++ (x + y) :: G2).sum
  · rw [if_pos h, if_pos h]
    unfold shV
    rw [hs, if_neg (by omega), if_neg (by omega)]
    have hS : 0 < (G1 ++ (x + y) :: G2).sum := by omega
    have h1 := (shareL_spec (a := a) hS).each G1.length (by simp)
    have hS2 : 0 < (G1 ++ x :: (G2 ++ [y])).sum := by omega
    have h2 := (shareL_spec (a := a) hS2).each G1.length (by simp)
    have h3 := (shareL_spec (a := a) hS2).each (G1.length + 1 + G2.length) (by simp; omega)
    rw [getD_mid] at h1 h2
    rw [getD_last] at h3
    rw [hs] at h2 h3
    generalize (G1 ++ (x + y) :: G2).sum = S at *
    have hd := div_split (p := a * x) (q := a * y) hS
    rw [← Int.mul_add] at hd
    omega
  · rw [if_neg h, if_neg h, getD_mid, getD_mid, getD_last]
    omega
theorem filter_set {p : Rt → Bool} {x : Rt} (hx : p x = false) : ∀ (l : List Rt) (i : Nat), (∀ h : i < l.length, p l[i] = false) → (l.set i x).filter p = l.filter p
  | [], _, _ => rfl
  | y :: t, 0, h => by
    have h0 := h (by simp)
    simp only [List.getElem_cons_zero] at h0
    rw [List.set_cons_zero, List.filter_cons, List.filter_cons, hx, h0]; rfl
  | y :: t, i + 1, h => by
    rw [List.set_cons_succ, List.filter_cons, List.filter_cons, filter_set hx t i (fun h2 => by have := h (by simp; omega); simpa using this)]
section
variable {rs : List Rt} {i : Nat} {k day a : Int}
theorem split_forms (hi : i < rs.length) : rs = rs.take i ++ getR rs (i : Int) :: rs.drop (i + 1) ∧ splitR rs i k = rs.take i ++ withFl (getR rs (i : Int)) k :: (rs.drop (i + 1) ++ [withFl (getR rs (i : Int)) ((getR rs (i : Int)).flow - k)]) := by
  constructor
  · conv => lhs; rw [← List.take_append_drop i rs, List.drop_eq_getElem_cons hi]
    rw [getR_at hi]
  · unfold splitR
    rw [List.set_eq_take_append_cons_drop, if_pos hi, List.append_assoc]
    rfl
theorem split_len : (splitR rs i k).length = rs.length + 1 := by unfold splitR; simp
theorem on_withFl (r : Rt) (x : Int) : onT day (withFl r x) = onT day r := rfl
theorem split_bef (hi : i < rs.length) (d : Int) : befT (splitR rs i k) day d = befT rs day d := by
  obtain ⟨h1, h2⟩ := split_forms (k := k) hi
  unfold befT
  rw [h2]
  conv => rhs; rw [h1]
  generalize getR rs (i : Int) = r at *
  have e1 : ∀ x, (withFl r x).date = r.date := fun _ => rfl
  have e2 : ∀ x, (withFl r x).flow = x := fun _ => rfl
  cases hc : (onT day r && decide (r.date < d))
  · have hc1 : ∀ x, (onT day (withFl r x) && decide ((withFl r x).date < d)) = false := fun x => hc
    simp [List.filter_append, hc, hc1]
  · have hc1 : ∀ x, (onT day (withFl r x) && decide ((withFl r x).date < d)) = true := fun x => hc
    simp only [List.filter_append, List.filter_cons, hc, hc1, if_true, List.filter_nil, List.map_append, List.map_cons, List.map_nil, List.sum_append, List.sum_cons, List.sum_nil, e2]
    omega
theorem split_ck (hck : ckR rs = 0) (hl : rs.length < 200) (hi : i < rs.length) (hk : 0 ≤ k ∧ k ≤ (getR rs (i : Int)).flow) : ckR (splitR rs i k) = 0 := by
  have hgm : getR rs (i : Int) ∈ rs := by rw [getR_at hi]; exact List.getElem_mem hi
  unfold ckR at *
  rw [if_neg (by omega)] at hck
  rw [if_neg (by rw [split_len]; omega), rtsErr_zero]
  have hz := (rtsErr_zero rs).1 hck
  have hr := hz _ hgm
  obtain ⟨r, hgr⟩ : ∃ r, getR rs (i : Int) = r := ⟨_, rfl⟩
  rw [hgr] at hr hk
  have hx : ∀ x : Int, 0 ≤ x → x ≤ r.flow → (withFl r x).err = 0 := by
    intro x h0 h1
    unfold Rt.err at hr ⊢
    by_cases h3 : wit r.date 16777216 = false
    · rw [if_pos h3] at hr; omega
    · rw [if_neg h3] at hr
      rw [if_neg (show ¬ wit (withFl r x).date 16777216 = false from h3)]
      by_cases h4 : wit r.flow 10000 = false ∨ okSpan r.f r.t = false
      · rw [if_pos h4] at hr; omega
      · have h5 : wit r.flow 10000 = true := by
          cases e : wit r.flow 10000
          · exact absurd (.inl e) h4
          · rfl
        have h6 := wit_iff.1 h5
        have h7 : wit (withFl r x).flow 10000 = true := wit_of h0 (by show x ≤ 10000; omega)
        have h8 : ¬ okSpan (withFl r x).f (withFl r x).t = false := fun h => h4 (.inr h)
        rw [if_neg (by rw [h7]; intro h; rcases h with h | h; · cases h
                       · exact h8 h)]
  intro y hy
  unfold splitR at hy
  rcases List.mem_append.1 hy with h | h
  · rcases List.mem_or_eq_of_mem_set h with h | h
    · exact hz y h
    · rw [h, hgr]; exact hx k hk.1 hk.2
  · rw [List.mem_singleton.1 h, hgr]; exact hx _ (by omega) (by omega)
theorem getR_of {l : List Rt} {j : Nat} {r : Rt} (h : l[j]? = some r) : getR l (j : Int) = r := by unfold getR; simp [List.getD_eq_getElem?_getD, h]
theorem split_get {j : Nat} (hj : j < rs.length) (hji : j ≠ i) : getR (splitR rs i k) (j : Int) = getR rs (j : Int) := by
  refine getR_of ?_
  unfold splitR
  rw [List.getElem?_append_left (by simpa using hj), List.getElem?_set_ne (by omega), getR_at hj]
  exact List.getElem?_eq_getElem hj
theorem split_get_i (hi : i < rs.length) : getR (splitR rs i k) (i : Int) = withFl (getR rs (i : Int)) k := by
  refine getR_of ?_
  unfold splitR
  rw [List.getElem?_append_left (by simpa using hi)]
  simp [hi]
theorem split_get_n : getR (splitR rs i k) ((rs.length : Nat) : Int) = withFl (getR rs (i : Int)) ((getR rs (i : Int)).flow - k) := by
  refine getR_of ?_
  unfold splitR
  rw [List.getElem?_append_right (by simp)]
  simp
theorem split_grp_ne (hi : i < rs.length) {d : Int} (hd : dateR rs (i : Int) ≠ d) : grpT (splitR rs i k) day d = grpT rs day d := by
  obtain ⟨h1, h2⟩ := split_forms (k := k) hi
  rw [dateR_get] at hd
  unfold grpT
  rw [h2]
  conv => rhs; rw [h1]
  generalize getR rs (i : Int) = r at *
  have hc : (onT day r && decide (r.date = d)) = false := by simp [hd]
  have hc1 : ∀ x, (onT day (withFl r x) && decide ((withFl r x).date = d)) = false := fun x => hc
  simp [List.filter_append, hc, hc1]
theorem split_pos {j : Nat} (hj : j ≤ rs.length) {d : Int} (h : i < j → dateR rs (i : Int) ≠ d) : posT (splitR rs i k) day d j = posT rs day d j := by
  unfold posT splitR
  congr 1
  rw [List.take_append_of_le_length (by simpa using hj), List.take_set]
  by_cases hij : i < j
  · have hd := h hij
    rw [dateR_get] at hd
    refine filter_set ?_ _ _ ?_
    · show (onT day (getR rs (i : Int)) && decide ((getR rs (i : Int)).date = d)) = false
      simp [hd]
    · intro h2
      rw [List.getElem_take, ← getR_at (by omega)]
      simp [hd]
  · rw [List.set_eq_of_length_le (by simp; omega)]
/-- rights of other dates get the same -/
theorem split_other (hck : ckR rs = 0) (hck2 : ckR (splitR rs i k) = 0) (ha : 0 ≤ a) (hi : i < rs.length) {j : Nat} (hj : j < rs.length) (hd : dateR rs (j : Int) ≠ dateR rs (i : Int)) : (allotR (splitR rs i k) day a).getD j 0 = (allotR rs day a).getD j 0 := by
  have hji : j ≠ i := fun e => hd (by rw [e])
  rw [alloc_at (flowR_in hck2) ha (show j < (splitR rs i k).length by rw [split_len]; omega), alloc_at (flowR_in hck) ha hj, dateR_get (splitR rs i k), split_get hj hji, ← dateR_get, split_bef hi, split_grp_ne hi (by omega), split_pos (by omega) (fun _ => by omega)]
/-- the parts get together what the whole got, but for two at most -/
theorem split_own (hck : ckR rs = 0) (hck2 : ckR (splitR rs i k) = 0) (ha : 0 ≤ a) (hi : i < rs.length) :
    -2 ≤ (allotR (splitR rs i k) day a).getD i 0 + (allotR (splitR rs i k) day a).getD rs.length 0 - (allotR rs day a).getD i 0 ∧ (allotR (splitR rs i k) day a).getD i 0 + (allotR (splitR rs i k) day a).getD rs.length 0 - (allotR rs day a).getD i 0 ≤ 2 := by
  rw [alloc_at (flowR_in hck2) ha (show i < (splitR rs i k).length by rw [split_len]; omega), alloc_at (flowR_in hck2) ha (show rs.length < (splitR rs i k).length by rw [split_len]; omega), alloc_at (flowR_in hck) ha hi, dateR_get (splitR rs i k), dateR_get (splitR rs i k), split_get_i hi, split_get_n, on_withFl, on_withFl, dateR_get]
  rw [show (withFl (getR rs (i : Int)) k).date = (getR rs (i : Int)).date from rfl, show (withFl (getR rs (i : Int)) ((getR rs (i : Int)).flow - k)).date = (getR rs (i : Int)).date from rfl, split_bef hi, split_pos (Nat.le_of_lt hi) (fun h => absurd h (Nat.lt_irrefl _))]
  cases ho : onT day (getR rs (i : Int))
  · simp
  · simp only [if_true]
    obtain ⟨h1, h2⟩ := split_forms (k := k) hi
    obtain ⟨r, hr⟩ : ∃ r, getR rs (i : Int) = r := ⟨_, rfl⟩
    rw [hr] at h1 h2 ho ⊢
    have hc1 : ∀ x, (onT day (withFl r x) && decide ((withFl r x).date = r.date)) = true := fun x => by rw [on_withFl, ho]; simp [withFl]
    have hc : (onT day r && decide (r.date = r.date)) = true := by simp [ho]
    obtain ⟨F, hF⟩ : ∃ F : Rt → Bool, F = fun r' => onT day r' && decide (r'.date = r.date) := ⟨_, rfl⟩
    have g1 : grpT rs day r.date = ((rs.take i).filter F).map Rt.flow ++ (k + (r.flow - k)) :: ((rs.drop (i + 1)).filter F).map Rt.flow := by
      unfold grpT
      rw [← hF]
      conv => lhs; rw [h1]
      rw [List.filter_append, List.filter_cons, show F r = true by rw [hF]; exact hc, if_pos rfl, List.map_append, List.map_cons, show k + (r.flow - k) = r.flow by omega]
    have g2 : grpT (splitR rs i k) day r.date = ((rs.take i).filter F).map Rt.flow ++ k :: (((rs.drop (i + 1)).filter F).map Rt.flow ++ [r.flow - k]) := by
      unfold grpT
      rw [← hF, h2]
      rw [List.filter_append, List.filter_cons, show F (withFl r k) = true by rw [hF]; exact hc1 k, if_pos rfl, List.filter_append, List.filter_cons, show F (withFl r (r.flow - k)) = true by rw [hF]; exact hc1 _, if_pos rfl, List.filter_nil, List.map_append, List.map_cons, List.map_append]
      rfl
    have p1 : posT rs day r.date i = (((rs.take i).filter F).map Rt.flow).length := by rw [List.length_map, hF]; rfl
    have p2 : posT (splitR rs i k) day r.date rs.length = (((rs.take i).filter F).map Rt.flow).length + 1 + (((rs.drop (i + 1)).filter F).map Rt.flow).length := by
      unfold posT
      rw [← hF]
      have ht : (splitR rs i k).take rs.length = rs.take i ++ withFl r k :: rs.drop (i + 1) := by
        rw [h2, show rs.take i ++ withFl r k :: (rs.drop (i + 1) ++ [withFl r (r.flow - k)]) = (rs.take i ++ withFl r k :: rs.drop (i + 1)) ++ [withFl r (r.flow - k)] by simp]
        rw [List.take_append_of_le_length (by simp; omega), List.take_of_length_le (by simp; omega)]
      rw [ht, List.filter_append, List.filter_cons, show F (withFl r k) = true by rw [hF]; exact hc1 k, if_pos rfl]
      simp
      omega
    rw [g1, g2, p1, p2]
    exact grpV_split (by omega)
end
end Go.Proofs.Ytbkadeoganaemaa
