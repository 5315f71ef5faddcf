/-
  Plain laws of an allotment: bounds, who comes first, who calls; and the sanity check of chapter 11. No condition.
-/
import Derived.Test.YtbkadeoganaemaaProg
import Derived.Test.YtbkadeoganaemaaRgn
import Derived.Test.YtbkadeoganaemaaRgm
import Derived.Test.YtbkadeoganaemaaSame
namespace Go.Proofs.Ytbkadeoganaemaa
open Go.RowKit

def inV (rs : List Rt) (day : Int) (i : Nat) : Int := if onT day (getR rs (i : Int)) = true then flowR rs i else 0
section
variable {rs : List Rt} {day a : Int}
theorem grp_flow {i : Nat} (hi : i < rs.length) (ho : onT day (getR rs (i : Int)) = true) : (grpT rs day (dateR rs i)).getD (posT rs day (dateR rs i) i) 0 = flowR rs i := by
  rw [← grp_eq]
  have h := pos_at (rs := rs) (day := day) hi (by rw [onR_at hi]; exact ho)
  unfold grpFl
  rw [List.getD_eq_getElem?_getD, List.getElem?_map, h]
  rfl
theorem grpT_in (hck : ckR rs = 0) (d : Int) : ∀ x ∈ grpT rs day d, 0 ≤ x ∧ x ≤ 10000 := by
  intro x hx
  obtain ⟨r, hr, rfl⟩ := List.mem_map.1 hx
  exact ((ck_ok hck).2 r (List.mem_filter.1 hr).1).2
theorem befT_ge (hck : ckR rs = 0) (d : Int) : 0 ≤ befT rs day d := by
  rw [← bef_eq]
  exact sumFl_ge (fun x => (flowR_in hck x).1)
theorem got_in (hck : ckR rs = 0) (ha : 0 ≤ a) {i : Nat} (hi : i < rs.length) : 0 ≤ (allotR rs day a).getD i 0 ∧ (allotR rs day a).getD i 0 ≤ inV rs day i := by
  rw [alloc_at (flowR_in hck) ha hi]
  unfold inV
  by_cases ho : onT day (getR rs (i : Int)) = true
  · rw [if_pos ho, if_pos ho, ← grp_flow hi ho]
    exact grpV_each (by omega) (fun x hx => (grpT_in hck _ x hx).1) _
  · rw [if_neg ho, if_neg ho]; omega
theorem grp_le_bef (hck : ckR rs = 0) {d e : Int} (h : d < e) : befT rs day d + (grpT rs day d).sum ≤ befT rs day e := by
  unfold befT grpT
  have hf : ∀ r ∈ rs, 0 ≤ r.flow := fun r hr => ((ck_ok hck).2 r hr).2.1
  clear hck
  induction rs with
  | nil => simp
  | cons r t ih =>
    have ih := ih (fun r hr => hf r (by simp [hr]))
    have h0 := hf r (by simp)
    by_cases ho : onT day r = true
    · by_cases h1 : r.date < d
      · have h2 : r.date ≠ d := by omega
        have h3 : r.date < e := by omega
        simp only [List.filter_cons, ho, h1, h2, h3, decide_true, decide_false, Bool.and_self, Bool.and_false, Bool.and_true, if_true, Bool.false_eq_true, if_false, List.map_cons, List.sum_cons]
        omega
      · by_cases h2 : r.date = d
        · have h3 : r.date < e := by omega
          simp only [List.filter_cons, ho, h1, h2, h3, decide_true, decide_false, Bool.and_self, Bool.and_false, Bool.and_true, if_true, Bool.false_eq_true, if_false, List.map_cons, List.sum_cons]
          simp only [show d < e from h, show ¬ d < d by omega, decide_true, decide_false, Bool.and_false, Bool.and_true, if_true, Bool.false_eq_true, if_false, List.map_cons, List.sum_cons]
          omega
        · by_cases h3 : r.date < e
          · simp only [List.filter_cons, ho, h1, h2, h3, decide_true, decide_false, Bool.and_self, Bool.and_false, Bool.and_true, if_true, Bool.false_eq_true, if_false, List.map_cons, List.sum_cons]
            omega
          · simp only [List.filter_cons, ho, h1, h2, h3, decide_true, decide_false, Bool.and_self, Bool.and_false, Bool.and_true, if_true, Bool.false_eq_true, if_false, List.map_cons, List.sum_cons]
            omega
    · have ho : onT day r = false := by simpa using ho
      simp only [List.filter_cons, ho, Bool.false_and, Bool.false_eq_true, if_false]
      exact ih
theorem zero_of_sum : ∀ (l : List Int), l.sum = 0 → (∀ j, 0 ≤ l.getD j 0) → ∀ j, l.getD j 0 ≤ 0
  | [], _, _, j => by simp
  | x :: t, hs, hg, j => by
    have h0 := hg 0
    rw [List.getD_cons_zero] at h0
    have ht : ∀ j, 0 ≤ t.getD j 0 := fun j => by have := hg (j + 1); rwa [List.getD_cons_succ] at this
    have hts : 0 ≤ t.sum := by
      clear hs hg h0
      induction t with
      | nil => simp
      | cons y u ih =>
        have h1 := ht 0
        rw [List.getD_cons_zero] at h1
        have h2 := ih (fun j => by have := ht (j + 1); rwa [List.getD_cons_succ] at this)
        rw [List.sum_cons]; omega
    rw [List.sum_cons] at hs
    cases j with
    | zero => rw [List.getD_cons_zero]; omega
    | succ j => rw [List.getD_cons_succ]; exact zero_of_sum t (by omega) ht j
/-- no younger right gets water while an older one lacks some -/
theorem got_first (hck : ckR rs = 0) (ha : 0 ≤ a) {i k : Nat} (hi : i < rs.length) (hk : k < rs.length) (hl : (allotR rs day a).getD i 0 < inV rs day i) (hd : dateR rs i < dateR rs k) : (allotR rs day a).getD k 0 ≤ 0 := by
  have hon : onT day (getR rs (i : Int)) = true := by
    by_cases ho : onT day (getR rs (i : Int)) = true
    · exact ho
    · have h1 := (got_in (day := day) hck ha hi).1
      unfold inV at hl
      rw [if_neg ho] at hl
      omega
  rw [alloc_at (flowR_in hck) ha hi, if_pos hon] at hl
  unfold inV at hl
  rw [if_pos hon, ← grp_flow hi hon] at hl
  have hlt : max 0 (a - befT rs day (dateR rs i)) < (grpT rs day (dateR rs i)).sum := by
    rcases Int.lt_or_le (max 0 (a - befT rs day (dateR rs i))) (grpT rs day (dateR rs i)).sum with h | h
    · exact h
    · unfold grpV at hl
      rw [if_neg (by omega)] at hl
      omega
  have hb := grp_le_bef (rs := rs) (day := day) hck hd
  have hz : max 0 (a - befT rs day (dateR rs k)) = 0 := by omega
  rw [alloc_at (flowR_in hck) ha hk]
  by_cases ho : onT day (getR rs (k : Int)) = true
  · rw [if_pos ho, hz]
    have hs := grpV_sum (a := 0) (fl := grpT rs day (dateR rs k)) (Int.le_refl _)
    have hn := (sum_bnd (grpT_in (day := day) hck (dateR rs k))).1
    have h0 : (grpV 0 (grpT rs day (dateR rs k))).sum = 0 := by omega
    have hge : ∀ j, 0 ≤ (grpV 0 (grpT rs day (dateR rs k))).getD j 0 := fun j => (grpV_each (Int.le_refl _) (fun x hx => (grpT_in hck _ x hx).1) j).1
    exact zero_of_sum _ h0 hge _
  · rw [if_neg ho]
    omega
/-- the values of the active ones make the sum -/
theorem sum_act {out : List Int} (hz : ∀ i : Nat, i < out.length → onR rs day i = false → out.getD i 0 = 0) : ∀ k, k ≤ out.length → ((actF rs day k).map fun x => out.getD x.toNat 0).sum = (out.take k).sum
  | 0, _ => by simp [actF_zero]
  | k + 1, h => by
    rw [sum_snoc out k (by omega), ← sum_act hz k (by omega)]
    cases ho : onR rs day k
    · rw [actF_no ho, hz k (by omega) ho]; omega
    · rw [actF_yes ho, List.map_append, List.sum_append]
      simp
theorem got_sum (hck : ckR rs = 0) (ha : 0 ≤ a) : ((actR rs day).map fun x => (allotR rs day a).getD x.toNat 0).sum = min a (totT rs day) := by
  rw [sum_perm_map (actR_spec rs day).2, ← alloc_sum (flowR_in hck) ha]
  have hl := alloc_len (rs := rs) (day := day) (flowR_in hck) ha
  have h := sum_act (rs := rs) (day := day) (out := allotR rs day a) (fun i hi ho => by
    rw [hl] at hi
    rw [alloc_at (flowR_in hck) ha hi, if_neg (by rw [← onR_at hi, ho]; simp)]) rs.length (by omega)
  rw [h, ← hl, List.take_length]
theorem act_got (hck : ckR rs = 0) (ha : 0 ≤ a) {x : Int} (hx : x ∈ actR rs day) : 0 ≤ (allotR rs day a).getD x.toNat 0 ∧ (allotR rs day a).getD x.toNat 0 ≤ flowR rs x := by
  have hin := actR_in hx
  have h := got_in (rs := rs) (day := day) hck ha (i := x.toNat) (by omega)
  have e : ((x.toNat : Nat) : Int) = x := by omega
  refine ⟨h.1, Int.le_trans h.2 ?_⟩
  unfold inV
  rw [e]
  split
  · exact Int.le_refl _
  · exact (flowR_in hck x).1
theorem sum_le_map {f g : Int → Int} : ∀ {l : List Int}, (∀ x ∈ l, f x ≤ g x) → (l.map f).sum ≤ (l.map g).sum
  | [], _ => by simp
  | x :: t, h => by
    have := sum_le_map (l := t) (fun y hy => h y (by simp [hy]))
    have := h x (by simp)
    rw [List.map_cons, List.map_cons, List.sum_cons, List.sum_cons]; omega
/-- who calls -/
theorem calls_law (hck : ckR rs = 0) (ha : 0 ≤ a) : ((lackF rs (allotR rs day a) (actR rs day)).isSome = decide (a < totT rs day)) ∧ ∀ x, lackF rs (allotR rs day a) (actR rs day) = some x → (0 ≤ x ∧ x < rs.length) ∧ (allotR rs day a).getD x.toNat 0 < flowR rs x ∧ befFl rs (actR rs day) (dateR rs x) ≤ a := by
  have hs := got_sum (rs := rs) (day := day) hck ha
  have hg := fun x (hx : x ∈ actR rs day) => act_got hck ha hx
  have ht : ((actR rs day).map (flowR rs)).sum = totT rs day := tot_eq
  have hsp := (actR_spec rs day).1
  have hin := fun x (hx : x ∈ actR rs day) => actR_in hx
  have htn : 0 ≤ totT rs day := by rw [← tot_eq]; exact sumFl_ge (fun x => (flowR_in hck x).1)
  generalize actR rs day = os at *
  generalize allotR rs day a = got at *
  rcases hL : lackF rs got os with _ | x
  · refine ⟨?_, fun x h => by cases h⟩
    unfold lackF at hL
    rw [List.find?_eq_none] at hL
    have h := sum_le_map (f := flowR rs) (g := fun x => got.getD x.toNat 0) (l := os) (fun x hx => by have := hL x hx; simpa using this)
    have : ¬ a < totT rs day := by omega
    simp [this]
  · unfold lackF at hL
    obtain ⟨hp, as_, bs, hos, hpre⟩ := List.find?_eq_some_iff_append.1 hL
    have hp : got.getD x.toNat 0 < flowR rs x := by simpa using hp
    have hx : x ∈ os := by rw [hos]; simp
    have h1 : (as_.map fun x => got.getD x.toNat 0).sum ≤ (as_.map (flowR rs)).sum := sum_le_map (fun y hy => (hg y (by rw [hos]; simp [hy])).2)
    have h2 : (bs.map fun x => got.getD x.toNat 0).sum ≤ (bs.map (flowR rs)).sum := sum_le_map (fun y hy => (hg y (by rw [hos]; simp [hy])).2)
    have h3 : 0 ≤ (bs.map fun x => got.getD x.toNat 0).sum := by
      have := sum_le_map (f := fun _ => 0) (g := fun x => got.getD x.toNat 0) (l := bs) (fun y hy => (hg y (by rw [hos]; simp [hy])).1)
      have e : (bs.map fun _ => (0 : Int)).sum = 0 := by
        rw [List.map_const', sum_zeros]
      omega
    have h4 : (as_.map (flowR rs)).sum ≤ (as_.map fun x => got.getD x.toNat 0).sum := sum_le_map (fun y hy => by have := hpre y hy; simpa using this)
    have hgx := hg x hx
    have es : (os.map fun x => got.getD x.toNat 0).sum = (as_.map fun x => got.getD x.toNat 0).sum + (got.getD x.toNat 0 + (bs.map fun x => got.getD x.toNat 0).sum) := by rw [hos, List.map_append, List.sum_append, List.map_cons, List.sum_cons]
    have et : (os.map (flowR rs)).sum = (as_.map (flowR rs)).sum + (flowR rs x + (bs.map (flowR rs)).sum) := by rw [hos, List.map_append, List.sum_append, List.map_cons, List.sum_cons]
    have hat : a < totT rs day := by omega
    refine ⟨by simp [hat], fun y hy => ?_⟩
    injection hy with hy
    subst hy
    refine ⟨hin x hx, hp, ?_⟩
    have hfil : os.filter (fun y => decide (dateR rs y < dateR rs x)) = as_.filter (fun y => decide (dateR rs y < dateR rs x)) := by
      rw [hos, List.filter_append]
      have hz : (x :: bs).filter (fun y => decide (dateR rs y < dateR rs x)) = [] := by
        rw [List.filter_eq_nil_iff]
        intro y hy
        rcases List.mem_cons.1 hy with rfl | h
        · simp
        · rw [hos, List.pairwise_append] at hsp
          have := (List.pairwise_cons.1 hsp.2.1).1 y h
          unfold Rlt at this
          simp; omega
      rw [hz, List.append_nil]
    unfold befFl sumFl
    rw [hfil]
    have h5 : ((as_.filter fun y => decide (dateR rs y < dateR rs x)).map (flowR rs)).sum ≤ (as_.map (flowR rs)).sum := by
      clear h1 h2 h3 h4 es et hpre hfil hos hL
      induction as_ with
      | nil => simp
      | cons y t ih =>
        have := (flowR_in hck y).1
        rw [List.filter_cons]
        split
        · rw [List.map_cons, List.map_cons, List.sum_cons, List.sum_cons]; omega
        · rw [List.map_cons, List.sum_cons]; omega
    omega
end
end Go.Proofs.Ytbkadeoganaemaa
