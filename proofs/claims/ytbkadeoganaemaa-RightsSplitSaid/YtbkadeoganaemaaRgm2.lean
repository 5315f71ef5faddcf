/-
  What rights.allot gives, number by number, and all together. No condition.
-/
import Derived.Test.YtbkadeoganaemaaProg
import Derived.Test.YtbkadeoganaemaaRgl
namespace Go.Proofs.Ytbkadeoganaemaa
open Go.RowKit

section
variable {rs : List Rt}
theorem grpV_sum {a : Int} {fl : List Int} (ha : 0 ≤ a) : (grpV a fl).sum = min a fl.sum := by
  unfold grpV
  by_cases h : a < fl.sum
  · rw [if_pos h]
    unfold shV
    rw [if_neg (by omega), (shareL_spec (by omega)).sum]
    omega
  · rw [if_neg h]; omega
/-- each part of a group lies between nothing and its flow -/
theorem grpV_each {a : Int} {fl : List Int} (ha : 0 ≤ a) (hf : ∀ x ∈ fl, 0 ≤ x) (k : Nat) : 0 ≤ (grpV a fl).getD k 0 ∧ (grpV a fl).getD k 0 ≤ fl.getD k 0 := by
  have h0 : 0 ≤ fl.getD k 0 := by
    rw [List.getD_eq_getElem?_getD]
    rcases e : fl[k]? with _ | y
    · simp
    · exact hf y (List.mem_of_getElem? e)
  unfold grpV
  by_cases h : a < fl.sum
  · rw [if_pos h]
    unfold shV
    rw [if_neg (by omega)]
    have hS : 0 < fl.sum := by omega
    have hs := shareL_spec (a := a) hS
    by_cases hk : k < fl.length
    · obtain ⟨y, hy⟩ : ∃ y, fl.getD k 0 = y := ⟨_, rfl⟩
      have he := hs.each k hk
      rw [hy] at he h0
      have hm : 0 ≤ a * y := Int.mul_nonneg ha h0
      have hd : 0 ≤ a * y / fl.sum := Int.ediv_nonneg hm (by omega)
      have hle : a * y ≤ fl.sum * y := Int.mul_le_mul_of_nonneg_right (by omega) h0
      rw [hy]
      rcases he with e | ⟨e, hr⟩
      · rw [e]
        refine ⟨hd, ?_⟩
        have := Int.ediv_le_ediv hS hle
        rwa [Int.mul_ediv_cancel_left _ (by omega)] at this
      · rw [e]
        refine ⟨by omega, ?_⟩
        have hne : y ≠ 0 := fun h0 => by rw [h0, Int.mul_zero] at hr; simp at hr
        have hlt : a * y < fl.sum * y := Int.mul_lt_mul_of_pos_right h (by omega)
        have : a * y / fl.sum < y := (Int.ediv_lt_iff_lt_mul hS).2 (by rw [Int.mul_comm y]; exact hlt)
        omega
    · have hl := hs.len
      have e1 : (shareL a fl).getD k 0 = 0 := by rw [List.getD_eq_getElem?_getD, List.getElem?_eq_none (by omega)]; rfl
      have e2 : fl.getD k 0 = 0 := by rw [List.getD_eq_getElem?_getD, List.getElem?_eq_none (by omega)]; rfl
      rw [e1, e2]; omega
  · rw [if_neg h]; omega
theorem befFl_zero {l : List Int} {d : Int} (h : ∀ x ∈ l, d ≤ dateR rs x) : befFl rs l d = 0 := by
  unfold befFl sumFl
  rw [List.filter_eq_nil_iff.2 (fun x hx => by have := h x hx; simp; omega)]; rfl
theorem sumFl_ge {l : List Int} (h : ∀ x, 0 ≤ flowR rs x) : 0 ≤ sumFl rs l := by
  unfold sumFl
  induction l with
  | nil => simp
  | cons x t ih => rw [List.map_cons, List.sum_cons]; have := h x; omega
theorem rlt_nodup {l : List Int} (h : l.Pairwise (Rlt rs)) : l.Nodup := h.imp fun {x y} h e => by subst e; unfold Rlt at h; omega
/-- number by number -/
theorem allotL_at (hf : ∀ x, 0 ≤ flowR rs x ∧ flowR rs x ≤ 10000) : ∀ (f : Nat) (l : List Int) (a : Int) (out : List Int), l.length ≤ f → l.Pairwise (Rlt rs) → 0 ≤ a → (∀ x ∈ l, 0 ≤ x ∧ x < (out.length : Int)) →
    (allotL rs f l a out).length = out.length ∧ (∀ i : Nat, (i : Int) ∉ l → (allotL rs f l a out).getD i 0 = out.getD i 0) ∧
    ∀ (i j : Nat), (l.filter fun x => decide (dateR rs x = dateR rs i))[j]? = some (i : Int) → (allotL rs f l a out).getD i 0 = (grpV (max 0 (a - befFl rs l (dateR rs i))) (grpFl rs l (dateR rs i))).getD j 0
  | 0, l, a, out, hl, _, _, _ => by
    obtain rfl := List.eq_nil_of_length_eq_zero (Nat.le_zero.1 hl)
    exact ⟨rfl, fun _ _ => rfl, fun i j h => by simp at h⟩
  | f + 1, [], a, out, _, _, _, _ => ⟨rfl, fun _ _ => rfl, fun i j h => by simp at h⟩
  | f + 1, x :: t, a, out, hl, hp, ha, hin => by
    have hd : ∀ y ∈ x :: t, dateR rs x ≤ dateR rs y := fun y hy => by
      rcases List.mem_cons.1 hy with rfl | h
      · exact Int.le_refl _
      · have := (List.pairwise_cons.1 hp).1 y h
        unfold Rlt at this
        omega
    have hK := runL_pos (rs := rs) (x := x) (t := t)
    have hstep : allotL rs (f + 1) (x :: t) a out = allotL rs f ((x :: t).drop (runL rs (dateR rs x) (x :: t))) (a - min (((x :: t).take (runL rs (dateR rs x) (x :: t))).map (flowR rs)).sum a) (putL out ((x :: t).take (runL rs (dateR rs x) (x :: t))) (grpV a (((x :: t).take (runL rs (dateR rs x) (x :: t))).map (flowR rs)))) := rfl
    obtain ⟨hg, hr⟩ := run_filter (rs := rs) hp hd
    have hdl : ((x :: t).drop (runL rs (dateR rs x) (x :: t))).length ≤ f := by rw [List.length_drop]; omega
    generalize hk : runL rs (dateR rs x) (x :: t) = K at *
    generalize dateR rs x = d at *
    generalize x :: t = l at *
    have hgs : l.take K ++ l.drop K = l := List.take_append_drop K l
    have hpr : (l.drop K).Pairwise (Rlt rs) := hp.sublist (List.drop_sublist _ _)
    have hng : (l.take K).Nodup := (rlt_nodup hp).sublist (List.take_sublist _ _)
    have hmg : ∀ y ∈ l.take K, 0 ≤ y ∧ y < (out.length : Int) := fun y hy => hin y (List.mem_of_mem_take hy)
    have hfl : ∀ y ∈ (l.take K).map (flowR rs), 0 ≤ y ∧ y ≤ 10000 := fun y hy => by
      obtain ⟨z, _, rfl⟩ := List.mem_map.1 hy
      exact hf z
    have hlg : (l.take K).length = (grpV a ((l.take K).map (flowR rs))).length := by rw [grpV_len ha hfl, List.length_map]
    obtain ⟨i1, i2, i3⟩ := allotL_at hf f (l.drop K) (a - min ((l.take K).map (flowR rs)).sum a) (putL out (l.take K) (grpV a ((l.take K).map (flowR rs)))) hdl hpr (by omega) (fun y hy => by rw [putL_len]; exact hin y (List.mem_of_mem_drop hy))
    rw [hstep]
    refine ⟨by rw [i1, putL_len], fun i hi => ?_, fun i j hj => ?_⟩
    · have hig : (i : Int) ∉ l.take K := fun h => hi (List.mem_of_mem_take h)
      have hir : (i : Int) ∉ l.drop K := fun h => hi (List.mem_of_mem_drop h)
      rw [i2 i hir, putL_off _ _ _ _ hig (fun y hy => (hmg y hy).1)]
    · have hil : (i : Int) ∈ l := (List.mem_filter.1 (List.mem_of_getElem? hj)).1
      by_cases he : dateR rs i = d
      · have hir : (i : Int) ∉ l.drop K := fun h => by
          rw [hr] at h
          have := (List.mem_filter.1 h).2
          simp at this; omega
        rw [he, ← hg] at hj
        obtain ⟨hjl, hji⟩ := List.getElem?_eq_some_iff.1 hj
        rw [i2 i hir]
        have h := putL_at (j := j) hlg hng hmg hjl
        have hgj : (l.take K).getD j 0 = (i : Int) := by rw [List.getD_eq_getElem?_getD, hj]; rfl
        rw [hgj, Int.toNat_natCast] at h
        rw [h, he, befFl_zero hd]
        unfold grpFl
        rw [← hg]
        congr 2
        omega
      · have hde : d < dateR rs i := by have := hd _ hil; omega
        have hff : l.filter (fun x => decide (dateR rs x = dateR rs i)) = (l.drop K).filter (fun x => decide (dateR rs x = dateR rs i)) := by
          rw [hr, List.filter_filter]
          refine List.filter_congr fun y _ => ?_
          by_cases h : dateR rs y = dateR rs i
          · simp [h, hde]
          · simp [h]
        rw [hff] at hj
        rw [i3 i j hj]
        have hgf : grpFl rs (l.drop K) (dateR rs i) = grpFl rs l (dateR rs i) := by unfold grpFl; rw [hff]
        rw [hgf, filter_lt_split (rs := rs) (l := l) hde, ← hr]
        have hle : l.filter (fun x => decide (dateR rs x ≤ d)) = l.take K := by
          rw [hg]
          refine List.filter_congr fun y hy => ?_
          have := hd y hy
          by_cases h : dateR rs y = d
          · simp [h]
          · have h2 : ¬ dateR rs y ≤ d := by omega
            simp [h, h2]
        rw [hle]
        have hb : 0 ≤ befFl rs (l.drop K) (dateR rs i) := by unfold befFl; exact sumFl_ge (fun x => (hf x).1)
        congr 2
        show max 0 (a - min (sumFl rs (l.take K)) a - befFl rs (l.drop K) (dateR rs i)) = _
        omega
theorem putL_sum : ∀ (g sh out : List Int), g.length = sh.length → g.Nodup → (∀ x ∈ g, 0 ≤ x ∧ x < (out.length : Int)) → (∀ x ∈ g, out.getD x.toNat 0 = 0) → (putL out g sh).sum = out.sum + sh.sum
  | [], [], out, _, _, _, _ => by simp [putL]
  | [], _ :: _, _, h, _, _, _ => by simp at h
  | _ :: _, [], _, h, _, _, _ => by simp at h
  | x :: g, v :: sh, out, h, hn, hi, hz => by
    have hx := hi x (by simp)
    have hn2 := List.nodup_cons.1 hn
    show (putL (out.set x.toNat v) g sh).sum = _
    rw [putL_sum g sh _ (by simpa using h) hn2.2 (fun y hy => by rw [List.length_set]; exact hi y (by simp [hy])) (fun y hy => by
      have hy0 := hi y (by simp [hy])
      have hxy : x.toNat ≠ y.toNat := fun e => hn2.1 (by have : x = y := by omega
                                                         rw [this]; exact hy)
      have := hz y (by simp [hy])
      simpa [List.getD_eq_getElem?_getD, List.getElem?_set, hxy] using this), sum_set _ _ _ (by omega), hz x (by simp), List.sum_cons]
    omega
/-- all together -/
theorem allotL_sum (hf : ∀ x, 0 ≤ flowR rs x ∧ flowR rs x ≤ 10000) : ∀ (f : Nat) (l : List Int) (a : Int) (out : List Int), l.length ≤ f → l.Nodup → 0 ≤ a → (∀ x ∈ l, 0 ≤ x ∧ x < (out.length : Int)) → (∀ x ∈ l, out.getD x.toNat 0 = 0) →
    (allotL rs f l a out).sum = out.sum + min a (sumFl rs l)
  | 0, l, a, out, hl, _, ha, _, _ => by
    obtain rfl := List.eq_nil_of_length_eq_zero (Nat.le_zero.1 hl)
    show out.sum = out.sum + min a 0
    omega
  | f + 1, [], a, out, _, _, ha, _, _ => by
    show out.sum = out.sum + min a 0
    omega
  | f + 1, x :: t, a, out, hl, hp, ha, hin, hz => by
    have hK := runL_pos (rs := rs) (x := x) (t := t)
    have hstep : allotL rs (f + 1) (x :: t) a out = allotL rs f ((x :: t).drop (runL rs (dateR rs x) (x :: t))) (a - min (((x :: t).take (runL rs (dateR rs x) (x :: t))).map (flowR rs)).sum a) (putL out ((x :: t).take (runL rs (dateR rs x) (x :: t))) (grpV a (((x :: t).take (runL rs (dateR rs x) (x :: t))).map (flowR rs)))) := rfl
    have hdl : ((x :: t).drop (runL rs (dateR rs x) (x :: t))).length ≤ f := by rw [List.length_drop]; omega
    generalize hk : runL rs (dateR rs x) (x :: t) = K at *
    generalize x :: t = l at *
    have hgs : l.take K ++ l.drop K = l := List.take_append_drop K l
    have hnd : (l.take K ++ l.drop K).Nodup := by rw [hgs]; exact hp
    have hng := (List.nodup_append.1 hnd).1
    have hnr := (List.nodup_append.1 hnd).2.1
    have hdis := (List.nodup_append.1 hnd).2.2
    have hmg : ∀ y ∈ l.take K, 0 ≤ y ∧ y < (out.length : Int) := fun y hy => hin y (List.mem_of_mem_take hy)
    have hfl : ∀ y ∈ (l.take K).map (flowR rs), 0 ≤ y ∧ y ≤ 10000 := fun y hy => by
      obtain ⟨z, _, rfl⟩ := List.mem_map.1 hy
      exact hf z
    have hlg : (l.take K).length = (grpV a ((l.take K).map (flowR rs))).length := by rw [grpV_len ha hfl, List.length_map]
    rw [hstep, allotL_sum hf f (l.drop K) _ _ hdl hnr (by omega) (fun y hy => by rw [putL_len]; exact hin y (List.mem_of_mem_drop hy)) (fun y hy => by
      have hy0 := hin y (List.mem_of_mem_drop hy)
      have hyn : ((y.toNat : Nat) : Int) = y := by omega
      rw [putL_off _ _ _ _ (by rw [hyn]; exact fun h => hdis y h y hy rfl) (fun z hz => (hmg z hz).1)]
      exact hz y (List.mem_of_mem_drop hy))]
    rw [putL_sum _ _ _ hlg hng hmg (fun y hy => hz y (List.mem_of_mem_take hy)), grpV_sum ha]
    have hs : sumFl rs l = sumFl rs (l.take K) + sumFl rs (l.drop K) := by
      conv => lhs; rw [← hgs]
      unfold sumFl
      rw [List.map_append, List.sum_append]
    have h1 : 0 ≤ sumFl rs (l.take K) := sumFl_ge (fun x => (hf x).1)
    have h2 : 0 ≤ sumFl rs (l.drop K) := sumFl_ge (fun x => (hf x).1)
    rw [hs]
    show out.sum + min a (sumFl rs (l.take K)) + min (a - min (sumFl rs (l.take K)) a) (sumFl rs (l.drop K)) = _
    omega
end
end Go.Proofs.Ytbkadeoganaemaa
