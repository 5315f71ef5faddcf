/-
  The closed form of what rights.allot gives: what right i gets depends on what is there, on the flows of the older rights together, and on the flows of its date. No condition.
  What rights.allot gives, number by number, and all together. No condition.
  The closed form of an allotment over the list of rights alone. No condition.
  Plain laws of an allotment: bounds, who comes first, who calls; and the sanity check of chapter 11. No condition.
  The sanity check of chapter 11 answers true; rights that mk.Rights makes are valid. No condition.
-/
import Derived.Test.YtfcmgmcidngjeaaProg
import Derived.Test.YtfcmgmcidngjeaaRgw
import Derived.Test.YtfcmgmcidngjeaaRot
import Derived.Test.YtfcmgmcidngjeaaRgm
import Derived.Test.YtfcmgmcidngjeaaSame
namespace Go.Proofs.Ytfcmgmcidngjeaa
open Go.RowKit

section
variable {rs : List Rt}
/-- the values put: at the j-th number the j-th value -/
theorem putL_at : ∀ {g sh out : List Int} {j : Nat} (_ : g.length = sh.length) (_ : g.Nodup) (_ : ∀ x ∈ g, 0 ≤ x ∧ x < (out.length : Int)) (_ : j < g.length), (putL out g sh).getD (g.getD j 0).toNat 0 = sh.getD j 0
  | [], _, _, j, _, _, _, hj => absurd hj (Nat.not_lt_zero _)
  | x :: g, [], _, _, h, _, _, _ => by simp at h
  | x :: g, v :: sh, out, j, h, hn, hi, hj => by
    have hx := hi x (by simp)
    have hn2 := List.nodup_cons.1 hn
    have hi2 : ∀ y ∈ g, 0 ≤ y ∧ y < ((out.set x.toNat v).length : Int) := fun y hy => by rw [List.length_set]; exact hi y (by simp [hy])
    cases j with
    | zero =>
      show (putL (out.set x.toNat v) g sh).getD ((x :: g).getD 0 0).toNat 0 = v
      rw [List.getD_cons_zero]
      have key : ∀ (g sh o : List Int), x ∉ g → (∀ y ∈ g, 0 ≤ y) → (putL o g sh).getD x.toNat 0 = o.getD x.toNat 0 := by
        intro g
        induction g with
        | nil => intro sh o _ _; rfl
        | cons y g ih =>
          intro sh o hne h0
          cases sh with
          | nil => rfl
          | cons u sh =>
            show (putL (o.set y.toNat u) g sh).getD x.toNat 0 = _
            rw [ih sh _ (fun h => hne (by simp [h])) (fun z hz => h0 z (by simp [hz]))]
            have hy := h0 y (by simp)
            have hxy : y.toNat ≠ x.toNat := fun e => hne (by have : y = x := by omega
                                                             simp [this])
            simp [List.getD_eq_getElem?_getD, List.getElem?_set, hxy]
      rw [key g sh _ hn2.1 (fun y hy => (hi y (by simp [hy])).1)]
      have : x.toNat < out.length := by omega
      simp [List.getD_eq_getElem?_getD, List.getElem?_set, this]
    | succ j =>
      show (putL (out.set x.toNat v) g sh).getD ((x :: g).getD (j + 1) 0).toNat 0 = (v :: sh).getD (j + 1) 0
      rw [List.getD_cons_succ, List.getD_cons_succ]
      exact putL_at (by simpa using h) hn2.2 hi2 (by simpa using hj)
theorem putL_off : ∀ (g sh out : List Int) (i : Nat), (i : Int) ∉ g → (∀ y ∈ g, 0 ≤ y) → (putL out g sh).getD i 0 = out.getD i 0
  | [], _, _, _, _, _ => rfl
  | _ :: _, [], _, _, _, _ => rfl
  | y :: g, u :: sh, out, i, hne, h0 => by
    show (putL (out.set y.toNat u) g sh).getD i 0 = _
    rw [putL_off g sh _ i (fun h => hne (by simp [h])) (fun z hz => h0 z (by simp [hz]))]
    have hy := h0 y (by simp)
    have hxy : y.toNat ≠ i := fun e => hne (by have : y = i := by omega
                                               simp [this])
    simp [List.getD_eq_getElem?_getD, List.getElem?_set, hxy]
/-- of a list in order the run of the first date is all that has the date -/
theorem run_filter {d : Int} : ∀ {l : List Int}, l.Pairwise (Rlt rs) → (∀ x ∈ l, d ≤ dateR rs x) → l.take (runL rs d l) = l.filter (fun x => decide (dateR rs x = d)) ∧ l.drop (runL rs d l) = l.filter (fun x => decide (d < dateR rs x))
  | [], _, _ => ⟨rfl, rfl⟩
  | x :: t, hp, hd => by
    have hp2 := List.pairwise_cons.1 hp
    have hx := hd x (by simp)
    unfold runL
    by_cases e : dateR rs x = d
    · rw [if_pos e]
      obtain ⟨h1, h2⟩ := run_filter hp2.2 (fun y hy => hd y (by simp [hy]))
      refine ⟨?_, ?_⟩
      · rw [List.take_succ_cons, h1, List.filter_cons_of_pos (by simpa using e)]
      · rw [List.drop_succ_cons, h2, List.filter_cons_of_neg (by simp; omega)]
    · rw [if_neg e]
      have hall : ∀ y ∈ x :: t, d < dateR rs y := fun y hy => by
        rcases List.mem_cons.1 hy with rfl | h
        · omega
        · have := hp2.1 y h
          unfold Rlt at this
          omega
      refine ⟨?_, ?_⟩
      · rw [List.take_zero, eq_comm, List.filter_eq_nil_iff]
        intro y hy
        have := hall y hy
        simp; omega
      · rw [List.drop_zero, eq_comm, List.filter_eq_self]
        intro y hy
        simpa using hall y hy
/-- the flows of those of a date, in order -/
def grpFl (rs : List Rt) (os : List Int) (d : Int) : List Int := (os.filter fun x => decide (dateR rs x = d)).map (flowR rs)
theorem filter_lt_split {l : List Int} {d e : Int} (he : d < e) : befFl rs l e = sumFl rs (l.filter fun x => decide (dateR rs x ≤ d)) + befFl rs (l.filter fun x => decide (d < dateR rs x)) e := by
  unfold befFl sumFl
  induction l with
  | nil => simp
  | cons x t ih =>
    by_cases h1 : dateR rs x ≤ d
    · have h2 : ¬ d < dateR rs x := by omega
      have h3 : dateR rs x < e := by omega
      simp only [List.filter_cons, h1, h2, h3, decide_true, decide_false, if_true, List.map_cons, List.sum_cons, Bool.false_eq_true, if_false]
      omega
    · have h2 : d < dateR rs x := by omega
      simp only [List.filter_cons, h1, h2, decide_true, decide_false, if_true, Bool.false_eq_true, if_false]
      by_cases h3 : dateR rs x < e
      · simp only [h3, decide_true, if_true, List.map_cons, List.sum_cons]
        omega
      · simp only [h3, decide_false, Bool.false_eq_true, if_false]
        exact ih
end
end Go.Proofs.Ytfcmgmcidngjeaa
namespace Go.Proofs.Ytfcmgmcidngjeaa
open Go.RowKit

section
variable {rs : List Rt}
theorem grpV_sum {a : Int} {fl : List Int} (ha : 0 ≤ a) : (grpV a fl).sum = min a fl.sum := by
  unfold grpV
  by_cases h : a < fl.sum
  · rw [if_pos h]
    unfold shV
    rw [if_neg (by omega), (shareL_spec (by omega)).sum]
    omega
  · rw [if_neg h]; omega
/-- each part of a group lies between nothing and its flow -/
theorem grpV_each {a : Int} {fl : List Int} (ha : 0 ≤ a) (hf : ∀ x ∈ fl, 0 ≤ x) (k : Nat) : 0 ≤ (grpV a fl).getD k 0 ∧ (grpV a fl).getD k 0 ≤ fl.getD k 0 := by
  have h0 : 0 ≤ fl.getD k 0 := by
    rw [List.getD_eq_getElem?_getD]
    rcases e : fl[k]? with _ | y
    · simp
    · exact hf y (List.mem_of_getElem? e)
  unfold grpV
  by_cases h : a < fl.sum
  · rw [if_pos h]
    unfold shV
    rw [if_neg (by omega)]
    have hS : 0 < fl.sum := by omega
    have hs := shareL_spec (a := a) hS
    by_cases hk : k < fl.length
    · obtain ⟨y, hy⟩ : ∃ y, fl.getD k 0 = y := ⟨_, rfl⟩
      have he := hs.each k hk
      rw [hy] at he h0
      have hm : 0 ≤ a * y := Int.mul_nonneg ha h0
      have hd : 0 ≤ a * y / fl.sum := Int.ediv_nonneg hm (by omega)
      have hle : a * y ≤ fl.sum * y := Int.mul_le_mul_of_nonneg_right (by omega) h0
      rw [hy]
      rcases he with e | ⟨e, hr⟩
      · rw [e]
        refine ⟨hd, ?_⟩
        have := Int.ediv_le_ediv hS hle
        rwa [Int.mul_ediv_cancel_left _ (by omega)] at this
      · rw [e]
        refine ⟨by omega, ?_⟩
        have hne : y ≠ 0 := fun h0 => by rw [h0, Int.mul_zero] at hr; simp at hr
        have hlt : a * y < fl.sum * y := Int.mul_lt_mul_of_pos_right h (by omega)
        have : a * y / fl.sum < y := (Int.ediv_lt_iff_lt_mul hS).2 (by rw [Int.mul_comm y]; exact hlt)
        omega
    · have hl := hs.len
      have e1 : (shareL a fl).getD k 0 = 0 := by rw [List.getD_eq_getElem?_getD, List.getElem?_eq_none (by omega)]; rfl
      have e2 : fl.getD k 0 = 0 := by rw [List.getD_eq_getElem?_getD, List.getElem?_eq_none (by omega)]; rfl
      rw [e1, e2]; omega
  · rw [if_neg h]; omega
theorem befFl_zero {l : List Int} {d : Int} (h : ∀ x ∈ l, d ≤ dateR rs x) : befFl rs l d = 0 := by
  unfold befFl sumFl
  rw [List.filter_eq_nil_iff.2 (fun x hx => by have := h x hx; simp; omega)]; rfl
theorem sumFl_ge {l : List Int} (h : ∀ x, 0 ≤ flowR rs x) : 0 ≤ sumFl rs l := by
  unfold sumFl
  induction l with
  | nil => simp
  | cons x t ih => rw [List.map_cons, List.sum_cons]; have := h x; omega
theorem rlt_nodup {l : List Int} (h : l.Pairwise (Rlt rs)) : l.Nodup := h.imp fun {x y} h e => by subst e; unfold Rlt at h; omega
/-- number by number -/
theorem allotL_at (hf : ∀ x, 0 ≤ flowR rs x ∧ flowR rs x ≤ 10000) : ∀ (f : Nat) (l : List Int) (a : Int) (out : List Int), l.length ≤ f → l.Pairwise (Rlt rs) → 0 ≤ a → (∀ x ∈ l, 0 ≤ x ∧ x < (out.length : Int)) →
    (allotL rs f l a out).length = out.length ∧ (∀ i : Nat, (i : Int) ∉ l → (allotL rs f l a out).getD i 0 = out.getD i 0) ∧
    ∀ (i j : Nat), (l.filter fun x => decide (dateR rs x = dateR rs i))[j]? = some (i : Int) → (allotL rs f l a out).getD i 0 = (grpV (max 0 (a - befFl rs l (dateR rs i))) (grpFl rs l (dateR rs i))).getD j 0
  | 0, l, a, out, hl, _, _, _ => by
    obtain rfl := List.eq_nil_of_length_eq_zero (Nat.le_zero.1 hl)
    exact ⟨rfl, fun _ _ => rfl, fun i j h => by simp at h⟩
  | f + 1, [], a, out, _, _, _, _ => ⟨rfl, fun _ _ => rfl, fun i j h => by simp at h⟩
  | f + 1, x :: t, a, out, hl, hp, ha, hin => by
    have hd : ∀ y ∈ x :: t, dateR rs x ≤ dateR rs y := fun y hy => by
      rcases List.mem_cons.1 hy with rfl | h
      · exact Int.le_refl _
      · have := (List.pairwise_cons.1 hp).1 y h
        unfold Rlt at this
        omega
    have hK := runL_pos (rs := rs) (x := x) (t := t)
    have hstep : allotL rs (f + 1) (x :: t) a out = allotL rs f ((x :: t).drop (runL rs (dateR rs x) (x :: t))) (a - min (((x :: t).take (runL rs (dateR rs x) (x :: t))).map (flowR rs)).sum a) (putL out ((x :: t).take (runL rs (dateR rs x) (x :: t))) (grpV a (((x :: t).take (runL rs (dateR rs x) (x :: t))).map (flowR rs)))) := rfl
    obtain ⟨hg, hr⟩ := run_filter (rs := rs) hp hd
    have hdl : ((x :: t).drop (runL rs (dateR rs x) (x :: t))).length ≤ f := by rw [List.length_drop]; omega
    generalize hk : runL rs (dateR rs x) (x :: t) = K at *
    generalize dateR rs x = d at *
    generalize x :: t = l at *
    have hgs : l.take K ++ l.drop K = l := List.take_append_drop K l
    have hpr : (l.drop K).Pairwise (Rlt rs) := hp.sublist (List.drop_sublist _ _)
    have hng : (l.take K).Nodup := (rlt_nodup hp).sublist (List.take_sublist _ _)
    have hmg : ∀ y ∈ l.take K, 0 ≤ y ∧ y < (out.length : Int) := fun y hy => hin y (List.mem_of_mem_take hy)
    have hfl : ∀ y ∈ (l.take K).map (flowR rs), 0 ≤ y ∧ y ≤ 10000 := fun y hy => by
      obtain ⟨z, _, rfl⟩ := List.mem_map.1 hy
      exact hf z
    have hlg : (l.take K).length = (grpV a ((l.take K).map (flowR rs))).length := by rw [grpV_len ha hfl, List.length_map]
    obtain ⟨i1, i2, i3⟩ := allotL_at hf f (l.drop K) (a - min ((l.take K).map (flowR rs)).sum a) (putL out (l.take K) (grpV a ((l.take K).map (flowR rs)))) hdl hpr (by omega) (fun y hy => by rw [putL_len]; exact hin y (List.mem_of_mem_drop hy))
    rw [hstep]
    refine ⟨by rw [i1, putL_len], fun i hi => ?_, fun i j hj => ?_⟩
    · have hig : (i : Int) ∉ l.take K := fun h => hi (List.mem_of_mem_take h)
      have hir : (i : Int) ∉ l.drop K := fun h => hi (List.mem_of_mem_drop h)
      rw [i2 i hir, putL_off _ _ _ _ hig (fun y hy => (hmg y hy).1)]
    · have hil : (i : Int) ∈ l := (List.mem_filter.1 (List.mem_of_getElem? hj)).1
      by_cases he : dateR rs i = d
      · have hir : (i : Int) ∉ l.drop K := fun h => by
          rw [hr] at h
          have := (List.mem_filter.1 h).2
          simp at this; omega
        rw [he, ← hg] at hj
        obtain ⟨hjl, hji⟩ := List.getElem?_eq_some_iff.1 hj
        rw [i2 i hir]
        have h := putL_at (j := j) hlg hng hmg hjl
        have hgj : (l.take K).getD j 0 = (i : Int) := by rw [List.getD_eq_getElem?_getD, hj]; rfl
        rw [hgj, Int.toNat_natCast] at h
        rw [h, he, befFl_zero hd]
        unfold grpFl
        rw [← hg]
        congr 2
        omega
      · have hde : d < dateR rs i := by have := hd _ hil; omega
        have hff : l.filter (fun x => decide (dateR rs x = dateR rs i)) = (l.drop K).filter (fun x => decide (dateR rs x = dateR rs i)) := by
          rw [hr, List.filter_filter]
          refine List.filter_congr fun y _ => ?_
          by_cases h : dateR rs y = dateR rs i
          · simp [h, hde]
          · simp [h]
        rw [hff] at hj
        rw [i3 i j hj]
        have hgf : grpFl rs (l.drop K) (dateR rs i) = grpFl rs l (dateR rs i) := by unfold grpFl; rw [hff]
        rw [hgf, filter_lt_split (rs := rs) (l := l) hde, ← hr]
        have hle : l.filter (fun x => decide (dateR rs x ≤ d)) = l.take K := by
          rw [hg]
          refine List.filter_congr fun y hy => ?_
          have := hd y hy
          by_cases h : dateR rs y = d
          · simp [h]
          · have h2 : ¬ dateR rs y ≤ d := by omega
            simp [h, h2]
        rw [hle]
        have hb : 0 ≤ befFl rs (l.drop K) (dateR rs i) := by unfold befFl; exact sumFl_ge (fun x => (hf x).1)
        congr 2
        show max 0 (a - min (sumFl rs (l.take K)) a - befFl rs (l.drop K) (dateR rs i)) = _
        omega
theorem putL_sum : ∀ (g sh out : List Int), g.length = sh.length → g.Nodup → (∀ x ∈ g, 0 ≤ x ∧ x < (out.length : Int)) → (∀ x ∈ g, out.getD x.toNat 0 = 0) → (putL out g sh).sum = out.sum + sh.sum
  | [], [], out, _, _, _, _ => by simp [putL]
  | [], _ :: _, _, h, _, _, _ => by simp at h
  | _ :: _, [], _, h, _, _, _ => by simp at h
  | x :: g, v :: sh, out, h, hn, hi, hz => by
    have hx := hi x (by simp)
    have hn2 := List.nodup_cons.1 hn
    show (putL (out.set x.toNat v) g sh).sum = _
    rw [putL_sum g sh _ (by simpa using h) hn2.2 (fun y hy => by rw [List.length_set]; exact hi y (by simp [hy])) (fun y hy => by
      have hy0 := hi y (by simp [hy])
      have hxy : x.toNat ≠ y.toNat := fun e => hn2.1 (by have : x = y := by omega
                                                         rw [this]; exact hy)
      have := hz y (by simp [hy])
      simpa [List.getD_eq_getElem?_getD, List.getElem?_set, hxy] using this), sum_set _ _ _ (by omega), hz x (by simp), List.sum_cons]
    omega
/-- all together -/
theorem allotL_sum (hf : ∀ x, 0 ≤ flowR rs x ∧ flowR rs x ≤ 10000) : ∀ (f : Nat) (l : List Int) (a : Int) (out : List Int), l.length ≤ f → l.Nodup → 0 ≤ a → (∀ x ∈ l, 0 ≤ x ∧ x < (out.length : Int)) → (∀ x ∈ l, out.getD x.toNat 0 = 0) →
    (allotL rs f l a out).sum = out.sum + min a (sumFl rs l)
  | 0, l, a, out, hl, _, ha, _, _ => by
    obtain rfl := List.eq_nil_of_length_eq_zero (Nat.le_zero.1 hl)
    show out.sum = out.sum + min a 0
    omega
  | f + 1, [], a, out, _, _, ha, _, _ => by
    show out.sum = out.sum + min a 0
    omega
  | f + 1, x :: t, a, out, hl, hp, ha, hin, hz => by
    have hK := runL_pos (rs := rs) (x := x) (t := t)
    have hstep : allotL rs (f + 1) (x :: t) a out = allotL rs f ((x :: t).drop (runL rs (dateR rs x) (x :: t))) (a - min (((x :: t).take (runL rs (dateR rs x) (x :: t))).map (flowR rs)).sum a) (putL out ((x :: t).take (runL rs (dateR rs x) (x :: t))) (grpV a (((x :: t).take (runL rs (dateR rs x) (x :: t))).map (flowR rs)))) := rfl
    have hdl : ((x :: t).drop (runL rs (dateR rs x) (x :: t))).length ≤ f := by rw [List.length_drop]; omega
    generalize hk : runL rs (dateR rs x) (x :: t) = K at *
    generalize x :: t = l at *
    have hgs : l.take K ++ l.drop K = l := List.take_append_drop K l
    have hnd : (l.take K ++ l.drop K).Nodup := by rw [hgs]; exact hp
    have hng := (List.nodup_append.1 hnd).1
    have hnr := (List.nodup_append.1 hnd).2.1
    have hdis := (List.nodup_append.1 hnd).2.2
    have hmg : ∀ y ∈ l.take K, 0 ≤ y ∧ y < (out.length : Int) := fun y hy => hin y (List.mem_of_mem_take hy)
    have hfl : ∀ y ∈ (l.take K).map (flowR rs), 0 ≤ y ∧ y ≤ 10000 := fun y hy => by
      obtain ⟨z, _, rfl⟩ := List.mem_map.1 hy
      exact hf z
    have hlg : (l.take K).length = (grpV a ((l.take K).map (flowR rs))).length := by rw [grpV_len ha hfl, List.length_map]
    rw [hstep, allotL_sum hf f (l.drop K) _ _ hdl hnr (by omega) (fun y hy => by rw [putL_len]; exact hin y (List.mem_of_mem_drop hy)) (fun y hy => by
      have hy0 := hin y (List.mem_of_mem_drop hy)
      have hyn : ((y.toNat : Nat) : Int) = y := by omega
      rw [putL_off _ _ _ _ (by rw [hyn]; exact fun h => hdis y h y hy rfl) (fun z hz => (hmg z hz).1)]
      exact hz y (List.mem_of_mem_drop hy))]
    rw [putL_sum _ _ _ hlg hng hmg (fun y hy => hz y (List.mem_of_mem_take hy)), grpV_sum ha]
    have hs : sumFl rs l = sumFl rs (l.take K) + sumFl rs (l.drop K) := by
      conv => lhs; rw [← hgs]
      unfold sumFl
      rw [List.map_append, List.sum_append]
    have h1 : 0 ≤ sumFl rs (l.take K) := sumFl_ge (fun x => (hf x).1)
    have h2 : 0 ≤ sumFl rs (l.drop K) := sumFl_ge (fun x => (hf x).1)
    rw [hs]
    show out.sum + min a (sumFl rs (l.take K)) + min (a - min (sumFl rs (l.take K)) a) (sumFl rs (l.drop K)) = _
    omega
end
end Go.Proofs.Ytfcmgmcidngjeaa
namespace Go.Proofs.Ytfcmgmcidngjeaa
open Go.RowKit

def onT (day : Int) (r : Rt) : Bool := inB r.f r.t day
def grpT (rs : List Rt) (day d : Int) : List Int := (rs.filter fun r => onT day r && decide (r.date = d)).map Rt.flow
def befT (rs : List Rt) (day d : Int) : Int := ((rs.filter fun r => onT day r && decide (r.date < d)).map Rt.flow).sum
def totT (rs : List Rt) (day : Int) : Int := ((rs.filter (onT day)).map Rt.flow).sum
def posT (rs : List Rt) (day d : Int) (i : Nat) : Nat := ((rs.take i).filter fun r => onT day r && decide (r.date = d)).length
def getR (rs : List Rt) (x : Int) : Rt := rs.getD x.toNat rt0
theorem flowR_get (rs : List Rt) (x : Int) : flowR rs x = (getR rs x).flow := rfl
theorem dateR_get (rs : List Rt) (x : Int) : dateR rs x = (getR rs x).date := rfl
section
variable {rs : List Rt} {day : Int}
theorem onR_at {k : Nat} (h : k < rs.length) : onR rs day k = onT day (getR rs (k : Int)) := by
  unfold onR onT getR
  simp [List.getD_eq_getElem?_getD, h]
theorem actF_filter (p : Rt → Bool) : ∀ k, k ≤ rs.length → ((actF rs day k).filter fun x => p (getR rs x)).map (getR rs) = (rs.take k).filter fun r => onT day r && p r
  | 0, _ => by simp [actF_zero]
  | k + 1, h => by
    have ih := actF_filter p k (by omega)
    have hk : k < rs.length := by omega
    have hg : getR rs (k : Int) = rs[k] := by unfold getR; simp [List.getD_eq_getElem?_getD, hk]
    rw [List.take_succ_eq_append_getElem hk, List.filter_append, ← ih]
    cases ho : onR rs day k
    · rw [actF_no ho]
      rw [onR_at hk, hg] at ho
      simp [ho]
    · rw [actF_yes ho]
      rw [onR_at hk, hg] at ho
      rw [List.filter_append, List.map_append]
      congr 1
      cases hp : p rs[k]
      · simp [ho, hp, hg]
      · simp [ho, hp, hg]
theorem actF_all : (actF rs day rs.length).map (getR rs) = rs.filter (onT day) := by
  have h := actF_filter (rs := rs) (day := day) (fun _ => true) rs.length (Nat.le_refl _)
  rw [List.take_length, List.filter_eq_self.2 (fun _ _ => rfl)] at h
  rw [h]
  exact List.filter_congr (fun x _ => by simp)
theorem act_perm_filter (p : Int → Bool) : ((actR rs day).filter p).Perm ((actF rs day rs.length).filter p) := (actR_spec rs day).2.filter p
theorem sum_perm_map {f : Int → Int} {l l' : List Int} (h : l.Perm l') : (l.map f).sum = (l'.map f).sum := perm_sum_map h
theorem bef_eq (d : Int) : befFl rs (actR rs day) d = befT rs day d := by
  unfold befFl sumFl befT
  rw [sum_perm_map (act_perm_filter _)]
  have h := actF_filter (rs := rs) (day := day) (fun r => decide (r.date < d)) rs.length (Nat.le_refl _)
  rw [List.take_length] at h
  rw [← h, List.map_map]
  rfl
theorem tot_eq : sumFl rs (actR rs day) = totT rs day := by
  unfold sumFl totT
  rw [sum_perm_map (actR_spec rs day).2, ← actF_all, List.map_map]
  rfl
theorem lt_eq_of_perm : ∀ {l l' : List Int}, l.Perm l' → l.Pairwise (fun x z => x < z) → l'.Pairwise (fun x z => x < z) → l = l'
  | [], l', h, _, _ => (List.nil_perm.1 h).symm
  | x :: t, [], h, _, _ => by have := h.length_eq; simp at this
  | x :: t, y :: t', h, h1, h2 => by
    have a1 := List.pairwise_cons.1 h1
    have a2 := List.pairwise_cons.1 h2
    have e : x = y := by
      have m1 : x ∈ y :: t' := h.mem_iff.1 (by simp)
      have m2 : y ∈ x :: t := h.mem_iff.2 (by simp)
      rcases List.mem_cons.1 m1 with r | r
      · exact r
      · rcases List.mem_cons.1 m2 with q | q
        · exact q.symm
        · have := a1.1 y q
          have := a2.1 x r
          omega
    subst e
    rw [lt_eq_of_perm ((List.perm_cons x).1 h) a1.2 a2.2]
theorem same_filter (d : Int) : (actR rs day).filter (fun x => decide (dateR rs x = d)) = (actF rs day rs.length).filter (fun x => decide (dateR rs x = d)) := by
  refine lt_eq_of_perm (act_perm_filter _) ?_ ((actF_lt rs day rs.length).sublist List.filter_sublist)
  have h := (actR_spec rs day).1.sublist (List.filter_sublist (p := fun x => decide (dateR rs x = d)))
  refine h.imp_of_mem ?_
  intro x y hx hy hr
  have e1 := (List.mem_filter.1 hx).2
  have e2 := (List.mem_filter.1 hy).2
  simp only [decide_eq_true_eq] at e1 e2
  unfold Rlt at hr
  omega
theorem grp_eq (d : Int) : grpFl rs (actR rs day) d = grpT rs day d := by
  unfold grpFl grpT
  rw [same_filter]
  have h := actF_filter (rs := rs) (day := day) (fun r => decide (r.date = d)) rs.length (Nat.le_refl _)
  rw [List.take_length] at h
  rw [← h, List.map_map]
  rfl
theorem actF_split {i : Nat} : ∀ m, i + 1 ≤ m → onR rs day i = true → ∃ t, actF rs day m = actF rs day i ++ (i : Int) :: t
  | 0, h, _ => by omega
  | m + 1, h, ho => by
    by_cases e : m = i
    · subst e
      exact ⟨[], actF_yes ho⟩
    · obtain ⟨t, ht⟩ := actF_split m (by omega) ho
      cases hm : onR rs day m
      · exact ⟨t, by rw [actF_no hm, ht]⟩
      · exact ⟨t ++ [(m : Int)], by rw [actF_yes hm, ht]; simp⟩
theorem pos_at {i : Nat} (hi : i < rs.length) (ho : onR rs day i = true) : ((actR rs day).filter fun x => decide (dateR rs x = dateR rs i))[posT rs day (dateR rs i) i]? = some (i : Int) := by
  rw [same_filter]
  obtain ⟨t, ht⟩ := actF_split (rs := rs) (day := day) rs.length hi ho
  have h := actF_filter (rs := rs) (day := day) (fun r => decide (r.date = dateR rs i)) i (by omega)
  have hl : ((actF rs day i).filter fun x => decide (dateR rs x = dateR rs i)).length = posT rs day (dateR rs i) i := by
    have := congrArg List.length h
    rw [List.length_map] at this
    exact this
  rw [ht, List.filter_append, List.getElem?_append_right (by omega), hl, Nat.sub_self, List.filter_cons_of_pos (by simp)]
  rfl
/-- right i gets -/
theorem alloc_at (hf : ∀ x, 0 ≤ flowR rs x ∧ flowR rs x ≤ 10000) {a : Int} (ha : 0 ≤ a) {i : Nat} (hi : i < rs.length) : (allotR rs day a).getD i 0 = if onT day (getR rs (i : Int)) = true then (grpV (max 0 (a - befT rs day (dateR rs i))) (grpT rs day (dateR rs i))).getD (posT rs day (dateR rs i) i) 0 else 0 := by
  obtain ⟨_, h2, h3⟩ := allotL_at hf (actR rs day).length (actR rs day) a (List.replicate rs.length 0) (Nat.le_refl _) (actR_spec rs day).1 ha (fun x hx => by rw [List.length_replicate]; exact actR_in hx)
  rw [← onR_at hi]
  by_cases ho : onR rs day i = true
  · rw [if_pos ho]
    have h := h3 i _ (pos_at hi ho)
    rw [bef_eq, grp_eq] at h
    exact h
  · rw [if_neg ho]
    have hni : (i : Int) ∉ actR rs day := fun h => by
      obtain ⟨k, e, _, h5⟩ := actF_mem.1 ((actR_spec rs day).2.mem_iff.1 h)
      have : k = i := by omega
      subst this
      exact ho h5
    have h := h2 i hni
    rw [show (List.replicate rs.length (0 : Int)).getD i 0 = 0 by simp [List.getD_eq_getElem?_getD, List.getElem?_replicate, hi]] at h
    exact h
theorem alloc_len (hf : ∀ x, 0 ≤ flowR rs x ∧ flowR rs x ≤ 10000) {a : Int} (ha : 0 ≤ a) : (allotR rs day a).length = rs.length := by
  have h := (allotL_at hf (actR rs day).length (actR rs day) a (List.replicate rs.length 0) (Nat.le_refl _) (actR_spec rs day).1 ha (fun x hx => by rw [List.length_replicate]; exact actR_in hx)).1
  rw [List.length_replicate] at h
  exact h
theorem sum_zeros (n : Nat) : (List.replicate n (0 : Int)).sum = 0 := by
  induction n with
  | zero => rfl
  | succ n ih => rw [List.replicate_succ, List.sum_cons, ih]; rfl
theorem alloc_sum (hf : ∀ x, 0 ≤ flowR rs x ∧ flowR rs x ≤ 10000) {a : Int} (ha : 0 ≤ a) : (allotR rs day a).sum = min a (totT rs day) := by
  have h := allotL_sum hf (actR rs day).length (actR rs day) a (List.replicate rs.length 0) (Nat.le_refl _) (rlt_nodup (actR_spec rs day).1) ha (fun x hx => by rw [List.length_replicate]; exact actR_in hx) (fun x hx => by
    have := actR_in hx
    simp [List.getD_eq_getElem?_getD, List.getElem?_replicate, show x.toNat < rs.length by omega])
  rw [sum_zeros, tot_eq] at h
  unfold allotR
  omega
end
end Go.Proofs.Ytfcmgmcidngjeaa
namespace Go.Proofs.Ytfcmgmcidngjeaa
open Go.RowKit

def inV (rs : List Rt) (day : Int) (i : Nat) : Int := if onT day (getR rs (i : Int)) = true then flowR rs i else 0
section
variable {rs : List Rt} {day a : Int}
theorem grp_flow {i : Nat} (hi : i < rs.length) (ho : onT day (getR rs (i : Int)) = true) : (grpT rs day (dateR rs i)).getD (posT rs day (dateR rs i) i) 0 = flowR rs i := by
  rw [← grp_eq]
  have h := pos_at (rs := rs) (day := day) hi (by rw [onR_at hi]; exact ho)
  unfold grpFl
  rw [List.getD_eq_getElem?_getD, List.getElem?_map, h]
  rfl
theorem grpT_in (hck : ckR rs = 0) (d : Int) : ∀ x ∈ grpT rs day d, 0 ≤ x ∧ x ≤ 10000 := by
  intro x hx
  obtain ⟨r, hr, rfl⟩ := List.mem_map.1 hx
  exact ((ck_ok hck).2 r (List.mem_filter.1 hr).1).2
theorem befT_ge (hck : ckR rs = 0) (d : Int) : 0 ≤ befT rs day d := by
  rw [← bef_eq]
  exact sumFl_ge (fun x => (flowR_in hck x).1)
theorem got_in (hck : ckR rs = 0) (ha : 0 ≤ a) {i : Nat} (hi : i < rs.length) : 0 ≤ (allotR rs day a).getD i 0 ∧ (allotR rs day a).getD i 0 ≤ inV rs day i := by
  rw [alloc_at (flowR_in hck) ha hi]
  unfold inV
  by_cases ho : onT day (getR rs (i : Int)) = true
  · rw [if_pos ho, if_pos ho, ← grp_flow hi ho]
    exact grpV_each (by omega) (fun x hx => (grpT_in hck _ x hx).1) _
  · rw [if_neg ho, if_neg ho]; omega
theorem grp_le_bef (hck : ckR rs = 0) {d e : Int} (h : d < e) : befT rs day d + (grpT rs day d).sum ≤ befT rs day e := by
  unfold befT grpT
  have hf : ∀ r ∈ rs, 0 ≤ r.flow := fun r hr => ((ck_ok hck).2 r hr).2.1
  clear hck
  induction rs with
  | nil => simp
  | cons r t ih =>
    have ih := ih (fun r hr => hf r (by simp [hr]))
    have h0 := hf r (by simp)
    by_cases ho : onT day r = true
    · by_cases h1 : r.date < d
      · have h2 : r.date ≠ d := by omega
        have h3 : r.date < e := by omega
        simp only [List.filter_cons, ho, h1, h2, h3, decide_true, decide_false, Bool.and_self, Bool.and_false, Bool.and_true, if_true, Bool.false_eq_true, if_false, List.map_cons, List.sum_cons]
        omega
      · by_cases h2 : r.date = d
        · have h3 : r.date < e := by omega
          simp only [List.filter_cons, ho, h1, h2, h3, decide_true, decide_false, Bool.and_self, Bool.and_false, Bool.and_true, if_true, Bool.false_eq_true, if_false, List.map_cons, List.sum_cons]
          simp only [show d < e from h, show ¬ d < d by omega, decide_true, decide_false, Bool.and_false, Bool.and_true, if_true, Bool.false_eq_true, if_false, List.map_cons, List.sum_cons]
          omega
        · by_cases h3 : r.date < e
          · simp only [List.filter_cons, ho, h1, h2, h3, decide_true, decide_false, Bool.and_self, Bool.and_false, Bool.and_true, if_true, Bool.false_eq_true, if_false, List.map_cons, List.sum_cons]
            omega
          · simp only [List.filter_cons, ho, h1, h2, h3, decide_true, decide_false, Bool.and_self, Bool.and_false, Bool.and_true, if_true, Bool.false_eq_true, if_false, List.map_cons, List.sum_cons]
            omega
    · have ho : onT day r = false := by simpa using ho
      simp only [List.filter_cons, ho, Bool.false_and, Bool.false_eq_true, if_false]
      exact ih
theorem zero_of_sum : ∀ (l : List Int), l.sum = 0 → (∀ j, 0 ≤ l.getD j 0) → ∀ j, l.getD j 0 ≤ 0
  | [], _, _, j => by simp
  | x :: t, hs, hg, j => by
    have h0 := hg 0
    rw [List.getD_cons_zero] at h0
    have ht : ∀ j, 0 ≤ t.getD j 0 := fun j => by have := hg (j + 1); rwa [List.getD_cons_succ] at this
    have hts : 0 ≤ t.sum := by
      clear hs hg h0
      induction t with
      | nil => simp
      | cons y u ih =>
        have h1 := ht 0
        rw [List.getD_cons_zero] at h1
        have h2 := ih (fun j => by have := ht (j + 1); rwa [List.getD_cons_succ] at this)
        rw [List.sum_cons]; omega
    rw [List.sum_cons] at hs
    cases j with
    | zero => rw [List.getD_cons_zero]; omega
    | succ j => rw [List.getD_cons_succ]; exact zero_of_sum t (by omega) ht j
/-- no younger right gets water while an older one lacks some -/
theorem got_first (hck : ckR rs = 0) (ha : 0 ≤ a) {i k : Nat} (hi : i < rs.length) (hk : k < rs.length) (hl : (allotR rs day a).getD i 0 < inV rs day i) (hd : dateR rs i < dateR rs k) : (allotR rs day a).getD k 0 ≤ 0 := by
  have hon : onT day (getR rs (i : Int)) = true := by
    by_cases ho : onT day (getR rs (i : Int)) = true
    · exact ho
    · have h1 := (got_in (day := day) hck ha hi).1
      unfold inV at hl
      rw [if_neg ho] at hl
      omega
  rw [alloc_at (flowR_in hck) ha hi, if_pos hon] at hl
  unfold inV at hl
  rw [if_pos hon, ← grp_flow hi hon] at hl
  have hlt : max 0 (a - befT rs day (dateR rs i)) < (grpT rs day (dateR rs i)).sum := by
    rcases Int.lt_or_le (max 0 (a - befT rs day (dateR rs i))) (grpT rs day (dateR rs i)).sum with h | h
    · exact h
    · unfold grpV at hl
      rw [if_neg (by omega)] at hl
      omega
  have hb := grp_le_bef (rs := rs) (day := day) hck hd
  have hz : max 0 (a - befT rs day (dateR rs k)) = 0 := by omega
  rw [alloc_at (flowR_in hck) ha hk]
  by_cases ho : onT day (getR rs (k : Int)) = true
  · rw [if_pos ho, hz]
    have hs := grpV_sum (a := 0) (fl := grpT rs day (dateR rs k)) (Int.le_refl _)
    have hn := (sum_bnd (grpT_in (day := day) hck (dateR rs k))).1
    have h0 : (grpV 0 (grpT rs day (dateR rs k))).sum = 0 := by omega
    have hge : ∀ j, 0 ≤ (grpV 0 (grpT rs day (dateR rs k))).getD j 0 := fun j => (grpV_each (Int.le_refl _) (fun x hx => (grpT_in hck _ x hx).1) j).1
    exact zero_of_sum _ h0 hge _
  · rw [if_neg ho]
    omega
/-- the values of the active ones make the sum -/
theorem sum_act {out : List Int} (hz : ∀ i : Nat, i < out.length → onR rs day i = false → out.getD i 0 = 0) : ∀ k, k ≤ out.length → ((actF rs day k).map fun x => out.getD x.toNat 0).sum = (out.take k).sum
  | 0, _ => by simp [actF_zero]
  | k + 1, h => by
    rw [sum_snoc out k (by omega), ← sum_act hz k (by omega)]
    cases ho : onR rs day k
    · rw [actF_no ho, hz k (by omega) ho]; omega
    · rw [actF_yes ho, List.map_append, List.sum_append]
      simp
theorem got_sum (hck : ckR rs = 0) (ha : 0 ≤ a) : ((actR rs day).map fun x => (allotR rs day a).getD x.toNat 0).sum = min a (totT rs day) := by
  rw [sum_perm_map (actR_spec rs day).2, ← alloc_sum (flowR_in hck) ha]
  have hl := alloc_len (rs := rs) (day := day) (flowR_in hck) ha
  have h := sum_act (rs := rs) (day := day) (out := allotR rs day a) (fun i hi ho => by
    rw [hl] at hi
    rw [alloc_at (flowR_in hck) ha hi, if_neg (by rw [← onR_at hi, ho]; simp)]) rs.length (by omega)
  rw [h, ← hl, List.take_length]
theorem act_got (hck : ckR rs = 0) (ha : 0 ≤ a) {x : Int} (hx : x ∈ actR rs day) : 0 ≤ (allotR rs day a).getD x.toNat 0 ∧ (allotR rs day a).getD x.toNat 0 ≤ flowR rs x := by
  have hin := actR_in hx
  have h := got_in (rs := rs) (day := day) hck ha (i := x.toNat) (by omega)
  have e : ((x.toNat : Nat) : Int) = x := by omega
  refine ⟨h.1, Int.le_trans h.2 ?_⟩
  unfold inV
  rw [e]
  split
  · exact Int.le_refl _
  · exact (flowR_in hck x).1
theorem sum_le_map {f g : Int → Int} : ∀ {l : List Int}, (∀ x ∈ l, f x ≤ g x) → (l.map f).sum ≤ (l.map g).sum
  | [], _ => by simp
  | x :: t, h => by
    have := sum_le_map (l := t) (fun y hy => h y (by simp [hy]))
    have := h x (by simp)
    rw [List.map_cons, List.map_cons, List.sum_cons, List.sum_cons]; omega
/-- who calls -/
theorem calls_law (hck : ckR rs = 0) (ha : 0 ≤ a) : ((lackF rs (allotR rs day a) (actR rs day)).isSome = decide (a < totT rs day)) ∧ ∀ x, lackF rs (allotR rs day a) (actR rs day) = some x → (0 ≤ x ∧ x < rs.length) ∧ (allotR rs day a).getD x.toNat 0 < flowR rs x ∧ befFl rs (actR rs day) (dateR rs x) ≤ a := by
  have hs := got_sum (rs := rs) (day := day) hck ha
  have hg := fun x (hx : x ∈ actR rs day) => act_got hck ha hx
  have ht : ((actR rs day).map (flowR rs)).sum = totT rs day := tot_eq
  have hsp := (actR_spec rs day).1
  have hin := fun x (hx : x ∈ actR rs day) => actR_in hx
  have htn : 0 ≤ totT rs day := by rw [← tot_eq]; exact sumFl_ge (fun x => (flowR_in hck x).1)
  generalize actR rs day = os at *
  generalize allotR rs day a = got at *
  rcases hL : lackF rs got os with _ | x
  · refine ⟨?_, fun x h => by cases h⟩
    unfold lackF at hL
    rw [List.find?_eq_none] at hL
    have h := sum_le_map (f := flowR rs) (g := fun x => got.getD x.toNat 0) (l := os) (fun x hx => by have := hL x hx; simpa using this)
    have : ¬ a < totT rs day := by omega
    simp [this]
  · unfold lackF at hL
    obtain ⟨hp, as_, bs, hos, hpre⟩ := List.find?_eq_some_iff_append.1 hL
    have hp : got.getD x.toNat 0 < flowR rs x := by simpa using hp
    have hx : x ∈ os := by rw [hos]; simp
    have h1 : (as_.map fun x => got.getD x.toNat 0).sum ≤ (as_.map (flowR rs)).sum := sum_le_map (fun y hy => (hg y (by rw [hos]; simp [hy])).2)
    have h2 : (bs.map fun x => got.getD x.toNat 0).sum ≤ (bs.map (flowR rs)).sum := sum_le_map (fun y hy => (hg y (by rw [hos]; simp [hy])).2)
    have h3 : 0 ≤ (bs.map fun x => got.getD x.toNat 0).sum := by
      have := sum_le_map (f := fun _ => 0) (g := fun x => got.getD x.toNat 0) (l := bs) (fun y hy => (hg y (by rw [hos]; simp [hy])).1)
      have e : (bs.map fun _ => (0 : Int)).sum = 0 := by
        rw [List.map_const', sum_zeros]
      omega
    have h4 : (as_.map (flowR rs)).sum ≤ (as_.map fun x => got.getD x.toNat 0).sum := sum_le_map (fun y hy => by have := hpre y hy; simpa using this)
    have hgx := hg x hx
    have es : (os.map fun x => got.getD x.toNat 0).sum = (as_.map fun x => got.getD x.toNat 0).sum + (got.getD x.toNat 0 + (bs.map fun x => got.getD x.toNat 0).sum) := by rw [hos, List.map_append, List.sum_append, List.map_cons, List.sum_cons]
    have et : (os.map (flowR rs)).sum = (as_.map (flowR rs)).sum + (flowR rs x + (bs.map (flowR rs)).sum) := by rw [hos, List.map_append, List.sum_append, List.map_cons, List.sum_cons]
    have hat : a < totT rs day := by omega
    refine ⟨by simp [hat], fun y hy => ?_⟩
    injection hy with hy
    subst hy
    refine ⟨hin x hx, hp, ?_⟩
    have hfil : os.filter (fun y => decide (dateR rs y < dateR rs x)) = as_.filter (fun y => decide (dateR rs y < dateR rs x)) := by
      rw [hos, List.filter_append]
      have hz : (x :: bs).filter (fun y => decide (dateR rs y < dateR rs x)) = [] := by
        rw [List.filter_eq_nil_iff]
        intro y hy
        rcases List.mem_cons.1 hy with rfl | h
        · simp
        · rw [hos, List.pairwise_append] at hsp
          have := (List.pairwise_cons.1 hsp.2.1).1 y h
          unfold Rlt at this
          simp; omega
      rw [hz, List.append_nil]
    unfold befFl sumFl
    rw [hfil]
    have h5 : ((as_.filter fun y => decide (dateR rs y < dateR rs x)).map (flowR rs)).sum ≤ (as_.map (flowR rs)).sum := by
      clear h1 h2 h3 h4 es et hpre hfil hos hL
      induction as_ with
      | nil => simp
      | cons y t ih =>
        have := (flowR_in hck y).1
        rw [List.filter_cons]
        split
        · rw [List.map_cons, List.map_cons, List.sum_cons, List.sum_cons]; omega
        · rw [List.map_cons, List.sum_cons]; omega
    omega
end
end Go.Proofs.Ytfcmgmcidngjeaa
namespace Go.Proofs.Ytfcmgmcidngjeaa
open Go.RowKit

theorem sl_ownv {w : World} {base size n c : Nat} {e : TypeId} {A : Option Addr} {xs : List Value} (h : w.ownsRow base e size (.slice A n c) n xs) : Sl w w.heap.size size A n c xs := by
  obtain ⟨A', c', e', h'⟩ := own_sl h
  injection e' with e1 _ e3
  subst e1 e3
  exact h'
theorem good_ck {rs : List Rt} (h : ∀ r ∈ rs, RtGood r) (hl : rs.length ≤ 200) : ckR rs = 0 := by
  unfold ckR
  rw [if_neg (by omega), rtsErr_zero]
  intro r hr
  obtain ⟨h1, h2, h3, h4⟩ := h r hr
  unfold Rt.err
  rw [wit_of h1.1 (by omega), wit_of h2.1 (by omega)]
  have : okSpan r.f r.t = true := by unfold okSpan; rw [wit_of h3.1 (by omega), wit_of h4.1 (by omega)]; rfl
  rw [this]; simp
theorem dateR_in {rs : List Rt} (h : ckR rs = 0) (x : Int) : 0 ≤ dateR rs x ∧ dateR rs x ≤ 16777216 := by
  unfold dateR
  rw [List.getD_eq_getElem?_getD]
  rcases e : rs[x.toNat]? with _ | r
  · simp [rt0]
  · exact ((ck_ok h).2 r (List.mem_of_getElem? e)).1
def exR : List Rt := [⟨1900, 5, 0, 364⟩, ⟨1950, 5, 0, 364⟩, ⟨1950, 10, 0, 364⟩]
theorem ex_all : allotR exR 0 12 = [5, 2, 5] ∧ ckR exR = 0 ∧ (actF exR 0 exR.length).length ≤ 12 := ⟨by kernel_rfl, by kernel_rfl, by decide⟩
set_option maxHeartbeats 1600000 in
set_option maxRecDepth 20000 in
theorem awake_any (w : World) : Calls Try.prog 4 #[] w fun e w' => e = .returned (.bool true) ∧ Below w.heap.size w w' := by
  have b1 := Blk.new w 24 #[.int .i64 0, .int .i64 364]
  have b2 := Blk.new (w.alloc (.cells #[.int .i64 0, .int .i64 364] 24)) 26 #[.int .i64 1900, .int .i64 5, .int .i64 0, .int .i64 364, .int .i64 1950, .int .i64 5, .int .i64 0, .int .i64 364, .int .i64 1950, .int .i64 10, .int .i64 0, .int .i64 364]
  rw [World.size_alloc] at b2
  have hB := (bel1 (w := w) (o := .cells #[.int .i64 0, .int .i64 364] 24)).alloc (by simp) (.cells #[.int .i64 1900, .int .i64 5, .int .i64 0, .int .i64 364, .int .i64 1950, .int .i64 5, .int .i64 0, .int .i64 364, .int .i64 1950, .int .i64 10, .int .i64 0, .int .i64 364] 26)
  have hsl : Sl ((w.alloc (.cells #[.int .i64 0, .int .i64 364] 24)).alloc (.cells #[.int .i64 1900, .int .i64 5, .int .i64 0, .int .i64 364, .int .i64 1950, .int .i64 5, .int .i64 0, .int .i64 364, .int .i64 1950, .int .i64 10, .int .i64 0, .int .i64 364] 26)) ((w.alloc (.cells #[.int .i64 0, .int .i64 364] 24)).alloc (.cells #[.int .i64 1900, .int .i64 5, .int .i64 0, .int .i64 364, .int .i64 1950, .int .i64 5, .int .i64 0, .int .i64 364, .int .i64 1950, .int .i64 10, .int .i64 0, .int .i64 364] 26)).heap.size 4 (some ⟨w.heap.size + 1, 0, none⟩) 3 3 (rtCells exR) :=
    ⟨rfl, Nat.le_refl _, by unfold maxLen; omega, fun _ => ⟨w.heap.size + 1, 0, rfl, b2.lt, fun j u hu => by
      rw [b2.facts.1, Nat.zero_add, ← hu]
      simp [exR, rtCells, Rt.arr]⟩⟩
  have HAL := hide (Allot_any _ 3 3 exR 0 12 _ hsl ex_all.2.1 (by decide) ⟨by omega, by omega⟩ (by have := ex_all.2.2; omega))
  rw [ex_all.1] at HAL
  clear hsl b2
  obtain ⟨c0, c1, cf⟩ := b1.facts2
  clear b1
  go_enter Try.func4, Try.ntmps4
  go_upto_region 3 with fail
  clear c0 c1 cf
  generalize (w.alloc _).alloc _ = w2 at *
  go_wp2_with fail
  refine HAL.out.mono ?_
  rintro e w3 ⟨v, rfl, hv, hb3⟩
  obtain ⟨Ag, cg, rfl, hsg⟩ := own_sl hv
  have hB3 := bthr hB hb3 hB.size
  have b4 := Blk.new w3 3 #[.int .i64 5, .int .i64 2, .int .i64 5]
  have hb4 := bel1 (w := w3) (o := .cells #[.int .i64 5, .int .i64 2, .int .i64 5] 3)
  have hs4 : Sl (w3.alloc (.cells #[.int .i64 5, .int .i64 2, .int .i64 5] 3)) (w3.alloc (.cells #[.int .i64 5, .int .i64 2, .int .i64 5] 3)).heap.size 1 (some ⟨w3.heap.size, 0, none⟩) 3 3 (ints [5, 2, 5]) :=
    ⟨rfl, Nat.le_refl _, by unfold maxLen; omega, fun _ => ⟨w3.heap.size, 0, rfl, b4.lt, fun j u hu => by
      rw [b4.facts.1, Nat.zero_add, ← hu]
      simp [ints]⟩⟩
  have HSM := hide (same_any Ag cg [5, 2, 5] _ 3 [5, 2, 5] 3 3 _ (hsg.thr hb4) hs4)
  rw [show sameB [5, 2, 5] [5, 2, 5] = true by decide] at HSM
  have HB4 := hide (bthr hB3 hb4 hB3.size)
  clear hv hb3 hsg hB3 b4 hb4 hs4 hB HAL
  go_wp2_with fail
  refine HSM.out.mono ?_
  rintro e w5 ⟨rfl, hb5⟩
  have HB5 := hide (bthr HB4.out hb5 HB4.out.size)
  clear hb5
  go_wp2
  go_ret
  exact ⟨rfl, HB5.out⟩
end Go.Proofs.Ytfcmgmcidngjeaa
