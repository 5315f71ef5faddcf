/-
  The closed form of what rights.allot gives: what right i gets depends on what is there, on the flows of the older rights together, and on the flows of its date. No condition.
-/
import Derived.Test.YtbkadeoganaemaaProg
import Derived.Test.YtbkadeoganaemaaRgw
import Derived.Test.YtbkadeoganaemaaSym
namespace Go.Proofs.Ytbkadeoganaemaa
open Go.RowKit

section
variable {rs : List Rt}
/-- the values put: at the j-th number the j-th value -/
theorem putL_at : ∀ {g sh out : List Int} {j : Nat} (_ : g.length = sh.length) (_ : g.Nodup) (_ : ∀ x ∈ g, 0 ≤ x ∧ x < (out.length : Int)) (_ : j < g.length), (putL out g sh).getD (g.getD j 0).toNat 0 = sh.getD j 0
  | [], _, _, j, _, _, _, hj => absurd hj (Nat.not_lt_zero _)
  | x :: g, [], _, _, h, _, _, _ => by simp at h
  | x :: g, v :: sh, out, j, h, hn, hi, hj => by
    have hx := hi x (by simp)
    have hn2 := List.nodup_cons.1 hn
    have hi2 : ∀ y ∈ g, 0 ≤ y ∧ y < ((out.set x.toNat v).length : Int) := fun y hy => by rw [List.length_set]; exact hi y (by simp [hy])
    cases j with
    | zero =>
      show (putL (out.set x.toNat v) g sh).getD ((x :: g).getD 0 0).toNat 0 = v
      rw [List.getD_cons_zero]
      have key : ∀ (g sh o : List Int), x ∉ g → (∀ y ∈ g, 0 ≤ y) → (putL o g sh).getD x.toNat 0 = o.getD x.toNat 0 := by
        intro g
        induction g with
        | nil => intro sh o _ _; rfl
        | cons y g ih =>
          intro sh o hne h0
          cases sh with
          | nil => rfl
          | cons u sh =>
            show (putL (o.set y.toNat u) g sh).getD x.toNat 0 = _
            rw [ih sh _ (fun h => hne (by simp [h])) (fun z hz => h0 z (by simp [hz]))]
            have hy := h0 y (by simp)
            have hxy : y.toNat ≠ x.toNat := fun e => hne (by have : y = x := by omega
                                                             simp [this])
            simp [List.getD_eq_getElem?_getD, List.getElem?_set, hxy]
      rw [key g sh _ hn2.1 (fun y hy => (hi y (by simp [hy])).1)]
      have : x.toNat < out.length := by omega
      simp [List.getD_eq_getElem?_getD, List.getElem?_set, this]
    | succ j =>
      show (putL (out.set x.toNat v) g sh).getD ((x :: g).getD (j + 1) 0).toNat 0 = (v :: sh).getD (j + 1) 0
      rw [List.getD_cons_succ, List.getD_cons_succ]
      exact putL_at (by simpa using h) hn2.2 hi2 (by simpa using hj)
theorem putL_off : ∀ (g sh out : List Int) (i : Nat), (i : Int) ∉ g → (∀ y ∈ g, 0 ≤ y) → (putL out g sh).getD i 0 = out.getD i 0
  | [], _, _, _, _, _ => rfl
  | _ :: _, [], _, _, _, _ => rfl
  | y :: g, u :: sh, out, i, hne, h0 => by
    show (putL (out.set y.toNat u) g sh).getD i 0 = _
    rw [putL_off g sh _ i (fun h => hne (by simp [h])) (fun z hz => h0 z (by simp [hz]))]
    have hy := h0 y (by simp)
    have hxy : y.toNat ≠ i := fun e => hne (by have : y = i := by omega
                                               simp [this])
    simp [List.getD_eq_getElem?_getD, List.getElem?_set, hxy]
/-- of a list in order the run of the first date is all that has the date -/
theorem run_filter {d : Int} : ∀ {l : List Int}, l.Pairwise (Rlt rs) → (∀ x ∈ l, d ≤ dateR rs x) → l.take (runL rs d l) = l.filter (fun x => decide (dateR rs x = d)) ∧ l.drop (runL rs d l) = l.filter (fun x => decide (d < dateR rs x))
  | [], _, _ => ⟨rfl, rfl⟩
  | x :: t, hp, hd => by
    have hp2 := List.pairwise_cons.1 hp
    have hx := hd x (by simp)
    unfold runL
    by_cases e : dateR rs x = d
    · rw [if_pos e]
      obtain ⟨h1, h2⟩ := run_filter hp2.2 (fun y hy => hd y (by simp [hy]))
      refine ⟨?_, ?_⟩
      · rw [List.take_succ_cons, h1, List.filter_cons_of_pos (by simpa using e)]
      · rw [List.drop_succ_cons, h2, List.filter_cons_of_neg (by simp; omega)]
    · rw [if_neg e]
      have hall : ∀ y ∈ x :: t, d < dateR rs y := fun y hy => by
        rcases List.mem_cons.1 hy with rfl | h
        · omega
        · have := hp2.1 y h
          unfold Rlt at this
          omega
      refine ⟨?_, ?_⟩
      · rw [List.take_zero, eq_comm, List.filter_eq_nil_iff]
        intro y hy
        have := hall y hy
        simp; omega
      · rw [List.drop_zero, eq_comm, List.filter_eq_self]
        intro y hy
        simpa using hall y hy
/-- the flows of those of a date, in order -/
def grpFl (rs : List Rt) (os : List Int) (d : Int) : List Int := (os.filter fun x => decide (dateR rs x = d)).map (flowR rs)
theorem filter_lt_split {l : List Int} {d e : Int} (he : d < e) : befFl rs l e = sumFl rs (l.filter fun x => decide (dateR rs x ≤ d)) + befFl rs (l.filter fun x => decide (d < dateR rs x)) e := by
  unfold befFl sumFl
  induction l with
  | nil => simp
  | cons x t ih =>
    by_cases h1 : dateR rs x ≤ d
    · have h2 : ¬ d < dateR rs x := by omega
      have h3 : dateR rs x < e := by omega
      simp only [List.filter_cons, h1, h2, h3, decide_true, decide_false, if_true, List.map_cons, List.sum_cons, Bool.false_eq_true, if_false]
      omega
    · have h2 : d < dateR rs x := by omega
      simp only [List.filter_cons, h1, h2, decide_true, decide_false, if_true, Bool.false_eq_true, if_false]
      by_cases h3 : dateR rs x < e
      · simp only [h3, decide_true, if_true, List.map_cons, List.sum_cons]
        omega
      · simp only [h3, decide_false, Bool.false_eq_true, if_false]
        exact ih
end
end Go.Proofs.Ytbkadeoganaemaa
