/-
  What is kept of the stronger conditions does not depend on weaker ones: the walk of ResolveStronger. Conditions: the table of kinds; the list can be read.
-/
import Derived.Test.YtnjlbmdpfhiojaaDoorProg
import Derived.Test.YtnjlbmdpfhiojaaDoorRaw2
import Derived.Test.YtnjlbmdpfhiojaaDoorChp
import Derived.Test.YtnjlbmdpfhiojaaDoorExt
import Derived.Laws.OwnMore
import Derived.Deep.DeepCutAuto
namespace Go.Proofs.YtnjlbmdpfhiojaaDoor
open Go.RowKit

theorem good_errR {c : Cd} (h : c.good) : c.err = 0 := good_err h
theorem cd_one7 (cs : List Cd) : ∀ u ∈ cdCells cs, u.oneCell' = true := by
  intro u hu
  simp only [cdCells, List.mem_flatMap] at hu
  obtain ⟨c, _, h⟩ := hu
  simp [Cd.arr] at h
  rcases h with rfl | rfl | rfl | rfl | rfl | rfl | rfl <;> rfl
/-- the first k made weak -/
def weakK (rk : Int) (cs : List Cd) (k : Nat) : List Cd := (cs.take k).map (weakC rk) ++ cs.drop k
theorem weakK_zero (rk : Int) (cs : List Cd) : weakK rk cs 0 = cs := by simp [weakK]
theorem weakK_all {rk : Int} {cs : List Cd} {k : Nat} (h : cs.length ≤ k) : weakK rk cs k = cs.map (weakC rk) := by
  unfold weakK; rw [List.take_of_length_le h, List.drop_of_length_le h, List.append_nil]
theorem weakK_len (rk : Int) (cs : List Cd) (k : Nat) : (weakK rk cs k).length = cs.length := by
  unfold weakK; simp; omega
theorem weakK_get {rk : Int} {cs : List Cd} {k : Nat} (h : k < cs.length) : (weakK rk cs k)[k]'(by rw [weakK_len]; exact h) = cs[k] := by
  unfold weakK
  rw [List.getElem_append_right (by simp; omega)]
  simp
  congr 1; omega
theorem weakK_succ {rk : Int} {cs : List Cd} {k : Nat} (h : k < cs.length) : weakK rk cs (k + 1) = (weakK rk cs k).set k (weakC rk cs[k]) := by
  unfold weakK
  rw [List.take_succ_eq_append_getElem h, List.map_append, List.append_assoc, List.set_append_right _ _ (by simp; omega)]
  congr 1
  simp [show k - min k cs.length = 0 by omega]
  rw [List.drop_eq_getElem_cons h]
  rfl
theorem weakK_same {rk : Int} {cs : List Cd} {k : Nat} (h : k < cs.length) (hr : ¬ rk < cs[k].rank) : weakK rk cs (k + 1) = weakK rk cs k := by
  rw [weakK_succ h]
  have : weakC rk cs[k] = (weakK rk cs k)[k]'(by rw [weakK_len]; exact h) := by rw [weakK_get h]; unfold weakC; rw [if_neg hr]
  rw [this, List.set_getElem_self]
theorem cdCells_set : ∀ (cs : List Cd) (k : Nat) (h : k < cs.length) {r k1 v f t x y : Int}, cs[k] = ⟨r, k1, v, f, t, x, y⟩ → ((cdCells cs).set (k * 7 + 1) (.int .i64 1)).set (k * 7 + 2) (.int .i64 0) = cdCells (cs.set k ⟨r, 1, 0, f, t, x, y⟩)
  | c :: cs, 0, _, r, k1, v, f, t, x, y, he => by
    simp at he; subst he
    simp [cdCells, Cd.arr]
  | c :: cs, k + 1, h, r, k1, v, f, t, x, y, he => by
    have ih := cdCells_set cs k (by simpa using h) (by simpa using he)
    have e : cdCells (c :: cs) = c.arr.toList ++ cdCells cs := by simp [cdCells]
    have e2 : cdCells ((c :: cs).set (k + 1) ⟨r, 1, 0, f, t, x, y⟩) = c.arr.toList ++ cdCells (cs.set k ⟨r, 1, 0, f, t, x, y⟩) := by simp [cdCells]
    have hl : c.arr.toList.length = 7 := rfl
    rw [e, e2, ← ih, List.set_append_right _ _ (by rw [hl]; omega), List.set_append_right _ _ (by rw [hl]; omega), hl]
    rw [show (k + 1) * 7 + 1 - 7 = k * 7 + 1 by omega, show (k + 1) * 7 + 2 - 7 = k * 7 + 2 by omega]
theorem weak_err {rk : Int} {c : Cd} (h : c.err = 0) : (weakC rk c).err = 0 := by
  unfold weakC
  split
  · obtain ⟨h1, h2, h3⟩ := err_zero h
    refine err_none (by simpa using h1) (by simp) ?_
    have := rest_iff.1 h3
    rw [rest_iff]
    simp only at this ⊢
    exact ⟨by omega, this.2⟩
  · exact h
theorem weak_act {rk d lv : Int} {cs : List Cd} : actC (cs.map (weakC rk)) d lv = actC cs d lv := by
  have hr : ∀ i : Int, ((cs.map (weakC rk)).getD i.toNat cd0).rank = (cs.getD i.toNat cd0).rank ∧ ((cs.map (weakC rk)).getD i.toNat cd0).from_ = (cs.getD i.toNat cd0).from_ ∧ ((cs.map (weakC rk)).getD i.toNat cd0).to_ = (cs.getD i.toNat cd0).to_ ∧ ((cs.map (weakC rk)).getD i.toNat cd0).above = (cs.getD i.toNat cd0).above ∧ ((cs.map (weakC rk)).getD i.toNat cd0).below = (cs.getD i.toNat cd0).below := by
    intro i
    by_cases h : i.toNat < cs.length
    · have e : (cs.map (weakC rk)).getD i.toNat cd0 = weakC rk (cs.getD i.toNat cd0) := by simp [List.getD_eq_getElem?_getD, h]
      rw [e]
      unfold weakC
      split <;> exact ⟨rfl, rfl, rfl, rfl, rfl⟩
    · simp [List.getD_eq_getElem?_getD, h]
  unfold actC
  have e1 : ordC (cs.map (weakC rk)) = ordC cs := by
    unfold ordC
    rw [List.length_map]
    congr 1
    funext i k
    unfold cmpC rankC
    rw [(hr i).1, (hr k).1]
  rw [e1]
  congr 1
  funext x
  unfold appC
  obtain ⟨_, h1, h2, h3, h4⟩ := hr x
  rw [h1, h2, h3, h4]
/-- The active ones ascend by rank. -/
theorem act_ranks (cs : List Cd) (d lv : Int) : (actC cs d lv).Pairwise (fun x y => rkC cs x ≤ rkC cs y) := by
  have h := sortK_sorted (f := cmpC cs) (R := fun x y => rkC cs x < rkC cs y ∨ rkC cs x = rkC cs y ∧ x < y) (xs := idxs cs.length) (fun x y z _ _ _ h1 h2 => by omega) (by
    unfold idxs
    rw [List.pairwise_map]
    refine List.pairwise_lt_range.imp fun {a b} hab => ?_
    unfold cmpC cmp3 rankC rkC cd0 cdz
    constructor
    · intro h; left; split at h
      · assumption
      · split at h <;> omega
    · intro h
      split at h
      · omega
      · rename_i h1
        by_cases h2 : (cs.getD (a : Int).toNat ⟨0, 0, 0, 0, 0, 0, 0⟩).rank < (cs.getD (b : Int).toNat ⟨0, 0, 0, 0, 0, 0, 0⟩).rank
        · exact .inl h2
        · right; exact ⟨by omega, by omega⟩)
  have h2 : (ordC cs).Pairwise (fun x y => rkC cs x ≤ rkC cs y) := h.1.imp fun hxy => by omega
  exact h2.sublist (List.filter_sublist)
theorem act_in {cs : List Cd} {d lv : Int} : ∀ x ∈ actC cs d lv, 0 ≤ x ∧ x < cs.length := fun x hx => ordC_mem x (List.mem_filter.1 hx).1
end Go.Proofs.YtnjlbmdpfhiojaaDoor
