/-
  The plain law of sorting by insertion: the result is sorted and made of the same elements. Condition: the comparing function fits a transitive relation.
-/
import Derived.Test.YtfcmgmcidngjeaaProg
import Derived.Test.YtfcmgmcidngjeaaStb
namespace Go.Proofs.Ytfcmgmcidngjeaa
theorem getD_at (p : List Int) (y : Int) (t : List Int) {j : Nat} (h : p.length = j) : (p ++ y :: t).getD j 0 = y := by
  rw [List.getD_eq_getElem?_getD, List.getElem?_append_right (by omega), h, Nat.sub_self]; rfl
theorem getD_at1 (p : List Int) (y z : Int) (t : List Int) {j : Nat} (h : p.length = j) : (p ++ y :: z :: t).getD (j + 1) 0 = z := by
  rw [List.getD_eq_getElem?_getD, List.getElem?_append_right (by omega), h, Nat.add_sub_cancel_left]; rfl
theorem swapAt_at (p : List Int) (y z : Int) (t : List Int) {j : Nat} (h : p.length = j) : swapAt (p ++ y :: z :: t) j = p ++ z :: y :: t := by
  unfold swapAt
  rw [getD_at p y (z :: t) h, getD_at1 p y z t h, List.set_append_right _ _ (by omega), List.set_append_right _ _ (by omega), h, Nat.add_sub_cancel_left, Nat.sub_self]; rfl
/-- One element is pushed down into the sorted part: what comes out is sorted, and is made of the same elements. -/
theorem insIn_sorted {f : Int → Int → Int} {R : Int → Int → Prop} {z : Int} {s : List Int} : ∀ (j : Nat) (p q : List Int), p.length = j → (p ++ q).Pairwise R → (∀ x y, x ∈ p → y ∈ p → R x y → R y z → R x z) → (∀ x ∈ p, (f z x < 0 → R z x) ∧ (¬ f z x < 0 → R x z)) → (∀ x ∈ q, R z x) →
    ∃ r, insIn f 0 j (p ++ z :: (q ++ s)) = r ++ s ∧ r.Pairwise R ∧ r.Perm (p ++ z :: q)
  | 0, p, q, hp, hw, _, _, hq => by
    obtain rfl := List.eq_nil_of_length_eq_zero hp
    exact ⟨z :: q, rfl, List.pairwise_cons.2 ⟨hq, hw⟩, List.Perm.refl _⟩
  | j + 1, p, q, hp, hw, ht, hz, hq => by
    obtain ⟨p', y, rfl⟩ : ∃ p' y, p = p' ++ [y] := ⟨p.dropLast, p.getLast (by intro e; simp [e] at hp), (List.dropLast_concat_getLast _).symm⟩
    have hp' : p'.length = j := by simpa using hp
    have e0 : p' ++ [y] ++ z :: (q ++ s) = p' ++ y :: z :: (q ++ s) := by simp
    have hy := hz y (by simp)
    rw [e0, insIn, getD_at _ _ _ hp', getD_at1 _ _ _ _ hp']
    by_cases hlt : f z y < 0
    · rw [if_pos ⟨by omega, hlt⟩, swapAt_at _ _ _ _ hp']
      obtain ⟨r, h1, h2, h3⟩ := insIn_sorted (s := s) j p' (y :: q) hp' (by simpa using hw) (fun a b ha hb => ht a b (by simp [ha]) (by simp [hb])) (fun x hx => hz x (by simp [hx])) (fun x hx => by
        rcases List.mem_cons.1 hx with rfl | hx
        · exact hy.1 hlt
        · exact hq x hx)
      refine ⟨r, h1, h2, h3.trans ?_⟩
      rw [List.append_assoc]
      exact List.Perm.append_left _ (List.Perm.swap _ _ _)
    · rw [if_neg (fun h => hlt h.2)]
      refine ⟨p' ++ [y] ++ z :: q, by simp, ?_, List.Perm.refl _⟩
      rw [List.pairwise_append] at hw ⊢
      refine ⟨hw.1, List.pairwise_cons.2 ⟨hq, hw.2.1⟩, fun a ha b hb => ?_⟩
      rcases List.mem_cons.1 hb with rfl | hb
      · rcases List.mem_append.1 ha with ha2 | ha2
        · exact ht a y ha (by simp) ((List.pairwise_append.1 hw.1).2.2 a ha2 y (by simp)) (hy.2 hlt)
        · rw [List.mem_singleton] at ha2; subst ha2; exact hy.2 hlt
      · exact hw.2.2 a ha b hb
theorem insK_sorted {f : Int → Int → Int} {R : Int → Int → Prop} {xs : List Int} (hR : ∀ x y z, x ∈ xs → y ∈ xs → z ∈ xs → R x y → R y z → R x z) (hS : xs.Pairwise fun x z => (f z x < 0 → R z x) ∧ (¬ f z x < 0 → R x z)) : ∀ (k : Nat), k < xs.length →
    ∃ r, insK f 0 k xs = r ++ xs.drop (k + 1) ∧ r.Pairwise R ∧ r.Perm (xs.take (k + 1))
  | 0, hk => by
    match xs, hk with
    | x :: t, _ => exact ⟨[x], rfl, List.pairwise_singleton _ _, List.Perm.refl _⟩
  | k + 1, hk => by
    obtain ⟨r, h1, h2, h3⟩ := insK_sorted hR hS k (by omega)
    have hl : r.length = k + 1 := by rw [h3.length_eq, List.length_take]; omega
    have hd : xs.drop (k + 1) = xs[k + 1] :: xs.drop (k + 2) := List.drop_eq_getElem_cons hk
    have hm : ∀ x ∈ r, x ∈ xs := fun x hx => List.mem_of_mem_take (h3.mem_iff.1 hx)
    have hz : ∀ x ∈ r, (f xs[k + 1] x < 0 → R xs[k + 1] x) ∧ (¬ f xs[k + 1] x < 0 → R x xs[k + 1]) := fun x hx => by
      have h4 : (xs.take (k + 1) ++ xs.drop (k + 1)).Pairwise (fun x z => (f z x < 0 → R z x) ∧ (¬ f z x < 0 → R x z)) := by rw [List.take_append_drop]; exact hS
      rw [List.pairwise_append] at h4
      exact h4.2.2 x (h3.mem_iff.1 hx) xs[k + 1] (by rw [hd]; exact List.mem_cons_self)
    obtain ⟨r', g1, g2, g3⟩ := insIn_sorted (f := f) (R := R) (z := xs[k + 1]) (s := xs.drop (k + 2)) (k + 1) r [] hl (by simpa using h2) (fun x y hx hy => hR x y _ (hm x hx) (hm y hy) (List.getElem_mem _)) hz (by simp)
    refine ⟨r', ?_, g2, g3.trans ?_⟩
    · rw [insK, h1, hd, Nat.zero_add]; exact g1
    · rw [List.take_succ_eq_append_getElem hk]; exact h3.append_right _
/-- A list that is sorted by insertion is sorted, and is made of the same elements. -/
theorem sortK_sorted {f : Int → Int → Int} {R : Int → Int → Prop} {xs : List Int} (hR : ∀ x y z, x ∈ xs → y ∈ xs → z ∈ xs → R x y → R y z → R x z) (hS : xs.Pairwise fun x z => (f z x < 0 → R z x) ∧ (¬ f z x < 0 → R x z)) : (sortK f xs).Pairwise R ∧ (sortK f xs).Perm xs := by
  unfold sortK
  by_cases h0 : xs.length = 0
  · obtain rfl := List.eq_nil_of_length_eq_zero h0
    exact ⟨List.Pairwise.nil, List.Perm.refl _⟩
  · obtain ⟨r, h1, h2, h3⟩ := insK_sorted hR hS (xs.length - 1) (by omega)
    rw [h1, List.drop_of_length_le (by omega), List.append_nil]
    rw [List.take_of_length_le (by omega)] at h3
    exact ⟨h2, h3⟩
end Go.Proofs.Ytfcmgmcidngjeaa
