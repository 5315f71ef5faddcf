/-
  The plain law of the stable sort at any length: ranges that change places, the rotation, the symmetric merge of two sorted ranges, lists of sorted blocks. No condition.
  Contracts of the library's swapRange and rotate over an own row of integers. Condition: the ranges lie in the row.
  The contract of the library's symmetric merge of two sorted ranges of an own row. Condition: the comparing function answers f, writes nothing that was there, and fits a transitive relation.
-/
import Derived.Test.YtodamjjlnagpjaaGreatDoorProg
import Derived.Test.YtodamjjlnagpjaaGreatDoorSrt
namespace Go.Proofs.YtodamjjlnagpjaaGreatDoor

theorem set_at (p : List Int) (y z : Int) (t : List Int) {j : Nat} (h : p.length = j) : (p ++ y :: t).set j z = p ++ z :: t := by
  rw [List.set_append_right _ _ (by omega), h, Nat.sub_self]; rfl
/-- Two elements change places, the first one is written first. -/
def swap2 (xs : List Int) (i j : Nat) : List Int := (xs.set i (xs.getD j 0)).set j (xs.getD i 0)
theorem swap2_length (xs : List Int) (i j : Nat) : (swap2 xs i j).length = xs.length := by simp [swap2]
theorem swap2_at (A B C : List Int) (x y : Int) {i j : Nat} (hi : A.length = i) (hj : i + 1 + B.length = j) : swap2 (A ++ x :: (B ++ y :: C)) i j = A ++ y :: (B ++ x :: C) := by
  have e1 : (A ++ x :: (B ++ y :: C)).getD j 0 = y := by
    rw [show A ++ x :: (B ++ y :: C) = (A ++ x :: B) ++ y :: C by simp]
    exact getD_at _ _ _ (by simp; omega)
  unfold swap2
  rw [e1, getD_at A x _ hi, set_at A x y _ hi, show A ++ y :: (B ++ y :: C) = (A ++ y :: B) ++ y :: C by simp, set_at _ _ x _ (by simp; omega)]
  simp
/-- The same, the second one written first. -/
theorem swap2_back (A C : List Int) (x y : Int) {i : Nat} (hi : A.length = i) : swap2 (A ++ x :: y :: C) (i + 1) i = A ++ y :: x :: C := by
  unfold swap2
  rw [getD_at A x _ hi, getD_at1 A x y _ hi, show A ++ x :: y :: C = (A ++ [x]) ++ y :: C by simp, set_at _ _ x _ (by simp; omega), show (A ++ [x]) ++ x :: C = A ++ x :: (x :: C) by simp, set_at A x y _ hi]
def swapR (a b : Nat) : Nat → List Int → List Int
  | 0, xs => xs
  | i + 1, xs => swap2 (swapR a b i xs) (a + i) (b + i)
theorem swapR_length (a b : Nat) : ∀ (i : Nat) (xs : List Int), (swapR a b i xs).length = xs.length
  | 0, _ => rfl
  | i + 1, xs => by rw [swapR, swap2_length, swapR_length]
theorem split_last {l : List Int} {n : Nat} (h : l.length = n + 1) : ∃ l' x, l = l' ++ [x] ∧ l'.length = n := by
  have hne : l ≠ [] := by intro e; simp [e] at h
  exact ⟨l.dropLast, l.getLast hne, (List.dropLast_concat_getLast hne).symm, by simp; omega⟩
theorem swapR_at {a b : Nat} : ∀ (i : Nat) (p X1 X2 m Y1 Y2 q : List Int), p.length = a → X1.length = i → Y1.length = i → a + i + X2.length + m.length = b →
    swapR a b i (p ++ (X1 ++ (X2 ++ (m ++ (Y1 ++ (Y2 ++ q)))))) = p ++ (Y1 ++ (X2 ++ (m ++ (X1 ++ (Y2 ++ q)))))
  | 0, p, X1, X2, m, Y1, Y2, q, _, hX, hY, _ => by
    obtain rfl := List.eq_nil_of_length_eq_zero hX
    obtain rfl := List.eq_nil_of_length_eq_zero hY
    rfl
  | i + 1, p, X1, X2, m, Y1, Y2, q, hp, hX, hY, hb => by
    obtain ⟨X, x, rfl, gX⟩ := split_last hX
    obtain ⟨Y, y, rfl, gY⟩ := split_last hY
    have ih := swapR_at (a := a) (b := b) i p X (x :: X2) m Y (y :: Y2) q hp gX gY (by simp; omega)
    rw [swapR, show p ++ (X ++ [x] ++ (X2 ++ (m ++ (Y ++ [y] ++ (Y2 ++ q))))) = p ++ (X ++ (x :: X2 ++ (m ++ (Y ++ (y :: Y2 ++ q))))) by simp, ih]
    have h := swap2_at (p ++ Y) (X2 ++ m ++ X) (Y2 ++ q) x y (i := a + i) (j := b + i) (by simp; omega) (by simp; omega)
    rw [show p ++ (Y ++ (x :: X2 ++ (m ++ (X ++ (y :: Y2 ++ q))))) = p ++ Y ++ x :: (X2 ++ m ++ X ++ y :: (Y2 ++ q)) by simp, h]
    simp
theorem swapR_all {a b n : Nat} {p X m Y q : List Int} (hp : p.length = a) (hX : X.length = n) (hY : Y.length = n) (hb : a + n + m.length = b) : swapR a b n (p ++ (X ++ (m ++ (Y ++ q)))) = p ++ (Y ++ (m ++ (X ++ q))) := by
  have h := swapR_at (a := a) (b := b) n p X [] m Y [] q hp hX hY (by simp; omega)
  simpa using h

/-- What the comparing function says of x and of z behind it fits the relation. -/
def Fits (f : Int → Int → Int) (R : Int → Int → Prop) (x z : Int) : Prop := (f z x < 0 → R z x) ∧ (¬ f z x < 0 → R x z)
section
variable {f : Int → Int → Int} {R : Int → Int → Prop}
theorem pair_lt {l : List Int} (h : l.Pairwise R) {i j : Nat} (hij : i < j) (hj : j < l.length) : R (l.getD i 0) (l.getD j 0) := by
  have := List.pairwise_iff_getElem.1 h i j (by omega) hj hij
  simpa [List.getD_eq_getElem?_getD, hj, show i < l.length by omega] using this
theorem mem_take_at {l : List Int} {k : Nat} {x : Int} (h : x ∈ l.take k) : ∃ i, i < k ∧ i < l.length ∧ l.getD i 0 = x := by
  obtain ⟨i, hi, rfl⟩ := List.mem_iff_getElem.1 h
  rw [List.length_take] at hi
  exact ⟨i, by omega, by omega, by simp [List.getD_eq_getElem?_getD, show i < l.length by omega]⟩
theorem mem_drop_at {l : List Int} {k : Nat} {x : Int} (h : x ∈ l.drop k) : ∃ i, k ≤ i ∧ i < l.length ∧ l.getD i 0 = x := by
  obtain ⟨i, hi, rfl⟩ := List.mem_iff_getElem.1 h
  rw [List.length_drop] at hi
  exact ⟨k + i, by omega, by omega, by simp [List.getD_eq_getElem?_getD, show k + i < l.length by omega]⟩
theorem getD_mem {l : List Int} {i : Nat} (h : i < l.length) : l.getD i 0 ∈ l := by
  rw [List.getD_eq_getElem?_getD, List.getElem?_eq_getElem h]; exact List.getElem_mem h
/-- Where the search of the symmetric merge ends, both halves are in order. -/
theorem sym_split (hT : ∀ x y z, R x y → R y z → R x z) {U V : List Int} {a m b mid s s0 r0 : Nat} (hm : a + U.length = m) (hb : m + V.length = b) (hU : U.Pairwise R) (hV : V.Pairwise R) (hC : ∀ x ∈ U, ∀ y ∈ V, Fits f R x y)
    (h0 : mid < m ∧ s0 + b = mid + m ∧ r0 = mid ∨ m ≤ mid ∧ s0 = a ∧ r0 = m) (hmid : 2 * mid ≤ a + b ∧ a + b ≤ 2 * mid + 1) (hs : s0 ≤ s ∧ s ≤ r0)
    (hlo : s0 < s → ¬ f (V.getD (mid - s) 0) (U.getD (s - 1 - a) 0) < 0) (hhi : s < r0 → f (V.getD (mid - 1 - s) 0) (U.getD (s - a) 0) < 0) :
    (∀ x ∈ U.take (s - a), ∀ y ∈ V.drop (mid - s), R x y) ∧ (∀ y ∈ V.take (mid - s), ∀ x ∈ U.drop (s - a), R y x) := by
  constructor
  · intro x hx y hy
    obtain ⟨i, i1, i2, rfl⟩ := mem_take_at hx
    obtain ⟨j, j1, j2, rfl⟩ := mem_drop_at hy
    have hlt : s0 < s := by omega
    have k1 : s - 1 - a < U.length := by omega
    have k2 : mid - s < V.length := by omega
    have h1 := (hC _ (getD_mem k1) _ (getD_mem k2)).2 (hlo hlt)
    have h2 : R (U.getD i 0) (V.getD (mid - s) 0) := by
      by_cases e : i = s - 1 - a
      · rw [e]; exact h1
      · exact hT _ _ _ (pair_lt hU (show i < s - 1 - a by omega) k1) h1
    by_cases e : j = mid - s
    · rw [e]; exact h2
    · exact hT _ _ _ h2 (pair_lt hV (show mid - s < j by omega) j2)
  · intro y hy x hx
    obtain ⟨j, j1, j2, rfl⟩ := mem_take_at hy
    obtain ⟨i, i1, i2, rfl⟩ := mem_drop_at hx
    have hlt : s < r0 := by omega
    have k1 : s - a < U.length := by omega
    have k2 : mid - 1 - s < V.length := by omega
    have h1 := (hC _ (getD_mem k1) _ (getD_mem k2)).1 (hhi hlt)
    have h2 : R (V.getD j 0) (U.getD (s - a) 0) := by
      by_cases e : j = mid - 1 - s
      · rw [e]; exact h1
      · exact hT _ _ _ (pair_lt hV (show j < mid - 1 - s by omega) k2) h1
    by_cases e : i = s - a
    · rw [e]; exact h2
    · exact hT _ _ _ h2 (pair_lt hU (show s - a < i by omega) i2)
/-- Two merged halves, put together. -/
theorem sym_join {U1 U2 V1 V2 Z1 Z2 : List Int} (p1 : Z1.Perm (U1 ++ V1)) (p2 : Z2.Perm (U2 ++ V2)) (w1 : Z1.Pairwise R) (w2 : Z2.Pairwise R) (hU : (U1 ++ U2).Pairwise R) (hV : (V1 ++ V2).Pairwise R) (h1 : ∀ x ∈ U1, ∀ y ∈ V2, R x y) (h2 : ∀ y ∈ V1, ∀ x ∈ U2, R y x) :
    (Z1 ++ Z2).Pairwise R ∧ (Z1 ++ Z2).Perm ((U1 ++ U2) ++ (V1 ++ V2)) := by
  refine ⟨List.pairwise_append.2 ⟨w1, w2, fun x hx y hy => ?_⟩, ?_⟩
  · rcases List.mem_append.1 (p1.mem_iff.1 hx) with hx | hx <;> rcases List.mem_append.1 (p2.mem_iff.1 hy) with hy | hy
    · exact (List.pairwise_append.1 hU).2.2 x hx y hy
    · exact h1 x hx y hy
    · exact h2 x hx y hy
    · exact (List.pairwise_append.1 hV).2.2 x hx y hy
  · refine (p1.append p2).trans ?_
    rw [List.append_assoc, List.append_assoc]
    refine List.Perm.append_left _ ?_
    rw [← List.append_assoc, ← List.append_assoc]
    exact List.perm_append_comm.append_right _
/-- One element, put into its place in a sorted range behind it. -/
theorem one_left (hT : ∀ x y z, R x y → R y z → R x z) {x : Int} {V : List Int} {k : Nat} (hV : V.Pairwise R) (hC : ∀ y ∈ V, Fits f R x y) (hk : k ≤ V.length) (hlo : 0 < k → f (V.getD (k - 1) 0) x < 0) (hhi : k < V.length → ¬ f (V.getD k 0) x < 0) :
    (V.take k ++ x :: V.drop k).Pairwise R ∧ (V.take k ++ x :: V.drop k).Perm ([x] ++ V) := by
  have hsp : (V.take k ++ V.drop k).Pairwise R := by rw [List.take_append_drop]; exact hV
  rw [List.pairwise_append] at hsp
  have h1 : ∀ y ∈ V.take k, R y x := fun y hy => by
    obtain ⟨i, i1, i2, rfl⟩ := mem_take_at hy
    have := (hC _ (getD_mem (show k - 1 < V.length by omega))).1 (hlo (by omega))
    by_cases e : i = k - 1
    · rw [e]; exact this
    · exact hT _ _ _ (pair_lt hV (show i < k - 1 by omega) (by omega)) this
  have h2 : ∀ y ∈ V.drop k, R x y := fun y hy => by
    obtain ⟨i, i1, i2, rfl⟩ := mem_drop_at hy
    have := (hC _ (getD_mem (show k < V.length by omega))).2 (hhi (by omega))
    by_cases e : i = k
    · rw [e]; exact this
    · exact hT _ _ _ this (pair_lt hV (show k < i by omega) i2)
  refine ⟨List.pairwise_append.2 ⟨hsp.1, List.pairwise_cons.2 ⟨h2, hsp.2.1⟩, fun y hy z hz => ?_⟩, ?_⟩
  · rcases List.mem_cons.1 hz with rfl | hz
    · exact h1 y hy
    · exact hsp.2.2 y hy z hz
  · refine List.perm_middle.trans ?_
    rw [List.take_append_drop]
    exact List.Perm.refl _
/-- One element, put into its place in a sorted range before it. -/
theorem one_right (hT : ∀ x y z, R x y → R y z → R x z) {y : Int} {U : List Int} {k : Nat} (hU : U.Pairwise R) (hC : ∀ x ∈ U, Fits f R x y) (hk : k ≤ U.length) (hlo : 0 < k → ¬ f y (U.getD (k - 1) 0) < 0) (hhi : k < U.length → f y (U.getD k 0) < 0) :
    (U.take k ++ y :: U.drop k).Pairwise R ∧ (U.take k ++ y :: U.drop k).Perm (U ++ [y]) := by
  have hsp : (U.take k ++ U.drop k).Pairwise R := by rw [List.take_append_drop]; exact hU
  rw [List.pairwise_append] at hsp
  have h1 : ∀ x ∈ U.take k, R x y := fun x hx => by
    obtain ⟨i, i1, i2, rfl⟩ := mem_take_at hx
    have := (hC _ (getD_mem (show k - 1 < U.length by omega))).2 (hlo (by omega))
    by_cases e : i = k - 1
    · rw [e]; exact this
    · exact hT _ _ _ (pair_lt hU (show i < k - 1 by omega) (by omega)) this
  have h2 : ∀ x ∈ U.drop k, R y x := fun x hx => by
    obtain ⟨i, i1, i2, rfl⟩ := mem_drop_at hx
    have := (hC _ (getD_mem (show k < U.length by omega))).1 (hhi (by omega))
    by_cases e : i = k
    · rw [e]; exact this
    · exact hT _ _ _ this (pair_lt hU (show k < i by omega) i2)
  refine ⟨List.pairwise_append.2 ⟨hsp.1, List.pairwise_cons.2 ⟨h2, hsp.2.1⟩, fun x hx z hz => ?_⟩, ?_⟩
  · rcases List.mem_cons.1 hz with rfl | hz
    · exact h1 x hx
    · exact hsp.2.2 x hx z hz
  · refine List.perm_middle.trans ?_
    rw [List.take_append_drop]
    exact (List.perm_append_comm (l₁ := [y]) (l₂ := U))

/-- Blocks of bs elements, the last one maybe less; none is empty. -/
def FullB (bs : Nat) : List (List Int) → Prop
  | [] => True
  | e :: t => 0 < e.length ∧ (t = [] → e.length ≤ bs) ∧ (t ≠ [] → e.length = bs) ∧ FullB bs t
theorem fullB_snoc {bs : Nat} : ∀ {D : List (List Int)} {e : List Int}, 0 < bs → (∀ d ∈ D, d.length = bs) → 0 < e.length → e.length ≤ bs → FullB bs (D ++ [e])
  | [], e, _, _, h1, h2 => ⟨h1, fun _ => h2, fun h => absurd rfl h, trivial⟩
  | d :: D, e, h0, hd, h1, h2 => by
    have hdl := hd d (by simp)
    exact ⟨by omega, fun _ => by omega, fun _ => hdl, fullB_snoc h0 (fun x hx => hd x (by simp [hx])) h1 h2⟩
theorem fullB_of {bs : Nat} : ∀ {D : List (List Int)}, 0 < bs → (∀ d ∈ D, d.length = bs) → FullB bs D
  | [], _, _ => trivial
  | d :: D, h0, hd => by
    have hdl := hd d (by simp)
    exact ⟨by omega, fun _ => by omega, fun _ => hdl, fullB_of h0 (fun x hx => hd x (by simp [hx]))⟩
/-- The blocks are sorted, and the elements of different blocks fit. -/
def BlkOk (f : Int → Int → Int) (R : Int → Int → Prop) (L : List (List Int)) : Prop := (∀ b ∈ L, b.Pairwise R) ∧ L.Pairwise fun p q => ∀ x ∈ p, ∀ y ∈ q, Fits f R x y
theorem flat_len {bs : Nat} : ∀ {D : List (List Int)}, (∀ d ∈ D, d.length = bs) → D.flatten.length = D.length * bs
  | [], _ => by simp
  | d :: D, h => by
    rw [List.flatten_cons, List.length_append, flat_len (fun x hx => h x (by simp [hx])), h d (by simp), List.length_cons, Nat.succ_mul, Nat.add_comm]
/-- Two blocks beside one another are merged. -/
theorem blkOk_merge {D T : List (List Int)} {e1 e2 Z : List Int} (h : BlkOk f R (D ++ e1 :: e2 :: T)) (hp : Z.Perm (e1 ++ e2)) (hZ : Z.Pairwise R) : BlkOk f R ((D ++ [Z]) ++ T) := by
  obtain ⟨h1, h2⟩ := h
  have hm : ∀ x, x ∈ Z → x ∈ e1 ∨ x ∈ e2 := fun x hx => List.mem_append.1 (hp.mem_iff.1 hx)
  rw [List.pairwise_append, List.pairwise_cons, List.pairwise_cons] at h2
  obtain ⟨d1, ⟨a1, a2, a3⟩, d2⟩ := h2
  refine ⟨fun b hb => ?_, ?_⟩
  · simp only [List.mem_append, List.mem_singleton] at hb
    rcases hb with (hb | rfl) | hb
    · exact h1 b (by simp [hb])
    · exact hZ
    · exact h1 b (by simp [hb])
  · rw [List.append_assoc, List.singleton_append, List.pairwise_append]
    refine ⟨d1, List.pairwise_cons.2 ⟨fun q hq x hx y hy => ?_, a3⟩, fun p hpD q hq x hx y hy => ?_⟩
    · rcases hm x hx with hx | hx
      · exact a1 q (by simp [hq]) x hx y hy
      · exact a2 q hq x hx y hy
    · rcases List.mem_cons.1 hq with rfl | hq
      · rcases hm y hy with hy | hy
        · exact d2 p hpD e1 (by simp) x hx y hy
        · exact d2 p hpD e2 (by simp) x hx y hy
      · exact d2 p hpD q (by simp [hq]) x hx y hy
theorem fullB_one {bs : Nat} {L : List (List Int)} (h : FullB bs L) (hn : L.flatten.length ≤ bs) : L = [] ∨ ∃ e, L = [e] := by
  match L, h with
  | [], _ => exact .inl rfl
  | [e], _ => exact .inr ⟨e, rfl⟩
  | e1 :: e2 :: t, h =>
    obtain ⟨_, _, h3, h4, _⟩ := h
    have := h3 (by simp)
    simp at hn
    omega
theorem perm_sorted_eq (hA : ∀ x y, R x y → ¬ R y x) : ∀ {l l' : List Int}, l.Perm l' → l.Pairwise R → l'.Pairwise R → l = l'
  | [], l', h, _, _ => (List.Perm.nil_eq h)
  | x :: l, [], h, _, _ => absurd h.length_eq (by simp)
  | x :: l, y :: l', h, h1, h2 => by
    have exy : x = y := by
      rw [List.pairwise_cons] at h1 h2
      rcases List.mem_cons.1 (h.mem_iff.1 (List.mem_cons_self (a := x))) with e | hx
      · exact e
      · rcases List.mem_cons.1 (h.mem_iff.2 (List.mem_cons_self (a := y))) with e | hy
        · exact e.symm
        · exact absurd (h1.1 y hy) (hA _ _ (h2.1 x hx))
    subst exy
    rw [perm_sorted_eq hA (List.Perm.cons_inv h) (List.pairwise_cons.1 h1).2 (List.pairwise_cons.1 h2).2]

theorem getD_right (A ys : List Int) {a j : Nat} (h : A.length = a) : (A ++ ys).getD (a + j) 0 = ys.getD j 0 := by
  rw [List.getD_eq_getElem?_getD, List.getElem?_append_right (by omega), h, Nat.add_sub_cancel_left, List.getD_eq_getElem?_getD]
theorem set_right (A ys : List Int) {a j : Nat} (h : A.length = a) (x : Int) : (A ++ ys).set (a + j) x = A ++ ys.set j x := by
  rw [List.set_append_right _ _ (by omega), h, Nat.add_sub_cancel_left]
theorem swapAt_shift (A ys : List Int) {a j : Nat} (h : A.length = a) : swapAt (A ++ ys) (a + j) = A ++ swapAt ys j := by
  unfold swapAt
  rw [Nat.add_assoc, getD_right A ys h, getD_right A ys h, set_right A ys h, set_right A _ h]
theorem insIn_shift (A : List Int) {a : Nat} (h : A.length = a) : ∀ (j : Nat) (ys : List Int), insIn f a (a + j) (A ++ ys) = A ++ insIn f 0 j ys
  | 0, ys => by rw [Nat.add_zero, insIn_low (Nat.le_refl _), insIn_low (Nat.le_refl _)]
  | j + 1, ys => by
    rw [← Nat.add_assoc, insIn, insIn, Nat.add_assoc, getD_right A ys h, getD_right A ys h]
    by_cases hc : f (ys.getD (j + 1) 0) (ys.getD j 0) < 0
    · rw [if_pos ⟨by omega, hc⟩, if_pos ⟨by omega, hc⟩, swapAt_shift A ys h, insIn_shift A h]
    · rw [if_neg (fun e => hc e.2), if_neg (fun e => hc e.2)]
theorem insK_shift (A : List Int) {a : Nat} (h : A.length = a) (ys : List Int) : ∀ (k : Nat), insK f a k (A ++ ys) = A ++ insK f 0 k ys
  | 0 => rfl
  | k + 1 => by
    rw [insK, insK, insK_shift A h ys k, Nat.add_assoc, insIn_shift A h, Nat.zero_add]
/-- One more block is sorted by insertion. -/
theorem blk_step (hT : ∀ x y z, R x y → R y z → R x z) {xs : List Int} (hp : xs.Pairwise (Fits f R)) {D : List (List Int)} {a k : Nat} (hD : BlkOk f R D) (hx : ∀ x ∈ D.flatten, ∀ y ∈ xs.drop a, Fits f R x y) (hk : a + k + 1 ≤ xs.length) (hl : D.flatten.length = a) (hq : D.flatten.Perm (xs.take a)) :
    ∃ r, insK f a k (D.flatten ++ xs.drop a) = (D ++ [r]).flatten ++ xs.drop (a + k + 1) ∧ r.length = k + 1 ∧ BlkOk f R (D ++ [r]) ∧ (∀ x ∈ (D ++ [r]).flatten, ∀ y ∈ xs.drop (a + k + 1), Fits f R x y) ∧ (D ++ [r]).flatten.Perm (xs.take (a + k + 1)) := by
  have hpa : (xs.drop a).Pairwise (Fits f R) := hp.sublist (List.drop_sublist _ _)
  obtain ⟨r, h1, h2, h3⟩ := insK_sorted (f := f) (R := R) (xs := xs.drop a) (fun x y z _ _ _ => hT x y z) hpa k (by rw [List.length_drop]; omega)
  rw [List.drop_drop, ← Nat.add_assoc] at h1
  have hsp : ((xs.drop a).take (k + 1) ++ (xs.drop a).drop (k + 1)).Pairwise (Fits f R) := by rw [List.take_append_drop]; exact hpa
  rw [List.pairwise_append, List.drop_drop, ← Nat.add_assoc] at hsp
  have hmr : ∀ y ∈ r, y ∈ xs.drop a := fun y hy => List.mem_of_mem_take (h3.mem_iff.1 hy)
  refine ⟨r, ?_, by rw [h3.length_eq, List.length_take, List.length_drop]; omega, ⟨fun b hb => ?_, ?_⟩, fun x hx2 y hy => ?_, ?_⟩
  · rw [insK_shift _ hl, h1]; simp
  · rcases List.mem_append.1 hb with hb | hb
    · exact hD.1 b hb
    · rw [List.mem_singleton] at hb; subst hb; exact h2
  · refine List.pairwise_append.2 ⟨hD.2, List.pairwise_singleton _ _, fun p hpD q hq2 x hx2 y hy => ?_⟩
    rw [List.mem_singleton] at hq2
    subst hq2
    exact hx x (List.mem_flatten.2 ⟨p, hpD, hx2⟩) y (hmr y hy)
  · rw [List.flatten_append, List.mem_append] at hx2
    rcases hx2 with hx2 | hx2
    · exact hx x hx2 y (by
        have : xs.drop (a + k + 1) = (xs.drop a).drop (k + 1) := by rw [List.drop_drop]; rfl
        rw [this] at hy
        exact List.mem_of_mem_drop hy)
    · simp only [List.flatten_cons, List.flatten_nil, List.append_nil] at hx2
      exact hsp.2.2 x (h3.mem_iff.1 hx2) y hy
  · have e : xs.take (a + k + 1) = xs.take a ++ (xs.drop a).take (k + 1) := by rw [Nat.add_assoc, List.take_add]
    rw [e, List.flatten_append]
    simp only [List.flatten_cons, List.flatten_nil, List.append_nil]
    exact hq.append h3
end
end Go.Proofs.YtodamjjlnagpjaaGreatDoor
namespace Go.Proofs.YtodamjjlnagpjaaGreatDoor
open Go.RowKit

set_option maxHeartbeats 1600000 in
set_option maxRecDepth 20000 in
theorem swr_any (g n c a b k : Nat) (ia ib ik : Int) (hia : ia = a) (hib : ib = b) (hik : ik = k) (fv : Value) (hn : n ≤ 1048576) (ha : a + k ≤ b) (hb : b + k ≤ n) (xs : List Int) (hl : xs.length = n) (w : World) (hx : IRow w g xs) :
    Calls Tryz.prog 174 #[.slice (some ⟨g, 0, none⟩) n c, .int .i64 ia, .int .i64 ib, .int .i64 ik, fv] w fun e w' => e = .returned (.tuple #[]) ∧ IRow w' g (swapR a b k xs) ∧ w.grownBy w' (some g) := by
  subst hia hib hik
  have HX := hide hx
  have HL := hide hl
  clear hx hl
  go_enter Tryz.func174, Tryz.ntmps174
  go_wp2
  go_loopw [10] (fun i wr => ∃ m : Nat, m ≤ k ∧ i = .int .i64 m ∧ IRow wr g (swapR a b m xs) ∧ w.grownBy wr (some g)) (fun i _ => k - (intOf i).toNat)
  case atStart => exact ⟨0, by omega, rfl, HX.out, grown_refl _ _⟩
  case round =>
    obtain ⟨m, hm, rfl, hx, hg⟩ := hrel
    by_cases hlt : m < k
    · have hlm := (swapR_length a b m xs).trans HL.out
      have HS := hide (show swapR a b (m + 1) xs = ((swapR a b m xs).set (a + m) ((swapR a b m xs).getD (b + m) 0)).set (b + m) ((swapR a b m xs).getD (a + m) 0) from rfl)
      generalize swapR a b m xs = ys at *
      have x1 := hx.cell (j := a + m) (by omega)
      have x0 := hx.cell (j := b + m) (by omega)
      have f1 := hx.frozen (a + m)
      have f0 := hx.frozen (b + m)
      have HX2 := hide hx
      have i0 : (0 : Int) ≤ (a : Int) + (m : Int) := by omega
      have i1 : (a : Int) + (m : Int) < (n : Int) := by omega
      have i2 : (0 : Int) ≤ (b : Int) + (m : Int) := by omega
      have i3 : (b : Int) + (m : Int) < (n : Int) := by omega
      have hne : a ≠ b := by omega
      have hne2 : b ≠ a := by omega
      generalize ys.getD (a + m) 0 = x at *
      generalize ys.getD (b + m) 0 = y at *
      clear hx hlm
      go_wp2
      go_region
      go_wp2
      go_roundw
      case rel => exact ⟨m + 1, by omega, by go_num, by rw [HS.out]; exact (HX2.out.set_ (a + m) y).set_ (b + m) x, grown_drewN (grown_set (grown_set hg (.inl rfl) _) (.inl rfl) _) 1⟩
      case measure => simp [intOf]; omega
    · obtain rfl : m = k := by omega
      have HX2 := hide hx
      clear hx
      go_wp2
      go_end0
      exact ⟨rfl, HX2.out, hg⟩
set_option maxHeartbeats 1600000 in
set_option maxRecDepth 20000 in
theorem rot_any (g n c a m b : Nat) (ia im ib : Int) (hia : ia = a) (him : im = m) (hib : ib = b) (fv : Value) (hn : n ≤ 1048576) (A U V B : List Int) (hA : A.length = a) (hU : a + U.length = m) (hV : m + V.length = b) (hU0 : 0 < U.length) (hV0 : 0 < V.length) (hl : b + B.length = n) (w : World) (hx : IRow w g (A ++ (U ++ (V ++ B)))) :
    Calls Tryz.prog 160 #[.slice (some ⟨g, 0, none⟩) n c, .int .i64 ia, .int .i64 im, .int .i64 ib, fv] w fun e w' => e = .returned (.tuple #[]) ∧ IRow w' g (A ++ (V ++ (U ++ B))) ∧ w.grownBy w' (some g) := by
  subst hia him hib
  have HX := hide hx
  obtain ⟨p, hp⟩ : ∃ p, p = U.length := ⟨_, rfl⟩
  obtain ⟨q, hq⟩ : ∃ q, q = V.length := ⟨_, rfl⟩
  have e1 := hide (show m = a + p by omega)
  have e2 := hide (show b = m + q by omega)
  have HP := hide hp
  have HQ := hide hq
  have HA := hide hA
  have HB := hide (show m + q + B.length = n by omega)
  have h0 : 0 < p ∧ 0 < q := by omega
  have ham : a ≤ m := by omega
  have hmb : m ≤ b := by omega
  have hbn : b ≤ n := by omega
  clear hx hA hU hV hl hp hq hU0 hV0
  go_enter Tryz.func160, Tryz.ntmps160
  go_wp2
  go_loopw [10, 11] (fun vi vj wr => ∃ (i j : Nat) (C X Y D : List Int), vi = .int .i64 i ∧ vj = .int .i64 j ∧ 0 < i ∧ 0 < j ∧ i ≤ m ∧ m + j ≤ n ∧ Hid (C.length + i = m ∧ X.length = i ∧ Y.length = j ∧ m + j + D.length = n) ∧ Hid (C ++ (Y ++ (X ++ D)) = A ++ (V ++ (U ++ B))) ∧ IRow wr g (C ++ (X ++ (Y ++ D))) ∧ w.grownBy wr (some g)) (fun vi vj _ => (intOf vi).toNat + (intOf vj).toNat)
  case atStart => exact ⟨p, q, A, U, V, B, by rw [show (m : Int) - (a : Int) = (p : Int) by have := e1.out; omega], by rw [show (b : Int) - (m : Int) = (q : Int) by have := e2.out; omega], h0.1, h0.2, by have := e1.out; omega, by have := e2.out; omega, hide ⟨by have := HA.out; have := e1.out; omega, HP.out.symm, HQ.out.symm, HB.out⟩, hide rfl, HX.out, grown_refl _ _⟩
  case round =>
    obtain ⟨i, j, C, X, Y, D, rfl, rfl, hi0, hj0, hi, hj, hL, hE, hx, hg⟩ := hrel
    have HX2 := hide hx
    have HG := hide hg
    clear hx hg
    by_cases hij : i = j
    · subst hij
      obtain ⟨l1, l2, l3, l4⟩ := hL.out
      have HR := hide (swapR_all (a := m - i) (b := m) (n := i) (p := C) (X := X) (m := []) (Y := Y) (q := D) (by omega) l2 l3 (by simp; omega))
      have HR2 := hide (show C ++ (Y ++ ([] ++ (X ++ D))) = A ++ (V ++ (U ++ B)) from hE.out)
      have HLL := hide (show (C ++ (X ++ ([] ++ (Y ++ D)))).length = n by simp; omega)
      clear l1 l2 l3 l4 hL hE
      have hne : ((i : Int) != (i : Int)) = false := by simp
      go_wp2_with fail
      refine (swr_any g n c (m - i) (m) i _ _ _ (by omega) (by omega) (by omega) fv hn (by omega) (by omega) (C ++ (X ++ ([] ++ (Y ++ D)))) HLL.out _ HX2.out).mono ?_
      rintro e w5 ⟨rfl, hx5, hg5⟩
      rw [HR.out, HR2.out] at hx5
      have HX5 := hide hx5
      clear hx5
      go_wp2
      go_end0
      exact ⟨rfl, HX5.out, grown_trans HG.out hg5⟩
    · have hne : ((i : Int) != (j : Int)) = true := by simp; omega
      rcases Nat.lt_or_ge j i with hgt | hle
      · obtain ⟨l1, l2, l3, l4⟩ := hL.out
        have HR := hide (swapR_all (a := m - i) (b := m) (n := j) (p := C) (X := X.take j) (m := X.drop j) (Y := Y) (q := D) (by omega) (by rw [List.length_take]; omega) l3 (by rw [List.length_drop]; omega))
        have HX3 := hide (show IRow wr g (C ++ (X.take j ++ (X.drop j ++ (Y ++ D)))) by
          rw [← List.append_assoc (X.take j), List.take_append_drop]; exact HX2.out)
        have HLL := hide (show (C ++ (X.take j ++ (X.drop j ++ (Y ++ D)))).length = n by simp; omega)
        have HN := hide (show (C ++ Y).length + (i - j) = m ∧ (X.drop j).length = i - j ∧ (X.take j).length = j ∧ m + j + D.length = n by
          simp; omega)
        have HN2 := hide (show (C ++ Y) ++ (X.take j ++ (X.drop j ++ D)) = A ++ (V ++ (U ++ B)) by
          rw [← List.append_assoc (X.take j), List.take_append_drop, List.append_assoc]; exact hE.out)
        clear l1 l2 l3 l4 hL hE HX2
        have hgi : (j : Int) < (i : Int) := by omega
        go_wp2_with fail
        refine (swr_any g n c (m - i) (m) j _ _ _ (by omega) (by omega) (by omega) fv hn (by omega) (by omega) (C ++ (X.take j ++ (X.drop j ++ (Y ++ D)))) HLL.out _ HX3.out).mono ?_
        rintro e w5 ⟨rfl, hx5, hg5⟩
        rw [HR.out] at hx5
        have HX5 := hide hx5
        have HG5 := hide (grown_trans HG.out hg5)
        clear hx5 hg5
        go_wp2
        go_roundw
        case rel => exact ⟨i - j, j, C ++ Y, X.drop j, X.take j, D, by rw [show ((i - j : Nat) : Int) = (i : Int) - (j : Int) by omega], rfl, by omega, by omega, by omega, by omega, hide HN.out, hide HN2.out, by rw [List.append_assoc]; exact HX5.out, HG5.out⟩
        case measure => simp [intOf]; omega
      · obtain ⟨l1, l2, l3, l4⟩ := hL.out
        have HR := hide (swapR_all (a := m - i) (b := m + j - i) (n := i) (p := C) (X := X) (m := Y.take (j - i)) (Y := Y.drop (j - i)) (q := D) (by omega) l2 (by rw [List.length_drop]; omega) (by rw [List.length_take]; omega))
        have HX3 := hide (show IRow wr g (C ++ (X ++ (Y.take (j - i) ++ (Y.drop (j - i) ++ D)))) by
          rw [← List.append_assoc (Y.take (j - i)), List.take_append_drop]; exact HX2.out)
        have HLL := hide (show (C ++ (X ++ (Y.take (j - i) ++ (Y.drop (j - i) ++ D)))).length = n by simp; omega)
        have HN := hide (show C.length + i = m ∧ (Y.drop (j - i)).length = i ∧ (Y.take (j - i)).length = j - i ∧ m + (j - i) + (X ++ D).length = n by
          simp; omega)
        have HN2 := hide (show C ++ (Y.take (j - i) ++ (Y.drop (j - i) ++ (X ++ D))) = A ++ (V ++ (U ++ B)) by
          rw [← List.append_assoc (Y.take (j - i)), List.take_append_drop]; exact hE.out)
        clear l1 l2 l3 l4 hL hE HX2
        have hgi : ¬ (j : Int) < (i : Int) := by omega
        go_wp2_with fail
        refine (swr_any g n c (m - i) (m + j - i) i _ _ _ (by omega) (by omega) (by omega) fv hn (by omega) (by omega) (C ++ (X ++ (Y.take (j - i) ++ (Y.drop (j - i) ++ D)))) HLL.out _ HX3.out).mono ?_
        rintro e w5 ⟨rfl, hx5, hg5⟩
        rw [HR.out] at hx5
        have HX5 := hide hx5
        have HG5 := hide (grown_trans HG.out hg5)
        clear hx5 hg5
        go_wp2
        go_roundw
        case rel => exact ⟨i, j - i, C, Y.drop (j - i), Y.take (j - i), X ++ D, rfl, by rw [show ((j - i : Nat) : Int) = (j : Int) - (i : Int) by omega], by omega, by omega, by omega, by omega, hide HN.out, hide HN2.out, HX5.out, HG5.out⟩
        case measure => simp [intOf]; omega
end Go.Proofs.YtodamjjlnagpjaaGreatDoor
namespace Go.Proofs.YtodamjjlnagpjaaGreatDoor
open Go.RowKit

def MergePost (R : Int → Int → Prop) (g : Nat) (A U V B : List Int) (w : World) (e : Ending) (w' : World) : Prop := ∃ Z : List Int, e = .returned (.tuple #[]) ∧ Z.Perm (U ++ V) ∧ Z.Pairwise R ∧ IRow w' g (A ++ (Z ++ B)) ∧ w.grownBy w' (some g)
theorem at_U {A U X : List Int} {a i : Nat} (hA : A.length = a) (h1 : a ≤ i) (h2 : i < a + U.length) : (A ++ (U ++ X)).getD i 0 = U.getD (i - a) 0 := by
  rw [List.getD_eq_getElem?_getD, List.getElem?_append_right (by omega), hA, List.getElem?_append_left (by omega), List.getD_eq_getElem?_getD]
theorem at_V {A U V X : List Int} {a m i : Nat} (hA : A.length = a) (hm : a + U.length = m) (h1 : m ≤ i) (h2 : i < m + V.length) : (A ++ (U ++ (V ++ X))).getD i 0 = V.getD (i - m) 0 := by
  rw [List.getD_eq_getElem?_getD, List.getElem?_append_right (by omega), hA, List.getElem?_append_right (by omega), List.getElem?_append_left (by omega), List.getD_eq_getElem?_getD, show i - a - U.length = i - m by omega]
theorem take_one {l : List Int} {k : Nat} (h : k < l.length) : l.take (k + 1) = l.take k ++ [l.getD k 0] := by
  rw [List.take_succ_eq_append_getElem h]; simp [List.getD_eq_getElem?_getD, h]
theorem drop_one {l : List Int} {k : Nat} (h : k < l.length) : l.drop k = l.getD k 0 :: l.drop (k + 1) := by
  rw [List.drop_eq_getElem_cons h]; simp [List.getD_eq_getElem?_getD, h]
set_option maxHeartbeats 3200000 in
set_option maxRecDepth 20000 in
theorem sym_left (w0 : World) (g : Nat) (kc : FuncId) (cap : Array Value) (f : Int → Int → Int) (ok : Int → Prop) (hf : CmpSays w0 g kc cap f ok) (R : Int → Int → Prop) (hT : ∀ x y z, R x y → R y z → R x z) (n c : Nat) (hn : n ≤ 1048576)
    (a b : Nat) (ia im ib : Int) (hia : ia = a) (him : im = (a + 1 : Nat)) (hib : ib = b) (A : List Int) (x : Int) (V B : List Int) (hA : A.length = a) (hV : a + 1 + V.length = b) (hB : b + B.length = n) (hV0 : 0 < V.length) (hox : ok x) (hoV : ∀ y ∈ V, ok y) (hVR : V.Pairwise R) (hC : ∀ y ∈ V, Fits f R x y)
    (w : World) (hw : w0.grownBy w (some g)) (hx : IRow w g (A ++ ([x] ++ (V ++ B)))) :
    Calls Tryz.prog 142 #[.slice (some ⟨g, 0, none⟩) n c, .int .i64 ia, .int .i64 im, .int .i64 ib, .func (.func kc) #[] cap] w (MergePost R g A [x] V B w) := by
  obtain ⟨m, hm⟩ : ∃ m, m = a + 1 := ⟨_, rfl⟩
  rw [← hm] at him hV
  subst hia him hib
  have HM := hide hm
  have HF := hide hf.2
  have hcf := hf.1
  have HX := hide hx
  have HA := hide hA
  have HV := hide hV
  have HB := hide hB
  have HO := hide hoV
  have HVR := hide hVR
  have HC := hide hC
  have d1 : ((m : Int) - (a : Int) == 1) = true := by simp; omega
  have ham : a < m := by omega
  have hmb : m < b := by omega
  have hbn : b ≤ n := by omega
  have HLs := hide (show (A ++ ([x] ++ (V ++ B))).length = n by simp; omega)
  clear hf hx hA hV hB hoV hVR hC hV0 hm
  go_enter Tryz.func142, Tryz.ntmps142
  go_wp2
  go_loopw [10, 11] (fun vi vj wr => ∃ i j : Nat, m ≤ i ∧ i ≤ j ∧ j ≤ b ∧ vi = .int .i64 i ∧ vj = .int .i64 j ∧ Hid ((m < i → f (V.getD (i - 1 - m) 0) x < 0) ∧ (j < b → 0 ≤ f (V.getD (j - m) 0) x)) ∧ IRow wr g (A ++ ([x] ++ (V ++ B))) ∧ w.grownBy wr (some g)) (fun vi vj _ => (intOf vj).toNat - (intOf vi).toNat)
  case atStart => exact ⟨m, b, by omega, by omega, by omega, rfl, rfl, hide ⟨fun h => by omega, fun h => by omega⟩, HX.out, grown_refl _ _⟩
  case round =>
    obtain ⟨i, j, h1, h2, h3, rfl, rfl, hH, hx, hg⟩ := hrel
    by_cases hlt : i < j
    · obtain ⟨h, hh⟩ : ∃ h : Nat, ((i : Int) + (j : Int)) / 2 = (h : Int) := ⟨(i + j) / 2, by omega⟩
      have b1 : i ≤ h := by omega
      have b2 : h < j := by omega
      have x1 := hx.cell (j := h) (by have := HLs.out; omega)
      have x0 := hx.cell (j := a) (by have := HLs.out; omega)
      rw [at_V (m := m) HA.out (by have := HM.out; simp; omega) (by omega) (by have := HV.out; omega)] at x1
      rw [at_U HA.out (Nat.le_refl _) (by simp), Nat.sub_self] at x0
      replace x0 : wr.cell? ⟨g, a, none⟩ = some (.int .i64 x) := x0
      have hky : h - m < V.length := by have := HV.out; omega
      have oy : ok (V.getD (h - m) 0) := HO.out _ (getD_mem hky)
      have HY := hide (show V.getD (h - m) 0 = V.getD (h - m) 0 from rfl)
      have HCC := hide (fun (W : World) (hW : Below wr.heap.size wr W) => HF.out (V.getD (h - m) 0) x W oy hox (grown_trans hw (grown_of_below hg hW)))
      have HX2 := hide hx
      have i0 : (0 : Int) ≤ (h : Int) := by omega
      have i1 : (h : Int) < (n : Int) := by omega
      have i2 : (0 : Int) ≤ (a : Int) := by omega
      have i3 : (a : Int) < (n : Int) := by omega
      clear hx oy
      obtain ⟨y, hy⟩ : ∃ y, y = V.getD (h - m) 0 := ⟨_, rfl⟩
      rw [← hy] at x1 HCC
      have HYY := hide hy
      clear hy HY
      have hne : Nonempty (InW fun W => Below wr.heap.size wr W) := ⟨⟨wr, Below.refl _ _⟩⟩
      replace x0 := inv_cell x0
      replace x1 := inv_cell x1
      by_cases hc : f y x < 0
      · have HD := hide (show f (V.getD (h - m) 0) x < 0 by rw [← HYY.out]; exact hc)
        obtain ⟨r, hr⟩ : ∃ r, r = f y x := ⟨_, rfl⟩
        rw [← hr] at hc HCC
        clear hr
        go_wp2_with fail
        refine wp_region_inv (I := fun W => Below wr.heap.size wr W) (by kernel_rfl) (by kernel_rfl) (Below.refl _ _).drew ?_
        repeat (go_big_quiet_step ((refine inv_call (inv_closed wr) (HCC.out _ (InW.ok _)))))
        refine wpQuiet_nil ?_
        rintro _ ⟨⟨w9, h9⟩, rfl⟩
        have H9 := hide h9
        clear x0 x1 hne h9
        go_wp2
        go_roundw
        case rel => exact ⟨h + 1, j, by omega, by omega, by omega, by go_num, rfl, hide ⟨fun _ => by rw [show h + 1 - 1 - m = h - m by omega]; exact HD.out, hH.out.2⟩, HX2.out.below H9.out, grown_of_below hg H9.out⟩
        case measure => simp [intOf]; omega
      · have HD := hide (show 0 ≤ f (V.getD (h - m) 0) x by rw [← HYY.out]; omega)
        obtain ⟨r, hr⟩ : ∃ r, r = f y x := ⟨_, rfl⟩
        rw [← hr] at hc HCC
        clear hr
        have hd0 : decide (r < 0) = false := decide_eq_false hc
        replace hc : 0 ≤ r := by omega
        go_wp2_with fail
        refine wp_region_inv (I := fun W => Below wr.heap.size wr W) (by kernel_rfl) (by kernel_rfl) (Below.refl _ _).drew ?_
        repeat (go_big_quiet_step ((refine inv_call (inv_closed wr) (HCC.out _ (InW.ok _)))))
        refine wpQuiet_nil ?_
        rintro _ ⟨⟨w9, h9⟩, rfl⟩
        have H9 := hide h9
        clear x0 x1 hne h9
        go_wp2
        go_roundw
        case rel => exact ⟨i, h, by omega, by omega, by omega, rfl, rfl, hide ⟨hH.out.1, fun _ => HD.out⟩, HX2.out.below H9.out, grown_of_below hg H9.out⟩
        case measure => simp [intOf]; omega
    · obtain rfl : i = j := by omega
      have HX2 := hide hx
      have HG2 := hide hg
      have HOL := hide (one_left (k := i - m) hT HVR.out HC.out (by have := HV.out; omega) (fun h => by rw [show i - m - 1 = i - 1 - m by omega]; exact hH.out.1 (by omega)) (fun h => Int.not_lt.2 (hH.out.2 (by have := HV.out; omega))))
      clear hx hg hH
      obtain ⟨wo, rfl⟩ : ∃ wo : World, wo = wr := ⟨_, rfl⟩
      go_wp2
      go_loopw [13] (fun vk wq => ∃ k : Nat, a ≤ k ∧ k + 1 ≤ i ∧ vk = .int .i64 k ∧ IRow wq g (A ++ (V.take (k - a) ++ (x :: (V.drop (k - a) ++ B)))) ∧ w.grownBy wq (some g)) (fun vk _ => i - (intOf vk).toNat)
      case atStart => exact ⟨a, by omega, by omega, rfl, by rw [Nat.sub_self]; exact HX2.out, HG2.out⟩
      case round =>
        obtain ⟨k, k1, k2, rfl, hx, hg⟩ := hrel
        by_cases hkt : k + 1 < i
        · have hkl : k - a < V.length := by have := HV.out; have := HM.out; omega
          have hlen : (A ++ (V.take (k - a) ++ (x :: (V.drop (k - a) ++ B)))).length = n := by
            simp; have := HA.out; have := HV.out; have := HB.out; have := HM.out; omega
          have HS := hide (show swap2 (A ++ (V.take (k - a) ++ (x :: (V.drop (k - a) ++ B)))) k (k + 1) = A ++ (V.take (k + 1 - a) ++ (x :: (V.drop (k + 1 - a) ++ B))) by
            rw [drop_one hkl, show k + 1 - a = k - a + 1 by omega, take_one hkl]
            have h := swap2_at (A ++ V.take (k - a)) [] (V.drop (k - a + 1) ++ B) x (V.getD (k - a) 0) (i := k) (j := k + 1) (by simp; have := HA.out; omega) (by simp)
            simpa using h)
          generalize A ++ (V.take (k - a) ++ (x :: (V.drop (k - a) ++ B))) = ys at *
          have HS2 := hide (show swap2 ys k (k + 1) = (ys.set k (ys.getD (k + 1) 0)).set (k + 1) (ys.getD k 0) from rfl)
          have x1 := hx.cell (j := k + 1) (by omega)
          have x0 := hx.cell (j := k) (by omega)
          have f1 := hx.frozen (k + 1)
          have f0 := hx.frozen k
          have HX3 := hide hx
          have i0 : (0 : Int) ≤ (k : Int) := by omega
          have i1 : (k : Int) < (n : Int) := by omega
          have i2 : (0 : Int) ≤ (k : Int) + 1 := by omega
          have i3 : (k : Int) + 1 < (n : Int) := by omega
          have i4 : (k : Int) < (i : Int) - 1 := by omega
          generalize ys.getD (k + 1) 0 = y at *
          generalize ys.getD k 0 = z at *
          clear hx hlen
          go_wp2
          go_region
          go_wp2
          go_roundw
          case rel => exact ⟨k + 1, by omega, by omega, by go_num, by rw [← HS.out, HS2.out]; exact (HX3.out.set_ k y).set_ (k + 1) z, grown_drewN (grown_set (grown_set hg (.inl rfl) _) (.inl rfl) _) 1⟩
          case measure => simp [intOf]; omega
        · obtain rfl : i = k + 1 := by omega
          have HX3 := hide hx
          have e1 : k + 1 - m = k - a := by have := HM.out; omega
          rw [e1] at HOL
          clear hx e1
          go_wp2
          go_end0
          exact ⟨_, rfl, HOL.out.2, HOL.out.1, by have h := HX3.out; simpa using h, hg⟩

set_option maxHeartbeats 3200000 in
set_option maxRecDepth 20000 in
theorem sym_right (w0 : World) (g : Nat) (kc : FuncId) (cap : Array Value) (f : Int → Int → Int) (ok : Int → Prop) (hf : CmpSays w0 g kc cap f ok) (R : Int → Int → Prop) (hT : ∀ x y z, R x y → R y z → R x z) (n c : Nat) (hn : n ≤ 1048576)
    (a m : Nat) (ia im ib : Int) (hia : ia = a) (him : im = m) (hib : ib = (m + 1 : Nat)) (A U : List Int) (y : Int) (B : List Int) (hA : A.length = a) (hU : a + U.length = m) (hB : m + 1 + B.length = n) (hU0 : 1 < U.length) (hoU : ∀ x ∈ U, ok x) (hoy : ok y) (hUR : U.Pairwise R) (hC : ∀ x ∈ U, Fits f R x y)
    (w : World) (hw : w0.grownBy w (some g)) (hx : IRow w g (A ++ (U ++ ([y] ++ B)))) :
    Calls Tryz.prog 142 #[.slice (some ⟨g, 0, none⟩) n c, .int .i64 ia, .int .i64 im, .int .i64 ib, .func (.func kc) #[] cap] w (MergePost R g A U [y] B w) := by
  obtain ⟨b, hb⟩ : ∃ b, b = m + 1 := ⟨_, rfl⟩
  rw [← hb] at hib hB
  subst hia him hib
  have HM := hide hb
  have HF := hide hf.2
  have hcf := hf.1
  have HX := hide hx
  have HA := hide hA
  have HU := hide hU
  have HB := hide hB
  have HO := hide hoU
  have HUR := hide hUR
  have HC := hide hC
  have d1 : ((m : Int) - (a : Int) == 1) = false := by simp; omega
  have d2 : ((b : Int) - (m : Int) == 1) = true := by simp; omega
  have ham : a + 1 < m := by omega
  have hmb : m < b := by omega
  have hbn : b ≤ n := by omega
  have HLs := hide (show (A ++ (U ++ ([y] ++ B))).length = n by simp; omega)
  clear hf hx hA hU hB hoU hUR hC hU0 hb
  go_enter Tryz.func142, Tryz.ntmps142
  go_wp2
  go_loopw [14, 15] (fun vi vj wr => ∃ i j : Nat, a ≤ i ∧ i ≤ j ∧ j ≤ m ∧ vi = .int .i64 i ∧ vj = .int .i64 j ∧ Hid ((a < i → 0 ≤ f y (U.getD (i - 1 - a) 0)) ∧ (j < m → f y (U.getD (j - a) 0) < 0)) ∧ IRow wr g (A ++ (U ++ ([y] ++ B))) ∧ w.grownBy wr (some g)) (fun vi vj _ => (intOf vj).toNat - (intOf vi).toNat)
  case atStart => exact ⟨a, m, by omega, by omega, by omega, rfl, rfl, hide ⟨fun h => by omega, fun h => by omega⟩, HX.out, grown_refl _ _⟩
  case round =>
    obtain ⟨i, j, h1, h2, h3, rfl, rfl, hH, hx, hg⟩ := hrel
    by_cases hlt : i < j
    · obtain ⟨h, hh⟩ : ∃ h : Nat, ((i : Int) + (j : Int)) / 2 = (h : Int) := ⟨(i + j) / 2, by omega⟩
      have b1 : i ≤ h := by omega
      have b2 : h < j := by omega
      have x1 := hx.cell (j := h) (by have := HLs.out; omega)
      have x0 := hx.cell (j := m) (by have := HLs.out; omega)
      rw [at_U HA.out (by omega) (by have := HU.out; omega)] at x1
      rw [at_V (m := m) HA.out HU.out (Nat.le_refl _) (by simp), Nat.sub_self] at x0
      replace x0 : wr.cell? ⟨g, m, none⟩ = some (.int .i64 y) := x0
      have hky : h - a < U.length := by have := HU.out; omega
      have oy : ok (U.getD (h - a) 0) := HO.out _ (getD_mem hky)
      have HCC := hide (fun (W : World) (hW : Below wr.heap.size wr W) => HF.out y (U.getD (h - a) 0) W hoy oy (grown_trans hw (grown_of_below hg hW)))
      have HX2 := hide hx
      have i0 : (0 : Int) ≤ (h : Int) := by omega
      have i1 : (h : Int) < (n : Int) := by omega
      have i2 : (0 : Int) ≤ (m : Int) := by omega
      have i3 : (m : Int) < (n : Int) := by omega
      clear hx oy
      obtain ⟨x, hxx⟩ : ∃ x, x = U.getD (h - a) 0 := ⟨_, rfl⟩
      rw [← hxx] at x1 HCC
      have HYY := hide hxx
      clear hxx
      have hne : Nonempty (InW fun W => Below wr.heap.size wr W) := ⟨⟨wr, Below.refl _ _⟩⟩
      replace x0 := inv_cell x0
      replace x1 := inv_cell x1
      by_cases hc : f y x < 0
      · have HD := hide (show f y (U.getD (h - a) 0) < 0 by rw [← HYY.out]; exact hc)
        obtain ⟨r, hr⟩ : ∃ r, r = f y x := ⟨_, rfl⟩
        rw [← hr] at hc HCC
        clear hr
        go_wp2_with fail
        refine wp_region_inv (I := fun W => Below wr.heap.size wr W) (by kernel_rfl) (by kernel_rfl) (Below.refl _ _).drew ?_
        repeat (go_big_quiet_step ((refine inv_call (inv_closed wr) (HCC.out _ (InW.ok _)))))
        refine wpQuiet_nil ?_
        rintro _ ⟨⟨w9, h9⟩, rfl⟩
        have H9 := hide h9
        clear x0 x1 hne h9
        go_wp2
        go_roundw
        case rel => exact ⟨i, h, by omega, by omega, by omega, rfl, rfl, hide ⟨hH.out.1, fun _ => HD.out⟩, HX2.out.below H9.out, grown_of_below hg H9.out⟩
        case measure => simp [intOf]; omega
      · have HD := hide (show 0 ≤ f y (U.getD (h - a) 0) by rw [← HYY.out]; omega)
        obtain ⟨r, hr⟩ : ∃ r, r = f y x := ⟨_, rfl⟩
        rw [← hr] at hc HCC
        clear hr
        have hd0 : decide (r < 0) = false := decide_eq_false hc
        replace hc : 0 ≤ r := by omega
        go_wp2_with fail
        refine wp_region_inv (I := fun W => Below wr.heap.size wr W) (by kernel_rfl) (by kernel_rfl) (Below.refl _ _).drew ?_
        repeat (go_big_quiet_step ((refine inv_call (inv_closed wr) (HCC.out _ (InW.ok _)))))
        refine wpQuiet_nil ?_
        rintro _ ⟨⟨w9, h9⟩, rfl⟩
        have H9 := hide h9
        clear x0 x1 hne h9
        go_wp2
        go_roundw
        case rel => exact ⟨h + 1, j, by omega, by omega, by omega, by go_num, rfl, hide ⟨fun _ => by rw [show h + 1 - 1 - a = h - a by omega]; exact HD.out, hH.out.2⟩, HX2.out.below H9.out, grown_of_below hg H9.out⟩
        case measure => simp [intOf]; omega
    · obtain rfl : i = j := by omega
      have HX2 := hide hx
      have HG2 := hide hg
      have HOL := hide (one_right (k := i - a) hT HUR.out HC.out (by have := HU.out; omega) (fun h => by rw [show i - a - 1 = i - 1 - a by omega]; exact Int.not_lt.2 (hH.out.1 (by omega))) (fun h => hH.out.2 (by have := HU.out; omega)))
      clear hx hg hH
      obtain ⟨wo, rfl⟩ : ∃ wo : World, wo = wr := ⟨_, rfl⟩
      go_wp2
      go_loopw [17] (fun vk wq => ∃ k : Nat, i ≤ k ∧ k ≤ m ∧ vk = .int .i64 k ∧ IRow wq g (A ++ (U.take (k - a) ++ (y :: (U.drop (k - a) ++ B)))) ∧ w.grownBy wq (some g)) (fun vk _ => (intOf vk).toNat)
      case atStart => exact ⟨m, by omega, by omega, rfl, by
        have h := HX2.out
        rw [List.take_of_length_le (by have := HU.out; omega), List.drop_of_length_le (by have := HU.out; omega)]
        simpa using h, HG2.out⟩
      case round =>
        obtain ⟨k, k1, k2, rfl, hx, hg⟩ := hrel
        by_cases hkt : i < k
        · obtain ⟨k, rfl⟩ : ∃ k', k = k' + 1 := ⟨k - 1, by omega⟩
          have hkl : k - a < U.length := by have := HU.out; omega
          have hlen : (A ++ (U.take (k + 1 - a) ++ (y :: (U.drop (k + 1 - a) ++ B)))).length = n := by
            simp; have := HA.out; have := HU.out; have := HB.out; have := HM.out; omega
          have HS := hide (show swap2 (A ++ (U.take (k + 1 - a) ++ (y :: (U.drop (k + 1 - a) ++ B)))) (k + 1) k = A ++ (U.take (k - a) ++ (y :: (U.drop (k - a) ++ B))) by
            rw [drop_one hkl, show k + 1 - a = k - a + 1 by omega, take_one hkl]
            have h := swap2_back (A ++ U.take (k - a)) (U.drop (k - a + 1) ++ B) (U.getD (k - a) 0) y (i := k) (by simp; have := HA.out; omega)
            simpa using h)
          generalize A ++ (U.take (k + 1 - a) ++ (y :: (U.drop (k + 1 - a) ++ B))) = ys at *
          have HS2 := hide (show swap2 ys (k + 1) k = (ys.set (k + 1) (ys.getD k 0)).set k (ys.getD (k + 1) 0) from rfl)
          have x1 := hx.cell (j := k + 1) (by omega)
          have x0 := hx.cell (j := k) (by omega)
          have f1 := hx.frozen (k + 1)
          have f0 := hx.frozen k
          have HX3 := hide hx
          have i0 : (0 : Int) ≤ (k : Int) := by omega
          have i1 : (k : Int) < (n : Int) := by omega
          have i2 : (0 : Int) ≤ (k : Int) + 1 := by omega
          have i3 : (k : Int) + 1 < (n : Int) := by omega
          have i4 : (i : Int) < (k : Int) + 1 := by omega
          generalize ys.getD (k + 1) 0 = u at *
          generalize ys.getD k 0 = z at *
          clear hx hlen
          go_wp2
          go_region
          go_wp2
          go_roundw
          case rel => exact ⟨k, by omega, by omega, by go_num, by rw [← HS.out, HS2.out]; exact (HX3.out.set_ (k + 1) z).set_ k u, grown_drewN (grown_set (grown_set hg (.inl rfl) _) (.inl rfl) _) 1⟩
          case measure => simp [intOf]; try omega
        · obtain rfl : i = k := by omega
          have HX3 := hide hx
          clear hx
          go_wp2
          go_end0
          exact ⟨_, rfl, HOL.out.2, HOL.out.1, by have h := HX3.out; simpa using h, hg⟩

end Go.Proofs.YtodamjjlnagpjaaGreatDoor
