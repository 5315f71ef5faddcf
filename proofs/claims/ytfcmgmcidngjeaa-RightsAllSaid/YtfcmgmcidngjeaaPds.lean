/-
  Plain laws of sorting in place by exchanges: what an exchange leaves, a segment that is turned within itself, a partition, a heap. No condition.
  Plain laws of a heap in a segment: sinking an element, the greatest on top, taking it off. No condition.
  Plain laws of parting a segment by its first element, and of a sort that shifts single elements. No condition.
  A row of integers under way in a sort: what it was made of, where it lies, what may have changed beside it. No condition.
-/
import Derived.Test.YtfcmgmcidngjeaaProg
import Derived.Test.YtfcmgmcidngjeaaRot
import Derived.Test.YtfcmgmcidngjeaaInsM
namespace Go.Proofs.Ytfcmgmcidngjeaa

/-- The comparing function puts any two different elements in one order. -/
structure CmpO (f : Int → Int → Int) (ok : Int → Prop) : Prop where
  tot : ∀ x y, ok x → ok y → x ≠ y → ¬ f x y < 0 → f y x < 0
  asy : ∀ x y, ok x → ok y → f x y < 0 → ¬ f y x < 0
  tra : ∀ x y z, ok x → ok y → ok z → f x y < 0 → f y z < 0 → f x z < 0
theorem swap2_get {xs : List Int} {i j : Nat} (hi : i < xs.length) (hj : j < xs.length) (t : Nat) : (swap2 xs i j).getD t 0 = if t = j then xs.getD i 0 else if t = i then xs.getD j 0 else xs.getD t 0 := by
  unfold swap2
  rw [List.getD_eq_getElem?_getD, List.getElem?_set]
  by_cases e : j = t
  · subst e
    rw [if_pos rfl, if_pos rfl, if_pos (by simpa using hj)]; rfl
  · have e' : ¬ t = j := fun h => e h.symm
    rw [if_neg e, if_neg e', List.getElem?_set]
    by_cases e2 : i = t
    · subst e2
      rw [if_pos rfl, if_pos hi, if_pos rfl]; rfl
    · have e2' : ¬ t = i := fun h => e2 h.symm
      rw [if_neg e2, if_neg e2', ← List.getD_eq_getElem?_getD]
theorem swap2_self {xs : List Int} {i : Nat} (hi : i < xs.length) : swap2 xs i i = xs := by
  unfold swap2
  rw [List.set_set]
  have e : xs.getD i 0 = xs[i] := by simp [List.getD_eq_getElem?_getD, hi]
  rw [e, List.set_getElem_self]
theorem swap2_perm {xs : List Int} {i j : Nat} (hi : i < xs.length) (hj : j < xs.length) : (swap2 xs i j).Perm xs := by
  have key : ∀ {i j : Nat}, i < j → (hj : j < xs.length) → (swap2 xs i j).Perm xs := by
    intro i j hij hj
    have hi : i < xs.length := by omega
    have h1 : xs = xs.take i ++ xs[i] :: (xs.drop (i + 1)) := by
      rw [← List.drop_eq_getElem_cons hi, List.take_append_drop]
    have hd : j - (i + 1) < (xs.drop (i + 1)).length := by simp; omega
    have h2 : xs.drop (i + 1) = (xs.drop (i + 1)).take (j - (i + 1)) ++ (xs.drop (i + 1))[j - (i + 1)] :: ((xs.drop (i + 1)).drop (j - (i + 1) + 1)) := by
      rw [← List.drop_eq_getElem_cons hd, List.take_append_drop]
    rw [h2] at h1
    have hA : (xs.take i).length = i := by rw [List.length_take]; omega
    have hB : i + 1 + ((xs.drop (i + 1)).take (j - (i + 1))).length = j := by rw [List.length_take]; simp; omega
    generalize xs.take i = A at h1 hA
    generalize (xs.drop (i + 1)).take (j - (i + 1)) = B at h1 hB
    generalize (xs.drop (i + 1)).drop (j - (i + 1) + 1) = C at h1
    generalize xs[i] = x at h1
    generalize (xs.drop (i + 1))[j - (i + 1)] = y at h1
    rw [h1, swap2_at A B C x y hA hB]
    refine List.Perm.append_left A ?_
    have p1 : (y :: (B ++ x :: C)).Perm (y :: x :: (B ++ C)) := List.Perm.cons _ List.perm_middle
    have p2 : (x :: (B ++ y :: C)).Perm (x :: y :: (B ++ C)) := List.Perm.cons _ List.perm_middle
    exact p1.trans ((List.Perm.swap x y _).trans p2.symm)
  rcases Nat.lt_trichotomy i j with h | h | h
  · exact key h hj
  · subst h; rw [swap2_self hi]
  · have e : swap2 xs i j = swap2 xs j i := by
      refine List.ext_getElem (by simp [swap2]) fun t h1 h2 => ?_
      have a := swap2_get hi hj t
      have b := swap2_get hj hi t
      rw [List.getD_eq_getElem?_getD, List.getElem?_eq_getElem h1] at a
      rw [List.getD_eq_getElem?_getD, List.getElem?_eq_getElem h2] at b
      simp only [Option.getD_some] at a b
      rw [a, b]
      by_cases e1 : t = j <;> by_cases e2 : t = i
      · omega
      · rw [if_pos e1, if_neg e2, if_pos e1]
      · rw [if_neg e1, if_pos e2, if_pos e2]
      · rw [if_neg e1, if_neg e2, if_neg e2, if_neg e1]
    rw [e]; exact key h hi
/-- A segment is turned within itself; the rest stays. -/
structure Seg (a b : Nat) (xs zs : List Int) : Prop where
  perm : zs.Perm xs
  out : ∀ t, t < a ∨ b ≤ t → zs.getD t 0 = xs.getD t 0
theorem Seg.refl (a b : Nat) (xs : List Int) : Seg a b xs xs := ⟨List.Perm.refl _, fun _ _ => rfl⟩
theorem Seg.trans {a b : Nat} {xs ys zs : List Int} (h : Seg a b xs ys) (k : Seg a b ys zs) : Seg a b xs zs := ⟨k.perm.trans h.perm, fun t ht => (k.out t ht).trans (h.out t ht)⟩
theorem Seg.len {a b : Nat} {xs zs : List Int} (h : Seg a b xs zs) : zs.length = xs.length := h.perm.length_eq
theorem Seg.more {a b a' b' : Nat} {xs zs : List Int} (h : Seg a b xs zs) (ha : a' ≤ a) (hb : b ≤ b') : Seg a' b' xs zs := ⟨h.perm, fun t ht => h.out t (by omega)⟩
theorem seg_swap {a b i j : Nat} {xs : List Int} (hb : b ≤ xs.length) (hi : a ≤ i ∧ i < b) (hj : a ≤ j ∧ j < b) : Seg a b xs (swap2 xs i j) :=
  ⟨swap2_perm (by omega) (by omega), fun t ht => by rw [swap2_get (by omega) (by omega), if_neg (by omega), if_neg (by omega)]⟩
theorem getD_inj {xs : List Int} (hn : xs.Nodup) {i j : Nat} (hi : i < xs.length) (hj : j < xs.length) (h : xs.getD i 0 = xs.getD j 0) : i = j := by
  simp [List.getD_eq_getElem?_getD, hi, hj] at h
  have hp := List.pairwise_iff_getElem.1 hn
  rcases Nat.lt_trichotomy i j with hlt | heq | hgt
  · exact absurd h (hp i j hi hj hlt)
  · exact heq
  · exact absurd h.symm (hp j i hj hi hgt)
/-- What stands in the segment afterwards stood in it before. -/
theorem Seg.mem {a b : Nat} {xs zs : List Int} (h : Seg a b xs zs) (hn : xs.Nodup) (hb : b ≤ xs.length) {t : Nat} (ht : a ≤ t ∧ t < b) : ∃ s, a ≤ s ∧ s < b ∧ zs.getD t 0 = xs.getD s 0 := by
  have hl := h.len
  have hm : zs.getD t 0 ∈ xs := h.perm.mem_iff.1 (getD_mem (by omega))
  obtain ⟨s, hs, e⟩ := List.getElem_of_mem hm
  have e2 : xs.getD s 0 = zs.getD t 0 := by rw [← e]; simp [List.getD_eq_getElem?_getD, hs]
  by_cases hin : a ≤ s ∧ s < b
  · exact ⟨s, hin.1, hin.2, e2.symm⟩
  · have h3 := h.out s (by omega)
    have hnz : zs.Nodup := h.perm.nodup_iff.2 hn
    have := getD_inj hnz (i := s) (j := t) (by omega) (by omega) (h3.trans e2)
    omega
section
variable {f : Int → Int → Int} {ok : Int → Prop}
/-- All ahead of the segment comes before all in it. -/
def LowS (f : Int → Int → Int) (a b : Nat) (xs : List Int) : Prop := ∀ s t, s < a → a ≤ t → t < b → f (xs.getD s 0) (xs.getD t 0) < 0
theorem LowS.seg {a b a' b' : Nat} {xs zs : List Int} (h : LowS f a b xs) (hs : Seg a' b' xs zs) (hn : xs.Nodup) (hb : b ≤ xs.length) (h1 : a ≤ a') (h2 : b' ≤ b) : LowS f a b zs := by
  intro s t hs1 ht1 ht2
  rw [hs.out s (by omega)]
  obtain ⟨u, u1, u2, e⟩ := (hs.more h1 h2).mem hn hb ⟨ht1, ht2⟩
  rw [e]; exact h s u hs1 u1 u2
/-- The segment is in order. -/
def SortS (f : Int → Int → Int) (a b : Nat) (xs : List Int) : Prop := ∀ s t, a ≤ s → s < t → t < b → f (xs.getD s 0) (xs.getD t 0) < 0
theorem sortS_adj {a b : Nat} {xs : List Int} (hC : CmpO f ok) (hok : ∀ x ∈ xs, ok x) (hb : b ≤ xs.length) (h : ∀ t, a < t → t < b → f (xs.getD (t - 1) 0) (xs.getD t 0) < 0) : SortS f a b xs := by
  intro s t h1 h2 h3
  obtain ⟨d, rfl⟩ : ∃ d, t = s + 1 + d := ⟨t - (s + 1), by omega⟩
  clear h2
  induction d with
  | zero => have := h (s + 1) (by omega) h3; simpa using this
  | succ d ih =>
    have h4 := ih (by omega)
    have h5 := h (s + 1 + (d + 1)) (by omega) h3
    rw [show s + 1 + (d + 1) - 1 = s + 1 + d by omega] at h5
    exact hC.tra _ _ _ (hok _ (getD_mem (by omega))) (hok _ (getD_mem (by omega))) (hok _ (getD_mem (by omega))) h4 h5
/-- A place that parts the segment. -/
def PartS (f : Int → Int → Int) (a b m : Nat) (xs : List Int) : Prop := (∀ t, a ≤ t → t < m → f (xs.getD t 0) (xs.getD m 0) < 0) ∧ ∀ t, m < t → t < b → f (xs.getD m 0) (xs.getD t 0) < 0
/-- Both sides of a parted segment are sorted: the segment is. -/
theorem part_sort {a b m : Nat} {xs : List Int} (hC : CmpO f ok) (hok : ∀ x ∈ xs, ok x) (hb : b ≤ xs.length) (hm : a ≤ m ∧ m < b) (hp : PartS f a b m xs) (hl : SortS f a m xs) (hr : SortS f (m + 1) b xs) : SortS f a b xs := by
  intro s t h1 h2 h3
  rcases Nat.lt_trichotomy s m with hs | hs | hs
  · rcases Nat.lt_trichotomy t m with ht | ht | ht
    · exact hl s t h1 h2 ht
    · subst ht; exact hp.1 s h1 hs
    · exact hC.tra _ _ _ (hok _ (getD_mem (by omega))) (hok _ (getD_mem (by omega))) (hok _ (getD_mem (by omega))) (hp.1 s h1 hs) (hp.2 t ht h3)
  · subst hs; exact hp.2 t h2 h3
  · exact hr s t hs h2 h3
theorem part_left {a b m : Nat} {xs zs : List Int} (hn : xs.Nodup) (hb : b ≤ xs.length) (hm : a ≤ m ∧ m < b) (hp : PartS f a b m xs) (hs : Seg a m xs zs) : PartS f a b m zs := by
  refine ⟨fun t h1 h2 => ?_, fun t h1 h2 => ?_⟩
  · rw [hs.out m (by omega)]
    obtain ⟨u, u1, u2, e⟩ := hs.mem hn (by omega) ⟨h1, h2⟩
    rw [e]; exact hp.1 u u1 u2
  · rw [hs.out m (by omega), hs.out t (by omega)]; exact hp.2 t h1 h2
theorem part_right {a b m : Nat} {xs zs : List Int} (hn : xs.Nodup) (hb : b ≤ xs.length) (hm : a ≤ m ∧ m < b) (hp : PartS f a b m xs) (hs : Seg (m + 1) b xs zs) : PartS f a b m zs := by
  refine ⟨fun t h1 h2 => ?_, fun t h1 h2 => ?_⟩
  · rw [hs.out m (by omega), hs.out t (by omega)]; exact hp.1 t h1 h2
  · rw [hs.out m (by omega)]
    obtain ⟨u, u1, u2, e⟩ := hs.mem hn hb ⟨by omega, h2⟩
    rw [e]; exact hp.2 u (by omega) u2
theorem sort_out {a b a' b' : Nat} {xs zs : List Int} (h : SortS f a b xs) (hs : Seg a' b' xs zs) (hd : b ≤ a' ∨ b' ≤ a) : SortS f a b zs := by
  intro s t h1 h2 h3
  rw [hs.out s (by omega), hs.out t (by omega)]; exact h s t h1 h2 h3
theorem low_left {a b m : Nat} {xs : List Int} (h : LowS f a b xs) (hm : m ≤ b) : LowS f a m xs := fun s t h1 h2 h3 => h s t h1 h2 (by omega)
theorem low_right {a b m : Nat} {xs : List Int} (hC : CmpO f ok) (hok : ∀ x ∈ xs, ok x) (hb : b ≤ xs.length) (h : LowS f a b xs) (hm : a ≤ m ∧ m < b) (hp : PartS f a b m xs) : LowS f (m + 1) b xs := by
  intro s t h1 h2 h3
  rcases Nat.lt_trichotomy s m with hs | hs | hs
  · rcases Nat.lt_or_ge s a with h4 | h4
    · exact h s t h4 (by omega) h3
    · exact hC.tra _ _ _ (hok _ (getD_mem (by omega))) (hok _ (getD_mem (by omega))) (hok _ (getD_mem (by omega))) (hp.1 s h4 hs) (hp.2 t (by omega) h3)
  · subst hs; exact hp.2 t (by omega) h3
  · omega
end
end Go.Proofs.Ytfcmgmcidngjeaa
namespace Go.Proofs.Ytfcmgmcidngjeaa

/-- Child c of place i. -/
def Kid (i c : Nat) : Prop := c = 2 * i + 1 ∨ c = 2 * i + 2
/-- From place lo on each is after its children; the segment begins at a and has hi places. -/
def HeapS (f : Int → Int → Int) (a lo hi : Nat) (xs : List Int) : Prop := ∀ i c, lo ≤ i → Kid i c → c < hi → f (xs.getD (a + c) 0) (xs.getD (a + i) 0) < 0
/-- The same but at place r; who stands above r is after r's children. -/
structure HeapX (f : Int → Int → Int) (a lo hi r : Nat) (xs : List Int) : Prop where
  ge : lo ≤ r
  els : ∀ i c, lo ≤ i → i ≠ r → Kid i c → c < hi → f (xs.getD (a + c) 0) (xs.getD (a + i) 0) < 0
  up : ∀ p c, lo ≤ p → Kid p r → Kid r c → c < hi → f (xs.getD (a + c) 0) (xs.getD (a + p) 0) < 0
section
variable {f : Int → Int → Int} {ok : Int → Prop} {a lo hi r : Nat} {xs : List Int}
theorem heapX_start (h : HeapS f a (lo + 1) hi xs) : HeapX f a lo hi lo xs :=
  ⟨Nat.le_refl _, fun i c h1 h2 h3 h4 => h i c (by omega) h3 h4, fun p c h1 h2 _ _ => by rcases h2 with h2 | h2 <;> omega⟩
theorem heapX_leaf (h : HeapX f a lo hi r xs) (hr : ¬ 2 * r + 1 < hi) : HeapS f a lo hi xs := by
  intro i c h1 h2 h3
  by_cases e : i = r
  · subst e; rcases h2 with h2 | h2 <;> omega
  · exact h.els i c h1 e h2 h3
/-- k is a child of r, and no child of r is after it. -/
def TopKid (f : Int → Int → Int) (a hi r k : Nat) (xs : List Int) : Prop := Kid r k ∧ k < hi ∧ ∀ c, Kid r c → c < hi → c ≠ k → f (xs.getD (a + c) 0) (xs.getD (a + k) 0) < 0
theorem topKid_one (h1 : 2 * r + 1 < hi) (h2 : ¬ 2 * r + 2 < hi) : TopKid f a hi r (2 * r + 1) xs :=
  ⟨.inl rfl, h1, fun c hc hh hne => by rcases hc with hc | hc <;> omega⟩
theorem topKid_two (h1 : 2 * r + 2 < hi) (h : f (xs.getD (a + (2 * r + 1)) 0) (xs.getD (a + (2 * r + 2)) 0) < 0) : TopKid f a hi r (2 * r + 2) xs :=
  ⟨.inr rfl, h1, fun c hc hh hne => by rcases hc with rfl | rfl; exact h; exact absurd rfl hne⟩
theorem topKid_fst (h1 : 2 * r + 2 < hi) (h : f (xs.getD (a + (2 * r + 2)) 0) (xs.getD (a + (2 * r + 1)) 0) < 0) : TopKid f a hi r (2 * r + 1) xs :=
  ⟨.inl rfl, by omega, fun c hc hh hne => by rcases hc with rfl | rfl; exact absurd rfl hne; exact h⟩
theorem heapX_stop (hC : CmpO f ok) (hok : ∀ x ∈ xs, ok x) (hl : a + hi ≤ xs.length) (h : HeapX f a lo hi r xs) {k : Nat} (hk : TopKid f a hi r k xs) (hle : f (xs.getD (a + k) 0) (xs.getD (a + r) 0) < 0) : HeapS f a lo hi xs := by
  intro i c h1 h2 h3
  by_cases e : i = r
  · subst e
    by_cases e2 : c = k
    · subst e2; exact hle
    · have hkr : i < hi := by have := hk.2.1; rcases hk.1 with h | h <;> omega
      have hkh := hk.2.1
      exact hC.tra _ _ _ (hok _ (getD_mem (by omega))) (hok _ (getD_mem (by omega))) (hok _ (getD_mem (by omega))) (hk.2.2 c h2 h3 e2) hle
  · exact h.els i c h1 e h2 h3
theorem heapX_sink (hl : a + hi ≤ xs.length) (h : HeapX f a lo hi r xs) {k : Nat} (hk : TopKid f a hi r k xs) (hlt : f (xs.getD (a + r) 0) (xs.getD (a + k) 0) < 0) : HeapX f a lo hi k (swap2 xs (a + r) (a + k)) := by
  have hkh := hk.2.1
  have hrk : r < k := by rcases hk.1 with h | h <;> omega
  have hlo := h.ge
  have g := fun t => swap2_get (xs := xs) (i := a + r) (j := a + k) (by omega) (by omega) t
  have gk : (swap2 xs (a + r) (a + k)).getD (a + k) 0 = xs.getD (a + r) 0 := by rw [g, if_pos rfl]
  have gr : (swap2 xs (a + r) (a + k)).getD (a + r) 0 = xs.getD (a + k) 0 := by rw [g, if_neg (by omega), if_pos rfl]
  have go : ∀ t, t ≠ k → t ≠ r → (swap2 xs (a + r) (a + k)).getD (a + t) 0 = xs.getD (a + t) 0 := fun t h1 h2 => by rw [g, if_neg (by omega), if_neg (by omega)]
  refine ⟨by omega, fun i c h1 h2 h3 h4 => ?_, fun p c h1 h2 h3 h4 => ?_⟩
  · by_cases e : i = r
    · subst e
      rw [gr]
      by_cases e2 : c = k
      · subst e2; rw [gk]; exact hlt
      · rw [go c e2 (by rcases h3 with h | h <;> omega)]; exact hk.2.2 c h3 h4 e2
    · rw [go i h2 e]
      have hck : c ≠ k := by
        rintro rfl
        have := hk.1
        rcases h3 with h3 | h3 <;> rcases this with h5 | h5 <;> omega
      by_cases e2 : c = r
      · subst e2
        rw [gr]
        exact h.up i k h1 h3 hk.1 hkh
      · rw [go c hck e2]; exact h.els i c h1 e h3 h4
  · have hpr : p = r := by
      have := hk.1
      rcases h2 with h2 | h2 <;> rcases this with h5 | h5 <;> omega
    subst hpr
    rw [gr, go c (by rcases h3 with h | h <;> omega) (by rcases h3 with h | h <;> omega)]
    exact h.els k c (by omega) (by omega) h3 h4
/-- The greatest stands on top. -/
theorem heap_top (hC : CmpO f ok) (hok : ∀ x ∈ xs, ok x) (hl : a + hi ≤ xs.length) (h : HeapS f a 0 hi xs) : ∀ n t, t ≤ n → 0 < t → t < hi → f (xs.getD (a + t) 0) (xs.getD (a + 0) 0) < 0
  | 0, t, h1, h2, _ => by omega
  | n + 1, t, h1, h2, h3 => by
    have hk : Kid ((t - 1) / 2) t := by unfold Kid; omega
    have h4 := h ((t - 1) / 2) t (Nat.zero_le _) hk h3
    by_cases e : (t - 1) / 2 = 0
    · rw [e] at h4; exact h4
    · have h5 := heap_top hC hok hl h n ((t - 1) / 2) (by omega) (by omega) (by omega)
      exact hC.tra _ _ _ (hok _ (getD_mem (by omega))) (hok _ (getD_mem (by omega))) (hok _ (getD_mem (by omega))) h4 h5
/-- What the second half of a heap sort keeps: a heap of i places, behind it a sorted rest that comes after all in it. -/
structure PopS (f : Int → Int → Int) (a i b : Nat) (xs : List Int) : Prop where
  heap : HeapS f a 0 i xs
  rest : SortS f (a + i) b xs
  low : ∀ s t, a ≤ s → s < a + i → a + i ≤ t → t < b → f (xs.getD s 0) (xs.getD t 0) < 0
theorem pop_swap (hC : CmpO f ok) (hok : ∀ x ∈ xs, ok x) {i b : Nat} (hb : b ≤ xs.length) (hi : a + i < b) (h : PopS f a (i + 1) b xs) :
    HeapS f a 1 i (swap2 xs a (a + i)) ∧ SortS f (a + i) b (swap2 xs a (a + i)) ∧ ∀ s t, a ≤ s → s < a + i → a + i ≤ t → t < b → f ((swap2 xs a (a + i)).getD s 0) ((swap2 xs a (a + i)).getD t 0) < 0 := by
  have g := fun t => swap2_get (xs := xs) (i := a) (j := a + i) (by omega) (by omega) t
  have gi : (swap2 xs a (a + i)).getD (a + i) 0 = xs.getD a 0 := by rw [g, if_pos rfl]
  have go : ∀ t, t ≠ a + i → t ≠ a → (swap2 xs a (a + i)).getD t 0 = xs.getD t 0 := fun t h1 h2 => by rw [g, if_neg h1, if_neg h2]
  have htop : ∀ t, 0 < t → t < i + 1 → f (xs.getD (a + t) 0) (xs.getD a 0) < 0 := fun t h1 h2 => heap_top hC hok (by omega) h.heap t t (Nat.le_refl _) h1 h2
  refine ⟨fun j c h1 h2 h3 => ?_, fun s t h1 h2 h3 => ?_, fun s t h1 h2 h3 h4 => ?_⟩
  · have hcj : j < c := by rcases h2 with h | h <;> omega
    rw [go (a + c) (by omega) (by omega), go (a + j) (by omega) (by omega)]
    exact h.heap j c (Nat.zero_le _) h2 (by omega)
  · by_cases e : s = a + i
    · subst e
      rw [gi, go t (by omega) (by omega)]
      exact h.low a t (Nat.le_refl _) (by omega) (by omega) h3
    · rw [go s e (by omega), go t (by omega) (by omega)]
      exact h.rest s t (by omega) h2 h3
  · have hs : ∀ u, a ≤ u → u ≤ a + i → f (xs.getD u 0) (xs.getD a 0) < 0 ∨ u = a := fun u h1 h2 => by
      by_cases e : u = a
      · exact .inr e
      · have := htop (u - a) (by omega) (by omega)
        rw [show a + (u - a) = u by omega] at this
        exact .inl this
    by_cases et : t = a + i
    · subst et
      rw [gi]
      by_cases es : s = a
      · subst es
        rw [g, if_neg (by omega), if_pos rfl]
        rcases hs (s + i) (by omega) (by omega) with h5 | h5
        · exact h5
        · omega
      · rw [go s (by omega) es]
        rcases hs s h1 (by omega) with h5 | h5
        · exact h5
        · exact absurd h5 es
    · rw [go t et (by omega)]
      by_cases es : s = a
      · subst es
        rw [g, if_neg (by omega), if_pos rfl]
        exact h.low (s + i) t (by omega) (by omega) (by omega) h4
      · rw [go s (by omega) es]
        exact h.low s t h1 (by omega) (by omega) h4
theorem pop_next {i b : Nat} {ys zs : List Int} (hn : ys.Nodup) (hb : b ≤ ys.length) (hi : a + i < b) (h1 : SortS f (a + i) b ys) (h2 : ∀ s t, a ≤ s → s < a + i → a + i ≤ t → t < b → f (ys.getD s 0) (ys.getD t 0) < 0) (hs : Seg a (a + i) ys zs) (hh : HeapS f a 0 i zs) : PopS f a i b zs := by
  refine ⟨hh, sort_out h1 hs (.inr (Nat.le_refl _)), fun s t h3 h4 h5 h6 => ?_⟩
  obtain ⟨u, u1, u2, e⟩ := hs.mem hn (by omega) ⟨h3, h4⟩
  rw [e, hs.out t (by omega)]
  exact h2 u t u1 u2 h5 h6
theorem pop_done {b : Nat} (h : PopS f a 0 b xs) : SortS f a b xs := h.rest
theorem pop_start {n b : Nat} (hb : a + n = b) (h : HeapS f a 0 n xs) : PopS f a n b xs := ⟨h, fun s t h1 h2 h3 => by omega, fun s t h1 h2 h3 h4 => by omega⟩
end
end Go.Proofs.Ytfcmgmcidngjeaa
namespace Go.Proofs.Ytfcmgmcidngjeaa

/-- What stands before place i comes before the pivot at a, what stands behind place j comes after it. -/
structure PInv (f : Int → Int → Int) (a b i j : Nat) (ys : List Int) : Prop where
  ai : a < i
  ij : i ≤ j + 1
  jb : j < b
  lo : ∀ t, a < t → t < i → f (ys.getD t 0) (ys.getD a 0) < 0
  hi : ∀ t, j < t → t < b → f (ys.getD a 0) (ys.getD t 0) < 0
section
variable {f : Int → Int → Int} {ok : Int → Prop} {a b i j : Nat} {ys : List Int}
theorem pinv_start (h : a + 1 < b) : PInv f a b (a + 1) (b - 1) ys := ⟨by omega, by omega, by omega, fun t h1 h2 => by omega, fun t h1 h2 => by omega⟩
theorem pinv_up (h : PInv f a b i j ys) (hij : i ≤ j) (hc : f (ys.getD i 0) (ys.getD a 0) < 0) : PInv f a b (i + 1) j ys :=
  ⟨by have := h.ai; omega, by omega, h.jb, fun t h1 h2 => by
    by_cases e : t = i
    · subst e; exact hc
    · exact h.lo t h1 (by omega), h.hi⟩
theorem cmp_not (hC : CmpO f ok) (hok : ∀ x ∈ ys, ok x) (hn : ys.Nodup) {s t : Nat} (hs : s < ys.length) (ht : t < ys.length) (hne : s ≠ t) (hc : ¬ f (ys.getD s 0) (ys.getD t 0) < 0) : f (ys.getD t 0) (ys.getD s 0) < 0 :=
  hC.tot _ _ (hok _ (getD_mem hs)) (hok _ (getD_mem ht)) (fun e => hne (getD_inj hn hs ht e)) hc
theorem pinv_down (hC : CmpO f ok) (hok : ∀ x ∈ ys, ok x) (hn : ys.Nodup) (hb : b ≤ ys.length) (h : PInv f a b i j ys) (hij : i ≤ j) (hc : ¬ f (ys.getD j 0) (ys.getD a 0) < 0) : PInv f a b i (j - 1) ys := by
  have h1 := h.ai
  have h2 := h.jb
  refine ⟨h1, by omega, by omega, h.lo, fun t h3 h4 => ?_⟩
  by_cases e : t = j
  · subst e; exact cmp_not hC hok hn (by omega) (by omega) (by omega) hc
  · exact h.hi t (by omega) h4
theorem pinv_swap (hb : b ≤ ys.length) (h : PInv f a b i j ys) (hij : i ≤ j) (hi : ¬ f (ys.getD i 0) (ys.getD a 0) < 0) (hj : f (ys.getD j 0) (ys.getD a 0) < 0) (hi2 : f (ys.getD a 0) (ys.getD i 0) < 0) : i < j ∧ PInv f a b (i + 1) (j - 1) (swap2 ys i j) := by
  have h1 := h.ai
  have h2 := h.jb
  have hne : i ≠ j := by rintro rfl; exact hi hj
  have g := fun t => swap2_get (xs := ys) (i := i) (j := j) (by omega) (by omega) t
  refine ⟨by omega, by omega, by omega, by omega, fun t h3 h4 => ?_, fun t h3 h4 => ?_⟩
  · rw [g a, if_neg (by omega), if_neg (by omega)]
    by_cases e : t = i
    · subst e; rw [g, if_neg hne, if_pos rfl]; exact hj
    · rw [g, if_neg (by omega), if_neg e]; exact h.lo t h3 (by omega)
  · rw [g a, if_neg (by omega), if_neg (by omega)]
    by_cases e : t = j
    · subst e; rw [g, if_pos rfl]; exact hi2
    · rw [g, if_neg e, if_neg (by omega)]; exact h.hi t (by omega) h4
theorem pinv_end (hb : b ≤ ys.length) (h : PInv f a b i j ys) (hij : j < i) : a ≤ j ∧ j < b ∧ PartS f a b j (swap2 ys j a) := by
  have h1 := h.ai
  have h2 := h.jb
  have h3 := h.ij
  have g := fun t => swap2_get (xs := ys) (i := j) (j := a) (by omega) (by omega) t
  have gj : (swap2 ys j a).getD j 0 = ys.getD a 0 := by
    rw [g]
    by_cases e : j = a
    · rw [if_pos e, e]
    · rw [if_neg e, if_pos rfl]
  refine ⟨by omega, h2, fun t h4 h5 => ?_, fun t h4 h5 => ?_⟩
  · rw [gj, g]
    by_cases e : t = a
    · rw [if_pos e]; exact h.lo j (by omega) (by omega)
    · rw [if_neg e, if_neg (by omega)]; exact h.lo t (by omega) (by omega)
  · rw [gj, g, if_neg (by omega), if_neg (by omega)]; exact h.hi t h4 h5
/-- Sorted up to i but for the element at j, which may come before those on its left. -/
def LInv (f : Int → Int → Int) (a i j : Nat) (ys : List Int) : Prop := ∀ s t, a ≤ s → s < t → t < i → t ≠ j → f (ys.getD s 0) (ys.getD t 0) < 0
theorem sort_one : SortS f a (a + 1) ys := fun s t h1 h2 h3 => by omega
theorem sort_more (hC : CmpO f ok) (hok : ∀ x ∈ ys, ok x) (hi : a < i) (hl : i < ys.length) (h : SortS f a i ys) (hc : f (ys.getD (i - 1) 0) (ys.getD i 0) < 0) : SortS f a (i + 1) ys := by
  intro s t h1 h2 h3
  by_cases e : t = i
  · subst e
    by_cases e2 : s = t - 1
    · rw [e2]; exact hc
    · exact hC.tra _ _ _ (hok _ (getD_mem (by omega))) (hok _ (getD_mem (by omega))) (hok _ (getD_mem (by omega))) (h s (t - 1) h1 (by omega) (by omega)) hc
  · exact h s t h1 h2 (by omega)
theorem linv_start (hi : a + 1 < i) (hl : i < ys.length) (h : SortS f a i ys) : LInv f a i (i - 1) (swap2 ys i (i - 1)) := by
  intro s t h1 h2 h3 h4
  rw [swap2_get (by omega) (by omega), if_neg (by omega), if_neg (by omega), swap2_get (by omega) (by omega), if_neg h4, if_neg (by omega)]
  exact h s t h1 h2 h3
theorem linv_step (hl : i ≤ ys.length) (hj : a < j) (hji : j < i) (h : LInv f a i j ys) (hc : f (ys.getD j 0) (ys.getD (j - 1) 0) < 0) : LInv f a i (j - 1) (swap2 ys j (j - 1)) := by
  have g := fun t => swap2_get (xs := ys) (i := j) (j := j - 1) (by omega) (by omega) t
  intro s t h1 h2 h3 h4
  rw [g s, g t, if_neg h4]
  by_cases et : t = j
  · rw [if_pos et]
    by_cases es : s = j - 1
    · rw [if_pos es]; exact hc
    · rw [if_neg es, if_neg (by omega)]; exact h s (j - 1) h1 (by omega) (by omega) (by omega)
  · rw [if_neg et]
    by_cases es : s = j - 1
    · rw [if_pos es]
      exact h j t (by omega) (by omega) h3 (by omega)
    · rw [if_neg es]
      by_cases es2 : s = j
      · rw [if_pos es2]; exact h (j - 1) t (by omega) (by omega) h3 (by omega)
      · rw [if_neg es2]; exact h s t h1 h2 h3 (by omega)
theorem linv_stop (hC : CmpO f ok) (hok : ∀ x ∈ ys, ok x) (hl : i ≤ ys.length) (hji : j < i) (h : LInv f a i j ys) (hc : a < j → f (ys.getD (j - 1) 0) (ys.getD j 0) < 0) : SortS f a i ys := by
  intro s t h1 h2 h3
  by_cases e : t = j
  · subst e
    have h4 := hc (by omega)
    by_cases e2 : s = t - 1
    · rw [e2]; exact h4
    · exact hC.tra _ _ _ (hok _ (getD_mem (by omega))) (hok _ (getD_mem (by omega))) (hok _ (getD_mem (by omega))) (h s (t - 1) h1 (by omega) (by omega) (by omega)) h4
  · exact h s t h1 h2 h3 e
end
end Go.Proofs.Ytfcmgmcidngjeaa
namespace Go.Proofs.Ytfcmgmcidngjeaa
open Go.RowKit

/-- What a sort of a row is given: the row's elements are different, and the comparing function takes them all. -/
structure RowG (f : Int → Int → Int) (ok : Int → Prop) (n : Nat) (xs : List Int) : Prop where
  cmp : CmpO f ok
  len : xs.length = n
  oks : ∀ x ∈ xs, ok x
  nod : xs.Nodup
  le : n ≤ 4096
/-- The row at some point of a sort of its segment. -/
structure StS (w : World) (g a b : Nat) (xs ys : List Int) (wr : World) : Prop where
  seg : Seg a b xs ys
  row : IRow wr g ys
  grown : w.grownBy wr (some g)
section
variable {f : Int → Int → Int} {ok : Int → Prop} {n a b g : Nat} {xs ys zs : List Int} {w wr wq : World}
theorem RowG.seg (h : RowG f ok n xs) (hs : Seg a b xs ys) : RowG f ok n ys :=
  ⟨h.cmp, hs.len.trans h.len, fun x hx => h.oks x (hs.perm.mem_iff.1 hx), hs.perm.nodup_iff.2 h.nod, h.le⟩
theorem RowG.at_ (h : RowG f ok n xs) {t : Nat} (ht : t < n) : ok (xs.getD t 0) := h.oks _ (getD_mem (by rw [h.len]; exact ht))
theorem StS.start (h : IRow w g xs) : StS w g a b xs xs w := ⟨Seg.refl _ _ _, h, grown_refl _ _⟩
theorem StS.below (h : StS w g a b xs ys wr) (hb : Below wr.heap.size wr wq) : StS w g a b xs ys wq := ⟨h.seg, h.row.below hb, grown_of_below h.grown hb⟩
theorem StS.drewN (h : StS w g a b xs ys wr) (k : Nat) : StS w g a b xs ys (wr.drewN k) := ⟨h.seg, h.row.below (below_drewN (Below.refl _ _) _), grown_drewN h.grown _⟩
theorem StS.drew (h : StS w g a b xs ys wr) : StS w g a b xs ys wr.drew := h.drewN 1
theorem StS.swap (h : StS w g a b xs ys wr) (hl : xs.length = n) (hb : b ≤ n) {i j : Nat} (hi : a ≤ i ∧ i < b) (hj : a ≤ j ∧ j < b) : StS w g a b xs (swap2 ys i j) ((wr.setCell ⟨g, i, none⟩ (.int .i64 (ys.getD j 0))).setCell ⟨g, j, none⟩ (.int .i64 (ys.getD i 0))) :=
  ⟨h.seg.trans (seg_swap (by rw [h.seg.len, hl]; exact hb) hi hj), (h.row.set_ i _).set_ j _, grown_set (grown_set h.grown (.inl rfl) _) (.inl rfl) _⟩
/-- A sort of a smaller segment within. -/
theorem StS.sub {a' b' : Nat} (h : StS w g a b xs ys wr) (k : StS wr g a' b' ys zs wq) (ha : a ≤ a') (hb : b' ≤ b) : StS w g a b xs zs wq :=
  ⟨h.seg.trans (k.seg.more ha hb), k.row, grown_trans h.grown k.grown⟩
/-- Whoever sorts what is left of the segment has sorted it all. -/
def Cont (f : Int → Int → Int) (a b a' b' : Nat) (ys : List Int) : Prop := ∀ zs, Seg a' b' ys zs → SortS f a' b' zs → SortS f a b zs
theorem Cont.refl : Cont f a b a b ys := fun _ _ h => h
theorem Cont.seg {a' b' : Nat} (h : Cont f a b a' b' ys) (hs : Seg a' b' ys zs) : Cont f a b a' b' zs := fun us k h2 => h us (hs.trans k) h2
theorem Cont.left {a' b' m : Nat} (hG : RowG f ok n ys) (hb : b' ≤ n) (hm : a' ≤ m ∧ m < b') (h : Cont f a b a' b' ys) (hp : PartS f a' b' m ys) (hl : SortS f a' m ys) : Cont f a b (m + 1) b' ys := fun us k h2 =>
  h us (k.more (by omega) (Nat.le_refl _)) (part_sort hG.cmp (hG.seg k).oks (by rw [(hG.seg k).len]; exact hb) hm (part_right hG.nod (by rw [hG.len]; exact hb) hm hp k) (sort_out hl k (.inl (by omega))) h2)
theorem Cont.right {a' b' m : Nat} (hG : RowG f ok n ys) (hb : b' ≤ n) (hm : a' ≤ m ∧ m < b') (h : Cont f a b a' b' ys) (hp : PartS f a' b' m ys) (hr : SortS f (m + 1) b' ys) : Cont f a b a' m ys := fun us k h2 =>
  h us (k.more (Nat.le_refl _) (by omega)) (part_sort hG.cmp (hG.seg k).oks (by rw [(hG.seg k).len]; exact hb) hm (part_left hG.nod (by rw [hG.len]; exact hb) hm hp k) h2 (sort_out hr k (.inr (by omega))))
end
end Go.Proofs.Ytfcmgmcidngjeaa
