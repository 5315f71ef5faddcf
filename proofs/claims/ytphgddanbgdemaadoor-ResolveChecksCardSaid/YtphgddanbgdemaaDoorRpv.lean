/-
  Plain laws of a choice: what is left if none yields, what stronger conditions decide, what does not matter. No condition.
  The plain law of a choice that proves itself: who yields is violated, and excluded by a stronger one that is kept, or by the given bounds. No condition.
-/
import Derived.Test.YtphgddanbgdemaaDoorProg
import Derived.Test.YtphgddanbgdemaaDoorChs
namespace Go.Proofs.YtphgddanbgdemaaDoor

theorem ys_before {bf : Int} {cs : List Cd} : ∀ (os : List Int) (s : Chs), (os.foldl (chStep bf cs) s).ys = [] → s.ys = []
  | [], _, h => h
  | x :: t, s, h => by
    have := ys_before t _ h
    unfold chStep at this
    split at this
    · exact this
    · simp at this
/-- If none yields what is left is what all have in common. -/
theorem ch_no {bf : Int} {cs : List Cd} : ∀ (os : List Int) (s : Chs), (os.foldl (chStep bf cs) s).ys = [] → s.lo ≤ s.hi →
    s.lo ≤ (os.foldl (chStep bf cs) s).lo ∧ (os.foldl (chStep bf cs) s).hi ≤ s.hi ∧ (os.foldl (chStep bf cs) s).lo ≤ (os.foldl (chStep bf cs) s).hi ∧ (∀ i ∈ os, bLeast (cs.getD i.toNat cdz) bf ≤ (os.foldl (chStep bf cs) s).lo ∧ (os.foldl (chStep bf cs) s).hi ≤ bMost (cs.getD i.toNat cdz) bf) ∧
      ((os.foldl (chStep bf cs) s).lo = s.lo ∨ ∃ i ∈ os, (os.foldl (chStep bf cs) s).lo = bLeast (cs.getD i.toNat cdz) bf) ∧ ((os.foldl (chStep bf cs) s).hi = s.hi ∨ ∃ i ∈ os, (os.foldl (chStep bf cs) s).hi = bMost (cs.getD i.toNat cdz) bf)
  | [], s, _, hl => ⟨Int.le_refl _, Int.le_refl _, hl, by simp, .inl rfl, .inl rfl⟩
  | x :: t, s, h, hl => by
    rw [List.foldl_cons] at h ⊢
    have hy := ys_before t _ h
    have hm : max s.lo (bLeast (cs.getD x.toNat cdz) bf) ≤ min s.hi (bMost (cs.getD x.toNat cdz) bf) := by
      unfold chStep at hy
      split at hy
      · assumption
      · simp at hy
    have e0 : (chStep bf cs s x).lo = max s.lo (bLeast (cs.getD x.toNat cdz) bf) := by unfold chStep; rw [if_pos hm]
    have e1 : (chStep bf cs s x).hi = min s.hi (bMost (cs.getD x.toNat cdz) bf) := by unfold chStep; rw [if_pos hm]
    obtain ⟨a1, a2, a3, a4, a5, a6⟩ := ch_no t _ h (by rw [e0, e1]; exact hm)
    rw [e0] at a1 a5
    rw [e1] at a2 a6
    have A5 := hide a5
    have A6 := hide a6
    clear a5 a6
    refine ⟨by omega, by omega, a3, fun i hi => ?_, ?_, ?_⟩
    · rcases List.mem_cons.1 hi with rfl | hi
      · omega
      · exact a4 i hi
    · rcases A5.out with a5 | ⟨i, hi, a5⟩
      · by_cases hc : s.lo ≤ bLeast (cs.getD x.toNat cdz) bf
        · right; exact ⟨x, by simp, by omega⟩
        · left; omega
      · right; exact ⟨i, by simp [hi], a5⟩
    · rcases A6.out with a6 | ⟨i, hi, a6⟩
      · by_cases hc : bMost (cs.getD x.toNat cdz) bf ≤ s.hi
        · right; exact ⟨x, by simp, by omega⟩
        · left; omega
      · right; exact ⟨i, by simp [hi], a6⟩
theorem ch_yes {bf LO HI : Int} {cs : List Cd} (hLH : LO ≤ HI) : ∀ (os : List Int) (s : Chs), s.ys = [] → s.lo ≤ LO → HI ≤ s.hi → (∀ i ∈ os, bLeast (cs.getD i.toNat cdz) bf ≤ LO ∧ HI ≤ bMost (cs.getD i.toNat cdz) bf) →
    (os.foldl (chStep bf cs) s).ys = [] ∧ (os.foldl (chStep bf cs) s).lo ≤ LO ∧ HI ≤ (os.foldl (chStep bf cs) s).hi
  | [], s, hy, h0, h1, _ => ⟨hy, h0, h1⟩
  | x :: t, s, hy, h0, h1, h => by
    rw [List.foldl_cons]
    have hx := h x (by simp)
    have hm : max s.lo (bLeast (cs.getD x.toNat cdz) bf) ≤ min s.hi (bMost (cs.getD x.toNat cdz) bf) := by omega
    have e0 : (chStep bf cs s x).lo = max s.lo (bLeast (cs.getD x.toNat cdz) bf) := by unfold chStep; rw [if_pos hm]
    have e1 : (chStep bf cs s x).hi = min s.hi (bMost (cs.getD x.toNat cdz) bf) := by unfold chStep; rw [if_pos hm]
    have e2 : (chStep bf cs s x).ys = [] := by unfold chStep; rw [if_pos hm]; exact hy
    exact ch_yes hLH t _ e2 (by rw [e0]; omega) (by rw [e1]; omega) fun i hi => h i (by simp [hi])
theorem fold_same {bf : Int} {cs cs' : List Cd} : ∀ (os : List Int) (s : Chs), (∀ i ∈ os, cs'.getD i.toNat cdz = cs.getD i.toNat cdz) → os.foldl (chStep bf cs') s = os.foldl (chStep bf cs) s
  | [], _, _ => rfl
  | x :: t, s, h => by
    have e : chStep bf cs' s x = chStep bf cs s x := by unfold chStep; rw [h x (by simp)]
    rw [List.foldl_cons, List.foldl_cons, e]
    exact fold_same t _ fun i hi => h i (by simp [hi])
theorem fold_weak {bf : Int} {cs : List Cd} : ∀ (os : List Int) (s : Chs), s.lo ≤ s.hi → 0 ≤ s.lo → s.hi ≤ 1073741824 → (∀ i ∈ os, bLeast (cs.getD i.toNat cdz) bf = 0 ∧ bMost (cs.getD i.toNat cdz) bf = 1073741824) →
    (os.foldl (chStep bf cs) s).ys = s.ys ∧ (os.foldl (chStep bf cs) s).lo = s.lo ∧ (os.foldl (chStep bf cs) s).hi = s.hi
  | [], _, _, _, _, _ => ⟨rfl, rfl, rfl⟩
  | x :: t, s, h0, h1, h2, h => by
    obtain ⟨hx0, hx1⟩ := h x (by simp)
    have hm : max s.lo (bLeast (cs.getD x.toNat cdz) bf) ≤ min s.hi (bMost (cs.getD x.toNat cdz) bf) := by rw [hx0, hx1]; omega
    have e0 : (chStep bf cs s x).lo = s.lo := by unfold chStep; rw [if_pos hm]; simp only; rw [hx0]; omega
    have e1 : (chStep bf cs s x).hi = s.hi := by unfold chStep; rw [if_pos hm]; simp only; rw [hx1]; omega
    have e2 : (chStep bf cs s x).ys = s.ys := by unfold chStep; rw [if_pos hm]
    obtain ⟨a, b, c⟩ := fold_weak t (chStep bf cs s x) (by rw [e0, e1]; exact h0) (by rw [e0]; exact h1) (by rw [e1]; exact h2) fun i hi => h i (by simp [hi])
    rw [List.foldl_cons, a, b, c, e0, e1, e2]
    exact ⟨rfl, rfl, rfl⟩
theorem fold_more {bf : Int} {cs : List Cd} : ∀ (os : List Int) (s : Chs), s.lo ≤ s.hi → s.lo ≤ (os.foldl (chStep bf cs) s).lo ∧ (os.foldl (chStep bf cs) s).hi ≤ s.hi ∧ (os.foldl (chStep bf cs) s).lo ≤ (os.foldl (chStep bf cs) s).hi ∧ ∃ r, (os.foldl (chStep bf cs) s).ys = s.ys ++ r ∧ ∀ y ∈ r, y.1 ∈ os
  | [], s, h => ⟨Int.le_refl _, Int.le_refl _, h, [], by simp, by simp⟩
  | x :: t, s, h => by
    rw [List.foldl_cons]
    by_cases hm : max s.lo (bLeast (cs.getD x.toNat cdz) bf) ≤ min s.hi (bMost (cs.getD x.toNat cdz) bf)
    · have e0 : (chStep bf cs s x).lo = max s.lo (bLeast (cs.getD x.toNat cdz) bf) := by unfold chStep; rw [if_pos hm]
      have e1 : (chStep bf cs s x).hi = min s.hi (bMost (cs.getD x.toNat cdz) bf) := by unfold chStep; rw [if_pos hm]
      have e2 : (chStep bf cs s x).ys = s.ys := by unfold chStep; rw [if_pos hm]
      obtain ⟨a, b, c, r, d, e⟩ := fold_more t (chStep bf cs s x) (by rw [e0, e1]; exact hm)
      rw [e0] at a
      rw [e1] at b
      exact ⟨by omega, by omega, c, r, by rw [d, e2], fun y hy => by simp [e y hy]⟩
    · have e0 : (chStep bf cs s x).lo = s.lo := by unfold chStep; rw [if_neg hm]
      have e1 : (chStep bf cs s x).hi = s.hi := by unfold chStep; rw [if_neg hm]
      obtain ⟨z, e2⟩ : ∃ z, (chStep bf cs s x).ys = s.ys ++ [(x, z)] := by unfold chStep; rw [if_neg hm]; exact ⟨_, rfl⟩
      obtain ⟨a, b, c, r, d, e⟩ := fold_more t (chStep bf cs s x) (by rw [e0, e1]; exact h)
      rw [e0] at a
      rw [e1] at b
      refine ⟨a, b, c, (x, z) :: r, by rw [d, e2]; simp, fun y hy => ?_⟩
      rcases List.mem_cons.1 hy with rfl | hy
      · simp
      · simp [e y hy]
/-- A condition that asks for nothing, if it is weaker than a rank. -/
def weakC (rk : Int) (c : Cd) : Cd := if rk < c.rank then { c with kind := 1, value := 0 } else c
theorem weak_getD {cs : List Cd} {rk : Int} {i : Nat} (h : i < cs.length) : (cs.map (weakC rk)).getD i cdz = weakC rk (cs.getD i cdz) := by
  simp [List.getD_eq_getElem?_getD, h]
theorem rank_split {cs : List Cd} (rk : Int) : ∀ xs : List Int, xs.Pairwise (fun x y => rkC cs x ≤ rkC cs y) → ∃ p q, xs = p ++ q ∧ (∀ x ∈ p, rkC cs x ≤ rk) ∧ ∀ x ∈ q, rk < rkC cs x
  | [], _ => ⟨[], [], rfl, by simp, by simp⟩
  | x :: t, h => by
    rw [List.pairwise_cons] at h
    by_cases hx : rkC cs x ≤ rk
    · obtain ⟨p, q, e, h1, h2⟩ := rank_split rk t h.2
      refine ⟨x :: p, q, by rw [e]; rfl, fun y hy => ?_, h2⟩
      rcases List.mem_cons.1 hy with rfl | hy
      · exact hx
      · exact h1 y hy
    · refine ⟨[], x :: t, rfl, by simp, fun y hy => ?_⟩
      rcases List.mem_cons.1 hy with rfl | hy
      · omega
      · have := h.1 y hy; omega
/-- What is kept of the stronger conditions does not depend on the weaker ones. -/
theorem stronger {cs : List Cd} {rk bf g0 g1 : Int} (h0 : 0 ≤ g0) (hgg : g0 ≤ g1) (h1 : g1 ≤ 1073741824) {xs : List Int} (hp : xs.Pairwise (fun x y => rkC cs x ≤ rkC cs y)) (hin : ∀ x ∈ xs, 0 ≤ x ∧ x < cs.length) :
    ∃ r, (chAll bf cs g0 g1 xs).ys = (chAll bf (cs.map (weakC rk)) g0 g1 xs).ys ++ r ∧ (∀ y ∈ (chAll bf (cs.map (weakC rk)) g0 g1 xs).ys, rkC cs y.1 ≤ rk ∧ y.1 ∈ xs) ∧ (∀ y ∈ r, rk < rkC cs y.1 ∧ y.1 ∈ xs) ∧
      (chAll bf (cs.map (weakC rk)) g0 g1 xs).lo ≤ (chAll bf cs g0 g1 xs).lo ∧ (chAll bf cs g0 g1 xs).hi ≤ (chAll bf (cs.map (weakC rk)) g0 g1 xs).hi := by
  obtain ⟨p, q, rfl, hpp, hqq⟩ := rank_split rk xs hp
  unfold chAll
  rw [List.foldl_append, List.foldl_append]
  have e1 : p.foldl (chStep bf (cs.map (weakC rk))) ⟨g0, g1, -1, -1, [], 0, 0⟩ = p.foldl (chStep bf cs) ⟨g0, g1, -1, -1, [], 0, 0⟩ := by
    refine fold_same p _ fun i hi => ?_
    obtain ⟨i0, i1⟩ := hin i (by simp [hi])
    have hr := hpp i hi
    unfold rkC at hr
    rw [weak_getD (by omega)]
    unfold weakC
    rw [if_neg (by omega)]
  rw [e1]
  obtain ⟨a1, a2, a3, r0, a4, a5⟩ := fold_more (bf := bf) (cs := cs) p ⟨g0, g1, -1, -1, [], 0, 0⟩ hgg
  simp only [List.nil_append] at a4
  generalize p.foldl (chStep bf cs) ⟨g0, g1, -1, -1, [], 0, 0⟩ = s at *
  obtain ⟨b1, b2, b3⟩ := fold_weak (bf := bf) (cs := cs.map (weakC rk)) q s a3 (by simp only at a1; omega) (by simp only at a2; omega) fun i hi => by
    obtain ⟨i0, i1⟩ := hin i (by simp [hi])
    have hr := hqq i hi
    unfold rkC at hr
    rw [weak_getD (by omega)]
    unfold weakC
    rw [if_pos hr]
    unfold bLeast bMost
    simp
  obtain ⟨c1, c2, c3, r, c4, c5⟩ := fold_more (bf := bf) (cs := cs) q s a3
  rw [b1, b2, b3]
  refine ⟨r, c4, fun y hy => ?_, fun y hy => ⟨hqq _ (c5 y hy), by simp [c5 y hy]⟩, c1, c2⟩
  rw [a4] at hy
  exact ⟨hpp _ (a5 y hy), by simp [a5 y hy]⟩
/-- Conditions that all hold for a release leave it alone. -/
theorem wider_keep {cs : List Cd} {bf g0 g1 wn : Int} (h0 : g0 ≤ wn) (h1 : wn ≤ g1) {xs : List Int} (h : ∀ i ∈ xs, bLeast (cs.getD i.toNat cdz) bf ≤ wn ∧ wn ≤ bMost (cs.getD i.toNat cdz) bf) :
    (chAll bf cs g0 g1 xs).ys = [] ∧ chRel wn (chAll bf cs g0 g1 xs) = wn := by
  obtain ⟨a, b, c⟩ := ch_yes (bf := bf) (cs := cs) (LO := wn) (HI := wn) (Int.le_refl _) xs ⟨g0, g1, -1, -1, [], 0, 0⟩ rfl h0 h1 h
  unfold chAll
  refine ⟨a, ?_⟩
  unfold chRel
  rw [if_pos a]
  omega
/-- The order does not matter for what is left if none yields. -/
theorem wider_turn {cs ds : List Cd} {bf g0 g1 : Int} (hgg : g0 ≤ g1) {xs zs : List Int} (hy : (chAll bf cs g0 g1 xs).ys = []) (h1 : ∀ j ∈ zs, ∃ i ∈ xs, bLeast (cs.getD i.toNat cdz) bf = bLeast (ds.getD j.toNat cdz) bf ∧ bMost (cs.getD i.toNat cdz) bf = bMost (ds.getD j.toNat cdz) bf)
    (h2 : ∀ i ∈ xs, ∃ j ∈ zs, bLeast (cs.getD i.toNat cdz) bf = bLeast (ds.getD j.toNat cdz) bf ∧ bMost (cs.getD i.toNat cdz) bf = bMost (ds.getD j.toNat cdz) bf) :
    (chAll bf ds g0 g1 zs).ys = [] ∧ (chAll bf ds g0 g1 zs).lo = (chAll bf cs g0 g1 xs).lo ∧ (chAll bf ds g0 g1 zs).hi = (chAll bf cs g0 g1 xs).hi := by
  obtain ⟨a1, a2, a3, a4, a5, a6⟩ := ch_no xs ⟨g0, g1, -1, -1, [], 0, 0⟩ hy hgg
  obtain ⟨b1, b2, b3⟩ := ch_yes (bf := bf) (cs := ds) a3 zs ⟨g0, g1, -1, -1, [], 0, 0⟩ rfl a1 a2 fun j hj => by
    obtain ⟨i, hi, e1, e2⟩ := h1 j hj
    rw [← e1, ← e2]; exact a4 i hi
  obtain ⟨c1, c2, c3, c4, c5, c6⟩ := ch_no zs ⟨g0, g1, -1, -1, [], 0, 0⟩ b1 hgg
  unfold chAll
  simp only at a1 a2 a5 a6 c1 c2
  refine ⟨b1, ?_, ?_⟩
  · rcases a5 with a5 | ⟨i, hi, a5⟩
    · omega
    · obtain ⟨j, hj, e1, _⟩ := h2 i hi
      have := (c4 j hj).1
      omega
  · rcases a6 with a6 | ⟨i, hi, a6⟩
    · omega
    · obtain ⟨j, hj, _, e2⟩ := h2 i hi
      have := (c4 j hj).2
      omega
/-- If none yields, a release within the given bounds keeps all exactly if it lies within what is left. -/
theorem wanted_iff {cs : List Cd} {bf g0 g1 q : Int} (hgg : g0 ≤ g1) (h0 : g0 ≤ q) (h1 : q ≤ g1) {xs : List Int} (hy : (chAll bf cs g0 g1 xs).ys = []) :
    (∀ i ∈ xs, bLeast (cs.getD i.toNat cdz) bf ≤ q ∧ q ≤ bMost (cs.getD i.toNat cdz) bf) ↔ (chAll bf cs g0 g1 xs).lo ≤ q ∧ q ≤ (chAll bf cs g0 g1 xs).hi := by
  obtain ⟨a1, a2, a3, a4, a5, a6⟩ := ch_no xs ⟨g0, g1, -1, -1, [], 0, 0⟩ hy hgg
  unfold chAll
  simp only at a1 a2 a5 a6
  constructor
  · intro h
    constructor
    · rcases a5 with a5 | ⟨i, hi, a5⟩
      · omega
      · have := (h i hi).1; omega
    · rcases a6 with a6 | ⟨i, hi, a6⟩
      · omega
      · have := (h i hi).2; omega
  · intro h i hi
    have := a4 i hi
    omega
theorem ch_in {cs : List Cd} {bf g0 g1 : Int} (hgg : g0 ≤ g1) (xs : List Int) : g0 ≤ (chAll bf cs g0 g1 xs).lo ∧ (chAll bf cs g0 g1 xs).hi ≤ g1 ∧ (chAll bf cs g0 g1 xs).lo ≤ (chAll bf cs g0 g1 xs).hi ∧ ∀ y ∈ (chAll bf cs g0 g1 xs).ys, y.1 ∈ xs := by
  obtain ⟨a1, a2, a3, r, a4, a5⟩ := fold_more (bf := bf) (cs := cs) xs ⟨g0, g1, -1, -1, [], 0, 0⟩ hgg
  unfold chAll
  simp only [List.nil_append] at a4
  exact ⟨a1, a2, a3, fun y hy => a5 y (by rwa [a4] at hy)⟩
theorem rel_in {wn : Int} {s : Chs} (h : s.lo ≤ s.hi) : s.lo ≤ chRel wn s ∧ chRel wn s ≤ s.hi := by
  unfold chRel
  split
  · omega
  · split <;> omega
end Go.Proofs.YtphgddanbgdemaaDoor
namespace Go.Proofs.YtphgddanbgdemaaDoor

def bL (cs : List Cd) (bf i : Int) : Int := bLeast (cs.getD i.toNat cdz) bf
def bM (cs : List Cd) (bf i : Int) : Int := bMost (cs.getD i.toNat cdz) bf
def fsts (ys : List (Int × Int)) : List Int := ys.map Prod.fst
/-- Why the pair (i, by) stands among the yields. -/
def Why (cs : List Cd) (bf g0 g1 : Int) (pre : List Int) (ys : List (Int × Int)) (i by_ : Int) : Prop :=
  (by_ = -1 ∧ (bM cs bf i < g0 ∨ g1 < bL cs bf i)) ∨ (by_ ∈ pre ∧ by_ ∉ fsts ys ∧ [by_, i].Sublist pre ∧ (bM cs bf i < bL cs bf by_ ∨ bM cs bf by_ < bL cs bf i))
structure PvI (cs : List Cd) (bf g0 g1 : Int) (pre : List Int) (s : Chs) : Prop where
  le : s.lo ≤ s.hi
  lbI : (s.lb = -1 ∧ s.lo = g0) ∨ (s.lb ∈ pre ∧ s.lb ∉ fsts s.ys ∧ s.lo = bL cs bf s.lb)
  mbI : (s.mb = -1 ∧ s.hi = g1) ∨ (s.mb ∈ pre ∧ s.mb ∉ fsts s.ys ∧ s.hi = bM cs bf s.mb)
  keep : ∀ i ∈ pre, i ∉ fsts s.ys → bL cs bf i ≤ s.lo ∧ s.hi ≤ bM cs bf i
  viol : ∀ y ∈ s.ys, y.1 ∈ pre ∧ (bM cs bf y.1 < s.lo ∨ s.hi < bL cs bf y.1) ∧ Why cs bf g0 g1 pre s.ys y.1 y.2
  ord : fsts s.ys = pre.filter (fun i => decide (i ∈ fsts s.ys))
theorem PvI.start {cs : List Cd} {bf g0 g1 : Int} (h : g0 ≤ g1) : PvI cs bf g0 g1 [] ⟨g0, g1, -1, -1, [], 0, 0⟩ :=
  ⟨h, .inl ⟨rfl, rfl⟩, .inl ⟨rfl, rfl⟩, by simp, by simp, rfl⟩
theorem fsts_in {cs : List Cd} {bf g0 g1 : Int} {pre : List Int} {s : Chs} (h : PvI cs bf g0 g1 pre s) {i : Int} (hi : i ∈ fsts s.ys) : i ∈ pre := by
  unfold fsts at hi
  obtain ⟨y, hy, rfl⟩ := List.mem_map.1 hi
  exact (h.viol y hy).1
theorem PvI.step {cs : List Cd} {bf g0 g1 : Int} {pre : List Int} {s : Chs} (h : PvI cs bf g0 g1 pre s) {x : Int} (hx : x ∉ pre) (hb : bL cs bf x ≤ bM cs bf x) : PvI cs bf g0 g1 (pre ++ [x]) (chStep bf cs s x) := by
  have hxy : x ∉ fsts s.ys := fun hi => hx (fsts_in h hi)
  by_cases hm : max s.lo (bL cs bf x) ≤ min s.hi (bM cs bf x)
  · have e : chStep bf cs s x = { s with lo := max s.lo (bL cs bf x), hi := min s.hi (bM cs bf x), lb := if s.lo < bL cs bf x then x else s.lb, mb := if bM cs bf x < s.hi then x else s.mb } := by
      unfold chStep; exact if_pos hm
    rw [e]
    refine ⟨hm, ?_, ?_, ?_, ?_, ?_⟩
    · simp only
      by_cases hl : s.lo < bL cs bf x
      · rw [if_pos hl]; right; exact ⟨by simp, hxy, by omega⟩
      · rw [if_neg hl]
        rcases h.lbI with ⟨h1, h2⟩ | ⟨h1, h2, h3⟩
        · left; exact ⟨h1, by omega⟩
        · right; exact ⟨by simp [h1], h2, by omega⟩
    · simp only
      by_cases hl : bM cs bf x < s.hi
      · rw [if_pos hl]; right; exact ⟨by simp, hxy, by omega⟩
      · rw [if_neg hl]
        rcases h.mbI with ⟨h1, h2⟩ | ⟨h1, h2, h3⟩
        · left; exact ⟨h1, by omega⟩
        · right; exact ⟨by simp [h1], h2, by omega⟩
    · intro i hi hn
      simp only
      rcases List.mem_append.1 hi with hi | hi
      · have := h.keep i hi hn; omega
      · rw [List.mem_singleton] at hi; subst hi; omega
    · intro y hy
      obtain ⟨h1, h2, h3⟩ := h.viol y hy
      refine ⟨by simp [h1], by simp only; omega, ?_⟩
      rcases h3 with h3 | ⟨h3, h4, h5, h6⟩
      · exact .inl h3
      · exact .inr ⟨by simp [h3], h4, h5.trans (List.sublist_append_left _ _), h6⟩
    · simp only
      rw [List.filter_append, ← h.ord]
      simp [hxy]
  · obtain ⟨z, hz⟩ : ∃ z, z = (if bM cs bf x < s.lo then s.lb else s.mb) := ⟨_, rfl⟩
    have e : (chStep bf cs s x).ys = s.ys ++ [(x, z)] ∧ (chStep bf cs s x).lo = s.lo ∧ (chStep bf cs s x).hi = s.hi ∧ (chStep bf cs s x).lb = s.lb ∧ (chStep bf cs s x).mb = s.mb := by
      have e0 : chStep bf cs s x = { s with ys := s.ys ++ [(x, if bM cs bf x < s.lo then s.lb else s.mb)], f0 := if s.ys = [] then bL cs bf x else s.f0, f1 := if s.ys = [] then bM cs bf x else s.f1 } := by
        unfold chStep; exact if_neg hm
      rw [e0, hz]; exact ⟨rfl, rfl, rfl, rfl, rfl⟩
    obtain ⟨e1, e2, e3, e4, e5⟩ := e
    have hf : fsts (chStep bf cs s x).ys = fsts s.ys ++ [x] := by rw [e1]; simp [fsts]
    have hne : ∀ i ∈ pre, i ≠ x := fun i hi e => hx (e ▸ hi)
    have hnf : ∀ i ∈ pre, i ∉ fsts s.ys → i ∉ fsts (chStep bf cs s x).ys := by
      intro i hi h1 h2
      rw [hf] at h2
      rcases List.mem_append.1 h2 with h2 | h2
      · exact h1 h2
      · exact hne i hi (by simpa using h2)
    refine ⟨by rw [e2, e3]; exact h.le, ?_, ?_, ?_, ?_, ?_⟩
    · rw [e2, e4]
      rcases h.lbI with h1 | ⟨h1, h2, h3⟩
      · exact .inl h1
      · exact .inr ⟨by simp [h1], hnf _ h1 h2, h3⟩
    · rw [e3, e5]
      rcases h.mbI with h1 | ⟨h1, h2, h3⟩
      · exact .inl h1
      · exact .inr ⟨by simp [h1], hnf _ h1 h2, h3⟩
    · intro i hi hn
      rw [e2, e3]
      rw [hf] at hn
      rcases List.mem_append.1 hi with hi | hi
      · exact h.keep i hi (fun h1 => hn (by simp [h1]))
      · exact absurd (by rw [List.mem_singleton] at hi; subst hi; simp) hn
    · intro y hy
      rw [e1] at hy
      rw [e2, e3]
      rcases List.mem_append.1 hy with hy | hy
      · obtain ⟨h1, h2, h3⟩ := h.viol y hy
        refine ⟨by simp [h1], h2, ?_⟩
        rcases h3 with h3 | ⟨h3, h4, h5, h6⟩
        · exact .inl h3
        · exact .inr ⟨by simp [h3], hnf _ h3 h4, h5.trans (List.sublist_append_left _ _), h6⟩
      · rw [List.mem_singleton] at hy
        subst hy
        have hle := h.le
        have sub : ∀ a ∈ pre, [a, x].Sublist (pre ++ [x]) := fun a ha => (List.singleton_sublist.2 ha).append (List.Sublist.refl [x])
        by_cases hl : bM cs bf x < s.lo
        · rw [if_pos hl] at hz
          refine ⟨by simp, .inl hl, ?_⟩
          rcases h.lbI with ⟨h1, h2⟩ | ⟨h1, h2, h3⟩
          · left; exact ⟨by rw [hz, h1], .inl (by simp only; omega)⟩
          · right; rw [hz]; exact ⟨by simp [h1], hnf _ h1 h2, sub _ h1, .inl (by simp only; omega)⟩
        · rw [if_neg hl] at hz
          have hh : s.hi < bL cs bf x := by omega
          refine ⟨by simp, .inr hh, ?_⟩
          rcases h.mbI with ⟨h1, h2⟩ | ⟨h1, h2, h3⟩
          · left; exact ⟨by rw [hz, h1], .inr (by simp only; omega)⟩
          · right; rw [hz]; exact ⟨by simp [h1], hnf _ h1 h2, sub _ h1, .inr (by simp only; omega)⟩
    · rw [hf, List.filter_append]
      have e6 : pre.filter (fun i => decide (i ∈ fsts s.ys ++ [x])) = pre.filter (fun i => decide (i ∈ fsts s.ys)) := by
        refine List.filter_congr fun i hi => ?_
        have := hne i hi
        simp [this]
      rw [e6, ← h.ord]
      simp
theorem pv_all {cs : List Cd} {bf g0 g1 : Int} : ∀ (xs pre : List Int) (s : Chs), PvI cs bf g0 g1 pre s → (pre ++ xs).Nodup → (∀ x ∈ xs, bL cs bf x ≤ bM cs bf x) → PvI cs bf g0 g1 (pre ++ xs) (xs.foldl (chStep bf cs) s)
  | [], pre, s, h, _, _ => by simpa using h
  | x :: t, pre, s, h, hn, hb => by
    rw [List.foldl_cons, show pre ++ x :: t = (pre ++ [x]) ++ t by simp]
    have hx : x ∉ pre := by
      rw [List.nodup_append] at hn
      exact fun hp => hn.2.2 x hp x (by simp) rfl
    exact pv_all t (pre ++ [x]) _ (h.step hx (hb x (by simp))) (by simpa using hn) (fun y hy => hb y (by simp [hy]))
/-- The whole of what a choice's proof looks at. -/
theorem proves {cs : List Cd} {bf g0 g1 rl : Int} (hg : g0 ≤ g1) {xs : List Int} (hn : xs.Nodup) (hb : ∀ x ∈ xs, bL cs bf x ≤ bM cs bf x) (h0 : (chAll bf cs g0 g1 xs).lo ≤ rl) (h1 : rl ≤ (chAll bf cs g0 g1 xs).hi) :
    fsts (chAll bf cs g0 g1 xs).ys = xs.filter (fun i => !(decide (bL cs bf i ≤ rl) && decide (rl ≤ bM cs bf i))) ∧ (∀ y ∈ (chAll bf cs g0 g1 xs).ys, y.1 ∈ xs ∧ Why cs bf g0 g1 xs (chAll bf cs g0 g1 xs).ys y.1 y.2) := by
  have h := pv_all xs [] _ (PvI.start (cs := cs) (bf := bf) hg) (by simpa using hn) hb
  rw [List.nil_append] at h
  unfold chAll at h0 h1 ⊢
  generalize xs.foldl (chStep bf cs) ⟨g0, g1, -1, -1, [], 0, 0⟩ = s at *
  refine ⟨?_, fun y hy => ⟨(h.viol y hy).1, (h.viol y hy).2.2⟩⟩
  rw [h.ord]
  refine List.filter_congr fun i hi => ?_
  by_cases hf : i ∈ fsts s.ys
  · have hf2 := hf
    unfold fsts at hf2
    obtain ⟨y, hy, rfl⟩ := List.mem_map.1 hf2
    have := (h.viol y hy).2.1
    rw [decide_eq_true hf]
    symm
    simp only [Bool.not_eq_true', Bool.and_eq_false_iff, decide_eq_false_iff_not]
    omega
  · have := h.keep i hi hf
    rw [decide_eq_false hf]
    symm
    simp only [Bool.not_eq_false', Bool.and_eq_true, decide_eq_true_eq]
    omega
end Go.Proofs.YtphgddanbgdemaaDoor
