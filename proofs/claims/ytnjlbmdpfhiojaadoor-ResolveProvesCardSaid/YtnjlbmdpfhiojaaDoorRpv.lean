/-
  The plain law of a choice that proves itself: who yields is violated, and excluded by a stronger one that is kept, or by the given bounds. No condition.
-/
import Derived.Test.YtnjlbmdpfhiojaaDoorProg
import Derived.Test.YtnjlbmdpfhiojaaDoorChp
namespace Go.Proofs.YtnjlbmdpfhiojaaDoor

def bL (cs : List Cd) (bf i : Int) : Int := bLeast (cs.getD i.toNat cdz) bf
def bM (cs : List Cd) (bf i : Int) : Int := bMost (cs.getD i.toNat cdz) bf
def fsts (ys : List (Int × Int)) : List Int := ys.map Prod.fst
/-- Why the pair (i, by) stands among the yields. -/
def Why (cs : List Cd) (bf g0 g1 : Int) (pre : List Int) (ys : List (Int × Int)) (i by_ : Int) : Prop :=
  (by_ = -1 ∧ (bM cs bf i < g0 ∨ g1 < bL cs bf i)) ∨ (by_ ∈ pre ∧ by_ ∉ fsts ys ∧ [by_, i].Sublist pre ∧ (bM cs bf i < bL cs bf by_ ∨ bM cs bf by_ < bL cs bf i))
structure PvI (cs : List Cd) (bf g0 g1 : Int) (pre : List Int) (s : Chs) : Prop where
  le : s.lo ≤ s.hi
  lbI : (s.lb = -1 ∧ s.lo = g0) ∨ (s.lb ∈ pre ∧ s.lb ∉ fsts s.ys ∧ s.lo = bL cs bf s.lb)
  mbI : (s.mb = -1 ∧ s.hi = g1) ∨ (s.mb ∈ pre ∧ s.mb ∉ fsts s.ys ∧ s.hi = bM cs bf s.mb)
  keep : ∀ i ∈ pre, i ∉ fsts s.ys → bL cs bf i ≤ s.lo ∧ s.hi ≤ bM cs bf i
  viol : ∀ y ∈ s.ys, y.1 ∈ pre ∧ (bM cs bf y.1 < s.lo ∨ s.hi < bL cs bf y.1) ∧ Why cs bf g0 g1 pre s.ys y.1 y.2
  ord : fsts s.ys = pre.filter (fun i => decide (i ∈ fsts s.ys))
theorem PvI.start {cs : List Cd} {bf g0 g1 : Int} (h : g0 ≤ g1) : PvI cs bf g0 g1 [] ⟨g0, g1, -1, -1, [], 0, 0⟩ :=
  ⟨h, .inl ⟨rfl, rfl⟩, .inl ⟨rfl, rfl⟩, by simp, by simp, rfl⟩
theorem fsts_in {cs : List Cd} {bf g0 g1 : Int} {pre : List Int} {s : Chs} (h : PvI cs bf g0 g1 pre s) {i : Int} (hi : i ∈ fsts s.ys) : i ∈ pre := by
  unfold fsts at hi
  obtain ⟨y, hy, rfl⟩ := List.mem_map.1 hi
  exact (h.viol y hy).1
theorem PvI.step {cs : List Cd} {bf g0 g1 : Int} {pre : List Int} {s : Chs} (h : PvI cs bf g0 g1 pre s) {x : Int} (hx : x ∉ pre) (hb : bL cs bf x ≤ bM cs bf x) : PvI cs bf g0 g1 (pre ++ [x]) (chStep bf cs s x) := by
  have hxy : x ∉ fsts s.ys := fun hi => hx (fsts_in h hi)
  by_cases hm : max s.lo (bL cs bf x) ≤ min s.hi (bM cs bf x)
  · have e : chStep bf cs s x = { s with lo := max s.lo (bL cs bf x), hi := min s.hi (bM cs bf x), lb := if s.lo < bL cs bf x then x else s.lb, mb := if bM cs bf x < s.hi then x else s.mb } := by
      unfold chStep; exact if_pos hm
    rw [e]
    refine ⟨hm, ?_, ?_, ?_, ?_, ?_⟩
    · simp only
      by_cases hl : s.lo < bL cs bf x
      · rw [if_pos hl]; right; exact ⟨by simp, hxy, by omega⟩
      · rw [if_neg hl]
        rcases h.lbI with ⟨h1, h2⟩ | ⟨h1, h2, h3⟩
        · left; exact ⟨h1, by omega⟩
        · right; exact ⟨by simp [h1], h2, by omega⟩
    · simp only
      by_cases hl : bM cs bf x < s.hi
      · rw [if_pos hl]; right; exact ⟨by simp, hxy, by omega⟩
      · rw [if_neg hl]
        rcases h.mbI with ⟨h1, h2⟩ | ⟨h1, h2, h3⟩
        · left; exact ⟨h1, by omega⟩
        · right; exact ⟨by simp [h1], h2, by omega⟩
    · intro i hi hn
      simp only
      rcases List.mem_append.1 hi with hi | hi
      · have := h.keep i hi hn; omega
      · rw [List.mem_singleton] at hi; subst hi; omega
    · intro y hy
      obtain ⟨h1, h2, h3⟩ := h.viol y hy
      refine ⟨by simp [h1], by simp only; omega, ?_⟩
      rcases h3 with h3 | ⟨h3, h4, h5, h6⟩
      · exact .inl h3
      · exact .inr ⟨by simp [h3], h4, h5.trans (List.sublist_append_left _ _), h6⟩
    · simp only
      rw [List.filter_append, ← h.ord]
      simp [hxy]
  · obtain ⟨z, hz⟩ : ∃ z, z = (if bM cs bf x < s.lo then s.lb else s.mb) := ⟨_, rfl⟩
    have e : (chStep bf cs s x).ys = s.ys ++ [(x, z)] ∧ (chStep bf cs s x).lo = s.lo ∧ (chStep bf cs s x).hi = s.hi ∧ (chStep bf cs s x).lb = s.lb ∧ (chStep bf cs s x).mb = s.mb := by
      have e0 : chStep bf cs s x = { s with ys := s.ys ++ [(x, if bM cs bf x < s.lo then s.lb else s.mb)], f0 := if s.ys = [] then bL cs bf x else s.f0, f1 := if s.ys = [] then bM cs bf x else s.f1 } := by
        unfold chStep; exact if_neg hm
      rw [e0, hz]; exact ⟨rfl, rfl, rfl, rfl, rfl⟩
    obtain ⟨e1, e2, e3, e4, e5⟩ := e
    have hf : fsts (chStep bf cs s x).ys = fsts s.ys ++ [x] := by rw [e1]; simp [fsts]
    have hne : ∀ i ∈ pre, i ≠ x := fun i hi e => hx (e ▸ hi)
    have hnf : ∀ i ∈ pre, i ∉ fsts s.ys → i ∉ fsts (chStep bf cs s x).ys := by
      intro i hi h1 h2
      rw [hf] at h2
      rcases List.mem_append.1 h2 with h2 | h2
      · exact h1 h2
      · exact hne i hi (by simpa using h2)
    refine ⟨by rw [e2, e3]; exact h.le, ?_, ?_, ?_, ?_, ?_⟩
    · rw [e2, e4]
      rcases h.lbI with h1 | ⟨h1, h2, h3⟩
      · exact .inl h1
      · exact .inr ⟨by simp [h1], hnf _ h1 h2, h3⟩
    · rw [e3, e5]
      rcases h.mbI with h1 | ⟨h1, h2, h3⟩
      · exact .inl h1
      · exact .inr ⟨by simp [h1], hnf _ h1 h2, h3⟩
    · intro i hi hn
      rw [e2, e3]
      rw [hf] at hn
      rcases List.mem_append.1 hi with hi | hi
      · exact h.keep i hi (fun h1 => hn (by simp [h1]))
      · exact absurd (by rw [List.mem_singleton] at hi; subst hi; simp) hn
    · intro y hy
      rw [e1] at hy
      rw [e2, e3]
      rcases List.mem_append.1 hy with hy | hy
      · obtain ⟨h1, h2, h3⟩ := h.viol y hy
        refine ⟨by simp [h1], h2, ?_⟩
        rcases h3 with h3 | ⟨h3, h4, h5, h6⟩
        · exact .inl h3
        · exact .inr ⟨by simp [h3], hnf _ h3 h4, h5.trans (List.sublist_append_left _ _), h6⟩
      · rw [List.mem_singleton] at hy
        subst hy
        have hle := h.le
        have sub : ∀ a ∈ pre, [a, x].Sublist (pre ++ [x]) := fun a ha => (List.singleton_sublist.2 ha).append (List.Sublist.refl [x])
        by_cases hl : bM cs bf x < s.lo
        · rw [if_pos hl] at hz
          refine ⟨by simp, .inl hl, ?_⟩
          rcases h.lbI with ⟨h1, h2⟩ | ⟨h1, h2, h3⟩
          · left; exact ⟨by rw [hz, h1], .inl (by simp only; omega)⟩
          · right; rw [hz]; exact ⟨by simp [h1], hnf _ h1 h2, sub _ h1, .inl (by simp only; omega)⟩
        · rw [if_neg hl] at hz
          have hh : s.hi < bL cs bf x := by omega
          refine ⟨by simp, .inr hh, ?_⟩
          rcases h.mbI with ⟨h1, h2⟩ | ⟨h1, h2, h3⟩
          · left; exact ⟨by rw [hz, h1], .inr (by simp only; omega)⟩
          · right; rw [hz]; exact ⟨by simp [h1], hnf _ h1 h2, sub _ h1, .inr (by simp only; omega)⟩
    · rw [hf, List.filter_append]
      have e6 : pre.filter (fun i => decide (i ∈ fsts s.ys ++ [x])) = pre.filter (fun i => decide (i ∈ fsts s.ys)) := by
        refine List.filter_congr fun i hi => ?_
        have := hne i hi
        simp [this]
      rw [e6, ← h.ord]
      simp
theorem pv_all {cs : List Cd} {bf g0 g1 : Int} : ∀ (xs pre : List Int) (s : Chs), PvI cs bf g0 g1 pre s → (pre ++ xs).Nodup → (∀ x ∈ xs, bL cs bf x ≤ bM cs bf x) → PvI cs bf g0 g1 (pre ++ xs) (xs.foldl (chStep bf cs) s)
  | [], pre, s, h, _, _ => by simpa using h
  | x :: t, pre, s, h, hn, hb => by
    rw [List.foldl_cons, show pre ++ x :: t = (pre ++ [x]) ++ t by simp]
    have hx : x ∉ pre := by
      rw [List.nodup_append] at hn
      exact fun hp => hn.2.2 x hp x (by simp) rfl
    exact pv_all t (pre ++ [x]) _ (h.step hx (hb x (by simp))) (by simpa using hn) (fun y hy => hb y (by simp [hy]))
/-- The whole of what a choice's proof looks at. -/
theorem proves {cs : List Cd} {bf g0 g1 rl : Int} (hg : g0 ≤ g1) {xs : List Int} (hn : xs.Nodup) (hb : ∀ x ∈ xs, bL cs bf x ≤ bM cs bf x) (h0 : (chAll bf cs g0 g1 xs).lo ≤ rl) (h1 : rl ≤ (chAll bf cs g0 g1 xs).hi) :
    fsts (chAll bf cs g0 g1 xs).ys = xs.filter (fun i => !(decide (bL cs bf i ≤ rl) && decide (rl ≤ bM cs bf i))) ∧ (∀ y ∈ (chAll bf cs g0 g1 xs).ys, y.1 ∈ xs ∧ Why cs bf g0 g1 xs (chAll bf cs g0 g1 xs).ys y.1 y.2) := by
  have h := pv_all xs [] _ (PvI.start (cs := cs) (bf := bf) hg) (by simpa using hn) hb
  rw [List.nil_append] at h
  unfold chAll at h0 h1 ⊢
  generalize xs.foldl (chStep bf cs) ⟨g0, g1, -1, -1, [], 0, 0⟩ = s at *
  refine ⟨?_, fun y hy => ⟨(h.viol y hy).1, (h.viol y hy).2.2⟩⟩
  rw [h.ord]
  refine List.filter_congr fun i hi => ?_
  by_cases hf : i ∈ fsts s.ys
  · have hf2 := hf
    unfold fsts at hf2
    obtain ⟨y, hy, rfl⟩ := List.mem_map.1 hf2
    have := (h.viol y hy).2.1
    rw [decide_eq_true hf]
    symm
    simp only [Bool.not_eq_true', Bool.and_eq_false_iff, decide_eq_false_iff_not]
    omega
  · have := h.keep i hi hf
    rw [decide_eq_false hf]
    symm
    simp only [Bool.not_eq_false', Bool.and_eq_true, decide_eq_true_eq]
    omega
end Go.Proofs.YtnjlbmdpfhiojaaDoor
