/-
  The plain laws of ForecastQuantiles, and what mk.Bundle makes is valid. No condition.
-/
import Derived.Test.YtmlpimidbgeacaaProg
import Derived.Test.YtmlpimidbgeacaaFaw
import Derived.Test.YtmlpimidbgeacaaFex
namespace Go.Proofs.Ytmlpimidbgeacaa
open Go.RowKit

theorem quant_law {f : Sc → Int} {ss : List Sc} {p q x y : Int} (hw : ∀ s ∈ ss, 1 ≤ s.wt) (hp : 1 ≤ p) (hpq : p ≤ q) (ha : 1 ≤ wAll ss) (hx : QV f ss p q x) (hy : QV f ss q q y) :
    x ≤ y ∧ q * sumS (wOf fun s => decide (x < f s)) ss ≤ (q - p) * wAll ss ∧ q * (wAll ss - sumS (wOf fun s => decide (x - 1 < f s)) ss) < p * wAll ss := by
  refine ⟨?_, ?_, ?_⟩
  · obtain ⟨s, hs, e⟩ := hx.1
    rw [← e]; exact qv_last (by omega) hw hy s hs
  · rw [wGt, Int.mul_sub, Int.sub_mul]
    have := hx.2.1
    omega
  · rw [wGt, show wAll ss - (wAll ss - wLe f (x - 1) ss) = wLe f (x - 1) ss by omega]
    refine qv_below (fun s hs => by have := hw s hs; omega) hx ?_
    have := Int.mul_le_mul hp ha (by omega) (by omega)
    omega
theorem steps_made {ss : List Sc} {nn : Nat} (hl : 1 ≤ ss.length) (hg : ∀ s ∈ ss, ScGood nn s) : stepsOf ss = nn := by
  rcases ss with _ | ⟨s, t⟩
  · simp at hl
  · exact (hg s (by simp)).2.1
theorem made_err {x : Bd} {nn : Nat} (hf : 0 ≤ x.fr ∧ x.fr ≤ 16777216) (hl : 1 ≤ x.ss.length ∧ x.ss.length ≤ 50) (hn : x.n = x.ss.length) (hnn : 1 ≤ nn ∧ nn ≤ 1000) (hg : ∀ s ∈ x.ss, (1 ≤ s.wt ∧ s.wt ≤ 10000) ∧ s.n = nn ∧ ∀ v ∈ s.fl, 0 ≤ v ∧ v ≤ 1073741824) : x.err = 0 := by
  have hst : stepsOf x.ss = nn := by
    rcases hss : x.ss with _ | ⟨s, t⟩
    · rw [hss] at hl; simp at hl
    · exact (hg s (by rw [hss]; simp)).2.1
  unfold Bd.err
  rw [if_neg (by rw [wit_iff.2 hf]; simp), if_neg (by omega), if_neg (by omega), scsErr_zero]
  intro s hs
  obtain ⟨h1, h2, h3⟩ := hg s hs
  unfold scErr
  rw [if_neg (by omega), if_neg (by omega), if_neg (by omega), if_neg]
  intro h
  obtain ⟨v, hv, h4⟩ := List.any_eq_true.1 h
  rw [wit_iff.2 (h3 v hv)] at h4
  exact absurd h4 (by decide)
theorem good_sc {nn : Nat} {s : Sc} (h : ScGood nn s) : (1 ≤ s.wt ∧ s.wt ≤ 10000) ∧ s.n = nn ∧ ∀ v ∈ s.fl, 0 ≤ v ∧ v ≤ 1073741824 := ⟨by have := h.1; omega, h.2.1, fun v hv => by have := h.2.2 v hv; omega⟩
theorem live_made {x : Bd} (h : x.err = 0) (hw : x.wd = false) : liveE x = 0 := by unfold liveE; rw [if_neg (by simp [h]), hw]; rfl
theorem qE_made {x : Bd} {t p q : Int} (h : liveE x = 0) (hp : 1 ≤ p) (hpq : p ≤ q) (hq : q ≤ 10000) (hc : covB x t = true) : qE x t p q = 0 := by
  unfold qE
  rw [if_neg (by simp [h]), if_neg (by unfold qBad; omega), if_pos hc]
theorem stepE_made {x : Bd} {t : Int} (h : liveE x = 0) (hc : covB x t = true) : stepE x t = 0 := by
  unfold stepE
  rw [if_neg (by simp [h]), if_pos hc]
/-- least and most so far -/
def LM (f : Sc → Int) (ss : List Sc) (k : Nat) (lo hi : Int) : Prop := (∀ s ∈ ss.take k, lo ≤ f s ∧ f s ≤ hi) ∧ (∃ s ∈ ss, lo ≤ f s) ∧ (∀ s ∈ ss.take k, 0 ≤ f s) ∧ 0 ≤ hi ∧ (hi = 0 ∨ ∃ s ∈ ss, f s = hi)
theorem lm_step {f : Sc → Int} {ss : List Sc} {k : Nat} {lo hi : Int} {s : Sc} (hk : k < ss.length) (es : ss[k] = s) (h0 : 0 ≤ f s) (h : LM f ss k lo hi) : LM f ss (k + 1) (min lo (f s)) (max hi (f s)) := by
  obtain ⟨h1, ⟨r, hr, hrl⟩, h3, h4, h5⟩ := h
  have hm : s ∈ ss := by rw [← es]; exact List.getElem_mem _
  have e : ss.take (k + 1) = ss.take k ++ [s] := by rw [List.take_succ_eq_append_getElem hk, es]
  refine ⟨fun r hr => ?_, ⟨r, hr, by omega⟩, fun r hr => ?_, by omega, ?_⟩
  · rw [e] at hr
    rcases List.mem_append.1 hr with h | h
    · have := h1 r h; omega
    · rw [List.mem_singleton] at h; subst h; omega
  · rw [e] at hr
    rcases List.mem_append.1 hr with h | h
    · exact h3 r h
    · rw [List.mem_singleton] at h; subst h; exact h0
  · by_cases hc : f s ≤ hi
    · rw [show max hi (f s) = hi by omega]; exact h5
    · exact .inr ⟨s, hm, by omega⟩
theorem lm_end {f : Sc → Int} {ss : List Sc} {k : Nat} {lo hi p q x y : Int} (hk : ss.length ≤ k) (hw : ∀ s ∈ ss, 1 ≤ s.wt) (hq : 1 ≤ q) (ha : 1 ≤ wAll ss) (h : LM f ss k lo hi) (hx : QV f ss p q x) (hy : QV f ss q q y) : y = hi ∧ lo ≤ sumS (fun s => s.wt * f s) ss / wAll ss ∧ sumS (fun s => s.wt * f s) ss / wAll ss ≤ hi ∧ lo ≤ x := by
  obtain ⟨h1, _, h3, h4, h5⟩ := h
  rw [List.take_of_length_le hk] at h1 h3
  obtain ⟨m1, m2⟩ := mean_bnd ha (fun s hs => by have := hw s hs; omega) h1
  refine ⟨?_, m1, m2, ?_⟩
  · obtain ⟨s, hs, e⟩ := hy.1
    have a1 := h1 s hs
    have a2 := h3 s hs
    rcases h5 with h5 | ⟨r, hr, hre⟩
    · omega
    · have := qv_last hq hw hy r hr; omega
  · obtain ⟨s, hs, e⟩ := hx.1
    have := h1 s hs; omega
end Go.Proofs.Ytmlpimidbgeacaa
