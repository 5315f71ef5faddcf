/-
  Plain laws of balances: what Balance and Uncertain answer at valid lists. No condition beyond the lists' ranges.
-/
import Derived.Test.YtbfflggoffmnmaaProg
import Derived.Test.YtbfflggoffmnmaaFlw
namespace Go.Proofs.Ytbfflggoffmnmaa
open Go.RowKit

def psum (xs : List Int) : Nat → Int
  | 0 => 0
  | k + 1 => psum xs k + xs.getD k 0
def balAt (vs os : List Int) (t : Nat) : Int := vs.getD (t + 1) 0 - vs.getD t 0 + os.getD t 0
def Okl (vs os : List Int) : Prop := vs.length = os.length + 1 ∧ os.length ≤ 13 ∧ (∀ x ∈ vs, 0 ≤ x ∧ x < 240) ∧ (∀ x ∈ os, 0 ≤ x ∧ x < 40)
theorem getD_in {xs : List Int} {p : Int → Prop} (h : ∀ x ∈ xs, p x) (h0 : p 0) (k : Nat) : p (xs.getD k 0) := by
  rw [List.getD_eq_getElem?_getD]
  by_cases hk : k < xs.length
  · rw [List.getElem?_eq_getElem hk]; exact h _ (List.getElem_mem hk)
  · rw [List.getElem?_eq_none (by omega)]; exact h0
theorem over_of {m : Int} {l : List Int} (h : ∀ x ∈ l, 0 ≤ x ∧ x ≤ m) : overB m l = false := by
  unfold overB
  rw [List.any_eq_false]
  intro x hx
  have := h x hx
  have h2 : wit x m = true := wit_iff.2 this
  simp [h2]
theorem okl_chk {vs os : List Int} (h : Okl vs os) : chkI vs os = 0 := by
  obtain ⟨h1, h2, h3, h4⟩ := h
  exact chk_ok h1 (by omega) (by rw [over_of fun x hx => by have := h3 x hx; omega, over_of fun x hx => by have := h4 x hx; omega]; rfl)
theorem okl_unc {vs os : List Int} (h : Okl vs os) {off : Int} (h0 : 0 ≤ off) (h1 : off ≤ 1000) : uncE vs os off = 0 ∧ uncL vs os off = uncK vs os off os.length := by
  have hw : wit off 274877906944 = true := wit_iff.2 ⟨h0, by omega⟩
  have he : uncE vs os off = 0 := by simp [uncE, okl_chk h, hw]
  exact ⟨he, by simp [uncL, he]⟩
theorem uncK_get (vs os : List Int) (off : Int) {n k : Nat} (h : k < n) : (uncK vs os off n).getD k (0, 0) = uncAt vs os off k := by
  simp [uncK, List.getD_eq_getElem?_getD, h]
theorem okl_bal {vs os : List Int} (h : Okl vs os) : balL vs os = (List.range os.length).map (balAt vs os) := by
  unfold balL
  rw [(okl_unc h (Int.le_refl 0) (by omega)).2]
  unfold uncK
  rw [List.map_map]
  refine List.map_congr_left fun t ht => ?_
  have hv := getD_in h.2.2.1 (p := fun x => 0 ≤ x ∧ x < 240) (by omega)
  have := hv (t + 1)
  show uncLo 0 (vs.getD t 0) (vs.getD (t + 1) 0) (os.getD t 0) = balAt vs os t
  unfold uncLo balAt
  omega
theorem bal_get {vs os : List Int} (h : Okl vs os) {k : Nat} (hk : k < os.length) : (balL vs os).getD k 0 = balAt vs os k := by
  rw [okl_bal h]
  simp [List.getD_eq_getElem?_getD, hk]
theorem bal_len {vs os : List Int} (h : Okl vs os) : (balL vs os).length = os.length := by rw [okl_bal h]; simp
theorem balAt_bound {vs os : List Int} (h : Okl vs os) (k : Nat) : -280 ≤ balAt vs os k ∧ balAt vs os k ≤ 280 := by
  have hv := getD_in h.2.2.1 (p := fun x => 0 ≤ x ∧ x < 240) (by omega)
  have ho := getD_in h.2.2.2 (p := fun x => 0 ≤ x ∧ x < 40) (by omega)
  have h1 := hv k
  have h2 := hv (k + 1)
  have h3 := ho k
  unfold balAt
  omega
/-- the inflows add up -/
theorem bal_sums {vs os : List Int} (h : Okl vs os) : ∀ k, k ≤ os.length → psum (balL vs os) k = vs.getD k 0 - vs.getD 0 0 + psum os k
  | 0, _ => by simp [psum]
  | k + 1, hk => by
    have := bal_sums h k (by omega)
    simp only [psum]
    rw [this, bal_get h (by omega)]
    unfold balAt
    omega
theorem psum_bound {xs : List Int} (h : ∀ k, -280 ≤ xs.getD k 0 ∧ xs.getD k 0 ≤ 280) : ∀ k : Nat, -(280 * (k : Int)) ≤ psum xs k ∧ psum xs k ≤ 280 * (k : Int)
  | 0 => by simp [psum]
  | k + 1 => by
    have h1 := psum_bound h k
    have h2 := h k
    simp only [psum]
    omega
/-- a volume in between that is greater by d: the step before gets more, the step behind less -/
theorem bal_between {vs os : List Int} {i : Nat} {d : Int} (h : Okl vs os) (hd : Okl (vs.set i (vs.getD i 0 + d)) os) (hi : 1 ≤ i) (hi2 : i < os.length) :
    (balL (vs.set i (vs.getD i 0 + d)) os).getD (i - 1) 0 = (balL vs os).getD (i - 1) 0 + d ∧ (balL (vs.set i (vs.getD i 0 + d)) os).getD i 0 = (balL vs os).getD i 0 - d := by
  have hl := h.1
  rw [bal_get h (by omega), bal_get h hi2, bal_get hd (by omega), bal_get hd hi2]
  unfold balAt
  have e1 : (vs.set i (vs.getD i 0 + d)).getD i 0 = vs.getD i 0 + d := by rw [List.getD_eq_getElem?_getD, List.getElem?_set_self (by omega)]; rfl
  have e2 : (vs.set i (vs.getD i 0 + d)).getD (i - 1) 0 = vs.getD (i - 1) 0 := by simp only [List.getD_eq_getElem?_getD]; rw [List.getElem?_set_ne (by omega)]
  have e3 : (vs.set i (vs.getD i 0 + d)).getD (i + 1) 0 = vs.getD (i + 1) 0 := by simp only [List.getD_eq_getElem?_getD]; rw [List.getElem?_set_ne (by omega)]
  have e4 : i - 1 + 1 = i := by omega
  rw [e4, e1, e2, e3]
  omega
theorem okl_set {vs os : List Int} {i : Nat} {d : Int} (h : Okl vs os) (hv : ∀ x ∈ vs, 0 ≤ x ∧ x < 200) (h0 : 0 ≤ d) (h1 : d < 30) : Okl (vs.set i (vs.getD i 0 + d)) os := by
  refine ⟨by rw [List.length_set]; exact h.1, h.2.1, fun x hx => ?_, h.2.2.2⟩
  rcases List.mem_or_eq_of_mem_set hx with hm | rfl
  · have := hv x hm; omega
  · have := getD_in hv (p := fun x => 0 ≤ x ∧ x < 200) (by omega) i; omega
end Go.Proofs.Ytbfflggoffmnmaa
