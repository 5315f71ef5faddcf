/-
  The plain law of conditions none of which may exclude another one: at each day, level and release before all that apply have a release in common. No condition.
-/
import Derived.Test.YtjbddicgegkkjaaProg
import Derived.Test.YtjbddicgegkkjaaCho
import Derived.Test.YtjbddicgegkkjaaFnd
namespace Go.Proofs.Ytjbddicgegkkjaa

theorem both_pos {f t g u : Int} {d : Int} (h1 : inB f t d = true) (h2 : inB g u d = true) : 0 < (bothL f t g u 365).length := by
  have hw : wit d 364 = true := by simp [inB] at h1; exact h1.1.2
  obtain ⟨d0, d1⟩ := wit_iff.1 hw
  obtain ⟨k, rfl⟩ : ∃ k : Nat, d = (k : Int) := ⟨d.toNat, by omega⟩
  apply List.length_pos_of_mem (a := (k : Int))
  unfold bothL
  rw [List.mem_map]
  exact ⟨k, by rw [List.mem_filter, List.mem_range]; exact ⟨by omega, by simp [h1, h2]⟩, rfl⟩
theorem meet_of {a b : Cd} {d lv : Int} (ha : apyB d lv a = true) (hb : apyB d lv b = true) : meetB a b = true := by
  unfold apyB at ha hb
  simp only [Bool.and_eq_true, decide_eq_true_eq] at ha hb
  unfold meetB
  simp only [Bool.and_eq_true, decide_eq_true_eq]
  exact ⟨by omega, both_pos ha.1.1 hb.1.1⟩
theorem may_ok {a b : Cd} {bf : Int} (ea : a.err = 0) (eb : b.err = 0) (hbf : 0 ≤ bf ∧ bf ≤ 1073741824) (hm : meetB a b = true) (h : mayB a b = false) : bLeast a bf ≤ bMost b bf ∧ bLeast b bf ≤ bMost a bf := by
  have va := (rest_iff.1 (err_zero ea).2.2).1
  have vb := (rest_iff.1 (err_zero eb).2.2).1
  unfold mayB mayLH lowB at h
  rw [hm] at h
  unfold bLeast bMost
  rcases kind_4 (err_zero ea).2.1 with ka | ka | ka | ka <;> rcases kind_4 (err_zero eb).2.1 with kb | kb | kb | kb <;> simp [ka, kb] at h ⊢ <;> omega
/-- What is left of conditions when those that a stronger number may exclude are dropped. -/
def leftL (cs : List Cd) (dr : Nat → Bool) (k : Nat) : List Cd := ((List.range k).filter fun i => !dr i).map fun i => cs.getD i cdn
theorem left_in {cs : List Cd} {dr : Nat → Bool} {k : Nat} (h : dr k = false) : leftL cs dr (k + 1) = leftL cs dr k ++ [cs.getD k cdn] := by
  unfold leftL; rw [List.range_succ, List.filter_append, List.map_append]
  congr 1
  simp [h]
theorem left_out {cs : List Cd} {dr : Nat → Bool} {k : Nat} (h : dr k = true) : leftL cs dr (k + 1) = leftL cs dr k := by
  unfold leftL; rw [List.range_succ, List.filter_append, List.map_append]
  simp [h]
theorem left_len (cs : List Cd) (dr : Nat → Bool) (k : Nat) : (leftL cs dr k).length ≤ k := by
  unfold leftL; rw [List.length_map]
  have := List.length_filter_le (fun i => !dr i) (List.range k)
  rwa [List.length_range] at this
theorem left_ok {cs : List Cd} {dr : Nat → Bool} (hg : ∀ x ∈ cs, x.err = 0) : ∀ x ∈ leftL cs dr cs.length, x.err = 0 := by
  intro x hx
  unfold leftL at hx
  obtain ⟨i, hi, rfl⟩ := List.mem_map.1 hx
  rw [List.mem_filter, List.mem_range] at hi
  refine hg _ ?_
  rw [List.getD_eq_getElem?_getD, List.getElem?_eq_getElem hi.1]
  exact List.getElem_mem _
/-- Of those that are left no two may exclude one another. -/
theorem left_may {cs : List Cd} {dr : Nat → Bool} (hd : ∀ a b, a < b → b < cs.length → mayF cs a b = true → dr b = true) {x y : Cd} (hx : x ∈ leftL cs dr cs.length) (hy : y ∈ leftL cs dr cs.length) : x = y ∨ mayB x y = false ∨ mayB y x = false := by
  unfold leftL at hx hy
  obtain ⟨a, ha, rfl⟩ := List.mem_map.1 hx
  obtain ⟨b, hb, rfl⟩ := List.mem_map.1 hy
  rw [List.mem_filter, List.mem_range] at ha hb
  obtain ⟨a1, a2⟩ := ha
  obtain ⟨b1, b2⟩ := hb
  simp only [Bool.not_eq_true'] at a2 b2
  rcases Nat.lt_trichotomy a b with h | h | h
  · right; left
    cases hm : mayB (cs.getD a cdn) (cs.getD b cdn)
    · rfl
    · rw [hd a b h b1 hm] at b2; cases b2
  · left; rw [h]
  · right; right
    cases hm : mayB (cs.getD b cdn) (cs.getD a cdn)
    · rfl
    · rw [hd b a h a1 hm] at a2; cases a2
theorem free_ys {cs : List Cd} (hg : ∀ x ∈ cs, x.err = 0) (hm : ∀ x ∈ cs, ∀ y ∈ cs, x = y ∨ mayB x y = false ∨ mayB y x = false) {d lv bf : Int} (hbf : 0 ≤ bf ∧ bf ≤ 1073741824) {os : List Int} (ho : OrdOf cs cs.length os) : (chAll bf cs 0 1073741824 (ractL cs d lv os)).ys = [] := by
  have hin : ∀ i ∈ ractL cs d lv os, cs.getD i.toNat cdz ∈ cs ∧ apyB d lv (cs.getD i.toNat cdz) = true := by
    intro i hi
    unfold ractL at hi
    obtain ⟨h1, h2⟩ := List.mem_filter.1 hi
    obtain ⟨h3, h4⟩ := ho.in_ h1
    refine ⟨?_, h2⟩
    rw [List.getD_eq_getElem?_getD, List.getElem?_eq_getElem (show i.toNat < cs.length by omega)]
    exact List.getElem_mem _
  have hb : ∀ i ∈ ractL cs d lv os, 0 ≤ bLeast (cs.getD i.toNat cdz) bf ∧ bLeast (cs.getD i.toNat cdz) bf ≤ bMost (cs.getD i.toNat cdz) bf ∧ bMost (cs.getD i.toNat cdz) bf ≤ 1073741824 := fun i hi => bnd_le (hg _ (hin i hi).1) hbf
  have hp : ∀ i ∈ ractL cs d lv os, ∀ k ∈ ractL cs d lv os, bLeast (cs.getD i.toNat cdz) bf ≤ bMost (cs.getD k.toNat cdz) bf := by
    intro i hi k hk
    obtain ⟨i1, i2⟩ := hin i hi
    obtain ⟨k1, k2⟩ := hin k hk
    rcases hm _ i1 _ k1 with h | h | h
    · rw [h]; exact (hb k hk).2.1
    · exact (may_ok (hg _ i1) (hg _ k1) hbf (meet_of i2 k2) h).1
    · exact (may_ok (hg _ k1) (hg _ i1) hbf (meet_of k2 i2) h).2
  exact ch_free (show (0 : Int) ≤ 1073741824 by omega) _ (fun i hi => by have := hb i hi; omega) hp _ rfl (by simp only; omega) (fun i hi => by have := hb i hi; simp only; omega)
end Go.Proofs.Ytjbddicgegkkjaa
