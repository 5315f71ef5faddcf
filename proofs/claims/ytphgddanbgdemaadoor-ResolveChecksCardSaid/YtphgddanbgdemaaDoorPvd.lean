/-
  The plain law of a choice that proves itself: what is asked of each yield. No condition.
-/
import Derived.Test.YtphgddanbgdemaaDoorProg
import Derived.Test.YtphgddanbgdemaaDoorPvx
namespace Go.Proofs.YtphgddanbgdemaaDoor

/-- where a number stands first, -1: nowhere -/
def posN (v : Int) : List Int → Nat → Int
  | [], _ => -1
  | x :: t, k => if x = v then (k : Int) else posN v t (k + 1)
theorem posN_none {v : Int} : ∀ (xs : List Int) (k : Nat), v ∉ xs → posN v xs k = -1
  | [], _, _ => rfl
  | x :: t, k, h => by
    unfold posN
    rw [if_neg (fun e => h (by rw [e]; exact List.mem_cons_self))]
    exact posN_none t (k + 1) (fun hm => h (List.mem_cons_of_mem _ hm))
theorem posN_at {v : Int} : ∀ (xs : List Int) (k j : Nat), xs.Nodup → j < xs.length → xs.getD j 0 = v → posN v xs k = ((k + j : Nat) : Int)
  | [], _, _, _, h, _ => by simp at h
  | x :: t, k, 0, _, _, h => by
    unfold posN
    rw [if_pos (by simpa using h)]; rfl
  | x :: t, k, j + 1, hn, h, e => by
    have hj : j < t.length := by simpa using h
    have e2 : t.getD j 0 = v := by simpa using e
    have hm : v ∈ t := by
      rw [← e2, List.getD_eq_getElem?_getD, List.getElem?_eq_getElem hj]; exact List.getElem_mem _
    unfold posN
    rw [if_neg (fun e3 => (List.nodup_cons.1 hn).1 (by rw [e3]; exact hm)), posN_at t (k + 1) j (List.nodup_cons.1 hn).2 hj e2]
    congr 1; omega
theorem IdxAt.pos {xs : List Int} {v r : Int} (hn : xs.Nodup) (h : IdxAt xs v r) : r = posN v xs 0 := by
  rcases h with ⟨k, h1, h2, h3⟩ | ⟨h1, h2⟩
  · rw [posN_at xs 0 k hn h1 h3, h2, Nat.zero_add]
  · rw [posN_none xs 0 h1, h2]
theorem posN_mem {v : Int} : ∀ (xs : List Int) (k : Nat), 0 ≤ posN v xs k → v ∈ xs
  | [], _, h => by simp [posN] at h
  | x :: t, k, h => by
    unfold posN at h
    by_cases e : x = v
    · rw [e]; exact List.mem_cons_self
    · rw [if_neg e] at h; exact List.mem_cons_of_mem _ (posN_mem t (k + 1) h)
theorem posN_ge {v : Int} : ∀ (xs : List Int) (k : Nat), v ∈ xs → (k : Int) ≤ posN v xs k
  | [], _, h => by simp at h
  | x :: t, k, h => by
    unfold posN
    by_cases e : x = v
    · rw [if_pos e]; omega
    · rw [if_neg e]
      have := posN_ge (v := v) t (k + 1) (by rcases List.mem_cons.1 h with h | h; exact absurd h.symm e; exact h)
      omega
/-- what is asked of a yield -/
def yOk (cs : List Cd) (bf g0 g1 : Int) (act viol seen : List Int) (y : Int × Int) : Bool :=
  decide (y.1 ∈ viol) && (!decide (y.1 ∈ seen) && (if y.2 = -1 then !metOk (bL cs bf y.1) (bM cs bf y.1) g0 g1 else decide (0 ≤ posN y.2 act 0) && (decide (posN y.2 act 0 < posN y.1 act 0) && (!decide (y.2 ∈ viol) && !metOk (bL cs bf y.1) (bM cs bf y.1) (bL cs bf y.2) (bM cs bf y.2)))))
section
variable {cs : List Cd} {bf g0 g1 : Int} {act viol seen : List Int} {i b : Int}
theorem yOk_1 (h : i ∉ viol) : yOk cs bf g0 g1 act viol seen (i, b) = false := by simp [yOk, h]
theorem yOk_2 (h : i ∈ seen) : yOk cs bf g0 g1 act viol seen (i, b) = false := by simp [yOk, h]
theorem yOk_3 (hb : b = -1) (h : metOk (bL cs bf i) (bM cs bf i) g0 g1 = true) : yOk cs bf g0 g1 act viol seen (i, b) = false := by simp [yOk, hb, h]
theorem yOk_3t (h1 : i ∈ viol) (h2 : i ∉ seen) (hb : b = -1) (h : metOk (bL cs bf i) (bM cs bf i) g0 g1 = false) : yOk cs bf g0 g1 act viol seen (i, b) = true := by simp [yOk, hb, h, h1, h2]
theorem yOk_4 (hb : ¬ b = -1) (h : posN b act 0 < 0) : yOk cs bf g0 g1 act viol seen (i, b) = false := by
  have : ¬ 0 ≤ posN b act 0 := by omega
  simp [yOk, hb, this]
theorem yOk_5 (hb : ¬ b = -1) (h : posN i act 0 ≤ posN b act 0) : yOk cs bf g0 g1 act viol seen (i, b) = false := by
  have : ¬ posN b act 0 < posN i act 0 := by omega
  simp [yOk, hb, this]
theorem yOk_6 (hb : ¬ b = -1) (h : b ∈ viol) : yOk cs bf g0 g1 act viol seen (i, b) = false := by simp [yOk, hb, h]
theorem yOk_7 (hb : ¬ b = -1) (h : metOk (bL cs bf i) (bM cs bf i) (bL cs bf b) (bM cs bf b) = true) : yOk cs bf g0 g1 act viol seen (i, b) = false := by simp [yOk, hb, h]
theorem yOk_t (h1 : i ∈ viol) (h2 : i ∉ seen) (hb : ¬ b = -1) (h3 : 0 ≤ posN b act 0) (h4 : posN b act 0 < posN i act 0) (h5 : b ∉ viol) (h : metOk (bL cs bf i) (bM cs bf i) (bL cs bf b) (bM cs bf b) = false) : yOk cs bf g0 g1 act viol seen (i, b) = true := by simp [yOk, hb, h, h1, h2, h3, h4, h5]
end
/-- all yields are what is asked -/
def ysOk (cs : List Cd) (bf g0 g1 : Int) (act viol : List Int) (ys : List (Int × Int)) : Bool :=
  (List.range ys.length).all fun k => yOk cs bf g0 g1 act viol (fsts (ys.take k)) (ys.getD k (0, 0))
theorem ysOk_bad {cs : List Cd} {bf g0 g1 : Int} {act viol : List Int} {ys : List (Int × Int)} {k : Nat} (h : k < ys.length) {y : Int × Int} (e : ys[k] = y) (hy : yOk cs bf g0 g1 act viol (fsts (ys.take k)) y = false) : ysOk cs bf g0 g1 act viol ys = false := by
  rw [Bool.eq_false_iff]
  intro ht
  have := List.all_eq_true.1 ht k (by simpa using h)
  rw [List.getD_eq_getElem?_getD, List.getElem?_eq_getElem h, e] at this
  simp only [Option.getD_some] at this
  rw [hy] at this; cases this
theorem ysOk_good {cs : List Cd} {bf g0 g1 : Int} {act viol : List Int} {ys : List (Int × Int)} (h : ∀ k (hk : k < ys.length), yOk cs bf g0 g1 act viol (fsts (ys.take k)) ys[k] = true) : ysOk cs bf g0 g1 act viol ys = true := by
  refine List.all_eq_true.2 fun k hk => ?_
  have hk2 : k < ys.length := by simpa using hk
  rw [List.getD_eq_getElem?_getD, List.getElem?_eq_getElem hk2]
  exact h k hk2
/-- whether a choice proves itself, where the arguments are right -/
def prvB (cs : List Cd) (d lv bf g0 g1 rl : Int) (ys : List (Int × Int)) : Bool :=
  decide (g0 ≤ rl) && (decide (rl ≤ g1) && (decide ((violL cs d lv bf rl).length = ys.length) && ysOk cs bf g0 g1 (actC cs d lv) (violL cs d lv bf rl) ys))
theorem prv_1 {cs : List Cd} {d lv bf g0 g1 rl : Int} {ys : List (Int × Int)} (h : rl < g0) : prvB cs d lv bf g0 g1 rl ys = false := by
  have : ¬ g0 ≤ rl := by omega
  simp [prvB, this]
theorem prv_2 {cs : List Cd} {d lv bf g0 g1 rl : Int} {ys : List (Int × Int)} (h : g1 < rl) : prvB cs d lv bf g0 g1 rl ys = false := by
  have : ¬ rl ≤ g1 := by omega
  simp [prvB, this]
theorem prv_3 {cs : List Cd} {d lv bf g0 g1 rl : Int} {ys : List (Int × Int)} (h : ¬ (violL cs d lv bf rl).length = ys.length) : prvB cs d lv bf g0 g1 rl ys = false := by simp [prvB, h]
theorem prv_4 {cs : List Cd} {d lv bf g0 g1 rl : Int} {ys : List (Int × Int)} (h0 : g0 ≤ rl) (h1 : rl ≤ g1) (h : (violL cs d lv bf rl).length = ys.length) : prvB cs d lv bf g0 g1 rl ys = ysOk cs bf g0 g1 (actC cs d lv) (violL cs d lv bf rl) ys := by simp [prvB, h0, h1, h]
theorem viol_act {cs : List Cd} {d lv bf rl x : Int} (h : x ∈ violL cs d lv bf rl) : x ∈ actC cs d lv := (List.mem_filter.1 h).1
end Go.Proofs.YtphgddanbgdemaaDoor
