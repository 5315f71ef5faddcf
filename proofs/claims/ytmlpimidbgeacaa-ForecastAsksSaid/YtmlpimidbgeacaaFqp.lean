/-
  The plain law of a quantile: the least flow up to which the weights suffice; it is found in the sorted list, it is one number, weights that are multiplied change nothing; what exceeds it. No condition.
-/
import Derived.Test.YtmlpimidbgeacaaProg
import Derived.Test.YtmlpimidbgeacaaFme
namespace Go.Proofs.Ytmlpimidbgeacaa

theorem sumS_perm {f : Sc → Int} {a b : List Sc} (h : a.Perm b) : sumS f a = sumS f b := by
  induction h with
  | nil => rfl
  | cons x _ ih => simp only [sumS]; rw [ih]
  | swap x y l => simp only [sumS]; omega
  | trans _ _ h1 h2 => exact h1.trans h2
theorem sumS_le {f g : Sc → Int} : ∀ (ss : List Sc), (∀ s ∈ ss, f s ≤ g s) → sumS f ss ≤ sumS g ss
  | [], _ => by simp [sumS]
  | s :: t, h => by
    have h1 := h s (by simp)
    have h2 := sumS_le t (fun s hs => h s (by simp [hs]))
    simp only [sumS]; omega
theorem sumS_congr {f g : Sc → Int} (ss : List Sc) (h : ∀ s ∈ ss, f s = g s) : sumS f ss = sumS g ss := by
  have h1 := sumS_le ss (fun s hs => Int.le_of_eq (h s hs))
  have h2 := sumS_le ss (fun s hs => Int.le_of_eq (h s hs).symm)
  omega
theorem sumS_zero (ss : List Sc) {f : Sc → Int} (h : ∀ s ∈ ss, f s = 0) : sumS f ss = 0 := by
  induction ss with
  | nil => rfl
  | cons s t ih => simp only [sumS]; rw [h s (by simp), ih (fun s hs => h s (by simp [hs]))]; rfl
theorem sumS_nonneg (ss : List Sc) {f : Sc → Int} (h : ∀ s ∈ ss, 0 ≤ f s) : 0 ≤ sumS f ss := by
  have := sumS_le (f := fun _ => 0) ss h
  rw [sumS_zero ss (fun _ _ => rfl)] at this
  exact this
theorem sumS_mul (K : Int) {f : Sc → Int} : ∀ (ss : List Sc), sumS (fun s => K * f s) ss = K * sumS f ss
  | [] => by simp [sumS]
  | s :: t => by simp only [sumS]; rw [sumS_mul K t, Int.mul_add]
theorem sumS_map {f : Sc → Int} (g : Sc → Sc) : ∀ (ss : List Sc), sumS f (ss.map g) = sumS (fun s => f (g s)) ss
  | [] => rfl
  | s :: t => by simp only [List.map_cons, sumS]; rw [sumS_map g t]
theorem sumS_twice {f : Sc → Int} (g : Sc → Sc) : ∀ (ss : List Sc), sumS f (ss.flatMap fun s => [g s, g s]) = 2 * sumS (fun s => f (g s)) ss
  | [] => rfl
  | s :: t => by
    rw [List.flatMap_cons, sumS_append, sumS_twice g t]
    simp only [sumS]; omega
theorem sumS_split {f : Sc → Int} (k : Nat) (ss : List Sc) : sumS f ss = sumS f (ss.take k) + sumS f (ss.drop k) := by
  conv => lhs; rw [← List.take_append_drop k ss, sumS_append]
/-- The weights of all. -/
def wAll (ss : List Sc) : Int := sumS (wOf fun _ => true) ss
/-- The weights up to x. -/
def wLe (f : Sc → Int) (x : Int) (ss : List Sc) : Int := sumS (wOf fun s => decide (f s ≤ x)) ss
theorem wAll_wt (ss : List Sc) : wAll ss = sumS (fun s => s.wt) ss := sumS_congr ss fun s _ => by simp [wOf]
theorem wLe_wt (f : Sc → Int) (x : Int) (ss : List Sc) : wLe f x ss = sumS (fun s => if f s ≤ x then s.wt else 0) ss := sumS_congr ss fun s _ => by simp [wOf]
/-- x is the quantile. -/
def QV (f : Sc → Int) (ss : List Sc) (num den x : Int) : Prop := (∃ s ∈ ss, f s = x) ∧ num * wAll ss ≤ den * wLe f x ss ∧ ∀ s ∈ ss, f s < x → den * wLe f (f s) ss < num * wAll ss
theorem qv_le {f : Sc → Int} {ss : List Sc} {num den x y : Int} (hx : QV f ss num den x) (hy : QV f ss num den y) : x ≤ y := by
  obtain ⟨s, hs, e⟩ := hy.1
  rcases Int.lt_or_le y x with h | h
  · have h1 := hx.2.2 s hs (by omega)
    rw [e] at h1
    have h2 := hy.2.1
    omega
  · exact h
theorem qv_one {f : Sc → Int} {ss : List Sc} {num den x y : Int} (hx : QV f ss num den x) (hy : QV f ss num den y) : x = y := by
  have := qv_le hx hy; have := qv_le hy hx; omega
theorem mul_lt {d a b : Int} (hd : 1 ≤ d) (h : a ≤ b) : d * a ≤ d * b := Int.mul_le_mul_of_nonneg_left h (by omega)
theorem qv_sorted {f : Sc → Int} {ss zs : List Sc} {num den : Int} (hp : zs.Perm ss) (ho : zs.Pairwise fun a b => f a ≤ f b) (hw : ∀ s ∈ ss, 0 ≤ s.wt) (hd : 1 ≤ den) {k : Nat} (hk : k < zs.length) (h1 : num * wAll ss ≤ den * sumS (fun s => s.wt) (zs.take (k + 1))) (h0 : den * sumS (fun s => s.wt) (zs.take k) < num * wAll ss) : QV f ss num den (f zs[k]) := by
  have hwz : ∀ s ∈ zs, 0 ≤ s.wt := fun s hs => hw s (hp.mem_iff.1 hs)
  refine ⟨⟨zs[k], hp.mem_iff.1 (List.getElem_mem hk), rfl⟩, ?_, fun s _ hlt => ?_⟩
  · have e : sumS (fun s => s.wt) (zs.take (k + 1)) ≤ wLe f (f zs[k]) ss := by
      rw [wLe_wt, ← sumS_perm hp, sumS_split (k + 1) zs]
      have a1 : sumS (fun s => s.wt) (zs.take (k + 1)) = sumS (fun s => if f s ≤ f zs[k] then s.wt else 0) (zs.take (k + 1)) := sumS_congr _ fun s hs => by
        obtain ⟨j, hj, rfl⟩ := List.getElem_of_mem hs
        rw [List.length_take] at hj
        rw [List.getElem_take, if_pos]
        rcases Nat.lt_or_ge j k with h | h
        · exact List.pairwise_iff_getElem.1 ho j k (by omega) hk h
        · obtain rfl : j = k := by omega
          exact Int.le_refl _
      have a2 : 0 ≤ sumS (fun s => if f s ≤ f zs[k] then s.wt else 0) (zs.drop (k + 1)) := sumS_nonneg _ fun s hs => by
        have := hwz s (List.mem_of_mem_drop hs)
        split <;> omega
      omega
    have := mul_lt hd e
    omega
  · have e : wLe f (f s) ss ≤ sumS (fun s => s.wt) (zs.take k) := by
      rw [wLe_wt, ← sumS_perm hp, sumS_split k zs]
      have a1 : sumS (fun r => if f r ≤ f s then r.wt else 0) (zs.take k) ≤ sumS (fun s => s.wt) (zs.take k) := sumS_le _ fun r hr => by
        have := hwz r (List.mem_of_mem_take hr)
        split <;> omega
      have a2 : sumS (fun r => if f r ≤ f s then r.wt else 0) (zs.drop k) = 0 := sumS_zero _ fun r hr => by
        obtain ⟨j, hj, rfl⟩ := List.getElem_of_mem hr
        rw [List.length_drop] at hj
        rw [List.getElem_drop, if_neg]
        have : f zs[k] ≤ f (zs[k + j]'(by omega)) := by
          rcases Nat.eq_zero_or_pos j with h | h
          · subst h; exact Int.le_refl _
          · exact List.pairwise_iff_getElem.1 ho k (k + j) hk (by omega) (by omega)
        omega
      omega
    have := mul_lt hd e
    omega
/-- weights that are multiplied change nothing -/
theorem qv_scale {f f' : Sc → Int} {ss ss' : List Sc} {num den x K : Int} (hK : 1 ≤ K) (hm : ∀ y, (∃ s ∈ ss', f' s = y) ↔ ∃ s ∈ ss, f s = y) (ha : wAll ss' = K * wAll ss) (hl : ∀ y, wLe f' y ss' = K * wLe f y ss) (h : QV f' ss' num den x) : QV f ss num den x := by
  obtain ⟨h1, h2, h3⟩ := h
  refine ⟨(hm x).1 h1, ?_, fun s hs hlt => ?_⟩
  · rw [ha, hl, Int.mul_left_comm, Int.mul_left_comm den] at h2
    exact Int.le_of_mul_le_mul_left h2 (by omega)
  · obtain ⟨s', hs', e⟩ := (hm (f s)).2 ⟨s, hs, rfl⟩
    have h4 := h3 s' hs' (by omega)
    rw [e, ha, hl, Int.mul_left_comm, Int.mul_left_comm num] at h4
    exact Int.lt_of_mul_lt_mul_left h4 (by omega)
theorem sum_not (p : Sc → Bool) : ∀ (ss : List Sc), sumS (wOf p) ss + sumS (wOf fun s => !p s) ss = wAll ss
  | [] => rfl
  | s :: t => by
    have ih := sum_not p t
    have e : wOf p s + wOf (fun s => !p s) s = s.wt := by
      show (if p s = true then s.wt else 0) + (if (!p s) = true then s.wt else 0) = s.wt
      by_cases h : p s = true
      · rw [if_pos h, if_neg (by rw [h]; decide)]; omega
      · rw [if_neg h, if_pos (by rw [Bool.not_eq_true] at h; rw [h]; decide)]; omega
    have e2 : wOf (fun _ => true) s = s.wt := by simp [wOf]
    unfold wAll at *
    simp only [sumS]
    omega
theorem wGt (f : Sc → Int) (x : Int) (ss : List Sc) : sumS (wOf fun s => decide (x < f s)) ss = wAll ss - wLe f x ss := by
  have h := sum_not (fun s => decide (f s ≤ x)) ss
  have e : sumS (wOf fun s => !decide (f s ≤ x)) ss = sumS (wOf fun s => decide (x < f s)) ss := sumS_congr ss fun s _ => by
    have : (!decide (f s ≤ x)) = decide (x < f s) := by rw [← decide_not]; congr 1; simp
    simp only [wOf, this]
  unfold wLe
  omega
/-- below a quantile the weights do not suffice -/
theorem qv_below {f : Sc → Int} {ss : List Sc} {num den x : Int} (_ : ∀ s ∈ ss, 0 ≤ s.wt) (h : QV f ss num den x) (hn : 0 < num * wAll ss) : den * wLe f (x - 1) ss < num * wAll ss := by
  have key : ∀ l : List Sc, (∀ s ∈ l, s ∈ ss) → (∀ s ∈ l, ¬ f s < x) ∨ ∃ m ∈ l, f m < x ∧ ∀ s ∈ l, f s < x → f s ≤ f m := by
    intro l
    induction l with
    | nil => intro _; exact .inl (by simp)
    | cons a t ih =>
      intro hin
      by_cases ha : f a < x
      · rcases ih (fun s hs => hin s (by simp [hs])) with h0 | ⟨m, hm, hmx, hmm⟩
        · exact .inr ⟨a, by simp, ha, fun s hs hlt => by
            rcases List.mem_cons.1 hs with rfl | hs
            · omega
            · exact absurd hlt (h0 s hs)⟩
        · by_cases hc : f a ≤ f m
          · exact .inr ⟨m, by simp [hm], hmx, fun s hs hlt => by
              rcases List.mem_cons.1 hs with rfl | hs
              · exact hc
              · exact hmm s hs hlt⟩
          · exact .inr ⟨a, by simp, ha, fun s hs hlt => by
              rcases List.mem_cons.1 hs with rfl | hs
              · omega
              · have := hmm s hs hlt; omega⟩
      · rcases ih (fun s hs => hin s (by simp [hs])) with h0 | ⟨m, hm, hmx, hmm⟩
        · exact .inl fun s hs => by
            rcases List.mem_cons.1 hs with rfl | hs
            · exact ha
            · exact h0 s hs
        · exact .inr ⟨m, by simp [hm], hmx, fun s hs hlt => by
            rcases List.mem_cons.1 hs with rfl | hs
            · exact absurd hlt ha
            · exact hmm s hs hlt⟩
  rcases key ss (fun _ h => h) with h0 | ⟨m, hm, hmx, hmm⟩
  · have e : wLe f (x - 1) ss = 0 := by
      rw [wLe_wt]
      exact sumS_zero _ fun s hs => by rw [if_neg]; have := h0 s hs; omega
    rw [e, Int.mul_zero]; exact hn
  · have e : wLe f (x - 1) ss = wLe f (f m) ss := by
      rw [wLe_wt, wLe_wt]
      refine sumS_congr _ fun s hs => ?_
      by_cases hc : f s ≤ f m
      · rw [if_pos (by omega), if_pos hc]
      · rw [if_neg (fun h5 => hc (hmm s hs (by omega))), if_neg hc]
    rw [e]; exact h.2.2 m hm hmx
/-- enough weight up to x -/
def Enough (f : Sc → Int) (ss : List Sc) (num den x : Int) : Prop := num * wAll ss ≤ den * wLe f x ss
theorem max_of (f : Sc → Int) : ∀ (l : List Sc), l ≠ [] → ∃ m ∈ l, ∀ s ∈ l, f s ≤ f m
  | [], h => absurd rfl h
  | [a], _ => ⟨a, by simp, by simp⟩
  | a :: b :: t, _ => by
    obtain ⟨m, hm, h⟩ := max_of f (b :: t) (by simp)
    by_cases hc : f a ≤ f m
    · exact ⟨m, by simp only [List.mem_cons] at *; exact .inr hm, fun s hs => by
        rcases List.mem_cons.1 hs with rfl | hs
        · exact hc
        · exact h s hs⟩
    · exact ⟨a, by simp, fun s hs => by
        rcases List.mem_cons.1 hs with rfl | hs
        · exact Int.le_refl _
        · have := h s hs; omega⟩
theorem wLe_all {f : Sc → Int} {ss : List Sc} {x : Int} (h : ∀ s ∈ ss, f s ≤ x) : wLe f x ss = wAll ss := by
  rw [wLe_wt, wAll_wt]; exact sumS_congr ss fun s hs => if_pos (h s hs)
theorem enough_some {f : Sc → Int} {ss : List Sc} {num den : Int} (hne : ss ≠ []) (hw : ∀ s ∈ ss, 0 ≤ s.wt) (hn : num ≤ den) : ∃ s ∈ ss, Enough f ss num den (f s) := by
  obtain ⟨m, hm, h⟩ := max_of f ss hne
  refine ⟨m, hm, ?_⟩
  unfold Enough
  rw [wLe_all h]
  exact Int.mul_le_mul_of_nonneg_right hn (sumS_nonneg _ fun s hs => by unfold wOf; simp; exact hw s hs)
/-- the least one so far that has enough -/
def RB (f : Sc → Int) (ss : List Sc) (num den : Int) (k : Nat) (best : Int) : Prop := (best = -1 ∧ ∀ s ∈ ss.take k, ¬ Enough f ss num den (f s)) ∨ (0 ≤ best ∧ (∃ s ∈ ss.take k, f s = best) ∧ Enough f ss num den best ∧ ∀ s ∈ ss.take k, Enough f ss num den (f s) → best ≤ f s)
theorem rb_end {f : Sc → Int} {ss : List Sc} {num den best : Int} {k : Nat} (hk : ss.length ≤ k) (hne : ss ≠ []) (hw : ∀ s ∈ ss, 0 ≤ s.wt) (hn : num ≤ den) (h : RB f ss num den k best) : QV f ss num den best := by
  unfold RB at h
  rw [List.take_of_length_le hk] at h
  rcases h with ⟨_, h⟩ | ⟨h0, h1, h2, h3⟩
  · obtain ⟨s, hs, he⟩ := enough_some (f := f) hne hw hn
    exact absurd he (h s hs)
  · exact ⟨h1, h2, fun s hs hlt => by
      rcases Int.lt_or_le (den * wLe f (f s) ss) (num * wAll ss) with h | h
      · exact h
      · have := h3 s hs h; omega⟩
theorem rb_step {f : Sc → Int} {ss : List Sc} {num den best : Int} {k : Nat} {s : Sc} (hk : k < ss.length) (es : ss[k] = s) (h : RB f ss num den k best) (h0 : 0 ≤ f s) :
    (Enough f ss num den (f s) → best < 0 ∨ f s < best → RB f ss num den (k + 1) (f s)) ∧ ((¬ Enough f ss num den (f s) ∨ (¬ best < 0 ∧ ¬ f s < best)) → RB f ss num den (k + 1) best) := by
  have e : ss.take (k + 1) = ss.take k ++ [s] := by rw [List.take_succ_eq_append_getElem hk, es]
  unfold RB at *
  rw [e]
  refine ⟨fun he hb => .inr ⟨h0, ⟨s, by simp, rfl⟩, he, fun r hr hre => ?_⟩, fun hno => ?_⟩
  · rcases List.mem_append.1 hr with hr | hr
    · rcases h with ⟨hb1, hn⟩ | ⟨hb0, _, _, hm⟩
      · exact absurd hre (hn r hr)
      · have := hm r hr hre; omega
    · rw [List.mem_singleton] at hr; subst hr; exact Int.le_refl _
  · rcases h with ⟨hb1, hn⟩ | ⟨hb0, ⟨r0, hr0, hrb⟩, hbe, hm⟩
    · refine .inl ⟨hb1, fun r hr => ?_⟩
      rcases List.mem_append.1 hr with hr | hr
      · exact hn r hr
      · rw [List.mem_singleton] at hr; subst hr
        rcases hno with h | h
        · exact h
        · omega
    · refine .inr ⟨hb0, ⟨r0, by simp [hr0], hrb⟩, hbe, fun r hr hre => ?_⟩
      rcases List.mem_append.1 hr with hr | hr
      · exact hm r hr hre
      · rw [List.mem_singleton] at hr; subst hr
        rcases hno with h | h
        · exact absurd hre h
        · omega
/-- the last quantile is the greatest flow -/
theorem qv_last {f : Sc → Int} {ss : List Sc} {q y : Int} (hq : 1 ≤ q) (hw : ∀ s ∈ ss, 1 ≤ s.wt) (h : QV f ss q q y) : ∀ s ∈ ss, f s ≤ y := by
  intro s hs
  rcases Int.lt_or_le y (f s) with hlt | hle
  · have h2 : wAll ss ≤ wLe f y ss := Int.le_of_mul_le_mul_left h.2.1 (by omega)
    obtain ⟨a, b, rfl⟩ := List.append_of_mem hs
    rw [wAll_wt, wLe_wt, sumS_append, sumS_append] at h2
    simp only [sumS] at h2
    rw [if_neg (by omega)] at h2
    have a1 : sumS (fun s => if f s ≤ y then s.wt else 0) a ≤ sumS (fun s => s.wt) a := sumS_le a fun r hr => by
      have := hw r (by simp [hr]); split <;> omega
    have a2 : sumS (fun s => if f s ≤ y then s.wt else 0) b ≤ sumS (fun s => s.wt) b := sumS_le b fun r hr => by
      have := hw r (by simp [hr]); split <;> omega
    have := hw s (by simp)
    omega
  · exact hle
theorem mean_bnd {f : Sc → Int} {ss : List Sc} {lo hi : Int} (hp : 1 ≤ wAll ss) (hw : ∀ s ∈ ss, 0 ≤ s.wt) (h : ∀ s ∈ ss, lo ≤ f s ∧ f s ≤ hi) : lo ≤ sumS (fun s => s.wt * f s) ss / wAll ss ∧ sumS (fun s => s.wt * f s) ss / wAll ss ≤ hi := by
  constructor
  · refine Int.le_ediv_of_mul_le (by omega) ?_
    rw [wAll_wt, ← sumS_mul]
    refine sumS_le _ fun s hs => ?_
    rw [Int.mul_comm lo]
    exact Int.mul_le_mul_of_nonneg_left (h s hs).1 (hw s hs)
  · refine Int.ediv_le_of_le_mul (by omega) ?_
    rw [wAll_wt, ← sumS_mul]
    refine sumS_le _ fun s hs => ?_
    rw [Int.mul_comm hi]
    exact Int.mul_le_mul_of_nonneg_left (h s hs).2 (hw s hs)
end Go.Proofs.Ytmlpimidbgeacaa
