/-
  The plain law of sharing an amount by weights: the largest remainders get one more. Condition: the weights' sum is greater than 0.
-/
import Derived.Test.YtfcmgmcidngjeaaProg
import Derived.Test.YtfcmgmcidngjeaaSrt
namespace Go.Proofs.Ytfcmgmcidngjeaa
def remA (a S : Int) (ws : List Int) (i : Int) : Int := a * ws.getD i.toNat 0 % S
def idxs (n : Nat) : List Int := (List.range n).map fun k : Nat => (k : Int)
def cmpA (a S : Int) (ws : List Int) (i k : Int) : Int := remA a S ws k - remA a S ws i
def ordA (a S : Int) (ws : List Int) : List Int := sortK (cmpA a S ws) (idxs ws.length)
def floA (a S : Int) (ws : List Int) : List Int := ws.map fun w => a * w / S
def leftA (a S : Int) (ws : List Int) : Int := a - (floA a S ws).sum
def incAt (out : List Int) (i : Int) : List Int := out.set i.toNat (out.getD i.toNat 0 + 1)
def shareL (a : Int) (ws : List Int) : List Int := ((ordA a ws.sum ws).take (leftA a ws.sum ws).toNat).foldl incAt (floA a ws.sum ws)
def Rk (a S : Int) (ws : List Int) (x y : Int) : Prop := remA a S ws y < remA a S ws x ∨ remA a S ws x = remA a S ws y ∧ x < y
theorem idxs_mem {n : Nat} {i : Int} : i ∈ idxs n ↔ 0 ≤ i ∧ i < n := by
  unfold idxs
  rw [List.mem_map]
  constructor
  · rintro ⟨k, hk, rfl⟩; rw [List.mem_range] at hk; omega
  · rintro ⟨h1, h2⟩; exact ⟨i.toNat, by rw [List.mem_range]; omega, by omega⟩
theorem idxs_length (n : Nat) : (idxs n).length = n := by simp [idxs]
theorem idxs_lt (n : Nat) : (idxs n).Pairwise fun x z => x < z := by
  unfold idxs
  rw [List.pairwise_map]
  exact List.pairwise_lt_range.imp fun h => by omega
theorem idxs_nodup (n : Nat) : (idxs n).Nodup := (idxs_lt n).imp fun h => by omega
theorem ordA_spec (a S : Int) (ws : List Int) : (ordA a S ws).Pairwise (Rk a S ws) ∧ (ordA a S ws).Perm (idxs ws.length) := by
  refine sortK_sorted (fun x y z _ _ _ h1 h2 => ?_) ((idxs_lt _).imp fun {x z} h => ?_)
  · simp only [Rk] at *; omega
  · simp only [Rk, cmpA]; omega
theorem sum_set : ∀ (l : List Int) (i : Nat) (v : Int), i < l.length → (l.set i v).sum = l.sum - l.getD i 0 + v
  | x :: t, 0, v, _ => by simp; omega
  | x :: t, i + 1, v, h => by
    have := sum_set t i v (by simpa using h)
    simp [List.getD_cons_succ] at *
    omega
theorem incAt_length (out : List Int) (i : Int) : (incAt out i).length = out.length := by simp [incAt]
theorem foldl_inc : ∀ (is : List Int) (out : List Int), is.Nodup → (∀ i ∈ is, 0 ≤ i ∧ i < out.length) →
    (is.foldl incAt out).length = out.length ∧ (is.foldl incAt out).sum = out.sum + is.length ∧ ∀ k, k < out.length → (is.foldl incAt out).getD k 0 = out.getD k 0 + if (k : Int) ∈ is then 1 else 0
  | [], out, _, _ => by simp
  | i :: t, out, hn, hi => by
    rw [List.nodup_cons] at hn
    have h0 := hi i (by simp)
    obtain ⟨h1, h2, h3⟩ := foldl_inc t (incAt out i) hn.2 (fun j hj => by rw [incAt_length]; exact hi j (by simp [hj]))
    rw [incAt_length] at h1 h3
    refine ⟨h1, ?_, fun k hk => ?_⟩
    · rw [List.foldl_cons, h2, incAt, sum_set _ _ _ (by omega), List.length_cons]; omega
    · rw [List.foldl_cons, h3 k hk, incAt]
      by_cases hki : (k : Int) = i
      · subst hki
        rw [if_neg hn.1, if_pos (by simp)]
        simp [List.getD_eq_getElem?_getD, hk]
      · have : (k : Int) ∈ i :: t ↔ (k : Int) ∈ t := by simp [hki]
        simp only [this]
        congr 1
        rw [List.getD_eq_getElem?_getD, List.getElem?_set_ne (by omega), ← List.getD_eq_getElem?_getD]
theorem sum_map_le {f : Int → Int} {b : Int} : ∀ (l : List Int), (∀ x ∈ l, f x ≤ b) → (l.map f).sum ≤ l.length * b
  | [], _ => by simp
  | x :: t, h => by
    have h1 := sum_map_le t (fun y hy => h y (by simp [hy]))
    have h2 := h x (by simp)
    rw [List.map_cons, List.sum_cons, List.length_cons, Int.natCast_succ, Int.add_mul]
    omega
theorem sum_map_ge {f : Int → Int} : ∀ (l : List Int), (∀ x ∈ l, 0 ≤ f x) → 0 ≤ (l.map f).sum
  | [], _ => by simp
  | x :: t, h => by
    have h1 := sum_map_ge t (fun y hy => h y (by simp [hy]))
    have h2 := h x (by simp)
    rw [List.map_cons, List.sum_cons]
    omega
theorem sum_parts (a S : Int) : ∀ (ws : List Int), (ws.map fun w => a * w / S).sum * S + (ws.map fun w => a * w % S).sum = a * ws.sum
  | [] => by simp
  | w :: t => by
    have h1 := sum_parts a S t
    have h2 := Int.mul_ediv_add_emod (a * w) S
    simp only [List.map_cons, List.sum_cons, Int.add_mul, Int.mul_add]
    rw [Int.mul_comm S] at h2
    omega
theorem perm_sum_map {f : Int → Int} {l l' : List Int} (h : l.Perm l') : (l.map f).sum = (l'.map f).sum := by
  induction h with
  | nil => rfl
  | cons _ _ ih => simp [ih]
  | swap _ _ _ => simp; omega
  | trans _ _ h1 h2 => exact h1.trans h2
theorem getD_map (f : Int → Int) (ws : List Int) (k : Nat) (h : k < ws.length) : (ws.map f).getD k 0 = f (ws.getD k 0) := by
  simp [List.getD_eq_getElem?_getD, h]
theorem map_idxs (f : Int → Int) (ws : List Int) : (idxs ws.length).map (fun i => f (ws.getD i.toNat 0)) = ws.map f := by
  unfold idxs
  rw [List.map_map]
  apply List.ext_getElem
  · simp
  · intro i h1 h2
    simp at h1 h2
    simp [List.getD_eq_getElem?_getD, h2]
/-- All that is asked of the shares of an amount: a: the amount, S: the sum of the weights. -/
structure Shared (a : Int) (ws xs : List Int) : Prop where
  len : xs.length = ws.length
  sum : xs.sum = a
  left0 : 0 ≤ leftA a ws.sum ws
  leftn : leftA a ws.sum ws < ws.length
  each : ∀ k, k < ws.length → xs.getD k 0 = a * ws.getD k 0 / ws.sum ∨ xs.getD k 0 = a * ws.getD k 0 / ws.sum + 1 ∧ 1 ≤ a * ws.getD k 0 % ws.sum
  more : ∀ i k, i < ws.length → k < ws.length → xs.getD i 0 = a * ws.getD i 0 / ws.sum + 1 → a * ws.getD i 0 % ws.sum < a * ws.getD k 0 % ws.sum → xs.getD k 0 = a * ws.getD k 0 / ws.sum + 1
theorem left_bounds {a : Int} {ws : List Int} (hS : 0 < ws.sum) : 0 ≤ leftA a ws.sum ws ∧ leftA a ws.sum ws < ws.length ∧ leftA a ws.sum ws * ws.sum = ((ordA a ws.sum ws).map (remA a ws.sum ws)).sum := by
  have h1 := sum_parts a ws.sum ws
  have h2 : ((ordA a ws.sum ws).map (remA a ws.sum ws)).sum = (ws.map fun w => a * w % ws.sum).sum := by
    rw [perm_sum_map (ordA_spec a ws.sum ws).2]
    exact congrArg List.sum (map_idxs (fun w => a * w % ws.sum) ws)
  have h3 : leftA a ws.sum ws * ws.sum = (ws.map fun w => a * w % ws.sum).sum := by
    unfold leftA floA
    rw [Int.sub_mul]; omega
  have h4 := sum_map_ge (f := fun w => a * w % ws.sum) ws (fun w _ => Int.emod_nonneg _ (by omega))
  have h5 := sum_map_le (f := fun w => a * w % ws.sum) (b := ws.sum - 1) ws (fun w _ => by have := Int.emod_lt_of_pos (a * w) hS; omega)
  have hn : 0 < ws.length := by
    rcases Nat.eq_zero_or_pos ws.length with h | h
    · rw [List.eq_nil_of_length_eq_zero h] at hS; simp at hS
    · exact h
  refine ⟨?_, ?_, h3.trans h2.symm⟩
  · rcases (show leftA a ws.sum ws < 0 ∨ 0 ≤ leftA a ws.sum ws by omega) with h | h
    · have := Int.mul_neg_of_neg_of_pos h hS; omega
    · exact h
  · rcases (show leftA a ws.sum ws < ws.length ∨ (ws.length : Int) ≤ leftA a ws.sum ws by omega) with h | h
    · exact h
    · have h6 : (ws.length : Int) * ws.sum ≤ leftA a ws.sum ws * ws.sum := Int.mul_le_mul_of_nonneg_right h (by omega)
      rw [Int.mul_sub, Int.mul_one] at h5
      omega
theorem take_rem {a : Int} {ws : List Int} (hS : 0 < ws.sum) {i : Int} (hi : i ∈ (ordA a ws.sum ws).take (leftA a ws.sum ws).toNat) : 1 ≤ remA a ws.sum ws i := by
  obtain ⟨hl0, _, hl⟩ := left_bounds (a := a) hS
  obtain ⟨hp, _⟩ := ordA_spec a ws.sum ws
  generalize ordA a ws.sum ws = os at *
  generalize leftA a ws.sum ws = L at *
  rcases (show remA a ws.sum ws i < 1 ∨ 1 ≤ remA a ws.sum ws i by omega) with h | h
  · exfalso
    obtain ⟨p, hp1, rfl⟩ := List.getElem_of_mem hi
    rw [List.length_take] at hp1
    rw [List.getElem_take] at h
    have hd : os.drop p = os[p] :: os.drop (p + 1) := List.drop_eq_getElem_cons (by omega)
    have h1 : (os.map (remA a ws.sum ws)).sum = ((os.take p).map (remA a ws.sum ws)).sum + ((os.drop p).map (remA a ws.sum ws)).sum := by
      rw [← List.sum_append, ← List.map_append, List.take_append_drop]
    have h2 := sum_map_le (f := remA a ws.sum ws) (b := ws.sum) (os.take p) (fun x _ => by have := Int.emod_lt_of_pos (a * ws.getD x.toNat 0) hS; unfold remA; omega)
    have h3 := sum_map_le (f := remA a ws.sum ws) (b := 0) (os.drop p) (fun x hx => by
      rw [← List.take_append_drop p os, List.pairwise_append] at hp
      have h5 := hp.2.1
      rw [hd] at h5 hx
      rcases List.mem_cons.1 hx with rfl | hx
      · omega
      · have := List.rel_of_pairwise_cons h5 hx
        simp only [Rk] at this; omega)
    rw [List.length_take] at h2
    have h6 : ((min p os.length : Nat) : Int) * ws.sum ≤ (L - 1) * ws.sum := Int.mul_le_mul_of_nonneg_right (by omega) (by omega)
    rw [Int.sub_mul] at h6
    omega
  · exact h
theorem take_more {a : Int} {ws : List Int} {n : Nat} {i k : Int} (hi : i ∈ (ordA a ws.sum ws).take n) (hk : 0 ≤ k ∧ k < ws.length) (hlt : remA a ws.sum ws i < remA a ws.sum ws k) : k ∈ (ordA a ws.sum ws).take n := by
  obtain ⟨hp, hq⟩ := ordA_spec a ws.sum ws
  have hm : k ∈ ordA a ws.sum ws := hq.mem_iff.2 (idxs_mem.2 hk)
  generalize ordA a ws.sum ws = os at *
  rw [← List.take_append_drop n os] at hm hp
  rcases List.mem_append.1 hm with h | h
  · exact h
  · have := (List.pairwise_append.1 hp).2.2 i hi k h
    simp only [Rk] at this; omega
theorem shareL_spec {a : Int} {ws : List Int} (hS : 0 < ws.sum) : Shared a ws (shareL a ws) := by
  obtain ⟨hl0, hln, _⟩ := left_bounds (a := a) hS
  have hp := (ordA_spec a ws.sum ws).2
  have hlen : (ordA a ws.sum ws).length = ws.length := by rw [hp.length_eq, idxs_length]
  have hnd : (ordA a ws.sum ws).Nodup := hp.nodup_iff.2 (idxs_nodup _)
  obtain ⟨h1, h2, h3⟩ := foldl_inc ((ordA a ws.sum ws).take (leftA a ws.sum ws).toNat) (floA a ws.sum ws) (hnd.sublist (List.take_sublist _ _)) (fun i hi => by
    have := idxs_mem.1 (hp.mem_iff.1 (List.mem_of_mem_take hi))
    simpa [floA] using this)
  have hfl : (floA a ws.sum ws).length = ws.length := by simp [floA]
  have hg : ∀ k, k < ws.length → (floA a ws.sum ws).getD k 0 = a * ws.getD k 0 / ws.sum := fun k hk => getD_map (fun w => a * w / ws.sum) ws k hk
  rw [hfl] at h3 h1
  have hr : ∀ k : Nat, remA a ws.sum ws (k : Int) = a * ws.getD k 0 % ws.sum := fun k => by simp [remA]
  refine ⟨h1, ?_, hl0, hln, fun k hk => ?_, fun i k hi hk hx hlt => ?_⟩
  · show _ = a
    unfold shareL
    rw [h2, List.length_take, hlen]
    unfold leftA at *
    omega
  · unfold shareL
    rw [h3 k hk, hg k hk]
    by_cases hm : (k : Int) ∈ (ordA a ws.sum ws).take (leftA a ws.sum ws).toNat
    · right; rw [if_pos hm]
      exact ⟨rfl, by rw [← hr]; exact take_rem hS hm⟩
    · left; rw [if_neg hm]; omega
  · unfold shareL at *
    rw [h3 i hi, hg i hi] at hx
    rw [h3 k hk, hg k hk]
    have hm : (i : Int) ∈ (ordA a ws.sum ws).take (leftA a ws.sum ws).toNat := by
      by_cases hm : (i : Int) ∈ (ordA a ws.sum ws).take (leftA a ws.sum ws).toNat
      · exact hm
      · rw [if_neg hm] at hx; omega
    rw [if_pos (take_more hm (by omega) (by rw [hr, hr]; exact hlt))]
end Go.Proofs.Ytfcmgmcidngjeaa
