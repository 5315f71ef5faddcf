/-
  The reference's way to share an amount (the greatest remainder first) is the program's: the plain law. Condition: the weights' sum is greater than 0.
-/
import Derived.Test.YtfcmgmcidngjeaaProg
import Derived.Test.YtfcmgmcidngjeaaShb
namespace Go.Proofs.Ytfcmgmcidngjeaa
open Go.RowKit

def shFE (a : Int) (ws : List Int) : Int := if (!wit a 274877906944 || ws.any fun v => !wit v 10000) = true then 1 else shE a ws
def shFV (a : Int) (ws : List Int) : List Int := if (!wit a 274877906944 || ws.any fun v => !wit v 10000) = true then [] else shV a ws
/-- what is left of the remainders when the first t have got one more -/
def maskK (a S : Int) (ws : List Int) (t : Nat) : List Int := (List.range ws.length).map fun j : Nat => if (j : Int) ∈ (ordA a S ws).take t then -1 else a * ws.getD j 0 % S
/-- the best of the first k: none, or the first greatest -/
def BestK (rest : List Int) (k : Nat) (b : Int) : Prop := (b = -1 ∧ ∀ j, j < k → rest.getD j 0 < 0) ∨ (∃ m : Nat, b = (m : Int) ∧ m < k ∧ 0 ≤ rest.getD m 0 ∧ (∀ j, j < m → rest.getD j 0 < rest.getD m 0) ∧ ∀ j, j < k → rest.getD j 0 ≤ rest.getD m 0)
theorem best_nil (rest : List Int) : BestK rest 0 (-1) := .inl ⟨rfl, fun j h => absurd h (by omega)⟩
theorem best_skip {rest : List Int} {k : Nat} {b : Int} (h : BestK rest k b) (hn : rest.getD k 0 < 0 ∨ (0 ≤ b ∧ rest.getD k 0 ≤ rest.getD b.toNat 0)) : BestK rest (k + 1) b := by
  rcases h with ⟨rfl, h⟩ | ⟨m, rfl, hm, h0, h1, h2⟩
  · refine .inl ⟨rfl, fun j hj => ?_⟩
    rcases Nat.lt_or_ge j k with hk | hk
    · exact h j hk
    · obtain rfl : j = k := by omega
      rcases hn with hn | ⟨hn, _⟩
      · exact hn
      · omega
  · refine .inr ⟨m, rfl, by omega, h0, h1, fun j hj => ?_⟩
    rcases Nat.lt_or_ge j k with hk | hk
    · exact h2 j hk
    · obtain rfl : j = k := by omega
      rcases hn with hn | ⟨_, hn⟩
      · omega
      · simpa using hn
theorem best_take {rest : List Int} {k : Nat} {b : Int} (h : BestK rest k b) (h0 : 0 ≤ rest.getD k 0) (hn : b < 0 ∨ rest.getD b.toNat 0 < rest.getD k 0) : BestK rest (k + 1) (k : Int) := by
  refine .inr ⟨k, rfl, by omega, h0, fun j hj => ?_, fun j hj => ?_⟩
  · rcases h with ⟨rfl, h⟩ | ⟨m, rfl, hm, _, h1, h2⟩
    · have := h j hj; omega
    · rcases hn with hn | hn
      · omega
      · rw [Int.toNat_natCast] at hn
        have := h2 j hj; omega
  · rcases Nat.lt_or_ge j k with hk | hk
    · rcases h with ⟨rfl, h⟩ | ⟨m, rfl, hm, _, h1, h2⟩
      · have := h j hk; omega
      · rcases hn with hn | hn
        · omega
        · rw [Int.toNat_natCast] at hn
          have := h2 j hk; omega
    · obtain rfl : j = k := by omega
      exact Int.le_refl _
theorem maskK_length (a S : Int) (ws : List Int) (t : Nat) : (maskK a S ws t).length = ws.length := by simp [maskK]
theorem maskK_get {a S : Int} {ws : List Int} {t j : Nat} (h : j < ws.length) : (maskK a S ws t).getD j 0 = if (j : Int) ∈ (ordA a S ws).take t then -1 else a * ws.getD j 0 % S := by
  simp [maskK, List.getD_eq_getElem?_getD, h]
theorem ord_nodup (a S : Int) (ws : List Int) : (ordA a S ws).Nodup := (ordA_spec a S ws).2.nodup_iff.2 (idxs_nodup _)
theorem ord_len (a S : Int) (ws : List Int) : (ordA a S ws).length = ws.length := by rw [(ordA_spec a S ws).2.length_eq, idxs_length]
theorem ord_not_before {a S : Int} {ws : List Int} {t : Nat} (h : t < ws.length) : (ordA a S ws).getD t 0 ∉ (ordA a S ws).take t := by
  have hl := ord_len a S ws
  have hn := ord_nodup a S ws
  intro hm
  obtain ⟨i, hi, he⟩ := List.getElem_of_mem hm
  rw [List.length_take] at hi
  rw [List.getElem_take] at he
  rw [List.getD_eq_getElem?_getD, List.getElem?_eq_getElem (by omega), Option.getD_some] at he
  exact List.pairwise_iff_getElem.1 hn i t (by omega) (by omega) (by omega) he
/-- the best of the masked remainders is the next of the order -/
theorem best_ord {a S : Int} {ws : List Int} {t : Nat} {b : Int} (hS : 0 < S) (h : t < ws.length) (hb : BestK (maskK a S ws t) ws.length b) : b = (ordA a S ws).getD t 0 := by
  have hl := ord_len a S ws
  obtain ⟨o0, o1⟩ := ord_get (a := a) (S := S) h
  obtain ⟨o, ho⟩ : ∃ o : Nat, (ordA a S ws).getD t 0 = (o : Int) := ⟨((ordA a S ws).getD t 0).toNat, by omega⟩
  have hon := ord_not_before (a := a) (S := S) h
  rw [ho] at o0 o1 hon ⊢
  have hro : (maskK a S ws t).getD o 0 = a * ws.getD o 0 % S := by rw [maskK_get (by omega), if_neg hon]
  have hr0 : 0 ≤ a * ws.getD o 0 % S := Int.emod_nonneg _ (by omega)
  rcases hb with ⟨_, hb⟩ | ⟨m, rfl, hm, h0, h1, h2⟩
  · have := hb o (by omega); omega
  · by_cases hmo : m = o
    · rw [hmo]
    · have hmn : (m : Int) ∉ (ordA a S ws).take t := by
        intro hx
        rw [maskK_get hm, if_pos hx] at h0
        omega
      have hrm : (maskK a S ws t).getD m 0 = a * ws.getD m 0 % S := by rw [maskK_get hm, if_neg hmn]
      -- m stands behind o in the order
      have hmem : (m : Int) ∈ ordA a S ws := (ordA_spec a S ws).2.mem_iff.2 (idxs_mem.2 ⟨by omega, by omega⟩)
      obtain ⟨i, hi, he⟩ := List.getElem_of_mem hmem
      have hti : t < i := by
        rcases Nat.lt_trichotomy i t with h | h | h
        · exact absurd (List.mem_iff_getElem.2 ⟨i, by rw [List.length_take]; omega, by rw [List.getElem_take]; exact he⟩) hmn
        · subst h
          rw [List.getD_eq_getElem?_getD, List.getElem?_eq_getElem hi, Option.getD_some] at ho
          omega
        · exact h
      have hR := List.pairwise_iff_getElem.1 (ordA_spec a S ws).1 t i (by omega) hi hti
      rw [List.getD_eq_getElem?_getD, List.getElem?_eq_getElem (by omega), Option.getD_some] at ho
      rw [he, ho] at hR
      simp only [Rk, remA, Int.toNat_natCast] at hR
      have h3 := h2 o (by omega)
      rw [hro, hrm] at h3
      rcases hR with hR | ⟨hR, hlt⟩
      · omega
      · have := h1 o (by omega)
        rw [hro, hrm] at this
        omega
theorem maskK_next {a S : Int} {ws : List Int} {t o : Nat} (h : t < ws.length) (ho : (ordA a S ws).getD t 0 = (o : Int)) : maskK a S ws (t + 1) = (maskK a S ws t).set o (-1) := by
  have hl := ord_len a S ws
  apply List.ext_getElem
  · rw [List.length_set, maskK_length, maskK_length]
  · intro j h1 h2
    rw [maskK_length] at h1
    have e1 := maskK_get (a := a) (S := S) (t := t + 1) h1
    have e2 := maskK_get (a := a) (S := S) (t := t) h1
    rw [List.getD_eq_getElem?_getD, List.getElem?_eq_getElem (by rw [maskK_length]; exact h1), Option.getD_some] at e1 e2
    rw [e1, List.getElem_set, e2]
    have ht : (ordA a S ws).take (t + 1) = (ordA a S ws).take t ++ [(o : Int)] := by
      rw [List.take_succ_eq_append_getElem (by omega)]
      rw [List.getD_eq_getElem?_getD, List.getElem?_eq_getElem (by omega), Option.getD_some] at ho
      rw [ho]
    rw [ht]
    by_cases hjo : o = j
    · subst hjo; simp
    · rw [if_neg hjo]
      have : ¬ (j : Int) = (o : Int) := by omega
      simp [this]
theorem maskK_zero (a S : Int) (ws : List Int) : maskK a S ws 0 = (List.range ws.length).map fun j : Nat => a * ws.getD j 0 % S := by simp [maskK]
theorem foldl_zero : ∀ (is : List Int) (n : Nat), is = [] → is.foldl incAt (List.replicate n 0) = List.replicate n 0 := by rintro _ n rfl; rfl
theorem shareL_zero {ws : List Int} (_hS : 0 < ws.sum) : shareL 0 ws = List.replicate ws.length 0 := by
  have hf : floA 0 ws.sum ws = List.replicate ws.length 0 := by
    unfold floA
    rw [show (fun w : Int => 0 * w / ws.sum) = fun _ => 0 by funext w; simp]
    exact List.map_const' ..
  have hl : leftA 0 ws.sum ws = 0 := by unfold leftA; rw [hf]; simp
  unfold shareL
  rw [hl, hf]
  rfl
theorem shV_zero {ws : List Int} (hw : ∀ w ∈ ws, 0 ≤ w ∧ w ≤ 10000) : shV 0 ws = List.replicate ws.length 0 := by
  unfold shV
  by_cases h : ws.sum = 0
  · rw [if_pos h, if_neg (by omega)]
  · rw [if_neg h]
    have := sum_take hw ws.length
    rw [List.take_length] at this
    exact shareL_zero (by omega)
theorem shE_zero (ws : List Int) : shE 0 ws = 0 := by simp [shE]
end Go.Proofs.Ytfcmgmcidngjeaa
