/-
  Plain law of an insertion sort of a segment. No condition.
-/
import Derived.Test.YtfcmgmcidngjeaaProg
import Derived.Test.YtfcmgmcidngjeaaPds
namespace Go.Proofs.Ytfcmgmcidngjeaa
open Go.RowKit
section
variable {f : Int → Int → Int} {ok : Int → Prop} {n a i : Nat}
theorem insIn_seg (hi : i < n) : ∀ (j : Nat) (ys : List Int), j ≤ i → RowG f ok n ys → LInv f a (i + 1) j ys → Seg a (i + 1) ys (insIn f a j ys) ∧ SortS f a (i + 1) (insIn f a j ys)
  | 0, ys, _, hG, h => by
    have e : insIn f a 0 ys = ys := rfl
    rw [e]
    exact ⟨Seg.refl _ _ _, linv_stop hG.cmp hG.oks (by rw [hG.len]; omega) (by omega) h (fun h => by omega)⟩
  | j + 1, ys, hj, hG, h => by
    by_cases hc : a < j + 1 ∧ f (ys.getD (j + 1) 0) (ys.getD j 0) < 0
    · have h1 : Seg a (i + 1) ys (swap2 ys (j + 1) j) := seg_swap (by rw [hG.len]; omega) ⟨by omega, by omega⟩ ⟨by omega, by omega⟩
      have h2 := linv_step (by rw [hG.len]; omega) hc.1 (by omega) h hc.2
      have h3 := insIn_seg hi j (swap2 ys (j + 1) j) (by omega) (hG.seg h1) h2
      rw [insIn_go hc.1 hc.2]
      exact ⟨h1.trans h3.1, h3.2⟩
    · rw [insIn_stop hc]
      exact ⟨Seg.refl _ _ _, linv_stop hG.cmp hG.oks (by rw [hG.len]; omega) (by omega) h (fun h2 => cmp_not hG.cmp hG.oks hG.nod (by rw [hG.len]; omega) (by rw [hG.len]; omega) (by omega) (fun h3 => hc ⟨h2, h3⟩))⟩
theorem insK_seg {xs : List Int} (hG : RowG f ok n xs) : ∀ k, a + k < n → Seg a (a + 1 + k) xs (insK f a k xs) ∧ SortS f a (a + 1 + k) (insK f a k xs)
  | 0, _ => ⟨Seg.refl _ _ _, sort_one⟩
  | k + 1, hk => by
    have h1 := insK_seg hG k (by omega)
    have h2 := insIn_seg (i := a + k + 1) (a := a) (by omega) (a + k + 1) (insK f a k xs) (Nat.le_refl _) (hG.seg h1.1) (fun s t h3 h4 h5 h6 => h1.2 s t h3 h4 (by omega))
    rw [show a + k + 1 + 1 = a + 1 + (k + 1) by omega] at h2
    exact ⟨(h1.1.more (Nat.le_refl _) (by omega)).trans h2.1, h2.2⟩
theorem ins_seg {b : Nat} {xs : List Int} (hG : RowG f ok n xs) (hab : a ≤ b) (hb : b ≤ n) : Seg a b xs (insK f a (b - (a + 1)) xs) ∧ SortS f a b (insK f a (b - (a + 1)) xs) := by
  rcases Nat.lt_or_ge a b with h | h
  · have h1 := insK_seg (a := a) hG (b - (a + 1)) (by omega)
    rwa [show a + 1 + (b - (a + 1)) = b by omega] at h1
  · rw [show b - (a + 1) = 0 by omega]
    exact ⟨Seg.refl _ _ _, fun s t h1 h2 h3 => by omega⟩
end
end Go.Proofs.Ytfcmgmcidngjeaa
