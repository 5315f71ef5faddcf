/-
  The contract of slices.SortFunc by a method value at 200 elements or fewer, in the words of the insertion sort. Condition: the comparing method puts different elements in one order and writes nothing that was there.
-/
import Derived.Test.YtfcmgmcidngjeaaProg
import Derived.Test.YtfcmgmcidngjeaaPdw
import Derived.Test.YtfcmgmcidngjeaaRgs
namespace Go.Proofs.Ytfcmgmcidngjeaa
open Go.RowKit
section
variable {f : Int → Int → Int} {ok : Int → Prop} {n : Nat} {xs ys : List Int}
theorem sort_pairwise (hG : RowG f ok n ys) (h : SortS f 0 n ys) : ys.Pairwise (fun x y => f x y < 0 ∧ ok x ∧ ok y) :=
  List.pairwise_iff_getElem.2 fun i j hi hj hij => by
    have h1 := h i j (Nat.zero_le _) hij (by rw [← hG.len]; exact hj)
    simp [List.getD_eq_getElem?_getD, hi, hj] at h1
    exact ⟨h1, hG.oks _ (List.getElem_mem _), hG.oks _ (List.getElem_mem _)⟩
theorem sort_insK (hG : RowG f ok n xs) (hs : Seg 0 n xs ys) (ho : SortS f 0 n ys) : ys = insK f 0 (n - 1) xs := by
  have h1 := ins_seg (a := 0) (b := n) hG (Nat.zero_le _) (Nat.le_refl _)
  rw [show n - (0 + 1) = n - 1 by omega] at h1
  exact perm_sorted_eq (R := fun x y => f x y < 0 ∧ ok x ∧ ok y) (fun x y h1 h2 => hG.cmp.asy x y h1.2.1 h1.2.2 h1.1 h2.1) (hs.perm.trans h1.1.perm.symm) (sort_pairwise (hG.seg hs) ho) (sort_pairwise (hG.seg h1.1) h1.2)
end
theorem sortM_wide (w0 : World) (g : Nat) (kc : FuncId) (rv : Value) (f : Int → Int → Int) (ok : Int → Prop) (hf : CmpSaysM w0 g kc rv f ok) (n c : Nat) (hn : n ≤ 200) (xs : List Int) (hG : RowG f ok n xs) (w : World) (hw : w0.grownBy w (some g)) (hx : IRow w g xs) :
    Calls Try.prog 37 #[.slice (some ⟨g, 0, none⟩) n c, .func (.func kc) #[rv] #[]] w fun e w' => e = .returned (.tuple #[]) ∧ IRow w' g (insK f 0 (n - 1) xs) ∧ w.grownBy w' (some g) := by
  rcases Nat.eq_zero_or_pos n with h | h
  · exact sortM_small w0 g kc rv f ok hf n c (by omega) xs hG.len hG.oks w hw hx
  · refine (sort_any w0 g kc rv f ok hf n c h hn xs hG w hw hx).mono ?_
    rintro e w' ⟨ys, rfl, h1, h2⟩
    have e := sort_insK hG h1.seg h2
    exact ⟨rfl, e ▸ h1.row, h1.grown⟩
end Go.Proofs.Ytfcmgmcidngjeaa
