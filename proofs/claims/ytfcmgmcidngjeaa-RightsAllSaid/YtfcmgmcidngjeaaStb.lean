/-
  The contract of slices.SortStableFunc over an own row of at most 20 integers: the insertion sort. Condition: the comparing function answers f and writes nothing that was there.
-/
import Derived.Test.YtfcmgmcidngjeaaProg
import Derived.Test.YtfcmgmcidngjeaaIns
namespace Go.Proofs.Ytfcmgmcidngjeaa
open Go.RowKit
def sortK (f : Int → Int → Int) (xs : List Int) : List Int := insK f 0 (xs.length - 1) xs
theorem insIn_ok {f : Int → Int → Int} {a : Nat} {ok : Int → Prop} : ∀ (j : Nat) {ys : List Int}, (∀ x ∈ ys, ok x) → j < ys.length → ∀ x ∈ insIn f a j ys, ok x
  | 0, _, h, _ => h
  | j + 1, ys, h, hj => by
    unfold insIn
    split
    · exact insIn_ok j (ok_swap h hj) (by rw [swapAt_length]; omega)
    · exact h
theorem insK_ok {f : Int → Int → Int} {a k : Nat} {ok : Int → Prop} {xs : List Int} (h : ∀ x ∈ xs, ok x) (hk : a + k < xs.length) : ∀ x ∈ insK f a k xs, ok x := by
  induction k with
  | zero => exact h
  | succ k ih => exact insIn_ok _ (ih (by omega)) (by rw [insK_length]; omega)
set_option maxHeartbeats 1600000 in
set_option maxRecDepth 20000 in
theorem stb_any (w0 : World) (g : Nat) (kc : FuncId) (cap : Array Value) (f : Int → Int → Int) (ok : Int → Prop) (hf : CmpSays w0 g kc cap f ok) (n c : Nat) (hn : n ≤ 20) (xs : List Int) (hl : xs.length = n) (hok : ∀ x ∈ xs, ok x) (w : World) (hw : w0.grownBy w (some g)) (hx : IRow w g xs) :
    Calls Try.prog 60 #[.slice (some ⟨g, 0, none⟩) n c, .int .i64 n, .func (.func kc) #[] cap] w fun e w' => e = .returned (.tuple #[]) ∧ IRow w' g (sortK f xs) ∧ w.grownBy w' (some g) := by
  have H1 := hide (fun (a b : Nat) (hab : b ≤ n) (han : a ≤ n) (ys : List Int) (hly : ys.length = n) (hoky : ∀ x ∈ ys, ok x) (W : World) (hW : w0.grownBy W (some g)) (hX : IRow W g ys) => ins_any w0 g kc cap f ok hf n c a b hab han (by omega) ys hly hoky W hW hX)
  have HE := hide (show sortK f xs = insK f 0 (n - 1) xs by rw [sortK, hl])
  have HX := hide hx
  have HL := hide hl
  have HOK := hide hok
  clear hx hl hok hf
  by_cases h20 : n = 20
  · subst h20
    go_enter Try.func60, Try.ntmps60
    go_wp2
    refine wp_loop_rounds 2 ?_
    rw [rounds_succ]
    go_wp2_with fail
    refine (H1.out 0 20 (by omega) (by omega) xs HL.out HOK.out w hw HX.out).mono ?_
    rintro e w1 ⟨rfl, hx1, hg1⟩
    have HX1 := hide hx1
    have HO1 := hide (insK_ok (f := f) (a := 0) (k := 19) (ok := ok) HOK.out (by rw [HL.out]; omega))
    clear hx1
    go_wp2
    rw [rounds_succ]
    go_wp2_with fail
    refine (H1.out 20 20 (by omega) (by omega) (insK f 0 19 xs) (by rw [insK_length]; exact HL.out) HO1.out w1 (grown_trans hw hg1) HX1.out).mono ?_
    rintro e w2 ⟨rfl, hx2, hg2⟩
    have HX2 := hide hx2
    clear hx2
    go_wp2
    refine wp_loop_rounds 1 ?_
    rw [rounds_succ]
    go_wp2
    go_end0
    exact ⟨rfl, by rw [HE.out]; exact HX2.out, grown_trans hg1 hg2⟩
  · have hlt : n < 20 := by omega
    go_enter Try.func60, Try.ntmps60
    go_wp2
    refine wp_loop_rounds 1 ?_
    rw [rounds_succ]
    go_wp2_with fail
    refine (H1.out 0 n (by omega) (by omega) xs HL.out HOK.out w hw HX.out).mono ?_
    rintro e w1 ⟨rfl, hx1, hg1⟩
    have HX1 := hide hx1
    clear hx1
    go_wp2
    refine wp_loop_rounds 1 ?_
    rw [rounds_succ]
    go_wp2
    go_end0
    exact ⟨rfl, by rw [HE.out]; exact HX1.out, hg1⟩
end Go.Proofs.Ytfcmgmcidngjeaa
