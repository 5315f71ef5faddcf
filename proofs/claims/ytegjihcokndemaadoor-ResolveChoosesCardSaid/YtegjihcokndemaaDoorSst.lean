/-
  The contract of slices.SortStableFunc at no more than 20 integers of an own row. Condition: the comparing function answers f and writes nothing that was there.
-/
import Derived.Test.YtegjihcokndemaaDoorProg
import Derived.Test.YtegjihcokndemaaDoorSrt
namespace Go.Proofs.YtegjihcokndemaaDoor
open Go.RowKit

set_option maxRecDepth 20000 in
/-- SortStableFunc at no more than 20 integers. -/
theorem sstable_any (w0 : World) (g : Nat) (kc : FuncId) (cap : Array Value) (f : Int → Int → Int) (ok : Int → Prop) (hf : CmpSays w0 g kc cap f ok) (n c : Nat) (hn : n ≤ 20) (xs : List Int) (hl : xs.length = n) (hok : ∀ x ∈ xs, ok x) (w : World) (hw : w0.grownBy w (some g)) (hx : IRow w g xs) :
    Calls Tryd.prog 40 #[.slice (some ⟨g, 0, none⟩) n c, .func (.func kc) #[] cap] w fun e w' => e = .returned (.tuple #[]) ∧ IRow w' g (sortK f xs) ∧ w.grownBy w' (some g) := by
  have H := hide (stb_any w0 g kc cap f ok hf n c hn xs hl hok w hw hx)
  clear hf hl hok hx
  go_enter Tryd.func40, Tryd.ntmps40
  go_wp2_with fail
  refine H.out.mono ?_
  rintro e w1 ⟨rfl, hx1, hg1⟩
  go_wp2
  go_end0
  exact ⟨rfl, hx1, hg1⟩
end Go.Proofs.YtegjihcokndemaaDoor
