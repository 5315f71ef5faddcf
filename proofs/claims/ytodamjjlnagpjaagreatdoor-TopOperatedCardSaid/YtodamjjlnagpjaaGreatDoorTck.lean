/-
  resolve.Choose at the sanity check's two conditions: the release is 30. Condition: the table of kinds, the conditions in memory.
-/
import Derived.Test.YtodamjjlnagpjaaGreatDoorProg
import Derived.Test.YtodamjjlnagpjaaGreatDoorTpp
import Derived.Test.YtodamjjlnagpjaaGreatDoorRsg
namespace Go.Proofs.YtodamjjlnagpjaaGreatDoor
open Go.RowKit

theorem two_err : ∀ x ∈ twoCds, x.err = 0 := by decide
theorem two_rel : chRel 90 (chAll 0 twoCds 0 1073741824 (actC twoCds 0 150)) = 30 := by decide +kernel
theorem choose_two (A : Option Addr) (c : Nat) (w : World) (hT : KT w) (hs : Sl w w.heap.size 7 A 2 c (cdCells twoCds)) :
    Calls Tryz.prog 10 #[.slice A 2 c, .int .i64 0, .int .i64 150, .int .i64 0, .agg #[.int .i64 0, .int .i64 1073741824], .int .i64 90] w fun e w' => (∃ (lo hi : Int) (Y : Option Addr) (n k : Nat), e = .returned (.tuple #[.agg #[.int .i64 30, .int .i64 lo, .int .i64 hi, .slice Y n k], .int .i64 0])) ∧ Below w.heap.size w w' := by
  refine (Choose_ok A 2 c twoCds 0 150 0 0 1073741824 90 w hT (by omega) two_err (by decide) (by decide) (by decide) (by decide) (by decide) (by decide) (by omega) hs).mono ?_
  rintro e w' ⟨s, Y, k, hs, rfl, _, hb⟩
  rw [hs, two_rel]
  exact ⟨⟨_, _, _, _, _, rfl⟩, hb⟩
end Go.Proofs.YtodamjjlnagpjaaGreatDoor
