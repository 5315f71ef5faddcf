/-
  The contract of the reference's first error of a condition. No condition.
  Contracts of the reference's Check and Applies of conditions. Condition: each of them is valid.
-/
import Derived.Test.YtodamjjlnagpjaaGreatDoorProg
import Derived.Test.YtodamjjlnagpjaaGreatDoorOne
import Derived.Test.YtodamjjlnagpjaaGreatDoorRin
import Derived.Test.YtodamjjlnagpjaaGreatDoorTpd
namespace Go.Proofs.YtodamjjlnagpjaaGreatDoor
open Go.RowKit

end Go.Proofs.YtodamjjlnagpjaaGreatDoor
namespace Go.Proofs.YtodamjjlnagpjaaGreatDoor
open Go.RowKit

/-- A condition applies on a day, at a level. -/
def apyB (d lv : Int) (c : Cd) : Bool := inB c.from_ c.to_ d && decide (c.above ≤ lv) && decide (lv ≤ c.below)
end Go.Proofs.YtodamjjlnagpjaaGreatDoor
