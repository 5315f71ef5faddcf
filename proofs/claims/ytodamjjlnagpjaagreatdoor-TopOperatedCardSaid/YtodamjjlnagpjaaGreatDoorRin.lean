/-
  Contracts of the reference's In, IsDay and Valid. No condition.
  The contract of the reference's In of a span. No condition.
-/
import Derived.Test.YtodamjjlnagpjaaGreatDoorProg
import Derived.Test.YtodamjjlnagpjaaGreatDoorCal
namespace Go.Proofs.YtodamjjlnagpjaaGreatDoor
open Go.RowKit

end Go.Proofs.YtodamjjlnagpjaaGreatDoor
namespace Go.Proofs.YtodamjjlnagpjaaGreatDoor
open Go.RowKit

end Go.Proofs.YtodamjjlnagpjaaGreatDoor
