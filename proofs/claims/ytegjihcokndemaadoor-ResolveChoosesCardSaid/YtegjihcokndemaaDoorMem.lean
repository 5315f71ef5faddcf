/-
  The words for blocks, in a seat that has the deck's and the condition's texts. No condition.
-/
import Derived.Test.YtegjihcokndemaaDoorDeck
import Derived.Test.YtegjihcokndemaaDoorCond
namespace Go.Proofs.YtegjihcokndemaaDoor
end Go.Proofs.YtegjihcokndemaaDoor
