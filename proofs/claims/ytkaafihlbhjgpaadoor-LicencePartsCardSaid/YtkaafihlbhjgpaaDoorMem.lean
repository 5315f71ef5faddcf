/-
  The words for blocks, in a seat that has the deck's and the condition's texts. No condition.
-/
import Derived.Test.YtkaafihlbhjgpaaDoorDeck
import Derived.Test.YtkaafihlbhjgpaaDoorCond
namespace Go.Proofs.YtkaafihlbhjgpaaDoor
end Go.Proofs.YtkaafihlbhjgpaaDoor
