/-
  The words for blocks, in a seat that has the deck's and the condition's texts. No condition.
-/
import Derived.Test.YtnjlbmdpfhiojaaDoorDeck
import Derived.Test.YtnjlbmdpfhiojaaDoorCond
namespace Go.Proofs.YtnjlbmdpfhiojaaDoor
end Go.Proofs.YtnjlbmdpfhiojaaDoor
