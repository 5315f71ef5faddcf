/-
  A block that is known whole, read as a slice. No condition.
-/
import Derived.Test.YtegjihcokndemaaDoorProg
import Derived.Test.YtegjihcokndemaaDoorPer
import Derived.Test.YtegjihcokndemaaDoorApp
namespace Go.Proofs.YtegjihcokndemaaDoor
open Go.RowKit

theorem bth {a b c : World} (h : Below a.heap.size a b) (k : Below b.heap.size b c) : Below a.heap.size a c := bthr h k h.size
theorem Sl.of_blkN {w : World} {g n size : Nat} {t : TypeId} {cs : Array Value} {xs : List Value} (h : Blk w g t cs) (hx : cs.toList = xs) (hn : xs.length = n * size) (hm : n ≤ maxLen) : Sl w w.heap.size size (some ⟨g, 0, none⟩) n n xs :=
  ⟨hn, Nat.le_refl _, hm, fun _ => ⟨g, 0, rfl, h.lt, fun j u hu => by
    rw [h.facts.1, ← hu, ← hx]; simp⟩⟩
end Go.Proofs.YtegjihcokndemaaDoor
