/-
  The words for blocks, in a seat that has the deck's text but no conditions. No condition.
-/
import Derived.Test.YtfcmgmcidngjeaaProg
import Derived.Test.YtfcmgmcidngjeaaDeck
import Derived.Deep.RegionHeld3
namespace Go.Proofs.Ytfcmgmcidngjeaa
open Go.RowKit
section
variable {w w' : World} {g : Nat} {t : TypeId}
theorem Blk.facts3 {a b c : Value} (h : Blk w g t #[a, b, c]) : w.cell? ⟨g, 0, none⟩ = some a ∧ w.cell? ⟨g, 1, none⟩ = some b ∧ w.cell? ⟨g, 2, none⟩ = some c ∧ (∀ o, w.frozen? ⟨g, o, none⟩ = false) := by
  have hf := h.facts
  exact ⟨hf.1 0, hf.1 1, hf.1 2, hf.2⟩
theorem Blk.facts4 {a b c d : Value} (h : Blk w g t #[a, b, c, d]) : w.cell? ⟨g, 0, none⟩ = some a ∧ w.cell? ⟨g, 1, none⟩ = some b ∧ w.cell? ⟨g, 2, none⟩ = some c ∧ w.cell? ⟨g, 3, none⟩ = some d ∧ (∀ o, w.frozen? ⟨g, o, none⟩ = false) := by
  have hf := h.facts
  exact ⟨hf.1 0, hf.1 1, hf.1 2, hf.1 3, hf.2⟩
theorem Blk.set_ {cs : Array Value} (h : Blk w g t cs) (i : Nat) (u : Value) : Blk (w.setCell ⟨g, i, none⟩ u) g t (cs.setIfInBounds i u) := by
  unfold Blk at h ⊢
  simp [World.setCell, Array.getElem?_modify, h]
theorem Blk.far {cs : Array Value} (h : Blk w g t cs) {p : Addr} (hp : g ≠ p.block) (u : Value) : Blk (w.setCell p u) g t cs := (Below.heap_setCell w p u g hp).trans h
theorem Blk.drew {cs : Array Value} (h : Blk w g t cs) : Blk w.drew g t cs := h
theorem Dk.drew {b : Nat} (h : Dk w b) : Dk w.drew b := h
end
end Go.Proofs.Ytfcmgmcidngjeaa
