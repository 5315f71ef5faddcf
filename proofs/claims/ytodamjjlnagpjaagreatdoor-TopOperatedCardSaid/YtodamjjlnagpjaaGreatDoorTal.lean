/-
  The sanity check's dam as it lies in memory. No condition.
-/
import Derived.Test.YtodamjjlnagpjaaGreatDoorProg
import Derived.Test.YtodamjjlnagpjaaGreatDoorTax
import Derived.Test.YtodamjjlnagpjaaGreatDoorRbnd
namespace Go.Proofs.YtodamjjlnagpjaaGreatDoor
open Go.RowKit

def awM (z : Nat) : Dm := awD (some ⟨z, 0, none⟩) (some ⟨z + 1 + 1 + 1, 0, none⟩) (some ⟨z + 1 + 1, 0, none⟩) (some ⟨z + 1 + 1 + 1 + 1, 0, none⟩) 2 1 2 1
def awW (w : World) : World := (((((w.alloc (.cells #[.int .i64 100, .int .i64 0, .int .i64 200, .int .i64 1000] 57)).alloc (.cells #[.slice (some ⟨w.heap.size, 0, none⟩) 2 2, .int .i64 100, .int .i64 120, .int .i64 150, .int .i64 180, .int .i64 200] 27)).alloc (.cells #[.int .i64 0, .int .i64 0, .int .i64 10, .int .i64 100] 57)).alloc (.cells #[.int .i64 0, .slice (some ⟨w.heap.size + 1 + 1, 0, none⟩) 2 2] 101)).alloc (.cells #[.slice (some ⟨w.heap.size + 1 + 1 + 1, 0, none⟩) 1 1, .int .i64 10, .int .i64 10] 96)).alloc (.cells #[.slice (some ⟨w.heap.size, 0, none⟩) 2 2, .int .i64 100, .int .i64 120, .int .i64 150, .int .i64 180, .int .i64 200, .slice none 0 0, .slice (some ⟨w.heap.size + 1 + 1 + 1 + 1, 0, none⟩) 1 1, .int .i64 1] 31)
theorem aw_heap (w : World) : (awM w.heap.size).ok (awW w) ∧ Blk (awW w) (w.heap.size + 1 + 1 + 1 + 1 + 1) 31 (awM w.heap.size).arr ∧ Below w.heap.size w (awW w) ∧ (awW w).heap.size = w.heap.size + 6 := by
  unfold awW
  generalize hz : w.heap.size = z
  generalize e1 : w.alloc (.cells #[.int .i64 100, .int .i64 0, .int .i64 200, .int .i64 1000] 57) = w1
  generalize e2 : w1.alloc (.cells #[.slice (some ⟨z, 0, none⟩) 2 2, .int .i64 100, .int .i64 120, .int .i64 150, .int .i64 180, .int .i64 200] 27) = w2
  generalize e3 : w2.alloc (.cells #[.int .i64 0, .int .i64 0, .int .i64 10, .int .i64 100] 57) = w3
  generalize e4 : w3.alloc (.cells #[.int .i64 0, .slice (some ⟨z + 1 + 1, 0, none⟩) 2 2] 101) = w4
  generalize e5 : w4.alloc (.cells #[.slice (some ⟨z + 1 + 1 + 1, 0, none⟩) 1 1, .int .i64 10, .int .i64 10] 96) = w5
  generalize e6 : w5.alloc (.cells #[.slice (some ⟨z, 0, none⟩) 2 2, .int .i64 100, .int .i64 120, .int .i64 150, .int .i64 180, .int .i64 200, .slice none 0 0, .slice (some ⟨z + 1 + 1 + 1 + 1, 0, none⟩) 1 1, .int .i64 1] 31) = w6
  have z1 : w1.heap.size = z + 1 := by rw [← e1, World.size_alloc, hz]
  have z2 : w2.heap.size = z + 1 + 1 := by rw [← e2, World.size_alloc, z1]
  have z3 : w3.heap.size = z + 1 + 1 + 1 := by rw [← e3, World.size_alloc, z2]
  have z4 : w4.heap.size = z + 1 + 1 + 1 + 1 := by rw [← e4, World.size_alloc, z3]
  have z5 : w5.heap.size = z + 1 + 1 + 1 + 1 + 1 := by rw [← e5, World.size_alloc, z4]
  have z6 : w6.heap.size = z + 6 := by rw [← e6, World.size_alloc, z5]
  have q1 := Blk.new w 57 #[.int .i64 100, .int .i64 0, .int .i64 200, .int .i64 1000]
  have q3 := Blk.new w2 57 #[.int .i64 0, .int .i64 0, .int .i64 10, .int .i64 100]
  have q4 := Blk.new w3 101 #[.int .i64 0, .slice (some ⟨z + 1 + 1, 0, none⟩) 2 2]
  have q5 := Blk.new w4 96 #[.slice (some ⟨z + 1 + 1 + 1, 0, none⟩) 1 1, .int .i64 10, .int .i64 10]
  have q6 := Blk.new w5 31 #[.slice (some ⟨z, 0, none⟩) 2 2, .int .i64 100, .int .i64 120, .int .i64 150, .int .i64 180, .int .i64 200, .slice none 0 0, .slice (some ⟨z + 1 + 1 + 1 + 1, 0, none⟩) 1 1, .int .i64 1]
  have b1 : Below w.heap.size w w1 := by rw [← e1]; exact bel1
  have b2 : Below w1.heap.size w1 w2 := by rw [← e2]; exact bel1
  have b3 : Below w2.heap.size w2 w3 := by rw [← e3]; exact bel1
  have b4 : Below w3.heap.size w3 w4 := by rw [← e4]; exact bel1
  have b5 : Below w4.heap.size w4 w5 := by rw [← e5]; exact bel1
  have b6 : Below w5.heap.size w5 w6 := by rw [← e6]; exact bel1
  rw [e1, hz] at q1
  rw [e3, z2] at q3
  rw [e4, z3] at q4
  rw [e5, z4] at q5
  rw [e6, z5] at q6
  have b46 := bthr b5 b6 b5.size
  have b36 := bthr b4 b46 b4.size
  have b26 := bthr b3 b36 b3.size
  have b16 := bthr b2 b26 b2.size
  have b06 := bthr b1 b16 b1.size
  replace q1 := q1.below b16 (by omega)
  replace q3 := q3.below b36 (by omega)
  replace q4 := q4.below b46 (by omega)
  replace q5 := q5.below b6 (by omega)
  have hm : (2 : Nat) ≤ maxLen := by unfold maxLen; omega
  have hm1 : (1 : Nat) ≤ maxLen := by unfold maxLen; omega
  refine ⟨⟨Sl.of_blkN q1 rfl rfl hm, ⟨Sl.none_ _ _ _, fun u hu => by cases hu⟩, Sl.of_blkN q5 rfl rfl hm1, fun g hg => ?_⟩, q6, by rw [← hz]; exact b06, z6⟩
  have hg' : g = awG (some ⟨z + 1 + 1 + 1, 0, none⟩) (some ⟨z + 1 + 1, 0, none⟩) 1 2 := by simpa [awM, awD] using hg
  subst hg'
  refine ⟨Sl.of_blkN q4 rfl rfl hm1, fun r hr => ?_⟩
  have hr' : r = ⟨0, ⟨some ⟨z + 1 + 1, 0, none⟩, 2, 2, [⟨0, 0⟩, ⟨10, 100⟩]⟩⟩ := by simpa [awG] using hr
  subst hr'
  exact Sl.of_blkN q3 rfl rfl hm
end Go.Proofs.YtodamjjlnagpjaaGreatDoor
