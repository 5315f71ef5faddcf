/-
  The quantity laws' sanity check returns true, in whatever memory. No condition.
-/
import Derived.Test.YtdgaaiplhgbakaaProg
import Derived.Test.YtdgaaiplhgbakaaShb
import Derived.Test.YtdgaaiplhgbakaaSame0
namespace Go.Proofs.Ytdgaaiplhgbakaa
open Go.RowKit

theorem floor7 (w : World) : Calls Try.prog 19 #[.int .i64 (-7), .int .i64 2] w fun e w' => e = .returned (.tuple #[.int .i64 (-4), .int .i64 0]) ∧ w = w' := by
  go_enter Try.func19, Try.ntmps19
  go_wp2
  go_ret2
  exact ⟨rfl, rfl⟩
theorem Sl.of_blk {w : World} {g n : Nat} {t : TypeId} {cs : Array Value} {zs : List Int} (h : Blk w g t cs) (hx : cs.toList = ints zs) (hn : zs.length = n) (hm : n ≤ maxLen) : Sl w w.heap.size 1 (some ⟨g, 0, none⟩) n n (ints zs) :=
  ⟨by rw [ints_length]; omega, Nat.le_refl _, hm, fun _ => ⟨g, 0, rfl, h.lt, fun j u hu => by
    rw [h.facts.1, ← hu, ← hx]; simp⟩⟩
theorem share3 : shV 10 [1, 1, 1] = [4, 3, 3] ∧ shE 10 [1, 1, 1] = 0 := by decide +kernel
theorem share_ex (w : World) (g : Nat) (h : Blk w g 3 #[.int .i64 1, .int .i64 1, .int .i64 1]) : Calls Try.prog 11 #[.int .i64 10, .slice (some ⟨g, 0, none⟩) 3 3] w fun e w' => ∃ A c, e = .returned (.tuple #[.slice A 3 c, .int .i64 0]) ∧ Sl w' w'.heap.size 1 A 3 c (ints [4, 3, 3]) ∧ Below w.heap.size w w' := by
  refine (share_any 10 [1, 1, 1] _ 3 3 w (by omega) (by omega) (by simp) (Sl.of_blk h rfl rfl (by unfold maxLen; omega))).mono ?_
  rintro e w' ⟨v, rfl, hv, hb⟩
  rw [share3.1] at hv
  rw [share3.2]
  obtain ⟨A, c, rfl, hs⟩ := own_sl hv
  exact ⟨A, c, rfl, hs, hb⟩
set_option maxHeartbeats 800000 in
set_option maxRecDepth 20000 in
theorem awake_any (w : World) : Calls Try.prog 9 #[] w fun e w' => e = .returned (.bool true) ∧ Below w.heap.size w w' := by
  have hB := bel1 (w := w) (o := .cells #[.int .i64 1, .int .i64 1, .int .i64 1] 3)
  have h1 := Blk.new w 3 #[.int .i64 1, .int .i64 1, .int .i64 1]
  go_enter Try.func9, Try.ntmps9
  go_wp2_with fail
  generalize w.alloc _ = w2 at *
  refine (share_ex w2 _ h1).mono ?_
  rintro e w3 ⟨A, c, rfl, hs, hb⟩
  have hB3 := bthr hB hb hB.size
  go_wp2_with fail
  refine (floor7 _).mono ?_
  rintro e w4 ⟨rfl, rfl⟩
  go_wp2_with fail
  refine (same_any A c [4, 3, 3] _ 3 [4, 3, 3] 3 3 _ (hs.allocw _) (Sl.of_blk (Blk.new w3 3 #[.int .i64 4, .int .i64 3, .int .i64 3]) rfl rfl (by unfold maxLen; omega))).mono ?_
  rintro e w5 ⟨rfl, hb5⟩
  have hB4 := hB3.alloc hB3.size (.cells #[.int .i64 4, .int .i64 3, .int .i64 3] 3)
  have hB5 := bthr hB4 hb5 hB4.size
  clear hs hb hB hb5
  go_wp2
  go_ret
  exact ⟨rfl, hB5⟩
end Go.Proofs.Ytdgaaiplhgbakaa
