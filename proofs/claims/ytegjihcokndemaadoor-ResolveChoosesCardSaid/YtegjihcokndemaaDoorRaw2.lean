/-
  The sanity check of the choices' laws returns true. Condition: the table of kinds.
-/
import Derived.Test.YtegjihcokndemaaDoorProg
import Derived.Test.YtegjihcokndemaaDoorRsg
import Derived.Test.YtegjihcokndemaaDoorMad
namespace Go.Proofs.YtegjihcokndemaaDoor
open Go.RowKit

def exM : Cd := ⟨1, 2, 10, 0, 364, 0, 16777216⟩
def exL : Cd := ⟨2, 1, 20, 0, 364, 0, 16777216⟩
theorem ex_s : (chAll 0 [exM, exL] 0 100 (actC [exM, exL] 0 0)).ys = [(1, 0)] ∧ chRel 50 (chAll 0 [exM, exL] 0 100 (actC [exM, exL] 0 0)) = 10 := by decide +kernel
theorem ex_ok : ∀ x ∈ [exM, exL], x.err = 0 := by decide +kernel
theorem ex_w : worstF [exM, exL] [(1, 0)] = 2 := by decide +kernel
set_option maxHeartbeats 1600000 in
set_option maxRecDepth 20000 in
theorem awake_any (w : World) (hT : KT w) : Calls Tryd.prog 25 #[] w fun e w' => e = .returned (.bool true) ∧ Below w.heap.size w w' := by
  have hw0 := hT.pos
  have HC := hide (fun W hT2 hs2 => Choose_ok (some ⟨w.heap.size + 1, 0, none⟩) 2 2 [exM, exL] 0 0 0 0 100 50 W hT2 (by omega) ex_ok (by decide) (by decide) (by decide) (by decide) (by decide) (by decide) (by omega) hs2)
  have hB := (bel1 (w := w) (o := .cells #[.int .i64 0, .int .i64 364] 30)).alloc (by simp) (.cells (exM.arr ++ exL.arr) 32)
  have q1 := Blk.new (w.alloc (.cells #[.int .i64 0, .int .i64 364] 30)) 32 (exM.arr ++ exL.arr)
  rw [World.size_alloc] at q1
  have hs := Sl.of_blkN (n := 2) (size := 7) (xs := cdCells [exM, exL]) q1 rfl rfl (by unfold maxLen; omega)
  have hq0 := (Blk.new w 30 #[.int .i64 0, .int .i64 364]).facts2
  obtain ⟨z0, z1, _⟩ := hq0
  clear q1
  rw [show exM.arr ++ exL.arr = #[.int .i64 1, .int .i64 2, .int .i64 10, .int .i64 0, .int .i64 364, .int .i64 0, .int .i64 16777216, .int .i64 2, .int .i64 1, .int .i64 20, .int .i64 0, .int .i64 364, .int .i64 0, .int .i64 16777216] from rfl] at hB hs
  go_enter Tryd.func25, Tryd.ntmps25
  go_wp2_with fail
  generalize ((w.alloc _).alloc _) = w2 at *
  refine (HC.out w2 (hT.below hB hw0) hs).mono ?_
  rintro e w3 ⟨s, A3, c3, hs3, rfl, hy3, hb3⟩
  have hE := ex_s
  rw [← hs3] at hE
  obtain ⟨hys, hrl⟩ := hE
  rw [hys] at hy3
  rw [hrl, hys]
  have HB3 := hide (bthr hB hb3 hB.size)
  have hs4 := hs.thr hb3
  simp only [List.length_singleton] at hy3 ⊢
  obtain ⟨g, c, he, _, _⟩ := hy3.form (by omega)
  injection he with e1 _ e3
  subst e1 e3
  have hsy := sl_own hy3
  generalize s.lo = lo
  generalize s.hi = hi
  have hbx := bel1 (w := w3) (o := .cells #[.int .i64 10, .int .i64 lo, .int .i64 hi, .slice (some ⟨g, 0, none⟩) 1 c3] 58)
  have q3 := Blk.new w3 58 #[.int .i64 10, .int .i64 lo, .int .i64 hi, .slice (some ⟨g, 0, none⟩) 1 c3]
  have hs5 := hs4.thr hbx
  have hy5 := hsy.thr hbx
  obtain ⟨b9, o9, he9, _, hc9⟩ := hy5.at_ (show 0 < 1 by omega)
  injection he9 with he9
  injection he9 with e1 e2 _
  subst e1 e2
  have y0 := hc9 0 (.int .i64 1) rfl
  have y1 := hc9 1 (.int .i64 0) rfl
  obtain ⟨c0, c1, c2, c4, cF⟩ := q3.facts4
  have HB5 := hide (bthr HB3.out hbx HB3.out.size)
  clear hs3 hys hrl hb3 hs hs4 hy3 hsy hbx q3 hc9 hB z0 z1 HC
  have HW := hide (fun W hs2 hy2 => worst_any (some ⟨w.heap.size + 1, 0, none⟩) (some ⟨g, 0, none⟩) 2 2 1 c3 [exM, exL] [(1, 0)] 10 lo hi W hs2 hy2)
  rw [ex_w] at HW
  go_wp2_with fail
  refine (HW.out _ hs5 hy5).mono ?_
  rintro e w6 ⟨rfl, hb6⟩
  have HB6 := hide (bthr HB5.out hb6 HB5.out.size)
  clear hb6 c0 c1 c2 c4 cF y0 y1 hs5 hy5 HW
  go_wp2
  go_ret
  exact ⟨rfl, HB6.out⟩
end Go.Proofs.YtegjihcokndemaaDoor
