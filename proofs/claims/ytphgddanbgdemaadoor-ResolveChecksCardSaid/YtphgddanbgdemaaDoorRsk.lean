/-
  Contracts of Clamp, and of the check of a choice's arguments where they are right. Conditions: each condition is valid, there are 200 at most, and so are the day, the level, the releases and the bounds.
-/
import Derived.Test.YtphgddanbgdemaaDoorProg
import Derived.Test.YtphgddanbgdemaaDoorKep
import Derived.Test.YtphgddanbgdemaaDoorCho
namespace Go.Proofs.YtphgddanbgdemaaDoor
open Go.RowKit

theorem pcl_a {x lo hi y : Int} (h : y = max (min x hi) lo) : y = max (min x hi) lo := h
set_option maxHeartbeats 800000 in
set_option maxRecDepth 20000 in
theorem pclamp_any (x b0 b1 : Int) (w : World) : Calls Tryd.prog 55 #[.int .i64 x, .agg #[.int .i64 b0, .int .i64 b1]] w fun e w' => e = .returned (.int .i64 (max (min x b1) b0)) ∧ Below w.heap.size w w' := by
  go_enter Tryd.func55, Tryd.ntmps55
  go_wp2
  all_goals
    go_ret
    exact ⟨ret_int (by omega), bel1⟩
set_option maxHeartbeats 1600000 in
set_option maxRecDepth 20000 in
theorem rsasked_ok (A : Option Addr) (n c : Nat) (cs : List Cd) (d lv bf g0 g1 wn : Int) (w : World) (hn : n ≤ 200) (hg : ∀ x ∈ cs, x.err = 0) (hd : wit d 364 = true) (hv : wit lv 16777216 = true) (hbf : wit bf 1073741824 = true) (hwn : wit wn 1073741824 = true) (h0 : wit g0 1073741824 = true) (h1 : wit g1 1073741824 = true) (hgg : g0 ≤ g1) (hs : Sl w w.heap.size 7 A n c (cdCells cs)) :
    Calls Tryd.prog 26 #[.slice A n c, .int .i64 d, .int .i64 lv, .int .i64 bf, .agg #[.int .i64 g0, .int .i64 g1], .int .i64 wn] w fun e w' => e = .returned (.int .i64 0) ∧ Below w.heap.size w w' := by
  have HG := hide hg
  have HD := hide hd
  have HV := hide hv
  have HZ := hide (show ∀ z ∈ [bf, wn, g0, g1], 0 ≤ z ∧ z ≤ 1073741824 by
    have e1 := wit_iff.1 hbf
    have e2 := wit_iff.1 hwn
    have e3 := wit_iff.1 h0
    have e4 := wit_iff.1 h1
    intro z hz; simp at hz; rcases hz with rfl | rfl | rfl | rfl <;> assumption)
  have q0 := (Blk.new w 23 #[.int .i64 g0, .int .i64 g1]).alloc (.cells #[.int .i64 bf, .int .i64 wn, .int .i64 g0, .int .i64 g1] 3)
  have q1 := Blk.new (w.alloc (.cells #[.int .i64 g0, .int .i64 g1] 23)) 3 #[.int .i64 bf, .int .i64 wn, .int .i64 g0, .int .i64 g1]
  have hB := (bel1 (w := w) (o := .cells #[.int .i64 g0, .int .i64 g1] 23)).alloc (by simp) (.cells #[.int .i64 bf, .int .i64 wn, .int .i64 g0, .int .i64 g1] 3)
  have hs1 := hs.thr hB
  rw [World.size_alloc] at q1
  have HF := hide (Sl.of_blkN (n := 4) (size := 1) (xs := ints [bf, wn, g0, g1]) q1 rfl rfl (by unfold maxLen; omega))
  clear hg hd hv hbf hwn h0 h1 hs q1
  obtain ⟨y0, y1, _⟩ := (Blk.new w 23 #[.int .i64 g0, .int .i64 g1]).facts2
  go_enter Tryd.func26, Tryd.ntmps26
  go_wp2_with fail
  generalize ((w.alloc _).alloc _) = w2 at *
  refine (asked_ok A n c cs d lv (some ⟨w.heap.size + 1, 0, none⟩) 4 4 [bf, wn, g0, g1] w2 hn HG.out HD.out HV.out HZ.out hs1 HF.out).mono ?_
  rintro e w3 ⟨rfl, hb3⟩
  have hB3 := hide (bthr hB hb3 hB.size)
  replace q0 := q0.below hb3 q0.lt
  clear y0 y1 hb3 hB hs1 HF
  obtain ⟨y0, y1, _⟩ := q0.facts2
  go_wp2
  go_ret
  exact ⟨rfl, hB3.out⟩
end Go.Proofs.YtphgddanbgdemaaDoor
