/-
  The contract of the reference's Bounds of a condition. No condition.
-/
import Derived.Test.YtphgddanbgdemaaDoorProg
import Derived.Test.YtphgddanbgdemaaDoorRap
import Derived.Test.YtphgddanbgdemaaDoorPer
import Derived.WalkLawsBesides
namespace Go.Proofs.YtphgddanbgdemaaDoor
open Go.RowKit

def BndPost (w : World) (c : Cd) (x : Int) (e : Ending) (w' : World) : Prop := e = .returned (bndVal c x) ∧ Below w.heap.size w w'
set_option maxHeartbeats 3200000 in
set_option maxRecDepth 20000 in
theorem rbounds_any (c : Cd) (n : Int) (w : World) : Calls Tryd.prog 21 #[.agg c.arr, .int .i64 n] w (BndPost w c n) := by
  have h0 := Blk.new w 47 c.arr
  have hB := (bel1 (w := w) (o := .cells c.arr 47)).alloc (by simp) (.cells #[.int .i64 0, .int .i64 0] 23)
  replace h0 := h0.alloc (.cells #[.int .i64 0, .int .i64 0] 23)
  have h1 := Blk.new (w.alloc (.cells c.arr 47)) 23 #[.int .i64 0, .int .i64 0]
  rw [World.size_alloc] at h1
  have HA := hide (fun W => rone_any c W)
  by_cases he : c.err = 0
  · have hk := (err_zero he).2.1
    have hv := (rest_iff.1 (err_zero he).2.2).1
    cases hn : wit n 1073741824
    · have E1 := hide (bnd_no (show bOk c n = false by simp [bOk, hn]))
      have h9 := hide he
      clear he hk hv
      obtain ⟨r, k, v, f, t, x, y⟩ := c
      unfold Cd.arr at h0 h1 hB HA ⊢
      go_enter Tryd.func21, Tryd.ntmps21
      go_wp2_with fail
      generalize ((w.alloc _).alloc _) = w2 at *
      refine (HA.out _).mono ?_
      rintro e w3 ⟨rfl, hb1⟩
      rw [h9.out]
      have hB1 := bthr hB hb1 hB.size
      replace h1 := h1.below hb1 h1.lt
      clear hB hb1 h0
      obtain ⟨y0, y1, hF⟩ := h1.facts2
      go_wp2_with (go_at_call 38; refine (refIn_any _ _ _).mono ?_; rintro e w4 ⟨rfl, rfl⟩)
      refine bodyPost_ret (v := .tuple #[.agg #[.int .i64 0, .int .i64 0], .bool false]) (by simp [results, Tryd.results21, go_sem, y0, y1]) rfl ⟨by rw [E1.out], ?_⟩
      refine Below.setCell (Below.setCell hB1 ?_ _) ?_ _ <;> exact Nat.le_succ _
    · have E1 := hide (bnd_yes (show bOk c n = true by simp [bOk, he, hn]))
      have h9 := hide he
      obtain ⟨n0, n1⟩ := wit_iff.1 hn
      clear he
      obtain ⟨r, k, v, f, t, x, y⟩ := c
      simp only at hk hv
      obtain ⟨hv0, hv1⟩ := hv
      unfold Cd.arr at h0 h1 hB HA ⊢
      obtain rfl | rfl | rfl | rfl := kind_4 hk
      all_goals
        clear hk
        go_enter Tryd.func21, Tryd.ntmps21
        go_wp2_with fail
        generalize ((w.alloc _).alloc _) = w2 at *
        refine (HA.out _).mono ?_
        rintro e w3 ⟨rfl, hb1⟩
        rw [h9.out]
        have hB1 := bthr hB hb1 hB.size
        replace h1 := h1.below hb1 h1.lt
        replace h0 := h0.below hb1 h0.lt
        clear hB hb1
        have hz := h1.lt
        have hz0 := h0.lt
        obtain ⟨y0, y1, hF⟩ := h1.facts2
        obtain ⟨⟨a0, a1, a2, a3, a4, a5, a6⟩, _⟩ := Blk.facts7 h0
        clear h0 h1 a0 a3 a4 a5 a6
        go_wp2_with (go_at_call 38; refine (refIn_any _ _ _).mono ?_; rintro e w4 ⟨rfl, rfl⟩)
        all_goals first | (refine bodyPost_ret (v := .tuple #[.agg #[.int .i64 (v), .int .i64 (1073741824)], .bool true]) ?_ rfl ⟨?_, ?_⟩; (focus (simp [results, Tryd.results21, go_sem, y0, y1, hz, hz0]; done)); (focus (simp only [E1.out]; simp [bLeast, bMost]; (try omega))); refine ((Below.setCell (Below.setCell hB1 ?_ _) ?_ _).alloc ?_ _) <;> first | exact Nat.le_succ _ | (simp only [World.size_setCell]; omega)) | (refine bodyPost_ret (v := .tuple #[.agg #[.int .i64 (0), .int .i64 (v)], .bool true]) ?_ rfl ⟨?_, ?_⟩; (focus (simp [results, Tryd.results21, go_sem, y0, y1, hz, hz0]; done)); (focus (simp only [E1.out]; simp [bLeast, bMost]; (try omega))); refine ((Below.setCell (Below.setCell hB1 ?_ _) ?_ _).alloc ?_ _) <;> first | exact Nat.le_succ _ | (simp only [World.size_setCell]; omega)) | (refine bodyPost_ret (v := .tuple #[.agg #[.int .i64 (0), .int .i64 (n + v)], .bool true]) ?_ rfl ⟨?_, ?_⟩; (focus (simp [results, Tryd.results21, go_sem, y0, y1, hz, hz0]; done)); (focus (simp only [E1.out]; simp [bLeast, bMost]; (try omega))); refine ((Below.setCell (Below.setCell hB1 ?_ _) ?_ _).alloc ?_ _) <;> first | exact Nat.le_succ _ | (simp only [World.size_setCell]; omega)) | (refine bodyPost_ret (v := .tuple #[.agg #[.int .i64 (0), .int .i64 (1073741824)], .bool true]) ?_ rfl ⟨?_, ?_⟩; (focus (simp [results, Tryd.results21, go_sem, y0, y1, hz, hz0]; done)); (focus (simp only [E1.out]; simp [bLeast, bMost]; (try omega))); refine ((Below.setCell (Below.setCell hB1 ?_ _) ?_ _).alloc ?_ _) <;> first | exact Nat.le_succ _ | (simp only [World.size_setCell]; omega)) | (refine bodyPost_ret (v := .tuple #[.agg #[.int .i64 (n - v), .int .i64 (1073741824)], .bool true]) ?_ rfl ⟨?_, ?_⟩; (focus (simp [results, Tryd.results21, go_sem, y0, y1, hz, hz0]; done)); (focus (simp only [E1.out]; simp [bLeast, bMost]; (try omega))); refine ((Below.setCell (Below.setCell hB1 ?_ _) ?_ _).alloc ?_ _) <;> first | exact Nat.le_succ _ | (simp only [World.size_setCell]; omega)) | fail
  · have E1 := hide (bnd_no (show bOk c n = false by simp [bOk, he]))
    have h9 := err_ne0 he
    clear he
    obtain ⟨r, k, v, f, t, x, y⟩ := c
    unfold Cd.arr at h0 h1 hB HA ⊢
    go_enter Tryd.func21, Tryd.ntmps21
    go_wp2_with fail
    generalize ((w.alloc _).alloc _) = w2 at *
    refine (HA.out _).mono ?_
    rintro e w3 ⟨rfl, hb1⟩
    have hB1 := bthr hB hb1 hB.size
    replace h1 := h1.below hb1 h1.lt
    clear hB hb1 h0
    obtain ⟨y0, y1, hF⟩ := h1.facts2
    go_wp2
    refine bodyPost_ret (v := .tuple #[.agg #[.int .i64 0, .int .i64 0], .bool false]) (by simp [results, Tryd.results21, go_sem, y0, y1]) rfl ⟨by rw [E1.out], ?_⟩
    refine Below.setCell (Below.setCell hB1 ?_ _) ?_ _ <;> exact Nat.le_succ _
end Go.Proofs.YtphgddanbgdemaaDoor
