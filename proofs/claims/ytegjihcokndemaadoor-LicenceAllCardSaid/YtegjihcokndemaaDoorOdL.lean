/-
  The contract of the licences' odd: some condition. Conditions: the deck lies as New makes it.
-/
import Derived.Test.YtegjihcokndemaaDoorProg
import Derived.Test.YtegjihcokndemaaDoorCds
import Derived.Deep.DeepCutAuto
namespace Go.Proofs.YtegjihcokndemaaDoor
open Go.RowKit

theorem cell3_at {w : World} {g j : Nat} {t : TypeId} {x y z : Int} (h : Blk w g t #[.int .i64 x, .int .i64 y, .int .i64 z]) (hj : j < 3) : ∃ u : Int, w.cell? ⟨g, j, none⟩ = some (.int .i64 u) := by
  have hf := h.facts.1
  match j, hj with
  | 0, _ => exact ⟨_, hf 0⟩
  | 1, _ => exact ⟨_, hf 1⟩
  | 2, _ => exact ⟨_, hf 2⟩
/-- a condition under way in its box, the result's box behind it -/
structure OdP (w : World) (b : Nat) (c : Cd) (wx : World) : Prop where
  box : Blk wx w.heap.size 32 c.arr
  res : Blk wx (w.heap.size + 1) 32 #[.int .i64 0, .int .i64 0, .int .i64 0, .int .i64 0, .int .i64 0, .int .i64 0, .int .i64 0]
  deck : Dk wx b
  grown : w.grownBy wx (some b)
theorem OdP.next {w wx wy : World} {b : Nat} {c : Cd} (h : OdP w b c wx) (hb : b < w.heap.size) (hD : Dk wy b) (hg : wx.grownBy wy (some b)) : OdP w b c wy :=
  ⟨h.box.only hg (by omega), h.res.only hg (by omega), hD, grown_trans h.grown hg⟩
theorem OdP.alloc {w wx : World} {b : Nat} {c : Cd} (h : OdP w b c wx) (o : Obj) : OdP w b c (wx.alloc o) :=
  ⟨h.box.alloc o, h.res.alloc o, h.deck.alloc o, grown_alloc h.grown o⟩
theorem OdP.set {w wx : World} {b : Nat} {c c' : Cd} (h : OdP w b c wx) (hb : b < w.heap.size) (i : Nat) (u : Value) (hc : c.arr.setIfInBounds i u = c'.arr) : OdP w b c' (wx.setCell ⟨w.heap.size, i, none⟩ u) :=
  ⟨hc ▸ h.box.set_ i u, h.res.far (p := ⟨w.heap.size, i, none⟩) (by simp) u, h.deck.set (p := ⟨w.heap.size, i, none⟩) hb u, grown_set (p := ⟨w.heap.size, i, none⟩) h.grown (.inr (Nat.le_refl _)) u⟩
def OdMade (b : Nat) (w : World) (e : Ending) (w' : World) : Prop := ∃ c : Cd, e = .returned (.agg c.arr) ∧ Dk w' b ∧ w.grownBy w' (some b)
theorem OdP.fin {w wx : World} {b : Nat} {c : Cd} (h : OdP w b c wx) (hb : b < w.heap.size) (u0 u1 u2 u3 u4 u5 u6 : Value) : Dk (((((((wx.setCell ⟨w.heap.size + 1, 0, none⟩ u0).setCell ⟨w.heap.size + 1, 1, none⟩ u1).setCell ⟨w.heap.size + 1, 2, none⟩ u2).setCell ⟨w.heap.size + 1, 3, none⟩ u3).setCell ⟨w.heap.size + 1, 4, none⟩ u4).setCell ⟨w.heap.size + 1, 5, none⟩ u5).setCell ⟨w.heap.size + 1, 6, none⟩ u6) b ∧
    w.grownBy (((((((wx.setCell ⟨w.heap.size + 1, 0, none⟩ u0).setCell ⟨w.heap.size + 1, 1, none⟩ u1).setCell ⟨w.heap.size + 1, 2, none⟩ u2).setCell ⟨w.heap.size + 1, 3, none⟩ u3).setCell ⟨w.heap.size + 1, 4, none⟩ u4).setCell ⟨w.heap.size + 1, 5, none⟩ u5).setCell ⟨w.heap.size + 1, 6, none⟩ u6) (some b) := by
  constructor
  · repeat (first | with_reducible exact h.deck | with_reducible refine Dk.set ?_ (by simp only; omega) _)
  · repeat (first | with_reducible exact h.grown | with_reducible refine grown_set ?_ (.inr (by simp only; omega)) _)
set_option maxHeartbeats 1600000 in
set_option maxRecDepth 20000 in
theorem odd_any (b : Nat) (c : Cd) (w : World) (hD : Dk w b) : Calls Tryd.prog 10 #[.pointer (some ⟨b, 0, none⟩), .agg c.arr] w (OdMade b w) := by
  have hbl := hD.lt
  obtain ⟨r, k, v, f, t, x, y⟩ := c
  have q0 := (Blk.new w 32 (Cd.arr ⟨r, k, v, f, t, x, y⟩)).alloc (.cells #[.int .i64 0, .int .i64 0, .int .i64 0, .int .i64 0, .int .i64 0, .int .i64 0, .int .i64 0] 32)
  have q1 := Blk.new (w.alloc (.cells (Cd.arr ⟨r, k, v, f, t, x, y⟩) 32)) 32 #[.int .i64 0, .int .i64 0, .int .i64 0, .int .i64 0, .int .i64 0, .int .i64 0, .int .i64 0]
  rw [World.size_alloc] at q1
  have hD2 := (hD.alloc (.cells (Cd.arr ⟨r, k, v, f, t, x, y⟩) 32)).alloc (.cells #[.int .i64 0, .int .i64 0, .int .i64 0, .int .i64 0, .int .i64 0, .int .i64 0, .int .i64 0] 32)
  have hG2 := grown_alloc (grown_alloc (grown_refl w (some b)) (.cells (Cd.arr ⟨r, k, v, f, t, x, y⟩) 32)) (.cells #[.int .i64 0, .int .i64 0, .int .i64 0, .int .i64 0, .int .i64 0, .int .i64 0, .int .i64 0] 32)
  have P2 := hide (show OdP w b ⟨r, k, v, f, t, x, y⟩ _ from ⟨q0, q1, hD2, hG2⟩)
  unfold Cd.arr at hD2 P2 ⊢
  clear q0 q1 hG2
  go_enter Tryd.func10, Tryd.ntmps10
  go_wp2_with fail
  generalize ((w.alloc _).alloc _) = w2 at *
  refine (next_any b 7 (by omega) _ hD2).mono ?_
  rintro e w3 ⟨q, rfl, hq0, hq1, hD3, hg3, -⟩
  have P3 := hide (P2.out.next hbl hD3 hg3)
  have hq : q = 0 ∨ q = 1 ∨ q = 2 ∨ q = 3 ∨ q = 4 ∨ q = 5 ∨ q = 6 := by omega
  have hw3 := P3.out.res.lt
  clear hD hD2 P2 hD3 hg3 hq0 hq1
  rcases hq with rfl | rfl | rfl | rfl | rfl | rfl | rfl
  · have p9 := Blk.new w3 3 #[.int .i64 0, .int .i64 9, .int .i64 10]
    have P4 := hide (P3.out.alloc (.cells #[.int .i64 0, .int .i64 9, .int .i64 10] 3))
    go_wp2_with fail
    generalize w3.alloc _ = w4 at *
    generalize w3.heap.size = g9 at *
    refine (next_any b 3 (by omega) _ P4.out.deck).mono ?_
    rintro e w5 ⟨jj, rfl, hj0, hj1, hD5, hg5, -⟩
    obtain ⟨j, rfl⟩ : ∃ j : Nat, jj = (j : Int) := ⟨jj.toNat, by omega⟩
    obtain ⟨u, hu⟩ := cell3_at (p9.only hg5 (by omega)) (show j < 3 by omega)
    have P5 := hide (P4.out.next hbl hD5 hg5)
    have P6 := hide (show OdP w b ⟨u, k, v, f, t, x, y⟩ (w5.setCell ⟨w.heap.size, 0, none⟩ (.int .i64 u)) from P5.out.set hbl 0 _ rfl)
    have hji : (j : Int) < 3 := by omega
    obtain ⟨⟨c0, c1, c2, c3, c4, c5, c6⟩, cF⟩ := Blk.facts7 P5.out.box
    clear P3 P4 P5 hD5 hg5 p9 hj0 hj1
    go_upto_region 14 with fail
    clear c0 c1 c2 c3 c4 c5 c6 cF hu
    generalize World.setCell _ _ _ = w6 at *
    obtain ⟨⟨c0, c1, c2, c3, c4, c5, c6⟩, cF⟩ := Blk.facts7 P6.out.box
    obtain ⟨⟨r0, r1, r2, r3, r4, r5, r6⟩, rF⟩ := Blk.facts7 P6.out.res
    have hne : ¬ w.heap.size + 1 = w.heap.size := by omega
    go_wp2
    refine bodyPost_ret (v := .agg #[.int .i64 u, .int .i64 k, .int .i64 v, .int .i64 f, .int .i64 t, .int .i64 x, .int .i64 y]) (by simp [results, Tryd.results10, go_sem, r0, r1, r2, r3, r4, r5, r6]) rfl ⟨⟨u, k, v, f, t, x, y⟩, rfl, ?_, ?_⟩
    · exact (P6.out.fin hbl _ _ _ _ _ _ _).1
    · exact (P6.out.fin hbl _ _ _ _ _ _ _).2
  · go_wp2_with fail
    refine (next_any b 7 (by omega) _ P3.out.deck).mono ?_
    rintro e w5 ⟨jj, rfl, hj0, hj1, hD5, hg5, -⟩
    have hj7 : jj ≤ 6 := by omega
    obtain ⟨u, hu⟩ : ∃ u, jj - 1 = u := ⟨_, rfl⟩
    have P5 := hide (P3.out.next hbl hD5 hg5)
    have P6 := hide (show OdP w b ⟨r, u, v, f, t, x, y⟩ (w5.setCell ⟨w.heap.size, 1, none⟩ (.int .i64 u)) from P5.out.set hbl 1 _ rfl)
    obtain ⟨⟨c0, c1, c2, c3, c4, c5, c6⟩, cF⟩ := Blk.facts7 P5.out.box
    clear P3 P5 hD5 hg5 hj1
    go_upto_region 14 with fail
    clear c0 c1 c2 c3 c4 c5 c6 cF hu
    generalize World.setCell _ _ _ = w6 at *
    obtain ⟨⟨c0, c1, c2, c3, c4, c5, c6⟩, cF⟩ := Blk.facts7 P6.out.box
    obtain ⟨⟨r0, r1, r2, r3, r4, r5, r6⟩, rF⟩ := Blk.facts7 P6.out.res
    have hne : ¬ w.heap.size + 1 = w.heap.size := by omega
    go_wp2
    refine bodyPost_ret (v := .agg #[.int .i64 r, .int .i64 u, .int .i64 v, .int .i64 f, .int .i64 t, .int .i64 x, .int .i64 y]) (by simp [results, Tryd.results10, go_sem, r0, r1, r2, r3, r4, r5, r6]) rfl ⟨⟨r, u, v, f, t, x, y⟩, rfl, ?_, ?_⟩
    · exact (P6.out.fin hbl _ _ _ _ _ _ _).1
    · exact (P6.out.fin hbl _ _ _ _ _ _ _).2
  · have p9 := Blk.new w3 3 #[.int .i64 (-1), .int .i64 1073741824, .int .i64 1073741825]
    have P4 := hide (P3.out.alloc (.cells #[.int .i64 (-1), .int .i64 1073741824, .int .i64 1073741825] 3))
    go_wp2_with fail
    generalize w3.alloc _ = w4 at *
    generalize w3.heap.size = g9 at *
    refine (next_any b 3 (by omega) _ P4.out.deck).mono ?_
    rintro e w5 ⟨jj, rfl, hj0, hj1, hD5, hg5, -⟩
    obtain ⟨j, rfl⟩ : ∃ j : Nat, jj = (j : Int) := ⟨jj.toNat, by omega⟩
    obtain ⟨u, hu⟩ := cell3_at (p9.only hg5 (by omega)) (show j < 3 by omega)
    have P5 := hide (P4.out.next hbl hD5 hg5)
    have P6 := hide (show OdP w b ⟨r, k, u, f, t, x, y⟩ (w5.setCell ⟨w.heap.size, 2, none⟩ (.int .i64 u)) from P5.out.set hbl 2 _ rfl)
    have hji : (j : Int) < 3 := by omega
    obtain ⟨⟨c0, c1, c2, c3, c4, c5, c6⟩, cF⟩ := Blk.facts7 P5.out.box
    clear P3 P4 P5 hD5 hg5 p9 hj0 hj1
    go_upto_region 14 with fail
    clear c0 c1 c2 c3 c4 c5 c6 cF hu
    generalize World.setCell _ _ _ = w6 at *
    obtain ⟨⟨c0, c1, c2, c3, c4, c5, c6⟩, cF⟩ := Blk.facts7 P6.out.box
    obtain ⟨⟨r0, r1, r2, r3, r4, r5, r6⟩, rF⟩ := Blk.facts7 P6.out.res
    have hne : ¬ w.heap.size + 1 = w.heap.size := by omega
    go_wp2
    refine bodyPost_ret (v := .agg #[.int .i64 r, .int .i64 k, .int .i64 u, .int .i64 f, .int .i64 t, .int .i64 x, .int .i64 y]) (by simp [results, Tryd.results10, go_sem, r0, r1, r2, r3, r4, r5, r6]) rfl ⟨⟨r, k, u, f, t, x, y⟩, rfl, ?_, ?_⟩
    · exact (P6.out.fin hbl _ _ _ _ _ _ _).1
    · exact (P6.out.fin hbl _ _ _ _ _ _ _).2
  · have p9 := Blk.new w3 3 #[.int .i64 (-1), .int .i64 364, .int .i64 365]
    have P4 := hide (P3.out.alloc (.cells #[.int .i64 (-1), .int .i64 364, .int .i64 365] 3))
    go_wp2_with fail
    generalize w3.alloc _ = w4 at *
    generalize w3.heap.size = g9 at *
    refine (next_any b 3 (by omega) _ P4.out.deck).mono ?_
    rintro e w5 ⟨jj, rfl, hj0, hj1, hD5, hg5, -⟩
    obtain ⟨j, rfl⟩ : ∃ j : Nat, jj = (j : Int) := ⟨jj.toNat, by omega⟩
    obtain ⟨u, hu⟩ := cell3_at (p9.only hg5 (by omega)) (show j < 3 by omega)
    have P5 := hide (P4.out.next hbl hD5 hg5)
    have P6 := hide (show OdP w b ⟨r, k, v, f, u, x, y⟩ (w5.setCell ⟨w.heap.size, 4, none⟩ (.int .i64 u)) from P5.out.set hbl 4 _ rfl)
    have hji : (j : Int) < 3 := by omega
    obtain ⟨⟨c0, c1, c2, c3, c4, c5, c6⟩, cF⟩ := Blk.facts7 P5.out.box
    clear P3 P4 P5 hD5 hg5 p9 hj0 hj1
    go_upto_region 14 with fail
    clear c0 c1 c2 c3 c4 c5 c6 cF hu
    generalize World.setCell _ _ _ = w6 at *
    obtain ⟨⟨c0, c1, c2, c3, c4, c5, c6⟩, cF⟩ := Blk.facts7 P6.out.box
    obtain ⟨⟨r0, r1, r2, r3, r4, r5, r6⟩, rF⟩ := Blk.facts7 P6.out.res
    have hne : ¬ w.heap.size + 1 = w.heap.size := by omega
    go_wp2
    refine bodyPost_ret (v := .agg #[.int .i64 r, .int .i64 k, .int .i64 v, .int .i64 f, .int .i64 u, .int .i64 x, .int .i64 y]) (by simp [results, Tryd.results10, go_sem, r0, r1, r2, r3, r4, r5, r6]) rfl ⟨⟨r, k, v, f, u, x, y⟩, rfl, ?_, ?_⟩
    · exact (P6.out.fin hbl _ _ _ _ _ _ _).1
    · exact (P6.out.fin hbl _ _ _ _ _ _ _).2
  · have p9 := Blk.new w3 3 #[.int .i64 (-1), .int .i64 16777216, .int .i64 16777217]
    have P4 := hide (P3.out.alloc (.cells #[.int .i64 (-1), .int .i64 16777216, .int .i64 16777217] 3))
    go_wp2_with fail
    generalize w3.alloc _ = w4 at *
    generalize w3.heap.size = g9 at *
    refine (next_any b 3 (by omega) _ P4.out.deck).mono ?_
    rintro e w5 ⟨jj, rfl, hj0, hj1, hD5, hg5, -⟩
    obtain ⟨j, rfl⟩ : ∃ j : Nat, jj = (j : Int) := ⟨jj.toNat, by omega⟩
    obtain ⟨u, hu⟩ := cell3_at (p9.only hg5 (by omega)) (show j < 3 by omega)
    have P5 := hide (P4.out.next hbl hD5 hg5)
    have P6 := hide (show OdP w b ⟨r, k, v, f, t, u, y⟩ (w5.setCell ⟨w.heap.size, 5, none⟩ (.int .i64 u)) from P5.out.set hbl 5 _ rfl)
    have hji : (j : Int) < 3 := by omega
    obtain ⟨⟨c0, c1, c2, c3, c4, c5, c6⟩, cF⟩ := Blk.facts7 P5.out.box
    clear P3 P4 P5 hD5 hg5 p9 hj0 hj1
    go_upto_region 14 with fail
    clear c0 c1 c2 c3 c4 c5 c6 cF hu
    generalize World.setCell _ _ _ = w6 at *
    obtain ⟨⟨c0, c1, c2, c3, c4, c5, c6⟩, cF⟩ := Blk.facts7 P6.out.box
    obtain ⟨⟨r0, r1, r2, r3, r4, r5, r6⟩, rF⟩ := Blk.facts7 P6.out.res
    have hne : ¬ w.heap.size + 1 = w.heap.size := by omega
    go_wp2
    refine bodyPost_ret (v := .agg #[.int .i64 r, .int .i64 k, .int .i64 v, .int .i64 f, .int .i64 t, .int .i64 u, .int .i64 y]) (by simp [results, Tryd.results10, go_sem, r0, r1, r2, r3, r4, r5, r6]) rfl ⟨⟨r, k, v, f, t, u, y⟩, rfl, ?_, ?_⟩
    · exact (P6.out.fin hbl _ _ _ _ _ _ _).1
    · exact (P6.out.fin hbl _ _ _ _ _ _ _).2
  · have p9 := Blk.new w3 3 #[.int .i64 (-1), .int .i64 0, .int .i64 16777217]
    have P4 := hide (P3.out.alloc (.cells #[.int .i64 (-1), .int .i64 0, .int .i64 16777217] 3))
    go_wp2_with fail
    generalize w3.alloc _ = w4 at *
    generalize w3.heap.size = g9 at *
    refine (next_any b 3 (by omega) _ P4.out.deck).mono ?_
    rintro e w5 ⟨jj, rfl, hj0, hj1, hD5, hg5, -⟩
    obtain ⟨j, rfl⟩ : ∃ j : Nat, jj = (j : Int) := ⟨jj.toNat, by omega⟩
    obtain ⟨u, hu⟩ := cell3_at (p9.only hg5 (by omega)) (show j < 3 by omega)
    have P5 := hide (P4.out.next hbl hD5 hg5)
    have P6 := hide (show OdP w b ⟨r, k, v, f, t, x, u⟩ (w5.setCell ⟨w.heap.size, 6, none⟩ (.int .i64 u)) from P5.out.set hbl 6 _ rfl)
    have hji : (j : Int) < 3 := by omega
    obtain ⟨⟨c0, c1, c2, c3, c4, c5, c6⟩, cF⟩ := Blk.facts7 P5.out.box
    clear P3 P4 P5 hD5 hg5 p9 hj0 hj1
    go_upto_region 14 with fail
    clear c0 c1 c2 c3 c4 c5 c6 cF hu
    generalize World.setCell _ _ _ = w6 at *
    obtain ⟨⟨c0, c1, c2, c3, c4, c5, c6⟩, cF⟩ := Blk.facts7 P6.out.box
    obtain ⟨⟨r0, r1, r2, r3, r4, r5, r6⟩, rF⟩ := Blk.facts7 P6.out.res
    have hne : ¬ w.heap.size + 1 = w.heap.size := by omega
    go_wp2
    refine bodyPost_ret (v := .agg #[.int .i64 r, .int .i64 k, .int .i64 v, .int .i64 f, .int .i64 t, .int .i64 x, .int .i64 u]) (by simp [results, Tryd.results10, go_sem, r0, r1, r2, r3, r4, r5, r6]) rfl ⟨⟨r, k, v, f, t, x, u⟩, rfl, ?_, ?_⟩
    · exact (P6.out.fin hbl _ _ _ _ _ _ _).1
    · exact (P6.out.fin hbl _ _ _ _ _ _ _).2
  · have P6 := P3
    clear P3
    rename World => w6
    go_upto_region 14 with fail
    obtain ⟨⟨c0, c1, c2, c3, c4, c5, c6⟩, cF⟩ := Blk.facts7 P6.out.box
    obtain ⟨⟨r0, r1, r2, r3, r4, r5, r6⟩, rF⟩ := Blk.facts7 P6.out.res
    have hne : ¬ w.heap.size + 1 = w.heap.size := by omega
    go_wp2
    refine bodyPost_ret (v := .agg #[.int .i64 r, .int .i64 k, .int .i64 v, .int .i64 f, .int .i64 t, .int .i64 x, .int .i64 y]) (by simp [results, Tryd.results10, go_sem, r0, r1, r2, r3, r4, r5, r6]) rfl ⟨⟨r, k, v, f, t, x, y⟩, rfl, ?_, ?_⟩
    · exact (P6.out.fin hbl _ _ _ _ _ _ _).1
    · exact (P6.out.fin hbl _ _ _ _ _ _ _).2
end Go.Proofs.YtegjihcokndemaaDoor
