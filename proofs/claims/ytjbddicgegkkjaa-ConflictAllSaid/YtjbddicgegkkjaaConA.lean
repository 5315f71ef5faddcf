/-
  The conflict laws' sanity check returns true, in whatever memory; and what kinds can exclude one another: the walk of ConflictKinds.
-/
import Derived.Test.YtjbddicgegkkjaaProg
import Derived.Test.YtjbddicgegkkjaaPairc
namespace Go.Proofs.Ytjbddicgegkkjaa
open Go.RowKit
theorem bth {a b c : World} (h : Below a.heap.size a b) (k : Below b.heap.size b c) : Below a.heap.size a c := bthr h k h.size
def exA : Cd := ⟨1, 1, 20, 0, 364, 0, 16777216⟩
def exB : Cd := ⟨1, 2, 10, 0, 364, 0, 16777216⟩
def exC : Cd := ⟨1, 3, 5, 0, 364, 0, 16777216⟩
theorem exAB : pM exA exB = true ∧ pE exA exB = true := by decide +kernel
theorem exAC : pM exA exC = true ∧ pE exA exC = false := by decide +kernel
theorem ex_ab (w : World) : Calls Try.prog 10 #[.agg exA.arr, .agg exB.arr] w (PairPost w true true) := by
  have h := Pair_any exA exB w
  rwa [exAB.1, exAB.2] at h
theorem ex_ac (w : World) : Calls Try.prog 10 #[.agg exA.arr, .agg exC.arr] w (PairPost w true false) := by
  have h := Pair_any exA exC w
  rwa [exAC.1, exAC.2] at h
set_option maxHeartbeats 800000 in
set_option maxRecDepth 20000 in
theorem awake_any (w : World) : Calls Try.prog 14 #[] w fun e w' => e = .returned (.bool true) ∧ Below w.heap.size w w' := by
  have HA := hide ex_ab
  have HC := hide ex_ac
  unfold exA exB Cd.arr at HA
  unfold exA exC Cd.arr at HC
  go_enter Try.func14, Try.ntmps14
  go_wp2_with fail
  have hB := ((bel1 (w := w) (o := .cells #[.int .i64 0, .int .i64 364] 26)).alloc (by simp) (.cells exA.arr 28))
  have hB := (hB.alloc (by simp only [World.size_alloc]; omega) (.cells exB.arr 28)).alloc (by simp only [World.size_alloc]; omega) (.cells exC.arr 28)
  have q1 := Blk.new (w.alloc (.cells #[.int .i64 0, .int .i64 364] 26)) 28 exA.arr
  have q1 := (q1.alloc (.cells exB.arr 28)).alloc (.cells exC.arr 28)
  have q2 := Blk.new (((w.alloc (.cells #[.int .i64 0, .int .i64 364] 26)).alloc (.cells exA.arr 28)).alloc (.cells exB.arr 28)) 28 exC.arr
  simp only [World.size_alloc] at q1 q2
  unfold exA exB exC Cd.arr at hB q1 q2
  generalize ((((w.alloc _).alloc _).alloc _).alloc _) = w2 at *
  refine (HA.out _).mono ?_
  rintro e w3 ⟨rfl, hb1⟩
  have hB1 := bthr hB hb1 hB.size
  replace q1 := q1.below hb1 q1.lt
  replace q2 := q2.below hb1 q2.lt
  clear hB hb1
  obtain ⟨⟨a0, a1, a2, a3, a4, a5, a6⟩, _⟩ := Blk.facts7 q1
  obtain ⟨⟨b0, b1, b2, b3, b4, b5, b6⟩, _⟩ := Blk.facts7 q2
  go_wp2_with fail
  refine (HC.out _).mono ?_
  rintro e w4 ⟨rfl, hb1⟩
  go_wp2
  go_ret
  exact ⟨rfl, bthr hB1 hb1 hB1.size⟩
end Go.Proofs.Ytjbddicgegkkjaa
