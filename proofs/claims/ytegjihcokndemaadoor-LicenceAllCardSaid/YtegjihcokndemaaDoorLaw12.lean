/-
  The licence laws' sanity check returns true, in whatever memory. Condition: the table of kinds holds what the program lays.
-/
import Derived.Test.YtegjihcokndemaaDoorProg
import Derived.Test.YtegjihcokndemaaDoorPer
import Derived.Test.YtegjihcokndemaaDoorApp
namespace Go.Proofs.YtegjihcokndemaaDoor
open Go.RowKit

theorem bth {a b c : World} (h : Below a.heap.size a b) (k : Below b.heap.size b c) : Below a.heap.size a c := bthr h k h.size
theorem Sl.of_blkN {w : World} {g n size : Nat} {t : TypeId} {cs : Array Value} {xs : List Value} (h : Blk w g t cs) (hx : cs.toList = xs) (hn : xs.length = n * size) (hm : n ≤ maxLen) : Sl w w.heap.size size (some ⟨g, 0, none⟩) n n xs :=
  ⟨hn, Nat.le_refl _, hm, fun _ => ⟨g, 0, rfl, h.lt, fun j u hu => by
    rw [h.facts.1, ← hu, ← hx]; simp⟩⟩
def exL : Cd := ⟨1, 3, 5, 0, 364, 0, 16777216⟩
theorem exL_ok : exL.err = 0 ∧ bOk exL 10 = true ∧ bLeast exL 10 = 0 ∧ bMost exL 10 = 15 ∧ (inB 0 364 3 && decide ((0 : Int) ≤ 1) && decide ((1 : Int) ≤ 16777216)) = true := by decide +kernel
theorem ex_bnd (w : World) (hT : KT w) : Calls Tryd.prog 21 #[.agg exL.arr, .int .i64 10] w fun e w' => e = .returned (.tuple #[.agg #[.int .i64 0, .int .i64 15], .bool true]) ∧ Below w.heap.size w w' := by
  have h := lbnd_ok exL 10 w hT exL_ok.2.1
  rwa [exL_ok.2.2.1, exL_ok.2.2.2.1] at h
theorem ex_app (w : World) : Calls Tryd.prog 23 #[.agg exL.arr, .int .i64 3, .int .i64 1] w fun e w' => e = .returned (.bool true) ∧ Below w.heap.size w w' := by
  have h := applies_ok exL 3 1 w exL_ok.1
  have h2 : (inB exL.from_ exL.to_ 3 && decide (exL.above ≤ 1) && decide (1 ≤ exL.below)) = true := exL_ok.2.2.2.2
  rwa [h2] at h
set_option maxHeartbeats 800000 in
set_option maxRecDepth 20000 in
theorem awake_any (w : World) (hT : KT w) : Calls Tryd.prog 6 #[] w fun e w' => e = .returned (.bool true) ∧ Below w.heap.size w w' := by
  have HA := hide ex_bnd
  have HB := hide ex_app
  unfold exL Cd.arr at HA HB
  have hB := bel1 (w := w) (o := .cells exL.arr 32)
  have hT2 := hT.alloc (.cells exL.arr 32)
  have q1 := Blk.new w 32 exL.arr
  unfold exL Cd.arr at hB q1 hT2
  go_enter Tryd.func6, Tryd.ntmps6
  go_wp2_with fail
  generalize (w.alloc _) = w2 at *
  refine (HA.out _ hT2).mono ?_
  rintro e w3 ⟨rfl, hb1⟩
  have hB1 := bthr hB hb1 hB.size
  replace q1 := (q1.below hb1 q1.lt).alloc (.cells #[.int .i64 0, .int .i64 15] 47)
  have q2 := Blk.new w3 47 #[.int .i64 0, .int .i64 15]
  have hB2 := hB1.alloc hB1.size (.cells #[.int .i64 0, .int .i64 15] 47)
  clear hB hb1
  obtain ⟨⟨a0, a1, a2, a3, a4, a5, a6⟩, _⟩ := Blk.facts7 q1
  obtain ⟨b0, b1, _⟩ := Blk.facts2 q2
  go_wp2_with fail
  generalize (w3.alloc _) = w4 at *
  refine (HB.out _).mono ?_
  rintro e w5 ⟨rfl, hb5⟩
  have hB5 := bthr hB2 hb5 hB2.size
  replace q1 := q1.below hb5 q1.lt
  clear a0 a1 a2 a3 a4 a5 a6 b0 b1 hB2 hb5
  obtain ⟨⟨a0, a1, a2, a3, a4, a5, a6⟩, _⟩ := Blk.facts7 q1
  go_wp2_with fail
  refine (check_ok _ 1 _ [exL] _ (by omega) (by intro x hx; rw [List.mem_singleton] at hx; subst hx; exact exL_ok.1) (Sl.of_blkN (Blk.new w5 32 exL.arr) rfl rfl (by unfold maxLen; omega))).mono ?_
  rintro e w6 ⟨rfl, hb6⟩
  have hB6 := hB5.alloc hB5.size (.cells exL.arr 32)
  have hB7 := hide (bthr hB6 hb6 hB6.size)
  clear a0 a1 a2 a3 a4 a5 a6 hb6 hB6 hB5
  go_wp2
  go_ret
  exact ⟨rfl, hB7.out⟩
end Go.Proofs.YtegjihcokndemaaDoor
