/-
  Contracts of the reach that the sanity check asks: one weight 1, denominator 1, an empty wave; and dam.Flow. Condition: the weight lies in memory.
  The contract of reach.pass at the sanity check: weight 1, denominator 1, an empty wave, the inflow 30. Condition: the weight lies in memory.
  The contract of reach.Run at the sanity check: one inflow, 30. Condition: the weight and the inflow lie in memory.
  The contract of reach.Step at the sanity check. Condition: the weight lies in memory.
-/
import Derived.Test.YtodamjjlnagpjaaGreatDoorProg
import Derived.Test.YtodamjjlnagpjaaGreatDoorTul
import Derived.Laws.IdiomCopy
import Derived.Test.YtodamjjlnagpjaaGreatDoorExt
namespace Go.Proofs.YtodamjjlnagpjaaGreatDoor
open Go.RowKit

set_option maxRecDepth 20000 in
theorem dflow_any (a b t s o p q : Int) (ht : 0 ≤ t ∧ t ≤ 1000000) (hs : 0 ≤ s ∧ s ≤ 1000000) (ho : 0 ≤ o ∧ o ≤ 1000000) (w : World) :
    Calls Tryz.prog 38 #[.agg #[.int .i64 a, .int .i64 b, .int .i64 t, .int .i64 s, .int .i64 o, .int .i64 p, .int .i64 q]] w fun e w' => e = .returned (.int .i64 (t + s + o)) ∧ Below w.heap.size w w' := by
  have q0 := Blk.new w 53 #[.int .i64 a, .int .i64 b, .int .i64 t, .int .i64 s, .int .i64 o, .int .i64 p, .int .i64 q]
  have hb := bel1 (w := w) (o := .cells #[.int .i64 a, .int .i64 b, .int .i64 t, .int .i64 s, .int .i64 o, .int .i64 p, .int .i64 q] 53)
  have c2 := (Blk.facts q0).1 2
  have c3 := (Blk.facts q0).1 3
  have c4 := (Blk.facts q0).1 4
  simp only [List.getElem?_toArray, List.getElem?_cons_succ, List.getElem?_cons_zero] at c2 c3 c4
  clear q0
  go_enter Tryz.func38, Tryz.ntmps38
  go_wp2
  go_ret
  exact ⟨rfl, hb⟩
set_option maxHeartbeats 1600000 in
set_option maxRecDepth 20000 in
theorem reachck_ok (g c : Nat) (w : World) (hc : w.cell? ⟨g, 0, none⟩ = some (.int .i64 1)) (_ : g < w.heap.size) :
    Calls Tryz.prog 95 #[.agg #[.slice (some ⟨g, 0, none⟩) 1 c, .int .i64 1]] w fun e w' => e = .returned (.int .i64 0) ∧ Below w.heap.size w w' := by
  have q0 := Blk.new w 109 #[.slice (some ⟨g, 0, none⟩) 1 c, .int .i64 1]
  have hb := bel1 (w := w) (o := .cells #[.slice (some ⟨g, 0, none⟩) 1 c, .int .i64 1] 109)
  obtain ⟨c0, c1, cf⟩ := q0.facts2
  have hc1 := cell_thr hb hc
  clear q0
  go_enter Tryz.func95, Tryz.ntmps95
  go_upto_region 1 with fail
  generalize w.alloc _ = w1 at *
  go_wp2
  go_loopw [4, 28] (fun sv i wr => ∃ k : Nat, k ≤ 1 ∧ sv = .int .i64 k ∧ i = .int .i64 k ∧ wr = w1) (fun _ i _ => 1 - (intOf i).toNat)
  case atStart => exact ⟨0, by omega, rfl, rfl, rfl⟩
  case round =>
    obtain ⟨k, hk, rfl, rfl, rfl⟩ := hrel
    by_cases h0 : k = 0
    · subst h0
      go_wp2_with fail
      refine (within_true 1 10000 (by omega) (by omega) _).mono ?_
      rintro e w' ⟨rfl, rfl⟩
      go_wp2
      go_roundw
      case rel => exact ⟨1, by omega, by go_num, by go_num, trivial⟩
      case measure => simp [intOf]
    · obtain rfl : k = 1 := by omega
      go_wp2
      go_ret
      exact ⟨rfl, hb⟩
set_option maxHeartbeats 1600000 in
set_option maxRecDepth 20000 in
theorem reachfit_ok (g c : Nat) (A : Option Addr) (c2 : Nat) (w : World) :
    Calls Tryz.prog 96 #[.agg #[.slice (some ⟨g, 0, none⟩) 1 c, .int .i64 1], .agg #[.slice A 0 c2]] w fun e w' => e = .returned (.bool true) ∧ Below w.heap.size w w' := by
  obtain ⟨q0, t0, hb⟩ := blk_two w 109 105 #[.slice (some ⟨g, 0, none⟩) 1 c, .int .i64 1] #[.slice A 0 c2]
  obtain ⟨c0, c1, cf⟩ := q0.facts2
  have e0 := (Blk.facts t0).1 0
  simp only [List.getElem?_toArray, List.getElem?_cons_zero] at e0
  clear q0 t0
  go_enter Tryz.func96, Tryz.ntmps96
  go_upto_region 1 with fail
  generalize (w.alloc _).alloc _ = w1 at *
  go_wp2
  go_loopw [32] (fun i wr => i = .int .i64 0 ∧ wr = w1) (fun _ _ => 0)
  case atStart => exact ⟨rfl, rfl⟩
  case round =>
    obtain ⟨rfl, rfl⟩ := hrel
    go_wp2
    go_ret
    exact ⟨rfl, hb⟩
end Go.Proofs.YtodamjjlnagpjaaGreatDoor
namespace Go.Proofs.YtodamjjlnagpjaaGreatDoor
open Go.RowKit

set_option maxRecDepth 20000 in
theorem make_two (w : World) : ∃ w', (Instr.makeSlice 22 (.int .i64 2) (.int .i64 2)).run Tryz.prog w = .ok (.slice (some ⟨w.heap.size, 0, none⟩) 2 2) w' ∧ Blk w' w.heap.size 3 #[.int .i64 0, .int .i64 0] ∧ Below w.heap.size w w' := by
  obtain ⟨i, hi, h1, h2, h3⟩ := info_parts (P := Tryz.prog) (e := 3) (z := .int .i64 0) (size := 1) (bytes := 8) rfl
  obtain ⟨w', r1, r2, r3⟩ := run_make_full (P := Tryz.prog) w w.heap.size 22 3 i (.int .i64 0) 1 (by kernel_rfl) hi h1 h2 .i64 .i64 2 (by rw [h3]; omega) (by unfold maxLen; omega) (Nat.le_refl _)
  refine ⟨w', r1, ?_, r3.os, r3.tape, r3.output, r3.size, fun i hi => r3.block i hi (by simp)⟩
  rcases r2.2 with ⟨h, _⟩ | ⟨g, cap, cur, hv, _, hg, _, _, hs, ht⟩
  · cases h
  · injection hv with hv1 hv2 hv3
    injection hv1 with hv1
    injection hv1 with hv1 _ _
    subst hv1 hv3
    have hl : cur.toList.length = 2 := by simpa using hs
    rw [List.take_of_length_le (by omega)] at ht
    have hcur : cur = #[.int .i64 0, .int .i64 0] := by
      have h9 : cur.toList = [.int .i64 0, .int .i64 0] := by
        rw [ht]
        show (madeCells #[.int .i64 0] (2 * 1)).toList = _
        rw [toList_madeCells_one]
        rfl
      rw [← Array.toArray_toList (xs := cur), h9]
    rw [hcur] at hg
    exact hg
set_option maxHeartbeats 1600000 in
set_option maxRecDepth 20000 in
theorem pass_ok (g c : Nat) (w : World) (hc : w.cell? ⟨g, 0, none⟩ = some (.int .i64 1)) (_ : g < w.heap.size) :
    Calls Tryz.prog 97 #[.agg #[.slice (some ⟨g, 0, none⟩) 1 c, .int .i64 1], .agg #[.slice none 0 0], .int .i64 30] w fun e w' => (∃ L : Nat, e = .returned (.tuple #[.agg #[.slice (some ⟨L, 0, none⟩) 0 2], .int .i64 30, .bool true])) ∧ Below w.heap.size w w' := by
  obtain ⟨q0, t0, r0, hb0⟩ := blk_three w 109 105 105 #[.slice (some ⟨g, 0, none⟩) 1 c, .int .i64 1] #[.slice none 0 0] #[.slice none 0 0]
  have hc0 := cell_thr hb0 hc
  obtain ⟨c0, c1, cf⟩ := q0.facts2
  have e0 := (Blk.facts t0).1 0
  have f0 := (Blk.facts r0).1 0
  simp only [List.getElem?_toArray, List.getElem?_cons_zero] at e0 f0
  go_enter Tryz.func97, Tryz.ntmps97
  go_upto_region 1 with fail
  generalize ((w.alloc _).alloc _).alloc _ = w1 at *
  have hRL := r0.lt
  obtain ⟨w2, hmk, hl2, hb2⟩ := make_two w1
  replace q0 := q0.below hb2 q0.lt
  replace t0 := t0.below hb2 t0.lt
  replace r0 := r0.below hb2 r0.lt
  have hb3 := bthr hb0 hb2 hb0.size
  have hcw := cell_thr hb2 hc0
  obtain ⟨L, hLe⟩ : ∃ L, w1.heap.size = L := ⟨_, rfl⟩
  have hLw : w.heap.size ≤ L := by have := hb0.size; omega
  have hrL := r0
  have hcp : ∀ W : World, (Builtin.copy_ #[22, 22] 3 #[.slice (some ⟨L, 0, none⟩) 2 2, .slice none 0 0]).run Tryz.prog W = .ok (goInt 0) W := fun W => run_copy_none W _ _ _ 3 _ _ _ _ _ _ (by kernel_rfl) (by kernel_rfl) rfl
  rw [hLe] at hl2 hmk
  go_upto_region 2 with fail
  clear c0 c1 cf e0 f0 hmk
  obtain ⟨c0, c1, cf⟩ := q0.facts2
  have e0 := (Blk.facts t0).1 0
  simp only [List.getElem?_toArray, List.getElem?_cons_zero] at e0
  obtain ⟨l0, l1, lf⟩ := hl2.facts2
  have q3 := q0.far (p := ⟨L, 0, none⟩) (by simp only; omega) (.int .i64 30)
  have r3 := r0.far (p := ⟨L, 0, none⟩) (by simp only; omega) (.int .i64 30)
  have l3 := hl2.set_ 0 (.int .i64 30)
  have b3 := hb3.setCell (p := ⟨L, 0, none⟩) hLw (.int .i64 30)
  have hw3 : ∃ w3, w3 = w2.setCell ⟨L, 0, none⟩ (.int .i64 30) := ⟨_, rfl⟩
  obtain ⟨w3, hw3⟩ := hw3
  rw [← hw3] at q3 r3 l3 b3
  simp only [List.setIfInBounds_toArray, List.set_cons_zero] at l3
  have HW3 := hide hw3
  clear hw3
  go_wp2
  go_loopw [25] (fun kv wr => (kv = .int .i64 0 ∧ wr = w2) ∨ (kv = .int .i64 1 ∧ wr = w3)) (fun i _ => 1 - (intOf i).toNat)
  case atStart => exact .inl ⟨rfl, rfl⟩
  case round =>
    rcases hrel with ⟨rfl, rfl⟩ | ⟨rfl, rfl⟩
    · rename World => w2
      have HL0 := HW3.out
      have m0 : (w2.setCell ⟨L, 0, none⟩ (.int .i64 30)).cell? ⟨L, 0, none⟩ = some (.int .i64 30) := by rw [← HL0]; exact l3.facts2.1
      go_wp2
      go_roundw
      case rel => exact .inr ⟨by go_num, HL0.symm⟩
      case measure => simp [intOf]
    · rename World => w3
      clear c0 c1 cf e0 l0 l1 lf q0 t0 r0 hl2 hb2 hb3 hcw hrL hb0 hc0
      obtain ⟨c0, c1, cf⟩ := q3.facts2
      obtain ⟨l0, l1, lf⟩ := l3.facts2
      have hw30 : IntKind.i64.wrap 30 = 30 := by rw [IntKind.wrap_i64]; rfl
      have hcp2 : ∀ W : World, Blk W L 3 #[.int .i64 30, .int .i64 0] → (Builtin.copy_ #[22, 22] 3 #[.slice (some ⟨L, 0, none⟩) 2 2, .slice (some ⟨L, 1, none⟩) 1 1]).run Tryz.prog W = .ok (.int .i64 1) (W.setCell ⟨L, 0, none⟩ (.int .i64 0)) := fun W hW => by
        obtain ⟨h0, h1, hf⟩ := hW.facts2
        exact run_copy_cells W _ _ _ 3 L 0 2 2 ⟨L, 1, none⟩ 1 1 [.int .i64 0] (by kernel_rfl) (by kernel_rfl) rfl (fun j v hv => by cases j with | zero => (simp only [List.getElem?_cons_zero, Option.some.injEq] at hv; subst hv; exact h1) | succ n => simp at hv) (fun j hj => by simp only [List.length_cons, List.length_nil] at hj; have : j = 0 := (by omega); subst this; rw [h0]; rfl) (fun j hj => hf _) (by simp [Value.oneCell'])
      have S0 : w3.drew.cell? ⟨L, 0, none⟩ = some (.int .i64 30) ∧ w3.drew.cell? ⟨L, 1, none⟩ = some (.int .i64 0) ∧ w3.drew.cell? ⟨w.heap.size, 1, none⟩ = some (.int .i64 1) := ⟨l0, l1, c1⟩
      go_wp2_with fail
      go_region_held3 (fun W => W.cell? ⟨L, 0, none⟩ = some (.int .i64 30) ∧ W.cell? ⟨L, 1, none⟩ = some (.int .i64 0) ∧ W.cell? ⟨w.heap.size, 1, none⟩ = some (.int .i64 1)) (exact S0) (fail)
      have q4 := q3.drew
      have r4 := r3.drew
      have l4 := l3.drew
      have b4 := b3.drew
      clear c0 c1 cf l0 l1 lf S0 HW3 q3 r3 l3 b3
      generalize w3.drew = w4 at *
      obtain ⟨c0, c1, cf⟩ := q4.facts2
      obtain ⟨l0, l1, lf⟩ := l4.facts2
      have l5 := l4.set_ 1 (.int .i64 0)
      simp only [List.setIfInBounds_toArray, List.set_cons_zero, List.set_cons_succ] at l5
      have r5 := r4.far (p := ⟨L, 1, none⟩) (by simp only; omega) (.int .i64 0)
      have q5 := q4.far (p := ⟨L, 1, none⟩) (by simp only; omega) (.int .i64 0)
      have b5 := b4.setCell (p := ⟨L, 1, none⟩) hLw (.int .i64 0)
      have S0 : w4.drew.cell? ⟨L, 0, none⟩ = some (.int .i64 30) ∧ w4.drew.cell? ⟨L, 1, none⟩ = some (.int .i64 0) ∧ w4.drew.cell? ⟨w.heap.size, 1, none⟩ = some (.int .i64 1) := ⟨l0, l1, c1⟩
      have hw0 : IntKind.i64.wrap 0 = 0 := by rw [IntKind.wrap_i64]; rfl
      have S1 : (w4.setCell ⟨L, 1, none⟩ (.int .i64 0)).drew.cell? ⟨L, 0, none⟩ = some (.int .i64 30) ∧ (w4.setCell ⟨L, 1, none⟩ (.int .i64 0)).drew.cell? ⟨L, 1, none⟩ = some (.int .i64 0) ∧ (w4.setCell ⟨L, 1, none⟩ (.int .i64 0)).drew.cell? ⟨w.heap.size, 1, none⟩ = some (.int .i64 1) := ⟨l5.facts2.1, l5.facts2.2.1, q5.facts2.2.1⟩
      go_wp2_with fail
      go_region_held3 (fun W => W.cell? ⟨L, 0, none⟩ = some (.int .i64 30) ∧ W.cell? ⟨L, 1, none⟩ = some (.int .i64 0) ∧ W.cell? ⟨w.heap.size, 1, none⟩ = some (.int .i64 1)) (first | with_reducible exact S0 | with_reducible exact S1) (fail)
      have l6 := l5.drew
      have r6 := r5.drew
      have b6 := b5.drew
      clear c0 c1 cf l0 l1 lf S0 S1 q4 r4 l4 b4 l5 r5 q5 b5
      generalize (w4.setCell _ _).drew = w6 at *
      have hcp6 := hcp2 w6 l6
      have l7 := l6.set_ 0 (.int .i64 0)
      simp only [List.setIfInBounds_toArray, List.set_cons_zero] at l7
      have r7 := r6.far (p := ⟨L, 0, none⟩) (by simp only; omega) (.int .i64 0)
      have b7 := b6.setCell (p := ⟨L, 0, none⟩) hLw (.int .i64 0)
      go_upto_region 13 with fail
      clear l6 r6 b6 hcp6 hcp2 hcp
      generalize World.setCell _ _ _ = w7 at *
      obtain ⟨l0, l1, lf⟩ := l7.facts2
      have z0 := (Blk.facts r7).1 0
      have zf := (Blk.facts r7).2
      simp only [List.getElem?_toArray, List.getElem?_cons_zero] at z0
      have r8 := r7.set_ 0 (.slice (some ⟨L, 0, none⟩) 0 2)
      have b8 := b7.setCell (p := ⟨w.heap.size + 1 + 1, 0, none⟩) (by simp only; omega) (.slice (some ⟨L, 0, none⟩) 0 2)
      simp only [List.setIfInBounds_toArray, List.set_cons_zero] at r8
      have y0 := (Blk.facts r8).1 0
      simp only [List.getElem?_toArray, List.getElem?_cons_zero] at y0
      have HB8 := hide b8
      clear b8 r8 r7 b7 l7
      go_wp2
      go_loopw [9] (fun v wr => ∃ n : Nat, n ≤ 1 ∧ v = .slice (some ⟨L, 0, none⟩) n 2 ∧ wr = w7) (fun v _ => match v with | .slice _ n _ => n | _ => 0)
      case atStart => exact ⟨1, by omega, rfl, rfl⟩
      case round =>
        obtain ⟨n, hn, rfl, rfl⟩ := hrel
        by_cases h0 : n = 0
        · subst h0
          go_wp2
          refine bodyPost_ret (v := .tuple #[.agg #[.slice (some ⟨L, 0, none⟩) 0 2], .int .i64 30, .bool true]) (by simp [results, Tryz.results97, go_sem, y0]) rfl ⟨⟨_, rfl⟩, HB8.out⟩
        · obtain rfl : n = 1 := by omega
          go_wp2
          go_roundw
          case rel => exact ⟨0, by omega, rfl, trivial⟩
          case measure => simp
end Go.Proofs.YtodamjjlnagpjaaGreatDoor
namespace Go.Proofs.YtodamjjlnagpjaaGreatDoor
open Go.RowKit

set_option maxRecDepth 20000 in
theorem app_nil (W : World) : (Builtin.append_ #[22, 22] 22 #[.slice none 0 0, .slice none 0 0]).run Tryz.prog W = .ok (.slice none 0 0) W := by
  have hu : Tryz.prog.underlying 22 = some (.slice 3) := by kernel_rfl
  obtain ⟨i, hi, h1, h2, h3⟩ := info_parts (P := Tryz.prog) (e := 3) (z := .int .i64 0) (size := 1) (bytes := 8) rfl
  simp [Builtin.append_, run_underlying hu, go_sem]
def RunS (w : World) (e : Ending) (w' : World) : Prop := ∃ (A : Option Addr) (n c gv cv : Nat), e = .returned (.tuple #[.agg #[.slice A n c], .slice (some ⟨gv, 0, none⟩) 1 cv, .int .i64 0]) ∧ w'.cell? ⟨gv, 0, none⟩ = some (.int .i64 30) ∧ w.heap.size ≤ gv ∧ Below w.heap.size w w'
set_option maxHeartbeats 1600000 in
set_option maxRecDepth 20000 in
theorem rrun_ok (g c h c2 : Nat) (w : World) (hc : w.cell? ⟨g, 0, none⟩ = some (.int .i64 1)) (hg : g < w.heap.size) (hi : w.cell? ⟨h, 0, none⟩ = some (.int .i64 30)) :
    Calls Tryz.prog 66 #[.agg #[.slice (some ⟨g, 0, none⟩) 1 c, .int .i64 1], .agg #[.slice none 0 0], .slice (some ⟨h, 0, none⟩) 1 c2] w (RunS w) := by
  obtain ⟨q0, t0, r0, hb0⟩ := blk_three w 109 105 105 #[.slice (some ⟨g, 0, none⟩) 1 c, .int .i64 1] #[.slice none 0 0] #[.slice none 0 0]
  have hc0 := cell_thr hb0 hc
  have hi0 := cell_thr hb0 hi
  have hz0 := hb0.size
  obtain ⟨c0, c1, cf⟩ := q0.facts2
  go_enter Tryz.func66, Tryz.ntmps66
  go_wp2_with fail
  generalize ((w.alloc _).alloc _).alloc _ = w1 at *
  refine (reachck_ok g c w1 hc0 (by omega)).mono ?_
  rintro e w2 ⟨rfl, hb2⟩
  have q2 := q0.below hb2 q0.lt
  have t2 := t0.below hb2 t0.lt
  have r2 := r0.below hb2 r0.lt
  have hc2 := cell_thr hb2 hc0
  have hi2 := cell_thr hb2 hi0
  have hB2 := bthr hb0 hb2 hb0.size
  clear c0 c1 cf q0 t0 r0 hc0 hi0 hb0 hb2
  obtain ⟨c0, c1, cf⟩ := q2.facts2
  have e0 := (Blk.facts t2).1 0
  simp only [List.getElem?_toArray, List.getElem?_cons_zero] at e0
  have hz2 := hB2.size
  go_wp2_with fail
  refine (reachfit_ok g c none 0 w2).mono ?_
  rintro e w3 ⟨rfl, hb3⟩
  have q3 := q2.below hb3 q2.lt
  have t3 := t2.below hb3 t2.lt
  have r3 := r2.below hb3 r2.lt
  have hc3 := cell_thr hb3 hc2
  have hi3 := cell_thr hb3 hi2
  have hB3 := bthr hB2 hb3 hB2.size
  clear c0 c1 cf q2 t2 r2 hc2 hi2 hB2 hb3 e0
  obtain ⟨c0, c1, cf⟩ := q3.facts2
  have e0 := (Blk.facts t3).1 0
  simp only [List.getElem?_toArray, List.getElem?_cons_zero] at e0
  have hap := app_nil
  go_upto_region 10 with fail
  have q4 := q3.alloc (.cells #[.slice none 0 0] 105)
  have r4 := r3.alloc (.cells #[.slice none 0 0] 105)
  have x4 := Blk.new w3 105 #[.slice none 0 0]
  have hb4 := hB3.alloc hB3.size (.cells #[.slice none 0 0] 105)
  have hc4 := cell_thr (bel1 (w := w3) (o := .cells #[.slice none 0 0] 105)) hc3
  have hi4 := cell_thr (bel1 (w := w3) (o := .cells #[.slice none 0 0] 105)) hi3
  have hz3 := hB3.size
  have hr3 := r3.lt
  clear c0 c1 cf e0 hap q3 t3 r3 hc3 hi3 hB3
  generalize w3.alloc _ = w4 at *
  obtain ⟨T10, hT⟩ : ∃ T10, w3.heap.size = T10 := ⟨_, rfl⟩
  rw [hT] at x4 hz3 hr3 ⊢
  have hg4 : g < w4.heap.size := by have := hb4.size; omega
  clear hT
  go_wp2
  go_loopw [11, 40] (fun ov kv wr => (kv = .int .i64 0 ∧ ov = .slice none 0 0 ∧ wr = w4) ∨ (kv = .int .i64 1 ∧ ∃ (gv cv n c' : Nat) (A : Option Addr), ov = .slice (some ⟨gv, 0, none⟩) 1 cv ∧ wr.cell? ⟨gv, 0, none⟩ = some (.int .i64 30) ∧ (gv ≠ w.heap.size + 1 + 1 ∧ w.heap.size ≤ gv) ∧ Blk wr T10 105 #[.slice A n c'] ∧ Blk wr (w.heap.size + 1 + 1) 105 #[.slice none 0 0] ∧ Below w.heap.size w wr)) (fun _ i _ => 1 - (intOf i).toNat)
  case atStart => exact .inl ⟨rfl, rfl, rfl⟩
  case round =>
    rcases hrel with ⟨rfl, rfl, rfl⟩ | ⟨rfl, gv, cv, n, c', A, rfl, hv, ⟨hne, hge⟩, hx, hr, hb⟩
    · rename World => w4
      obtain ⟨c0, c1, cf⟩ := q4.facts2
      have e0 := (Blk.facts x4).1 0
      simp only [List.getElem?_toArray, List.getElem?_cons_zero] at e0
      go_wp2_with fail
      refine (within_true 30 1073741824 (by omega) (by omega) _).mono ?_
      rintro e w' ⟨rfl, rfl⟩
      rename World => w4
      go_wp2_with fail
      refine (pass_ok g c w4 hc4 hg4).mono ?_
      rintro e w5 ⟨⟨L, rfl⟩, hb5⟩
      have r5 := r4.below hb5 r4.lt
      have x5 := x4.below hb5 x4.lt
      have hB5 := bthr hb4 hb5 hb4.size
      have r6 := r5.alloc (.cells #[.slice (some ⟨L, 0, none⟩) 0 2] 105)
      have x6 := x5.alloc (.cells #[.slice (some ⟨L, 0, none⟩) 0 2] 105)
      have y6 := Blk.new w5 105 #[.slice (some ⟨L, 0, none⟩) 0 2]
      have hB6 := hB5.alloc hB5.size (.cells #[.slice (some ⟨L, 0, none⟩) 0 2] 105)
      clear c0 c1 cf e0 q4 r4 x4 hc4 hi4 hb5 r5 x5
      go_wp2_with fail
      generalize w5.alloc _ = w6 at *
      have y0 := (Blk.facts y6).1 0
      simp only [List.getElem?_toArray, List.getElem?_cons_zero] at y0
      have y0a := cell_thr (bel1 (w := w6) (o := .cells #[.int .i64 30] 3)) y0
      have rA : Blk ((w6.alloc (.cells #[.int .i64 30] 3)).drew) (w.heap.size + 1 + 1) 105 #[.slice none 0 0] := r6.alloc _
      have xA : Blk ((w6.alloc (.cells #[.int .i64 30] 3)).drew) T10 105 #[.slice none 0 0] := x6.alloc _
      have yA : Blk ((w6.alloc (.cells #[.int .i64 30] 3)).drew) w5.heap.size 105 #[.slice (some ⟨L, 0, none⟩) 0 2] := y6.alloc _
      have bA : Below w.heap.size w ((w6.alloc (.cells #[.int .i64 30] 3)).drew) := (hB6.alloc hB6.size _).drew
      have slA : Sl ((w6.alloc (.cells #[.int .i64 30] 3)).drew) ((w6.alloc (.cells #[.int .i64 30] 3)).drew).heap.size 1 (some ⟨w6.heap.size, 0, none⟩) 1 1 [.int .i64 30] := ⟨rfl, Nat.le_refl _, by unfold maxLen; omega, fun _ => ⟨w6.heap.size, 0, rfl, (Blk.new w6 3 #[.int .i64 30]).lt, fun j u hu => by have h9 := (Blk.facts (Blk.new w6 3 #[.int .i64 30])).1 (0 + j); rw [Nat.zero_add] at h9 ⊢; exact h9.trans (by rw [← hu]; simp)⟩⟩
      have HSL := hide slA
      clear slA
      have hT6 := x6.lt
      have hR6 := r6.lt
      have hW6 := hB6.size
      go_region_law (refine step_ext (w := ((w6.alloc (.cells #[.int .i64 30] 3)).drew)) rfl (.tmp 60) (.tmp 62) 22 rfl w6.heap.size _ _ slInt (.slice none 0 0) 0 [] (by simp [Act.eval]) (World.ownsRow_nil _ _ _ _) _ _ _ _ _ (by simp [Act.eval]) HSL.out (by simp [Value.oneCell']) (by omega) (by simp only [World.size_drew, World.size_alloc]; omega) ?_; intro v' w11 hv11 hg11 _; obtain ⟨gv, cv, rfl, hgv, _⟩ := hv11.form (by omega); have x11 : Blk w11 T10 105 #[.slice none 0 0] := (hg11.block T10 xA.lt (by simp [Value.ownBlock])).trans xA; have z0 := (Blk.facts x11).1 0; have zf := (Blk.facts x11).2; simp only [List.getElem?_toArray, List.getElem?_cons_zero] at z0; have y11 : Blk w11 w5.heap.size 105 #[.slice (some ⟨L, 0, none⟩) 0 2] := (hg11.block w5.heap.size yA.lt (by simp [Value.ownBlock])).trans yA; have y1 := (Blk.facts y11).1 0; simp only [List.getElem?_toArray, List.getElem?_cons_zero] at y1)
      all_goals
        have r11 : Blk w11 (w.heap.size + 1 + 1) 105 #[.slice none 0 0] := (hg11.block _ rA.lt (by simp [Value.ownBlock])).trans rA
        have hgl := hv11.cellAt 0 (by omega)
        have b11 : Below w.heap.size w w11 := bA.trans ((show Below ((w6.alloc (.cells #[.int .i64 30] 3)).drew).heap.size ((w6.alloc (.cells #[.int .i64 30] 3)).drew) w11 from ⟨hg11.os, hg11.tape, hg11.output, hg11.size, fun i hi => hg11.block i hi (by simp [Value.ownBlock])⟩).mono bA.size)
        have x12 := x11.set_ 0 (.slice (some ⟨L, 0, none⟩) 0 2)
        simp only [List.setIfInBounds_toArray, List.set_cons_zero] at x12
        have r12 := r11.far (p := ⟨T10, 0, none⟩) (by simp only; omega) (.slice (some ⟨L, 0, none⟩) 0 2)
        have b12 := b11.setCell (p := ⟨T10, 0, none⟩) (by simp only; omega) (.slice (some ⟨L, 0, none⟩) 0 2)
        have g12 : (w11.setCell ⟨T10, 0, none⟩ (.slice (some ⟨L, 0, none⟩) 0 2)).cell? ⟨gv, 0, none⟩ = some (.int .i64 30) := (World.cell?_of_block (Below.heap_setCell _ _ _ _ (by simp only; omega))).trans (hgl.trans (by simp))
        have hR := hide (And.intro g12 (And.intro (show gv ≠ w.heap.size + 1 + 1 ∧ w.heap.size ≤ gv from ⟨by omega, by omega⟩) (And.intro x12 (And.intro r12 b12))))
        clear x12 r12 b12 g12 r11 x11 y11 hgl b11 hv11 hg11 rA xA yA bA HSL z0 zf y0 y0a y1
        go_wp2
        go_roundw
        case rel => exact .inr ⟨by go_num, gv, cv, 0, 2, some ⟨L, 0, none⟩, rfl, hR.out⟩
        case measure => simp [intOf]
    · have x0 := (Blk.facts hx).1 0
      have z0 := (Blk.facts hr).1 0
      have zf := (Blk.facts hr).2
      simp only [List.getElem?_toArray, List.getElem?_cons_zero] at x0 z0
      have r2 := hr.set_ 0 (.slice A n c')
      simp only [List.setIfInBounds_toArray, List.set_cons_zero] at r2
      have y0 := (Blk.facts r2).1 0
      simp only [List.getElem?_toArray, List.getElem?_cons_zero] at y0
      have b2 := hide (hb.setCell (p := ⟨w.heap.size + 1 + 1, 0, none⟩) (by simp only; omega) (.slice A n c'))
      have g2 := hide ((World.cell?_of_block (w' := _root_.Go.World.setCell _ ⟨w.heap.size + 1 + 1, 0, none⟩ (.slice A n c')) (Below.heap_setCell _ _ _ _ (by simp only; omega))).trans hv)
      clear hx hr hb r2
      go_wp2
      refine bodyPost_ret (v := .tuple #[.agg #[.slice A n c'], .slice (some ⟨gv, 0, none⟩) 1 cv, .int .i64 0]) (by simp [results, Tryz.results66, go_sem, y0]) rfl ⟨A, n, c', gv, cv, rfl, g2.out, hge, b2.out⟩
end Go.Proofs.YtodamjjlnagpjaaGreatDoor
namespace Go.Proofs.YtodamjjlnagpjaaGreatDoor
open Go.RowKit

set_option maxHeartbeats 1600000 in
set_option maxRecDepth 20000 in
theorem rstep_ok (g c : Nat) (w : World) (hc : w.cell? ⟨g, 0, none⟩ = some (.int .i64 1)) (hg : g < w.heap.size) :
    Calls Tryz.prog 37 #[.agg #[.slice (some ⟨g, 0, none⟩) 1 c, .int .i64 1], .agg #[.slice none 0 0], .int .i64 30] w fun e w' => (∃ (A : Option Addr) (n c : Nat), e = .returned (.tuple #[.agg #[.slice A n c], .int .i64 30, .int .i64 0])) ∧ Below w.heap.size w w' := by
  obtain ⟨q0, t0, r0, hb0⟩ := blk_three w 109 105 105 #[.slice (some ⟨g, 0, none⟩) 1 c, .int .i64 1] #[.slice none 0 0] #[.slice none 0 0]
  have hc0 := cell_thr hb0 hc
  have hz0 := hb0.size
  obtain ⟨c0, c1, cf⟩ := q0.facts2
  have e0 := (Blk.facts t0).1 0
  simp only [List.getElem?_toArray, List.getElem?_cons_zero] at e0
  go_enter Tryz.func37, Tryz.ntmps37
  go_upto_region 1 with fail
  generalize ((w.alloc _).alloc _).alloc _ = w1 at *
  have hi1 := (Blk.facts (Blk.new w1 3 #[.int .i64 30])).1 0
  simp only [List.getElem?_toArray, List.getElem?_cons_zero] at hi1
  have hb1 := hb0.alloc hb0.size (.cells #[.int .i64 30] 3)
  have hc1 := cell_thr (bel1 (w := w1) (o := .cells #[.int .i64 30] 3)) hc0
  have r1 := r0.alloc (.cells #[.int .i64 30] 3)
  have hrl := r0.lt
  go_wp2_with fail
  generalize hw2 : w1.alloc _ = w2 at *
  have hw12 : w1.heap.size < w2.heap.size := by rw [← hw2]; simp
  generalize w1.heap.size = h1 at *
  clear hw2
  refine (rrun_ok g c h1 1 w2 hc1 (by have := hb1.size; omega) hi1).mono ?_
  rintro e w3 ⟨A, n, c', gv, cv, rfl, hgv, hge, hb3⟩
  have r3 := r1.below hb3 r1.lt
  have hB3 := bthr hb1 hb3 hb1.size
  have r4 := r3.alloc (.cells #[.slice A n c'] 105)
  have hB4 := hB3.alloc hB3.size (.cells #[.slice A n c'] 105)
  have y4 := (Blk.facts (Blk.new w3 105 #[.slice A n c'])).1 0
  simp only [List.getElem?_toArray, List.getElem?_cons_zero] at y4
  have g4 := cell_thr (bel1 (w := w3) (o := .cells #[.slice A n c'] 105)) hgv
  have z0 := (Blk.facts r4).1 0
  have zf := (Blk.facts r4).2
  simp only [List.getElem?_toArray, List.getElem?_cons_zero] at z0
  have r5 := r4.set_ 0 (.slice A n c')
  simp only [List.setIfInBounds_toArray, List.set_cons_zero] at r5
  have x0 := (Blk.facts r5).1 0
  simp only [List.getElem?_toArray, List.getElem?_cons_zero] at x0
  have hz2 := hb1.size
  have g5 := (World.cell?_of_block (w' := (w3.alloc (.cells #[.slice A n c'] 105)).setCell ⟨w.heap.size + 1 + 1, 0, none⟩ (.slice A n c')) (Below.heap_setCell _ _ _ gv (by simp only; omega))).trans g4
  have y5 := (World.cell?_of_block (w' := (w3.alloc (.cells #[.slice A n c'] 105)).setCell ⟨w.heap.size + 1 + 1, 0, none⟩ (.slice A n c')) (Below.heap_setCell _ _ _ w3.heap.size (by have := hB3.size; have := r3.lt; simp only; omega))).trans y4
  have b5 := hide (hB4.setCell (p := ⟨w.heap.size + 1 + 1, 0, none⟩) (by simp only; omega) (.slice A n c'))
  clear c0 c1 cf e0 hi1 hc1 hc0 q0 t0 r0 r1 r3 r4 r5 hb0 hb1 hb3 hB3 hB4 hgv
  go_wp2
  go_region_law (fail)
  all_goals
    go_wp2
    refine bodyPost_ret (v := .tuple #[.agg #[.slice A n c'], .int .i64 30, .int .i64 0]) (by simp [results, Tryz.results37, go_sem, x0]) rfl ⟨⟨A, n, c', rfl⟩, b5.out.drew⟩
end Go.Proofs.YtodamjjlnagpjaaGreatDoor
