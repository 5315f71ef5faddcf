/-
  awake, the sanity check, answers true. Condition: the table of words, the table of kinds and bytealg.MaxLen lie in memory.
  TopOperated answers true for every list, where the tables lie as the program lays them. Condition: these tables.
-/
import Derived.Test.YtodamjjlnagpjaaGreatDoorProg
import Derived.Test.YtodamjjlnagpjaaGreatDoorTge
import Derived.Test.YtodamjjlnagpjaaGreatDoorTck
import Derived.Test.YtodamjjlnagpjaaGreatDoorTal
import Derived.Test.YtodamjjlnagpjaaGreatDoorTor
import Derived.Test.YtodamjjlnagpjaaGreatDoorTrs
import Derived.Laws.MakeOwn
import Derived.Test.YtodamjjlnagpjaaGreatDoorTop
namespace Go.Proofs.YtodamjjlnagpjaaGreatDoor
open Go.RowKit

section
variable {P : Program} {ops : Array Oper} {Q : Exit → Act → World → Prop} {i : Nat} {o : Oper} {a : Act} {w w' : World} {K : Act → World → Prop} {v : Value}
theorem opJ_make (ho : ops[i]? = some o) (hg : o.guard = none) (t : TypeId) (x y : Operand) (p q : Value) (hop : o.op = .makeSlice t x y) (hx : a.eval x = p) (hy : a.eval y = q) (hr : (Instr.makeSlice t p q).run P w = .ok v w') (hK : K (a.put o.dst v) w') : wpOp P ops Q i K a w :=
  opJ_val (w' := w') (v := v) ho hg (by simp [execOp, hop, hx, hy, hr]) hK
theorem opJ_build03 (ho : ops[i]? = some o) (hg : o.guard = none) (t : TypeId) (x y : Operand) (p q : Value) (hop : o.op = .build t #[(0, x), (3, y)]) (hx : a.eval x = p) (hy : a.eval y = q) (hr : (Instr.build t #[(0, p), (3, q)]).run P w = .ok v w) (hK : K (a.put o.dst v) w) : wpOp P ops Q i K a w :=
  opJ_val (w' := w) (v := v) ho hg (by simp [execOp, hop, hx, hy, hr]) hK
end
theorem run_aw_make (w : World) : (Instr.makeSlice 33 (.int .i64 1) (.int .i64 1)).run Tryz.prog w = .ok (.slice (some ⟨w.heap.size, 0, none⟩) 1 1) (w.alloc (.cells #[.int .i64 0, .bool false] 99)) := by
  have h1 : (Tryz.prog.info? 99).map (fun i => (i.zero, i.size, i.bytes)) = some (some (.agg #[.int .i64 0, .bool false]), 2, 16) := by kernel_rfl
  cases hi : Tryz.prog.info? 99 with
  | none => rw [hi] at h1; cases h1
  | some i =>
    rw [hi] at h1
    simp only [Option.map_some, Option.some.injEq, Prod.mk.injEq] at h1
    obtain ⟨e1, e2, e3⟩ := h1
    have h := run_makeSlice (P := Tryz.prog) (w := w) 33 99 i (.agg #[.int .i64 0, .bool false]) Tryz.underlying33 hi e1 .i64 .i64 1 1 (by decide) (by decide) (by rw [e2]; decide) (by rw [e3]; decide) (by decide)
    rw [e2, show madeCells (Value.agg #[.int .i64 0, .bool false]).cells (Int.toNat 1 * 2) = #[.int .i64 0, .bool false] by kernel_rfl] at h
    exact h
/-- The step of the sanity check. -/
theorem aw_stepc (z gx : Nat) (W : World) (hd : (awM z).ok W) (hg : Blk W gx 99 #[.int .i64 0, .bool false]) :
    Calls Tryz.prog 12 #[.agg #[.slice (some ⟨z, 0, none⟩) 2 2, .int .i64 100, .int .i64 120, .int .i64 150, .int .i64 180, .int .i64 200, .slice none 0 0, .slice (some ⟨z + 1 + 1 + 1 + 1, 0, none⟩) 1 1, .int .i64 1], .agg #[.int .i64 500, .int .i64 0, .slice none 0 0, .slice (some ⟨gx, 0, none⟩) 1 1], .int .i64 10, .int .i64 0, .int .i64 30] W fun e w' => ∃ (L T Sp O pw st : Int) (s2 : Ds), e = .returned (.tuple #[.agg #[.int .i64 s2.vo, .int .i64 s2.re, .slice s2.uA s2.un s2.uc, .slice s2.gA s2.gn s2.gc], .agg #[.int .i64 10, .int .i64 L, .int .i64 T, .int .i64 Sp, .int .i64 O, .int .i64 pw, .int .i64 st], .int .i64 0]) ∧ (L = 0 ∧ T = 0 ∧ Sp = 30 ∧ O = 0 ∧ s2.vo = 480) ∧ Below W.heap.size W w' := by
  refine (step_any (awM z) (awS (some ⟨gx, 0, none⟩) 1) (awD_ok _ _ _ _ _ _ _ _) (awS_ok _ _ _ _ _ _ _ _ _ _) 10 0 30 (by omega) (by omega) (by omega) W hd ⟨Sl.none_ _ _ _, Sl.of_blkN hg rfl rfl (show (1 : Nat) ≤ maxLen by unfold maxLen; omega)⟩).mono ?_
  rintro e w' ⟨L, T, S, O, pw, st, s2, rfl, hQ, _, _, hb⟩
  exact ⟨L, T, S, O, pw, st, s2, rfl, aw_step hQ, hb⟩
set_option maxHeartbeats 6400000 in
set_option maxRecDepth 20000 in
theorem awake_any (m : Int) (w : World) (hW : WT w) (hT : KT w) (hm : w.cell? ⟨2, 0, none⟩ = some (.int .i64 m)) :
    Calls Tryz.prog 14 #[] w fun e w' => e = .returned (.bool true) ∧ Below w.heap.size w w' := by
  have HW := hide hW
  have HT := hide hT
  have HM := hide hm
  clear hW hT hm
  have hh := aw_heap w
  unfold awW at hh
  obtain ⟨hd0, hq0, hb0, hz0⟩ := hh
  have HF := hide (fun (pw st : Int) (W : World) => show Calls Tryz.prog 38 #[.agg #[.int .i64 10, .int .i64 0, .int .i64 0, .int .i64 30, .int .i64 0, .int .i64 pw, .int .i64 st]] W (fun e w' => e = .returned (.int .i64 30) ∧ Below W.heap.size W w') from dflow_any 10 0 0 30 0 pw st (by omega) (by omega) (by omega) W)
  go_enter Tryz.func14, Tryz.ntmps14
  go_wp2_with fail
  generalize ((((((w.alloc _).alloc _).alloc _).alloc _).alloc _).alloc _) = W0 at *
  have hp1 := HW.out.pos
  have hp2 := HT.out.pos
  have hp3 := World.block_lt_of_cell? w _ HM.out
  generalize hz : w.heap.size = z at *
  refine (parse_ok m W0 (HW.out.below hb0 hp1) ((hb0.cell (p := ⟨2, 0, none⟩) hp3).trans HM.out)).mono ?_
  rintro e w1 ⟨v, rfl, hv, hb1⟩
  obtain ⟨A1, c1, rfl, hs1⟩ := own_sl hv
  have hB1 := hb0.trans (hb1.mono (show z ≤ W0.heap.size by omega))
  have hz1 := hb1.size
  go_wp2_with fail
  refine (choose_two A1 c1 w1 (HT.out.below hB1 hp2) hs1).mono ?_
  rintro e w2 ⟨⟨lo, hi, Y, yn, yk, rfl⟩, hb2⟩
  have hb02 := bthr hb1 hb2 hb1.size
  have hz2 := hb02.size
  go_wp2_with fail
  have hb3 : Below W0.heap.size W0 (w2.alloc (.cells #[.int .i64 30, .int .i64 lo, .int .i64 hi, .slice Y yn yk] 48)) := hb02.alloc hz2 _
  have HQ6 := hide (Blk.new w2 48 #[.int .i64 30, .int .i64 lo, .int .i64 hi, .slice Y yn yk])
  have HQ2 := hide (show Blk (w2.alloc (.cells #[.int .i64 30, .int .i64 lo, .int .i64 hi, .slice Y yn yk] 48)) (z + 1 + 1 + 1 + 1 + 1) 31 #[.slice (some ⟨z, 0, none⟩) 2 2, .int .i64 100, .int .i64 120, .int .i64 150, .int .i64 180, .int .i64 200, .slice none 0 0, .slice (some ⟨z + 1 + 1 + 1 + 1, 0, none⟩) 1 1, .int .i64 1] from hq0.below hb3 hq0.lt)
  have HD3 := hide (hd0.below hb3)
  have hBw := hb0.trans (hb3.mono (show z ≤ W0.heap.size by omega))
  have hzw : z ≤ (w2.alloc (.cells #[.int .i64 30, .int .i64 lo, .int .i64 hi, .slice Y yn yk] 48)).heap.size := by simp only [World.size_alloc]; omega
  have HSP := hide (fun (gx : Nat) (W : World) (hd : (awM z).ok W) (hg : Blk W gx 99 #[.int .i64 0, .bool false]) => aw_stepc z gx W hd hg)
  generalize z + 1 + 1 + 1 + 1 + 1 = T2 at *
  generalize (w2.alloc _) = w3 at *
  generalize w2.heap.size = T6 at *
  clear hd0 hq0 hb0 hz0 hb1 hs1 hv hB1 hz1 hb2 hb02 hz2 hb3 hp1 hp2 hp3
  -- <R
  refine wp_region_Jb (J := fun a0 l a' w' => ∃ (gx xa xb : Nat) (L T Sp O pw st : Int) (s2 : Ds), a' = putIf (done l 0) 39 (.agg #[.slice (some ⟨z, 0, none⟩) 2 2, .int .i64 100, .int .i64 120, .int .i64 150, .int .i64 180, .int .i64 200, .slice none 0 0, .slice (some ⟨z + 1 + 1 + 1 + 1, 0, none⟩) 1 1, .int .i64 1]) (putIf (done l 1) 40 (.slice (some ⟨gx, 0, none⟩) 1 1) (putIf (done l 2) 41 (.agg #[.int .i64 500, .int .i64 0, .slice none 0 0, .slice (some ⟨gx, 0, none⟩) 1 1]) (putIf (done l 3) 42 (.pointer (some ⟨T6, 0, none⟩)) (putIf (done l 4) 43 (.int .i64 30) (putIf (done l 5) 44 (.tuple #[.agg #[.int .i64 s2.vo, .int .i64 s2.re, .slice s2.uA s2.un s2.uc, .slice s2.gA s2.gn s2.gc], .agg #[.int .i64 10, .int .i64 L, .int .i64 T, .int .i64 Sp, .int .i64 O, .int .i64 pw, .int .i64 st], .int .i64 0]) (putIf (done l 6) 38 (.tuple #[.agg #[.int .i64 s2.vo, .int .i64 s2.re, .slice s2.uA s2.un s2.uc, .slice s2.gA s2.gn s2.gc], .agg #[.int .i64 10, .int .i64 L, .int .i64 T, .int .i64 Sp, .int .i64 O, .int .i64 pw, .int .i64 st], .int .i64 0]) (putIf (done l 7) 45 (.agg #[.int .i64 s2.vo, .int .i64 s2.re, .slice s2.uA s2.un s2.uc, .slice s2.gA s2.gn s2.gc]) (putIf (done l 8) 46 (.agg #[.int .i64 10, .int .i64 L, .int .i64 T, .int .i64 Sp, .int .i64 O, .int .i64 pw, .int .i64 st]) (putIf (done l 9) 47 (.int .i64 0) (putIf (done l 10) 8 (.pointer (some ⟨xa, 0, none⟩)) (putIf (done l 11) 9 (.pointer (some ⟨xb, 0, none⟩)) (putIf (done l 14) 10 (.int .i64 0) (a0))))))))))))) ∧ Below w3.heap.size w3 w' ∧ (done l 1 = true → done l 5 = false → w3.heap.size ≤ gx ∧ Blk w' gx 99 #[.int .i64 0, .bool false]) ∧ (done l 5 = true → L = 0 ∧ T = 0 ∧ Sp = 30 ∧ O = 0 ∧ s2.vo = 480) ∧ (done l 10 = true → w3.heap.size ≤ xa ∧ Blk w' xa 35 (sel (done l 12) #[.int .i64 s2.vo, .int .i64 s2.re, .slice s2.uA s2.un s2.uc, .slice s2.gA s2.gn s2.gc] #[.int .i64 0, .int .i64 0, .slice none 0 0, .slice none 0 0])) ∧ (done l 11 = true → w3.heap.size ≤ xb ∧ Blk w' xb 53 (sel (done l 13) #[.int .i64 10, .int .i64 L, .int .i64 T, .int .i64 Sp, .int .i64 O, .int .i64 pw, .int .i64 st] #[.int .i64 0, .int .i64 0, .int .i64 0, .int .i64 0, .int .i64 0, .int .i64 0, .int .i64 0])) ∧ (done l 10 = true → done l 11 = true → xa ≠ xb) ∧ (done l 2 = true → done l 1 = true) ∧ (done l 5 = true → done l 2 = true) ∧ (done l 6 = true → done l 5 = true) ∧ (done l 7 = true → done l 6 = true) ∧ (done l 8 = true → done l 6 = true) ∧ (done l 12 = true → done l 5 = true) ∧ (done l 13 = true → done l 5 = true) ∧ (done l 12 = true → done l 10 = true) ∧ (done l 13 = true → done l 11 = true)) (by kernel_rfl) ?_ ?_ ?_ ?_
  · refine ⟨0, 0, 0, 0, 0, 0, 0, 0, 0, awS none 0, ?_, (Below.refl _ _).drew, fun h => ?_, fun h => ?_, fun h => ?_, fun h => ?_, fun h => ?_, fun h => ?_, fun h => ?_, fun h => ?_, fun h => ?_, fun h => ?_, fun h => ?_, fun h => ?_, fun h => ?_, fun h => ?_⟩
    · simp only [done_none]; rfl
    · rw [done_none] at h; cases h
    · rw [done_none] at h; cases h
    · rw [done_none] at h; cases h
    · rw [done_none] at h; cases h
    · rw [done_none] at h; cases h
    · rw [done_none] at h; cases h
    · rw [done_none] at h; cases h
    · rw [done_none] at h; cases h
    · rw [done_none] at h; cases h
    · rw [done_none] at h; cases h
    · rw [done_none] at h; cases h
    · rw [done_none] at h; cases h
    · rw [done_none] at h; cases h
    · rw [done_none] at h; cases h
  · intro l a' w' i hsz hJ hi
    obtain ⟨gx, xa, xb, L, T, Sp, O, pw, st, s2, rfl, hb, h1, h5, h10, h11, hx, h21, h52, h65, h76, h86, h125, h135, h1210, h1311⟩ := hJ
    rw [ready_iff] at hi
    obtain ⟨hiN, hnl, haf⟩ := hi
    have hz' := done_not hnl
    have hl := getD_lt hnl
    have hcases : i = 0 ∨ i = 1 ∨ i = 2 ∨ i = 3 ∨ i = 4 ∨ i = 5 ∨ i = 6 ∨ i = 7 ∨ i = 8 ∨ i = 9 ∨ i = 10 ∨ i = 11 ∨ i = 12 ∨ i = 13 ∨ i = 14 := by
      have : i < 15 := hiN
      omega
    rcases hcases with rfl | rfl | rfl | rfl | rfl | rfl | rfl | rfl | rfl | rfl | rfl | rfl | rfl | rfl | rfl
    · skip
      have dq1 := dOt 0 1 (l := l)
      have dq2 := dOt 0 2 (l := l)
      have dq5 := dOt 0 5 (l := l)
      have dq6 := dOt 0 6 (l := l)
      have dq7 := dOt 0 7 (l := l)
      have dq8 := dOt 0 8 (l := l)
      have dq10 := dOt 0 10 (l := l)
      have dq11 := dOt 0 11 (l := l)
      have dq12 := dOt 0 12 (l := l)
      have dq13 := dOt 0 13 (l := l)
      obtain ⟨c0, c1, c2, c3, c4, c5, c6, c7, c8, cf⟩ := facts9 (HQ2.out.below hb HQ2.out.lt)
      exact opJ_load (v := .agg #[.slice (some ⟨z, 0, none⟩) 2 2, .int .i64 100, .int .i64 120, .int .i64 150, .int .i64 180, .int .i64 200, .slice none 0 0, .slice (some ⟨z + 1 + 1 + 1 + 1, 0, none⟩) 1 1, .int .i64 1]) rfl rfl 31 (.tmp 2) (.pointer (some ⟨T2, 0, none⟩)) rfl (by simp only [pEo 39 2, pEo 40 2, pEo 41 2, pEo 42 2, pEo 43 2, pEo 44 2, pEo 38 2, pEo 45 2, pEo 46 2, pEo 47 2, pEo 8 2, pEo 9 2, pEo 10 2]; rfl) (by simp [go_sem, c0, c1, c2, c3, c4, c5, c6, c7, c8]) ⟨gx, xa, xb, L, T, Sp, O, pw, st, s2, (by show Act.put _ (some 39) _ = _; simp only [hz', putIf_here2, done_same hl, dq1, dq2, dOt 0 3, dOt 0 4, dq5, dq6, dq7, dq8, dOt 0 9, dq10, dq11, dOt 0 14]), (by (try simp only [dq1, dq2, dq5, dq6, dq7, dq8, dq10, dq11, dq12, dq13]) <;> first | exact hb | exact fun _ => trivial | exact fun h => (by cases h)), (by (try simp only [dq1, dq5]) <;> first | exact h1 | exact fun _ => trivial | exact fun h => (by cases h)), (by (try simp only [dq5]) <;> first | exact h5 | exact fun _ => trivial | exact fun h => (by cases h)), (by (try simp only [dq10, dq12]) <;> first | exact h10 | exact fun _ => trivial | exact fun h => (by cases h)), (by (try simp only [dq11, dq13]) <;> first | exact h11 | exact fun _ => trivial | exact fun h => (by cases h)), (by (try simp only [dq10, dq11]) <;> first | exact hx | exact fun _ => trivial | exact fun h => (by cases h)), (by (try simp only [dq1, dq2]) <;> first | exact h21 | exact fun _ => trivial | exact fun h => (by cases h)), (by (try simp only [dq2, dq5]) <;> first | exact h52 | exact fun _ => trivial | exact fun h => (by cases h)), (by (try simp only [dq5, dq6]) <;> first | exact h65 | exact fun _ => trivial | exact fun h => (by cases h)), (by (try simp only [dq6, dq7]) <;> first | exact h76 | exact fun _ => trivial | exact fun h => (by cases h)), (by (try simp only [dq6, dq8]) <;> first | exact h86 | exact fun _ => trivial | exact fun h => (by cases h)), (by (try simp only [dq5, dq12]) <;> first | exact h125 | exact fun _ => trivial | exact fun h => (by cases h)), (by (try simp only [dq5, dq13]) <;> first | exact h135 | exact fun _ => trivial | exact fun h => (by cases h)), (by (try simp only [dq10, dq12]) <;> first | exact h1210 | exact fun _ => trivial | exact fun h => (by cases h)), (by (try simp only [dq11, dq13]) <;> first | exact h1311 | exact fun _ => trivial | exact fun h => (by cases h))⟩
    · skip
      have dq2 := dOt 1 2 (l := l)
      have dq5 := dOt 1 5 (l := l)
      have dq6 := dOt 1 6 (l := l)
      have dq7 := dOt 1 7 (l := l)
      have dq8 := dOt 1 8 (l := l)
      have dq10 := dOt 1 10 (l := l)
      have dq11 := dOt 1 11 (l := l)
      have dq12 := dOt 1 12 (l := l)
      have dq13 := dOt 1 13 (l := l)
      have hd2 : done l 2 = false := by
        cases hc : done l 2
        · rfl
        · have := h21 hc; rw [hz'] at this; cases this
      have hd5 : done l 5 = false := by
        cases hc : done l 5
        · rfl
        · have := h52 hc; rw [hd2] at this; cases this
      have hd6 : done l 6 = false := by
        cases hc : done l 6
        · rfl
        · have := h65 hc; rw [hd5] at this; cases this
      have hd12 : done l 12 = false := by
        cases hc : done l 12
        · rfl
        · have := h125 hc; rw [hd5] at this; cases this
      have hd13 : done l 13 = false := by
        cases hc : done l 13
        · rfl
        · have := h135 hc; rw [hd5] at this; cases this
      have e2 : ∀ (v : Value) (a : Act), putIf (done l 2) 41 v a = a := fun v a => by rw [hd2]; rfl
      have e5 : ∀ (v : Value) (a : Act), putIf (done l 5) 44 v a = a := fun v a => by rw [hd5]; rfl
      have e6 : ∀ (v : Value) (a : Act), putIf (done l 6) 38 v a = a := fun v a => by rw [hd6]; rfl
      have hmk := run_aw_make w'
      exact opJ_make (v := .slice (some ⟨w'.heap.size, 0, none⟩) 1 1) rfl rfl 33 (.const (.int .i64 1)) (.const (.int .i64 1)) (.int .i64 1) (.int .i64 1) rfl rfl rfl hmk ⟨w'.heap.size, xa, xb, L, T, Sp, O, pw, st, s2, (by show Act.put _ (some 40) _ = _; simp only [e2, pPu 39 40, hz', putIf_here2, done_same hl, dOt 1 0, dq2, dOt 1 3, dOt 1 4, dq5, dq6, dq7, dq8, dOt 1 9, dq10, dq11, dOt 1 14]), (by (try simp only [hd2, hd5, done_same hl, dq2, dq5, dq6, dq7, dq8, dq10, dq11, dq12, dq13]) <;> first | exact hb.alloc hb.size _ | exact fun _ => trivial | exact fun h => (by cases h)), (by (try simp only [hd5, done_same hl, dq5]) <;> first | exact fun _ _ => ⟨hb.size, Blk.new _ _ _⟩ | exact fun _ => trivial | exact fun h => (by cases h)), (by (try simp only [hd5, dq5]) <;> first | exact h5 | exact fun _ => trivial | exact fun h => (by cases h)), (by (try simp only [dq10, dq12]) <;> first | exact fun h => ⟨(h10 h).1, (h10 h).2.alloc _⟩ | exact fun _ => trivial | exact fun h => (by cases h)), (by (try simp only [dq11, dq13]) <;> first | exact fun h => ⟨(h11 h).1, (h11 h).2.alloc _⟩ | exact fun _ => trivial | exact fun h => (by cases h)), (by (try simp only [dq10, dq11]) <;> first | exact hx | exact fun _ => trivial | exact fun h => (by cases h)), (by (try simp only [hd2, done_same hl, dq2]) <;> first | exact fun h => (by cases h) | exact fun _ => trivial | exact fun h => (by cases h)), (by (try simp only [hd2, hd5, dq2, dq5]) <;> first | exact fun h => (by cases h) | exact fun _ => trivial | exact fun h => (by cases h)), (by (try simp only [hd5, dq5, dq6]) <;> first | exact fun h => (by rw [hd6] at h; cases h) | exact fun _ => trivial | exact fun h => (by cases h)), (by (try simp only [dq6, dq7]) <;> first | exact h76 | exact fun _ => trivial | exact fun h => (by cases h)), (by (try simp only [dq6, dq8]) <;> first | exact h86 | exact fun _ => trivial | exact fun h => (by cases h)), (by (try simp only [hd5, dq5, dq12]) <;> first | exact fun h => (by rw [hd12] at h; cases h) | exact fun _ => trivial | exact fun h => (by cases h)), (by (try simp only [hd5, dq5, dq13]) <;> first | exact fun h => (by rw [hd13] at h; cases h) | exact fun _ => trivial | exact fun h => (by cases h)), (by (try simp only [dq10, dq12]) <;> first | exact h1210 | exact fun _ => trivial | exact fun h => (by cases h)), (by (try simp only [dq11, dq13]) <;> first | exact h1311 | exact fun _ => trivial | exact fun h => (by cases h))⟩
    · skip
      have dq1 := dOt 2 1 (l := l)
      have dq5 := dOt 2 5 (l := l)
      have dq6 := dOt 2 6 (l := l)
      have dq7 := dOt 2 7 (l := l)
      have dq8 := dOt 2 8 (l := l)
      have dq10 := dOt 2 10 (l := l)
      have dq11 := dOt 2 11 (l := l)
      have dq12 := dOt 2 12 (l := l)
      have dq13 := dOt 2 13 (l := l)
      have dn1 : done l 1 = true := by simp [Region.binds] at haf; simp [done, haf]
      have hd5 : done l 5 = false := by
        cases hc : done l 5
        · rfl
        · have := h52 hc; rw [hz'] at this; cases this
      exact opJ_build03 (v := .agg #[.int .i64 500, .int .i64 0, .slice none 0 0, .slice (some ⟨gx, 0, none⟩) 1 1]) rfl rfl 35 (.const (.int .i64 500)) (.tmp 40) (.int .i64 500) (.slice (some ⟨gx, 0, none⟩) 1 1) rfl rfl (by simp only [pEo 39 40]; rw [dn1]; exact putIf_eval_same (by simp [putIf_size])) (by simp [go_sem]) ⟨gx, xa, xb, L, T, Sp, O, pw, st, s2, (by show Act.put _ (some 41) _ = _; simp only [pPu 39 41, pPu 40 41, hz', putIf_here2, done_same hl, dOt 2 0, dq1, dOt 2 3, dOt 2 4, dq5, dq6, dq7, dq8, dOt 2 9, dq10, dq11, dOt 2 14]), (by (try simp only [dq1, done_same hl, dq5, dq6, dq7, dq8, dq10, dq11, dq12, dq13]) <;> first | exact hb | exact fun _ => trivial | exact fun h => (by cases h)), (by (try simp only [dq1, dq5]) <;> first | exact h1 | exact fun _ => trivial | exact fun h => (by cases h)), (by (try simp only [dq5]) <;> first | exact h5 | exact fun _ => trivial | exact fun h => (by cases h)), (by (try simp only [dq10, dq12]) <;> first | exact h10 | exact fun _ => trivial | exact fun h => (by cases h)), (by (try simp only [dq11, dq13]) <;> first | exact h11 | exact fun _ => trivial | exact fun h => (by cases h)), (by (try simp only [dq10, dq11]) <;> first | exact hx | exact fun _ => trivial | exact fun h => (by cases h)), (by (try simp only [dq1, done_same hl]) <;> first | exact fun _ => dn1 | exact fun _ => trivial | exact fun h => (by cases h)), (by (try simp only [done_same hl, dq5]) <;> first | exact h52 | exact fun _ => trivial | exact fun h => (by cases h)), (by (try simp only [dq5, dq6]) <;> first | exact h65 | exact fun _ => trivial | exact fun h => (by cases h)), (by (try simp only [dq6, dq7]) <;> first | exact h76 | exact fun _ => trivial | exact fun h => (by cases h)), (by (try simp only [dq6, dq8]) <;> first | exact h86 | exact fun _ => trivial | exact fun h => (by cases h)), (by (try simp only [dq5, dq12]) <;> first | exact h125 | exact fun _ => trivial | exact fun h => (by cases h)), (by (try simp only [dq5, dq13]) <;> first | exact h135 | exact fun _ => trivial | exact fun h => (by cases h)), (by (try simp only [dq10, dq12]) <;> first | exact h1210 | exact fun _ => trivial | exact fun h => (by cases h)), (by (try simp only [dq11, dq13]) <;> first | exact h1311 | exact fun _ => trivial | exact fun h => (by cases h))⟩
    · skip
      have dq1 := dOt 3 1 (l := l)
      have dq2 := dOt 3 2 (l := l)
      have dq5 := dOt 3 5 (l := l)
      have dq6 := dOt 3 6 (l := l)
      have dq7 := dOt 3 7 (l := l)
      have dq8 := dOt 3 8 (l := l)
      have dq10 := dOt 3 10 (l := l)
      have dq11 := dOt 3 11 (l := l)
      have dq12 := dOt 3 12 (l := l)
      have dq13 := dOt 3 13 (l := l)
      exact opJ_field (v := .pointer (some ⟨T6, 0, none⟩)) rfl rfl 48 (.tmp 6) 0 (.pointer (some ⟨T6, 0, none⟩)) rfl (by simp only [pEo 39 6, pEo 40 6, pEo 41 6, pEo 42 6, pEo 43 6, pEo 44 6, pEo 38 6, pEo 45 6, pEo 46 6, pEo 47 6, pEo 8 6, pEo 9 6, pEo 10 6]; rfl) (by simp [go_sem]) ⟨gx, xa, xb, L, T, Sp, O, pw, st, s2, (by show Act.put _ (some 42) _ = _; simp only [pPu 39 42, pPu 40 42, pPu 41 42, hz', putIf_here2, done_same hl, dOt 3 0, dq1, dq2, dOt 3 4, dq5, dq6, dq7, dq8, dOt 3 9, dq10, dq11, dOt 3 14]), (by (try simp only [dq1, dq2, dq5, dq6, dq7, dq8, dq10, dq11, dq12, dq13]) <;> first | exact hb | exact fun _ => trivial | exact fun h => (by cases h)), (by (try simp only [dq1, dq5]) <;> first | exact h1 | exact fun _ => trivial | exact fun h => (by cases h)), (by (try simp only [dq5]) <;> first | exact h5 | exact fun _ => trivial | exact fun h => (by cases h)), (by (try simp only [dq10, dq12]) <;> first | exact h10 | exact fun _ => trivial | exact fun h => (by cases h)), (by (try simp only [dq11, dq13]) <;> first | exact h11 | exact fun _ => trivial | exact fun h => (by cases h)), (by (try simp only [dq10, dq11]) <;> first | exact hx | exact fun _ => trivial | exact fun h => (by cases h)), (by (try simp only [dq1, dq2]) <;> first | exact h21 | exact fun _ => trivial | exact fun h => (by cases h)), (by (try simp only [dq2, dq5]) <;> first | exact h52 | exact fun _ => trivial | exact fun h => (by cases h)), (by (try simp only [dq5, dq6]) <;> first | exact h65 | exact fun _ => trivial | exact fun h => (by cases h)), (by (try simp only [dq6, dq7]) <;> first | exact h76 | exact fun _ => trivial | exact fun h => (by cases h)), (by (try simp only [dq6, dq8]) <;> first | exact h86 | exact fun _ => trivial | exact fun h => (by cases h)), (by (try simp only [dq5, dq12]) <;> first | exact h125 | exact fun _ => trivial | exact fun h => (by cases h)), (by (try simp only [dq5, dq13]) <;> first | exact h135 | exact fun _ => trivial | exact fun h => (by cases h)), (by (try simp only [dq10, dq12]) <;> first | exact h1210 | exact fun _ => trivial | exact fun h => (by cases h)), (by (try simp only [dq11, dq13]) <;> first | exact h1311 | exact fun _ => trivial | exact fun h => (by cases h))⟩
    · skip
      have dq1 := dOt 4 1 (l := l)
      have dq2 := dOt 4 2 (l := l)
      have dq5 := dOt 4 5 (l := l)
      have dq6 := dOt 4 6 (l := l)
      have dq7 := dOt 4 7 (l := l)
      have dq8 := dOt 4 8 (l := l)
      have dq10 := dOt 4 10 (l := l)
      have dq11 := dOt 4 11 (l := l)
      have dq12 := dOt 4 12 (l := l)
      have dq13 := dOt 4 13 (l := l)
      have dn3 : done l 3 = true := by simp [Region.binds] at haf; simp [done, haf]
      have c0 := (Blk.facts (HQ6.out.below hb HQ6.out.lt)).1 0
      simp only [List.getElem?_toArray, List.getElem?_cons_zero] at c0
      exact opJ_load (v := .int .i64 30) rfl rfl 3 (.tmp 42) (.pointer (some ⟨T6, 0, none⟩)) rfl (by simp only [pEo 39 42, pEo 40 42, pEo 41 42]; rw [dn3]; exact putIf_eval_same (by simp [putIf_size])) (by simp [go_sem, c0]) ⟨gx, xa, xb, L, T, Sp, O, pw, st, s2, (by show Act.put _ (some 43) _ = _; simp only [pPu 39 43, pPu 40 43, pPu 41 43, pPu 42 43, hz', putIf_here2, done_same hl, dOt 4 0, dq1, dq2, dOt 4 3, dq5, dq6, dq7, dq8, dOt 4 9, dq10, dq11, dOt 4 14]), (by (try simp only [dq1, dq2, dq5, dq6, dq7, dq8, dq10, dq11, dq12, dq13]) <;> first | exact hb | exact fun _ => trivial | exact fun h => (by cases h)), (by (try simp only [dq1, dq5]) <;> first | exact h1 | exact fun _ => trivial | exact fun h => (by cases h)), (by (try simp only [dq5]) <;> first | exact h5 | exact fun _ => trivial | exact fun h => (by cases h)), (by (try simp only [dq10, dq12]) <;> first | exact h10 | exact fun _ => trivial | exact fun h => (by cases h)), (by (try simp only [dq11, dq13]) <;> first | exact h11 | exact fun _ => trivial | exact fun h => (by cases h)), (by (try simp only [dq10, dq11]) <;> first | exact hx | exact fun _ => trivial | exact fun h => (by cases h)), (by (try simp only [dq1, dq2]) <;> first | exact h21 | exact fun _ => trivial | exact fun h => (by cases h)), (by (try simp only [dq2, dq5]) <;> first | exact h52 | exact fun _ => trivial | exact fun h => (by cases h)), (by (try simp only [dq5, dq6]) <;> first | exact h65 | exact fun _ => trivial | exact fun h => (by cases h)), (by (try simp only [dq6, dq7]) <;> first | exact h76 | exact fun _ => trivial | exact fun h => (by cases h)), (by (try simp only [dq6, dq8]) <;> first | exact h86 | exact fun _ => trivial | exact fun h => (by cases h)), (by (try simp only [dq5, dq12]) <;> first | exact h125 | exact fun _ => trivial | exact fun h => (by cases h)), (by (try simp only [dq5, dq13]) <;> first | exact h135 | exact fun _ => trivial | exact fun h => (by cases h)), (by (try simp only [dq10, dq12]) <;> first | exact h1210 | exact fun _ => trivial | exact fun h => (by cases h)), (by (try simp only [dq11, dq13]) <;> first | exact h1311 | exact fun _ => trivial | exact fun h => (by cases h))⟩
    · skip
      have dq1 := dOt 5 1 (l := l)
      have dq2 := dOt 5 2 (l := l)
      have dq6 := dOt 5 6 (l := l)
      have dq7 := dOt 5 7 (l := l)
      have dq8 := dOt 5 8 (l := l)
      have dq10 := dOt 5 10 (l := l)
      have dq11 := dOt 5 11 (l := l)
      have dq12 := dOt 5 12 (l := l)
      have dq13 := dOt 5 13 (l := l)
      have dn0 : done l 0 = true := by simp [Region.binds] at haf; simp [done, haf]
      have dn2 : done l 2 = true := by simp [Region.binds] at haf; simp [done, haf]
      have dn4 : done l 4 = true := by simp [Region.binds] at haf; simp [done, haf]
      have hd6 : done l 6 = false := by
        cases hc : done l 6
        · rfl
        · have := h65 hc; rw [hz'] at this; cases this
      have hd7 : done l 7 = false := by
        cases hc : done l 7
        · rfl
        · have := h76 hc; rw [hd6] at this; cases this
      have hd8 : done l 8 = false := by
        cases hc : done l 8
        · rfl
        · have := h86 hc; rw [hd6] at this; cases this
      have hd12 : done l 12 = false := by
        cases hc : done l 12
        · rfl
        · have := h125 hc; rw [hz'] at this; cases this
      have hd13 : done l 13 = false := by
        cases hc : done l 13
        · rfl
        · have := h135 hc; rw [hz'] at this; cases this
      have e6 : ∀ (v : Value) (a : Act), putIf (done l 6) 38 v a = a := fun v a => by rw [hd6]; rfl
      have e7 : ∀ (v : Value) (a : Act), putIf (done l 7) 45 v a = a := fun v a => by rw [hd7]; rfl
      have e8 : ∀ (v : Value) (a : Act), putIf (done l 8) 46 v a = a := fun v a => by rw [hd8]; rfl
      simp only [hd12, hd13, sel_f] at h10 h11
      obtain ⟨hg0, hgb⟩ := h1 (h21 dn2) hz'
      refine opJ_call rfl rfl 12 #[.tmp 39, .tmp 41, .const (.int .i64 10), .const (.int .i64 0), .tmp 43] _ #[.agg #[.slice (some ⟨z, 0, none⟩) 2 2, .int .i64 100, .int .i64 120, .int .i64 150, .int .i64 180, .int .i64 200, .slice none 0 0, .slice (some ⟨z + 1 + 1 + 1 + 1, 0, none⟩) 1 1, .int .i64 1], .agg #[.int .i64 500, .int .i64 0, .slice none 0 0, .slice (some ⟨gx, 0, none⟩) 1 1], .int .i64 10, .int .i64 0, .int .i64 30] rfl (map5J (by rw [dn0]; exact putIf_eval_same (by simp [putIf_size])) (by simp only [pEo 39 41, pEo 40 41]; rw [dn2]; exact putIf_eval_same (by simp [putIf_size])) rfl rfl (by simp only [pEo 39 43, pEo 40 43, pEo 41 43, pEo 42 43]; rw [dn4]; exact putIf_eval_same (by simp [putIf_size]))) cfStep ((HSP.out gx w' (HD3.out.below hb) hgb).mono ?_)
      rintro e w'' ⟨L', T', Sp', O', pw', st', s2', rfl, hQ', hb'⟩
      exact ⟨_, rfl, gx, xa, xb, L', T', Sp', O', pw', st', s2', (by show Act.put _ (some 44) _ = _; simp only [e6, e7, e8, pPu 39 44, pPu 40 44, pPu 41 44, pPu 42 44, pPu 43 44, hz', putIf_here2, done_same hl, dOt 5 0, dq1, dq2, dOt 5 3, dOt 5 4, dq6, dq7, dq8, dOt 5 9, dq10, dq11, dOt 5 14] <;> rfl), (by (try simp only [hd6, hd7, hd8, hd12, hd13, sel_f, dq1, dq2, done_same hl, dq6, dq7, dq8, dq10, dq11, dq12, dq13]) <;> first | exact bthr hb hb' hb.size | exact fun _ => trivial | exact fun h => (by cases h)), (by (try simp only [dq1, done_same hl]) <;> first | exact fun _ h => (by cases h) | exact fun _ => trivial | exact fun h => (by cases h)), (by (try simp only [done_same hl]) <;> first | exact fun _ => hQ' | exact fun _ => trivial | exact fun h => (by cases h)), (by (try simp only [hd12, sel_f, dq10, dq12]) <;> first | exact fun h => ⟨(h10 h).1, (h10 h).2.below hb' (h10 h).2.lt⟩ | exact fun _ => trivial | exact fun h => (by cases h)), (by (try simp only [hd13, sel_f, dq11, dq13]) <;> first | exact fun h => ⟨(h11 h).1, (h11 h).2.below hb' (h11 h).2.lt⟩ | exact fun _ => trivial | exact fun h => (by cases h)), (by (try simp only [dq10, dq11]) <;> first | exact hx | exact fun _ => trivial | exact fun h => (by cases h)), (by (try simp only [dq1, dq2]) <;> first | exact h21 | exact fun _ => trivial | exact fun h => (by cases h)), (by (try simp only [dq2, done_same hl]) <;> first | exact fun _ => dn2 | exact fun _ => trivial | exact fun h => (by cases h)), (by (try simp only [hd6, done_same hl, dq6]) <;> first | exact h65 | exact fun _ => trivial | exact fun h => (by cases h)), (by (try simp only [hd6, hd7, dq6, dq7]) <;> first | exact h76 | exact fun _ => trivial | exact fun h => (by cases h)), (by (try simp only [hd6, hd8, dq6, dq8]) <;> first | exact h86 | exact fun _ => trivial | exact fun h => (by cases h)), (by (try simp only [hd12, done_same hl, dq12]) <;> first | exact h125 | exact fun _ => trivial | exact fun h => (by cases h)), (by (try simp only [hd13, done_same hl, dq13]) <;> first | exact h135 | exact fun _ => trivial | exact fun h => (by cases h)), (by (try simp only [hd12, dq10, dq12]) <;> first | exact h1210 | exact fun _ => trivial | exact fun h => (by cases h)), (by (try simp only [hd13, dq11, dq13]) <;> first | exact h1311 | exact fun _ => trivial | exact fun h => (by cases h))⟩
    · skip
      have dq1 := dOt 6 1 (l := l)
      have dq2 := dOt 6 2 (l := l)
      have dq5 := dOt 6 5 (l := l)
      have dq7 := dOt 6 7 (l := l)
      have dq8 := dOt 6 8 (l := l)
      have dq10 := dOt 6 10 (l := l)
      have dq11 := dOt 6 11 (l := l)
      have dq12 := dOt 6 12 (l := l)
      have dq13 := dOt 6 13 (l := l)
      have dn5 : done l 5 = true := by simp [Region.binds] at haf; simp [done, haf]
      exact opJ_move (v := .tuple #[.agg #[.int .i64 s2.vo, .int .i64 s2.re, .slice s2.uA s2.un s2.uc, .slice s2.gA s2.gn s2.gc], .agg #[.int .i64 10, .int .i64 L, .int .i64 T, .int .i64 Sp, .int .i64 O, .int .i64 pw, .int .i64 st], .int .i64 0]) rfl rfl (.tmp 44) rfl (by simp only [pEo 39 44, pEo 40 44, pEo 41 44, pEo 42 44, pEo 43 44]; rw [dn5]; exact putIf_eval_same (by simp [putIf_size])) ⟨gx, xa, xb, L, T, Sp, O, pw, st, s2, (by show Act.put _ (some 38) _ = _; simp only [pPu 39 38, pPu 40 38, pPu 41 38, pPu 42 38, pPu 43 38, pPu 44 38, hz', putIf_here2, done_same hl, dOt 6 0, dq1, dq2, dOt 6 3, dOt 6 4, dq5, dq7, dq8, dOt 6 9, dq10, dq11, dOt 6 14]), (by (try simp only [dq1, dq2, dq5, done_same hl, dq7, dq8, dq10, dq11, dq12, dq13]) <;> first | exact hb | exact fun _ => trivial | exact fun h => (by cases h)), (by (try simp only [dq1, dq5]) <;> first | exact h1 | exact fun _ => trivial | exact fun h => (by cases h)), (by (try simp only [dq5]) <;> first | exact h5 | exact fun _ => trivial | exact fun h => (by cases h)), (by (try simp only [dq10, dq12]) <;> first | exact h10 | exact fun _ => trivial | exact fun h => (by cases h)), (by (try simp only [dq11, dq13]) <;> first | exact h11 | exact fun _ => trivial | exact fun h => (by cases h)), (by (try simp only [dq10, dq11]) <;> first | exact hx | exact fun _ => trivial | exact fun h => (by cases h)), (by (try simp only [dq1, dq2]) <;> first | exact h21 | exact fun _ => trivial | exact fun h => (by cases h)), (by (try simp only [dq2, dq5]) <;> first | exact h52 | exact fun _ => trivial | exact fun h => (by cases h)), (by (try simp only [dq5, done_same hl]) <;> first | exact fun _ => dn5 | exact fun _ => trivial | exact fun h => (by cases h)), (by (try simp only [done_same hl, dq7]) <;> first | exact h76 | exact fun _ => trivial | exact fun h => (by cases h)), (by (try simp only [done_same hl, dq8]) <;> first | exact h86 | exact fun _ => trivial | exact fun h => (by cases h)), (by (try simp only [dq5, dq12]) <;> first | exact h125 | exact fun _ => trivial | exact fun h => (by cases h)), (by (try simp only [dq5, dq13]) <;> first | exact h135 | exact fun _ => trivial | exact fun h => (by cases h)), (by (try simp only [dq10, dq12]) <;> first | exact h1210 | exact fun _ => trivial | exact fun h => (by cases h)), (by (try simp only [dq11, dq13]) <;> first | exact h1311 | exact fun _ => trivial | exact fun h => (by cases h))⟩
    · skip
      have dq1 := dOt 7 1 (l := l)
      have dq2 := dOt 7 2 (l := l)
      have dq5 := dOt 7 5 (l := l)
      have dq6 := dOt 7 6 (l := l)
      have dq8 := dOt 7 8 (l := l)
      have dq10 := dOt 7 10 (l := l)
      have dq11 := dOt 7 11 (l := l)
      have dq12 := dOt 7 12 (l := l)
      have dq13 := dOt 7 13 (l := l)
      have dn6 : done l 6 = true := by simp [Region.binds] at haf; simp [done, haf]
      exact opJ_extract (v := .agg #[.int .i64 s2.vo, .int .i64 s2.re, .slice s2.uA s2.un s2.uc, .slice s2.gA s2.gn s2.gc]) rfl rfl (.tmp 38) 0 (.tuple #[.agg #[.int .i64 s2.vo, .int .i64 s2.re, .slice s2.uA s2.un s2.uc, .slice s2.gA s2.gn s2.gc], .agg #[.int .i64 10, .int .i64 L, .int .i64 T, .int .i64 Sp, .int .i64 O, .int .i64 pw, .int .i64 st], .int .i64 0]) rfl (by simp only [pEo 39 38, pEo 40 38, pEo 41 38, pEo 42 38, pEo 43 38, pEo 44 38]; rw [dn6]; exact putIf_eval_same (by simp [putIf_size])) (by simp [go_sem]) ⟨gx, xa, xb, L, T, Sp, O, pw, st, s2, (by show Act.put _ (some 45) _ = _; simp only [pPu 39 45, pPu 40 45, pPu 41 45, pPu 42 45, pPu 43 45, pPu 44 45, pPu 38 45, hz', putIf_here2, done_same hl, dOt 7 0, dq1, dq2, dOt 7 3, dOt 7 4, dq5, dq6, dq8, dOt 7 9, dq10, dq11, dOt 7 14]), (by (try simp only [dq1, dq2, dq5, dq6, done_same hl, dq8, dq10, dq11, dq12, dq13]) <;> first | exact hb | exact fun _ => trivial | exact fun h => (by cases h)), (by (try simp only [dq1, dq5]) <;> first | exact h1 | exact fun _ => trivial | exact fun h => (by cases h)), (by (try simp only [dq5]) <;> first | exact h5 | exact fun _ => trivial | exact fun h => (by cases h)), (by (try simp only [dq10, dq12]) <;> first | exact h10 | exact fun _ => trivial | exact fun h => (by cases h)), (by (try simp only [dq11, dq13]) <;> first | exact h11 | exact fun _ => trivial | exact fun h => (by cases h)), (by (try simp only [dq10, dq11]) <;> first | exact hx | exact fun _ => trivial | exact fun h => (by cases h)), (by (try simp only [dq1, dq2]) <;> first | exact h21 | exact fun _ => trivial | exact fun h => (by cases h)), (by (try simp only [dq2, dq5]) <;> first | exact h52 | exact fun _ => trivial | exact fun h => (by cases h)), (by (try simp only [dq5, dq6]) <;> first | exact h65 | exact fun _ => trivial | exact fun h => (by cases h)), (by (try simp only [dq6, done_same hl]) <;> first | exact fun _ => dn6 | exact fun _ => trivial | exact fun h => (by cases h)), (by (try simp only [dq6, dq8]) <;> first | exact h86 | exact fun _ => trivial | exact fun h => (by cases h)), (by (try simp only [dq5, dq12]) <;> first | exact h125 | exact fun _ => trivial | exact fun h => (by cases h)), (by (try simp only [dq5, dq13]) <;> first | exact h135 | exact fun _ => trivial | exact fun h => (by cases h)), (by (try simp only [dq10, dq12]) <;> first | exact h1210 | exact fun _ => trivial | exact fun h => (by cases h)), (by (try simp only [dq11, dq13]) <;> first | exact h1311 | exact fun _ => trivial | exact fun h => (by cases h))⟩
    · skip
      have dq1 := dOt 8 1 (l := l)
      have dq2 := dOt 8 2 (l := l)
      have dq5 := dOt 8 5 (l := l)
      have dq6 := dOt 8 6 (l := l)
      have dq7 := dOt 8 7 (l := l)
      have dq10 := dOt 8 10 (l := l)
      have dq11 := dOt 8 11 (l := l)
      have dq12 := dOt 8 12 (l := l)
      have dq13 := dOt 8 13 (l := l)
      have dn6 : done l 6 = true := by simp [Region.binds] at haf; simp [done, haf]
      exact opJ_extract (v := .agg #[.int .i64 10, .int .i64 L, .int .i64 T, .int .i64 Sp, .int .i64 O, .int .i64 pw, .int .i64 st]) rfl rfl (.tmp 38) 1 (.tuple #[.agg #[.int .i64 s2.vo, .int .i64 s2.re, .slice s2.uA s2.un s2.uc, .slice s2.gA s2.gn s2.gc], .agg #[.int .i64 10, .int .i64 L, .int .i64 T, .int .i64 Sp, .int .i64 O, .int .i64 pw, .int .i64 st], .int .i64 0]) rfl (by simp only [pEo 39 38, pEo 40 38, pEo 41 38, pEo 42 38, pEo 43 38, pEo 44 38]; rw [dn6]; exact putIf_eval_same (by simp [putIf_size])) (by simp [go_sem]) ⟨gx, xa, xb, L, T, Sp, O, pw, st, s2, (by show Act.put _ (some 46) _ = _; simp only [pPu 39 46, pPu 40 46, pPu 41 46, pPu 42 46, pPu 43 46, pPu 44 46, pPu 38 46, pPu 45 46, hz', putIf_here2, done_same hl, dOt 8 0, dq1, dq2, dOt 8 3, dOt 8 4, dq5, dq6, dq7, dOt 8 9, dq10, dq11, dOt 8 14]), (by (try simp only [dq1, dq2, dq5, dq6, dq7, done_same hl, dq10, dq11, dq12, dq13]) <;> first | exact hb | exact fun _ => trivial | exact fun h => (by cases h)), (by (try simp only [dq1, dq5]) <;> first | exact h1 | exact fun _ => trivial | exact fun h => (by cases h)), (by (try simp only [dq5]) <;> first | exact h5 | exact fun _ => trivial | exact fun h => (by cases h)), (by (try simp only [dq10, dq12]) <;> first | exact h10 | exact fun _ => trivial | exact fun h => (by cases h)), (by (try simp only [dq11, dq13]) <;> first | exact h11 | exact fun _ => trivial | exact fun h => (by cases h)), (by (try simp only [dq10, dq11]) <;> first | exact hx | exact fun _ => trivial | exact fun h => (by cases h)), (by (try simp only [dq1, dq2]) <;> first | exact h21 | exact fun _ => trivial | exact fun h => (by cases h)), (by (try simp only [dq2, dq5]) <;> first | exact h52 | exact fun _ => trivial | exact fun h => (by cases h)), (by (try simp only [dq5, dq6]) <;> first | exact h65 | exact fun _ => trivial | exact fun h => (by cases h)), (by (try simp only [dq6, dq7]) <;> first | exact h76 | exact fun _ => trivial | exact fun h => (by cases h)), (by (try simp only [dq6, done_same hl]) <;> first | exact fun _ => dn6 | exact fun _ => trivial | exact fun h => (by cases h)), (by (try simp only [dq5, dq12]) <;> first | exact h125 | exact fun _ => trivial | exact fun h => (by cases h)), (by (try simp only [dq5, dq13]) <;> first | exact h135 | exact fun _ => trivial | exact fun h => (by cases h)), (by (try simp only [dq10, dq12]) <;> first | exact h1210 | exact fun _ => trivial | exact fun h => (by cases h)), (by (try simp only [dq11, dq13]) <;> first | exact h1311 | exact fun _ => trivial | exact fun h => (by cases h))⟩
    · skip
      have dq1 := dOt 9 1 (l := l)
      have dq2 := dOt 9 2 (l := l)
      have dq5 := dOt 9 5 (l := l)
      have dq6 := dOt 9 6 (l := l)
      have dq7 := dOt 9 7 (l := l)
      have dq8 := dOt 9 8 (l := l)
      have dq10 := dOt 9 10 (l := l)
      have dq11 := dOt 9 11 (l := l)
      have dq12 := dOt 9 12 (l := l)
      have dq13 := dOt 9 13 (l := l)
      have dn6 : done l 6 = true := by simp [Region.binds] at haf; simp [done, haf]
      exact opJ_extract (v := .int .i64 0) rfl rfl (.tmp 38) 2 (.tuple #[.agg #[.int .i64 s2.vo, .int .i64 s2.re, .slice s2.uA s2.un s2.uc, .slice s2.gA s2.gn s2.gc], .agg #[.int .i64 10, .int .i64 L, .int .i64 T, .int .i64 Sp, .int .i64 O, .int .i64 pw, .int .i64 st], .int .i64 0]) rfl (by simp only [pEo 39 38, pEo 40 38, pEo 41 38, pEo 42 38, pEo 43 38, pEo 44 38]; rw [dn6]; exact putIf_eval_same (by simp [putIf_size])) (by simp [go_sem]) ⟨gx, xa, xb, L, T, Sp, O, pw, st, s2, (by show Act.put _ (some 47) _ = _; simp only [pPu 39 47, pPu 40 47, pPu 41 47, pPu 42 47, pPu 43 47, pPu 44 47, pPu 38 47, pPu 45 47, pPu 46 47, hz', putIf_here2, done_same hl, dOt 9 0, dq1, dq2, dOt 9 3, dOt 9 4, dq5, dq6, dq7, dq8, dq10, dq11, dOt 9 14]), (by (try simp only [dq1, dq2, dq5, dq6, dq7, dq8, dq10, dq11, dq12, dq13]) <;> first | exact hb | exact fun _ => trivial | exact fun h => (by cases h)), (by (try simp only [dq1, dq5]) <;> first | exact h1 | exact fun _ => trivial | exact fun h => (by cases h)), (by (try simp only [dq5]) <;> first | exact h5 | exact fun _ => trivial | exact fun h => (by cases h)), (by (try simp only [dq10, dq12]) <;> first | exact h10 | exact fun _ => trivial | exact fun h => (by cases h)), (by (try simp only [dq11, dq13]) <;> first | exact h11 | exact fun _ => trivial | exact fun h => (by cases h)), (by (try simp only [dq10, dq11]) <;> first | exact hx | exact fun _ => trivial | exact fun h => (by cases h)), (by (try simp only [dq1, dq2]) <;> first | exact h21 | exact fun _ => trivial | exact fun h => (by cases h)), (by (try simp only [dq2, dq5]) <;> first | exact h52 | exact fun _ => trivial | exact fun h => (by cases h)), (by (try simp only [dq5, dq6]) <;> first | exact h65 | exact fun _ => trivial | exact fun h => (by cases h)), (by (try simp only [dq6, dq7]) <;> first | exact h76 | exact fun _ => trivial | exact fun h => (by cases h)), (by (try simp only [dq6, dq8]) <;> first | exact h86 | exact fun _ => trivial | exact fun h => (by cases h)), (by (try simp only [dq5, dq12]) <;> first | exact h125 | exact fun _ => trivial | exact fun h => (by cases h)), (by (try simp only [dq5, dq13]) <;> first | exact h135 | exact fun _ => trivial | exact fun h => (by cases h)), (by (try simp only [dq10, dq12]) <;> first | exact h1210 | exact fun _ => trivial | exact fun h => (by cases h)), (by (try simp only [dq11, dq13]) <;> first | exact h1311 | exact fun _ => trivial | exact fun h => (by cases h))⟩
    · skip
      have dq1 := dOt 10 1 (l := l)
      have dq2 := dOt 10 2 (l := l)
      have dq5 := dOt 10 5 (l := l)
      have dq6 := dOt 10 6 (l := l)
      have dq7 := dOt 10 7 (l := l)
      have dq8 := dOt 10 8 (l := l)
      have dq11 := dOt 10 11 (l := l)
      have dq12 := dOt 10 12 (l := l)
      have dq13 := dOt 10 13 (l := l)
      have hd12 : done l 12 = false := by
        cases hc : done l 12
        · rfl
        · have := h1210 hc; rw [hz'] at this; cases this
      exact opJ_alloc (v := .pointer (some ⟨w'.heap.size, 0, none⟩)) (w' := w'.alloc (.cells #[.int .i64 0, .int .i64 0, .slice none 0 0, .slice none 0 0] 35)) rfl rfl 35 rfl (by simp [go_sem]) ⟨gx, w'.heap.size, xb, L, T, Sp, O, pw, st, s2, (by show Act.put _ (some 8) _ = _; simp only [pPu 39 8, pPu 40 8, pPu 41 8, pPu 42 8, pPu 43 8, pPu 44 8, pPu 38 8, pPu 45 8, pPu 46 8, pPu 47 8, hz', putIf_here2, done_same hl, dOt 10 0, dq1, dq2, dOt 10 3, dOt 10 4, dq5, dq6, dq7, dq8, dOt 10 9, dq11, dOt 10 14]), (by (try simp only [hd12, sel_f, dq1, dq2, dq5, dq6, dq7, dq8, done_same hl, dq11, dq12, dq13]) <;> first | exact hb.alloc hb.size _ | exact fun _ => trivial | exact fun h => (by cases h)), (by (try simp only [dq1, dq5]) <;> first | exact fun h g => ⟨(h1 h g).1, (h1 h g).2.alloc _⟩ | exact fun _ => trivial | exact fun h => (by cases h)), (by (try simp only [dq5]) <;> first | exact h5 | exact fun _ => trivial | exact fun h => (by cases h)), (by (try simp only [hd12, sel_f, done_same hl, dq12]) <;> first | exact fun _ => ⟨hb.size, Blk.new _ _ _⟩ | exact fun _ => trivial | exact fun h => (by cases h)), (by (try simp only [dq11, dq13]) <;> first | exact fun h => ⟨(h11 h).1, (h11 h).2.alloc _⟩ | exact fun _ => trivial | exact fun h => (by cases h)), (by (try simp only [done_same hl, dq11]) <;> first | exact fun _ h => (by have h9 := (h11 h).2.lt; omega) | exact fun _ => trivial | exact fun h => (by cases h)), (by (try simp only [dq1, dq2]) <;> first | exact h21 | exact fun _ => trivial | exact fun h => (by cases h)), (by (try simp only [dq2, dq5]) <;> first | exact h52 | exact fun _ => trivial | exact fun h => (by cases h)), (by (try simp only [dq5, dq6]) <;> first | exact h65 | exact fun _ => trivial | exact fun h => (by cases h)), (by (try simp only [dq6, dq7]) <;> first | exact h76 | exact fun _ => trivial | exact fun h => (by cases h)), (by (try simp only [dq6, dq8]) <;> first | exact h86 | exact fun _ => trivial | exact fun h => (by cases h)), (by (try simp only [hd12, dq5, dq12]) <;> first | exact h125 | exact fun _ => trivial | exact fun h => (by cases h)), (by (try simp only [dq5, dq13]) <;> first | exact h135 | exact fun _ => trivial | exact fun h => (by cases h)), (by (try simp only [hd12, done_same hl, dq12]) <;> first | exact h1210 | exact fun _ => trivial | exact fun h => (by cases h)), (by (try simp only [dq11, dq13]) <;> first | exact h1311 | exact fun _ => trivial | exact fun h => (by cases h))⟩
    · skip
      have dq1 := dOt 11 1 (l := l)
      have dq2 := dOt 11 2 (l := l)
      have dq5 := dOt 11 5 (l := l)
      have dq6 := dOt 11 6 (l := l)
      have dq7 := dOt 11 7 (l := l)
      have dq8 := dOt 11 8 (l := l)
      have dq10 := dOt 11 10 (l := l)
      have dq12 := dOt 11 12 (l := l)
      have dq13 := dOt 11 13 (l := l)
      have hd13 : done l 13 = false := by
        cases hc : done l 13
        · rfl
        · have := h1311 hc; rw [hz'] at this; cases this
      exact opJ_alloc (v := .pointer (some ⟨w'.heap.size, 0, none⟩)) (w' := w'.alloc (.cells #[.int .i64 0, .int .i64 0, .int .i64 0, .int .i64 0, .int .i64 0, .int .i64 0, .int .i64 0] 53)) rfl rfl 53 rfl (by simp [go_sem]) ⟨gx, xa, w'.heap.size, L, T, Sp, O, pw, st, s2, (by show Act.put _ (some 9) _ = _; simp only [pPu 39 9, pPu 40 9, pPu 41 9, pPu 42 9, pPu 43 9, pPu 44 9, pPu 38 9, pPu 45 9, pPu 46 9, pPu 47 9, pPu 8 9, hz', putIf_here2, done_same hl, dOt 11 0, dq1, dq2, dOt 11 3, dOt 11 4, dq5, dq6, dq7, dq8, dOt 11 9, dq10, dOt 11 14]), (by (try simp only [hd13, sel_f, dq1, dq2, dq5, dq6, dq7, dq8, dq10, done_same hl, dq12, dq13]) <;> first | exact hb.alloc hb.size _ | exact fun _ => trivial | exact fun h => (by cases h)), (by (try simp only [dq1, dq5]) <;> first | exact fun h g => ⟨(h1 h g).1, (h1 h g).2.alloc _⟩ | exact fun _ => trivial | exact fun h => (by cases h)), (by (try simp only [dq5]) <;> first | exact h5 | exact fun _ => trivial | exact fun h => (by cases h)), (by (try simp only [dq10, dq12]) <;> first | exact fun h => ⟨(h10 h).1, (h10 h).2.alloc _⟩ | exact fun _ => trivial | exact fun h => (by cases h)), (by (try simp only [hd13, sel_f, done_same hl, dq13]) <;> first | exact fun _ => ⟨hb.size, Blk.new _ _ _⟩ | exact fun _ => trivial | exact fun h => (by cases h)), (by (try simp only [dq10, done_same hl]) <;> first | exact fun h => (by have h9 := (h10 h).2.lt; omega) | exact fun _ => trivial | exact fun h => (by cases h)), (by (try simp only [dq1, dq2]) <;> first | exact h21 | exact fun _ => trivial | exact fun h => (by cases h)), (by (try simp only [dq2, dq5]) <;> first | exact h52 | exact fun _ => trivial | exact fun h => (by cases h)), (by (try simp only [dq5, dq6]) <;> first | exact h65 | exact fun _ => trivial | exact fun h => (by cases h)), (by (try simp only [dq6, dq7]) <;> first | exact h76 | exact fun _ => trivial | exact fun h => (by cases h)), (by (try simp only [dq6, dq8]) <;> first | exact h86 | exact fun _ => trivial | exact fun h => (by cases h)), (by (try simp only [dq5, dq12]) <;> first | exact h125 | exact fun _ => trivial | exact fun h => (by cases h)), (by (try simp only [hd13, dq5, dq13]) <;> first | exact h135 | exact fun _ => trivial | exact fun h => (by cases h)), (by (try simp only [dq10, dq12]) <;> first | exact h1210 | exact fun _ => trivial | exact fun h => (by cases h)), (by (try simp only [hd13, done_same hl, dq13]) <;> first | exact h1311 | exact fun _ => trivial | exact fun h => (by cases h))⟩
    · skip
      have dq1 := dOt 12 1 (l := l)
      have dq2 := dOt 12 2 (l := l)
      have dq5 := dOt 12 5 (l := l)
      have dq6 := dOt 12 6 (l := l)
      have dq7 := dOt 12 7 (l := l)
      have dq8 := dOt 12 8 (l := l)
      have dq10 := dOt 12 10 (l := l)
      have dq11 := dOt 12 11 (l := l)
      have dq13 := dOt 12 13 (l := l)
      have dn10 : done l 10 = true := by simp [Region.binds] at haf; simp [done, haf]
      have dn7 : done l 7 = true := by simp [Region.binds] at haf; simp [done, haf]
      have dn6 := h76 dn7
      have dn5 := h65 dn6
      obtain ⟨hx0, hx1⟩ := h10 dn10
      rw [hz', sel_f] at hx1
      have hv2 := ((((hx1.set_ 0 (.int .i64 s2.vo)).set_ 1 (.int .i64 s2.re)).set_ 2 (.slice s2.uA s2.un s2.uc)).set_ 3 (.slice s2.gA s2.gn s2.gc))
      simp only [List.setIfInBounds_toArray, List.set_cons_zero, List.set_cons_succ] at hv2
      obtain ⟨t0, t1, t2, t3, tf⟩ := hx1.facts4
      have hbn := ((((hb.setCell (p := ⟨xa, 0, none⟩) hx0 (.int .i64 s2.vo)).setCell (p := ⟨xa, 1, none⟩) hx0 (.int .i64 s2.re)).setCell (p := ⟨xa, 2, none⟩) hx0 (.slice s2.uA s2.un s2.uc)).setCell (p := ⟨xa, 3, none⟩) hx0 (.slice s2.gA s2.gn s2.gc))
      exact opJ_store (w' := ((((w'.setCell ⟨xa, 0, none⟩ (.int .i64 s2.vo)).setCell ⟨xa, 1, none⟩ (.int .i64 s2.re)).setCell ⟨xa, 2, none⟩ (.slice s2.uA s2.un s2.uc)).setCell ⟨xa, 3, none⟩ (.slice s2.gA s2.gn s2.gc))) rfl rfl 35 (.tmp 8) (.tmp 45) (.pointer (some ⟨xa, 0, none⟩)) (.agg #[.int .i64 s2.vo, .int .i64 s2.re, .slice s2.uA s2.un s2.uc, .slice s2.gA s2.gn s2.gc]) rfl (by simp only [pEo 39 8, pEo 40 8, pEo 41 8, pEo 42 8, pEo 43 8, pEo 44 8, pEo 38 8, pEo 45 8, pEo 46 8, pEo 47 8]; rw [dn10]; exact putIf_eval_same (by simp [putIf_size])) (by simp only [pEo 39 45, pEo 40 45, pEo 41 45, pEo 42 45, pEo 43 45, pEo 44 45, pEo 38 45]; rw [dn7]; exact putIf_eval_same (by simp [putIf_size])) (by simp [go_sem, t0, t1, t2, t3, tf]) ⟨gx, xa, xb, L, T, Sp, O, pw, st, s2, (by show Act.put _ none _ = _; simp only [dOt 12 0, dq1, dq2, dOt 12 3, dOt 12 4, dq5, dq6, dq7, dq8, dOt 12 9, dq10, dq11, dOt 12 14]; rfl), (by (try simp only [sel_t, dq1, dq2, dq5, dq6, dq7, dq8, dq10, dq11, done_same hl, dq13]) <;> first | exact hbn | exact fun _ => trivial | exact fun h => (by cases h)), (by (try simp only [dq1, dq5]) <;> first | exact fun _ g => (by rw [dn5] at g; cases g) | exact fun _ => trivial | exact fun h => (by cases h)), (by (try simp only [dq5]) <;> first | exact h5 | exact fun _ => trivial | exact fun h => (by cases h)), (by (try simp only [sel_t, dq10, done_same hl]) <;> first | exact fun _ => ⟨hx0, hv2⟩ | exact fun _ => trivial | exact fun h => (by cases h)), (by (try simp only [dq11, dq13]) <;> first | exact fun h => ⟨(h11 h).1, (((((h11 h).2.far (p := ⟨xa, 0, none⟩) ((hx dn10 h).symm) (.int .i64 s2.vo)).far (p := ⟨xa, 1, none⟩) ((hx dn10 h).symm) (.int .i64 s2.re)).far (p := ⟨xa, 2, none⟩) ((hx dn10 h).symm) (.slice s2.uA s2.un s2.uc)).far (p := ⟨xa, 3, none⟩) ((hx dn10 h).symm) (.slice s2.gA s2.gn s2.gc))⟩ | exact fun _ => trivial | exact fun h => (by cases h)), (by (try simp only [dq10, dq11]) <;> first | exact hx | exact fun _ => trivial | exact fun h => (by cases h)), (by (try simp only [dq1, dq2]) <;> first | exact h21 | exact fun _ => trivial | exact fun h => (by cases h)), (by (try simp only [dq2, dq5]) <;> first | exact h52 | exact fun _ => trivial | exact fun h => (by cases h)), (by (try simp only [dq5, dq6]) <;> first | exact h65 | exact fun _ => trivial | exact fun h => (by cases h)), (by (try simp only [dq6, dq7]) <;> first | exact h76 | exact fun _ => trivial | exact fun h => (by cases h)), (by (try simp only [dq6, dq8]) <;> first | exact h86 | exact fun _ => trivial | exact fun h => (by cases h)), (by (try simp only [dq5, done_same hl]) <;> first | exact fun _ => dn5 | exact fun _ => trivial | exact fun h => (by cases h)), (by (try simp only [dq5, dq13]) <;> first | exact h135 | exact fun _ => trivial | exact fun h => (by cases h)), (by (try simp only [dq10, done_same hl]) <;> first | exact fun _ => dn10 | exact fun _ => trivial | exact fun h => (by cases h)), (by (try simp only [dq11, dq13]) <;> first | exact h1311 | exact fun _ => trivial | exact fun h => (by cases h))⟩
    · skip
      have dq1 := dOt 13 1 (l := l)
      have dq2 := dOt 13 2 (l := l)
      have dq5 := dOt 13 5 (l := l)
      have dq6 := dOt 13 6 (l := l)
      have dq7 := dOt 13 7 (l := l)
      have dq8 := dOt 13 8 (l := l)
      have dq10 := dOt 13 10 (l := l)
      have dq11 := dOt 13 11 (l := l)
      have dq12 := dOt 13 12 (l := l)
      have dn11 : done l 11 = true := by simp [Region.binds] at haf; simp [done, haf]
      have dn8 : done l 8 = true := by simp [Region.binds] at haf; simp [done, haf]
      have dn6 := h86 dn8
      have dn5 := h65 dn6
      obtain ⟨hx0, hx1⟩ := h11 dn11
      rw [hz', sel_f] at hx1
      have hv2 := (((((((hx1.set_ 0 (.int .i64 10)).set_ 1 (.int .i64 L)).set_ 2 (.int .i64 T)).set_ 3 (.int .i64 Sp)).set_ 4 (.int .i64 O)).set_ 5 (.int .i64 pw)).set_ 6 (.int .i64 st))
      simp only [List.setIfInBounds_toArray, List.set_cons_zero, List.set_cons_succ] at hv2
      obtain ⟨t0, t1, t2, t3, t4, t5, t6, tf⟩ := facts7 hx1
      have hbn := (((((((hb.setCell (p := ⟨xb, 0, none⟩) hx0 (.int .i64 10)).setCell (p := ⟨xb, 1, none⟩) hx0 (.int .i64 L)).setCell (p := ⟨xb, 2, none⟩) hx0 (.int .i64 T)).setCell (p := ⟨xb, 3, none⟩) hx0 (.int .i64 Sp)).setCell (p := ⟨xb, 4, none⟩) hx0 (.int .i64 O)).setCell (p := ⟨xb, 5, none⟩) hx0 (.int .i64 pw)).setCell (p := ⟨xb, 6, none⟩) hx0 (.int .i64 st))
      exact opJ_store (w' := (((((((w'.setCell ⟨xb, 0, none⟩ (.int .i64 10)).setCell ⟨xb, 1, none⟩ (.int .i64 L)).setCell ⟨xb, 2, none⟩ (.int .i64 T)).setCell ⟨xb, 3, none⟩ (.int .i64 Sp)).setCell ⟨xb, 4, none⟩ (.int .i64 O)).setCell ⟨xb, 5, none⟩ (.int .i64 pw)).setCell ⟨xb, 6, none⟩ (.int .i64 st))) rfl rfl 53 (.tmp 9) (.tmp 46) (.pointer (some ⟨xb, 0, none⟩)) (.agg #[.int .i64 10, .int .i64 L, .int .i64 T, .int .i64 Sp, .int .i64 O, .int .i64 pw, .int .i64 st]) rfl (by simp only [pEo 39 9, pEo 40 9, pEo 41 9, pEo 42 9, pEo 43 9, pEo 44 9, pEo 38 9, pEo 45 9, pEo 46 9, pEo 47 9, pEo 8 9]; rw [dn11]; exact putIf_eval_same (by simp [putIf_size])) (by simp only [pEo 39 46, pEo 40 46, pEo 41 46, pEo 42 46, pEo 43 46, pEo 44 46, pEo 38 46, pEo 45 46]; rw [dn8]; exact putIf_eval_same (by simp [putIf_size])) (by simp [go_sem, t0, t1, t2, t3, t4, t5, t6, tf]) ⟨gx, xa, xb, L, T, Sp, O, pw, st, s2, (by show Act.put _ none _ = _; simp only [dOt 13 0, dq1, dq2, dOt 13 3, dOt 13 4, dq5, dq6, dq7, dq8, dOt 13 9, dq10, dq11, dOt 13 14]; rfl), (by (try simp only [sel_t, dq1, dq2, dq5, dq6, dq7, dq8, dq10, dq11, dq12, done_same hl]) <;> first | exact hbn | exact fun _ => trivial | exact fun h => (by cases h)), (by (try simp only [dq1, dq5]) <;> first | exact fun _ g => (by rw [dn5] at g; cases g) | exact fun _ => trivial | exact fun h => (by cases h)), (by (try simp only [dq5]) <;> first | exact h5 | exact fun _ => trivial | exact fun h => (by cases h)), (by (try simp only [dq10, dq12]) <;> first | exact fun h => ⟨(h10 h).1, ((((((((h10 h).2.far (p := ⟨xb, 0, none⟩) (hx h dn11) (.int .i64 10)).far (p := ⟨xb, 1, none⟩) (hx h dn11) (.int .i64 L)).far (p := ⟨xb, 2, none⟩) (hx h dn11) (.int .i64 T)).far (p := ⟨xb, 3, none⟩) (hx h dn11) (.int .i64 Sp)).far (p := ⟨xb, 4, none⟩) (hx h dn11) (.int .i64 O)).far (p := ⟨xb, 5, none⟩) (hx h dn11) (.int .i64 pw)).far (p := ⟨xb, 6, none⟩) (hx h dn11) (.int .i64 st))⟩ | exact fun _ => trivial | exact fun h => (by cases h)), (by (try simp only [sel_t, dq11, done_same hl]) <;> first | exact fun _ => ⟨hx0, hv2⟩ | exact fun _ => trivial | exact fun h => (by cases h)), (by (try simp only [dq10, dq11]) <;> first | exact hx | exact fun _ => trivial | exact fun h => (by cases h)), (by (try simp only [dq1, dq2]) <;> first | exact h21 | exact fun _ => trivial | exact fun h => (by cases h)), (by (try simp only [dq2, dq5]) <;> first | exact h52 | exact fun _ => trivial | exact fun h => (by cases h)), (by (try simp only [dq5, dq6]) <;> first | exact h65 | exact fun _ => trivial | exact fun h => (by cases h)), (by (try simp only [dq6, dq7]) <;> first | exact h76 | exact fun _ => trivial | exact fun h => (by cases h)), (by (try simp only [dq6, dq8]) <;> first | exact h86 | exact fun _ => trivial | exact fun h => (by cases h)), (by (try simp only [dq5, dq12]) <;> first | exact h125 | exact fun _ => trivial | exact fun h => (by cases h)), (by (try simp only [dq5, done_same hl]) <;> first | exact fun _ => dn5 | exact fun _ => trivial | exact fun h => (by cases h)), (by (try simp only [dq10, dq12]) <;> first | exact h1210 | exact fun _ => trivial | exact fun h => (by cases h)), (by (try simp only [dq11, done_same hl]) <;> first | exact fun _ => dn11 | exact fun _ => trivial | exact fun h => (by cases h))⟩
    · skip
      have dq1 := dOt 14 1 (l := l)
      have dq2 := dOt 14 2 (l := l)
      have dq5 := dOt 14 5 (l := l)
      have dq6 := dOt 14 6 (l := l)
      have dq7 := dOt 14 7 (l := l)
      have dq8 := dOt 14 8 (l := l)
      have dq10 := dOt 14 10 (l := l)
      have dq11 := dOt 14 11 (l := l)
      have dq12 := dOt 14 12 (l := l)
      have dq13 := dOt 14 13 (l := l)
      have dn9 : done l 9 = true := by simp [Region.binds] at haf; simp [done, haf]
      exact opJ_assign (v := .int .i64 0) rfl rfl (.tmp 47) rfl (by simp only [pEo 39 47, pEo 40 47, pEo 41 47, pEo 42 47, pEo 43 47, pEo 44 47, pEo 38 47, pEo 45 47, pEo 46 47]; rw [dn9]; exact putIf_eval_same (by simp [putIf_size])) ⟨gx, xa, xb, L, T, Sp, O, pw, st, s2, (by show Act.put _ (some 10) _ = _; simp only [pPu 39 10, pPu 40 10, pPu 41 10, pPu 42 10, pPu 43 10, pPu 44 10, pPu 38 10, pPu 45 10, pPu 46 10, pPu 47 10, pPu 8 10, pPu 9 10, hz', putIf_here2, done_same hl, dOt 14 0, dq1, dq2, dOt 14 3, dOt 14 4, dq5, dq6, dq7, dq8, dOt 14 9, dq10, dq11]), (by (try simp only [dq1, dq2, dq5, dq6, dq7, dq8, dq10, dq11, dq12, dq13]) <;> first | exact hb | exact fun _ => trivial | exact fun h => (by cases h)), (by (try simp only [dq1, dq5]) <;> first | exact h1 | exact fun _ => trivial | exact fun h => (by cases h)), (by (try simp only [dq5]) <;> first | exact h5 | exact fun _ => trivial | exact fun h => (by cases h)), (by (try simp only [dq10, dq12]) <;> first | exact h10 | exact fun _ => trivial | exact fun h => (by cases h)), (by (try simp only [dq11, dq13]) <;> first | exact h11 | exact fun _ => trivial | exact fun h => (by cases h)), (by (try simp only [dq10, dq11]) <;> first | exact hx | exact fun _ => trivial | exact fun h => (by cases h)), (by (try simp only [dq1, dq2]) <;> first | exact h21 | exact fun _ => trivial | exact fun h => (by cases h)), (by (try simp only [dq2, dq5]) <;> first | exact h52 | exact fun _ => trivial | exact fun h => (by cases h)), (by (try simp only [dq5, dq6]) <;> first | exact h65 | exact fun _ => trivial | exact fun h => (by cases h)), (by (try simp only [dq6, dq7]) <;> first | exact h76 | exact fun _ => trivial | exact fun h => (by cases h)), (by (try simp only [dq6, dq8]) <;> first | exact h86 | exact fun _ => trivial | exact fun h => (by cases h)), (by (try simp only [dq5, dq12]) <;> first | exact h125 | exact fun _ => trivial | exact fun h => (by cases h)), (by (try simp only [dq5, dq13]) <;> first | exact h135 | exact fun _ => trivial | exact fun h => (by cases h)), (by (try simp only [dq10, dq12]) <;> first | exact h1210 | exact fun _ => trivial | exact fun h => (by cases h)), (by (try simp only [dq11, dq13]) <;> first | exact h1311 | exact fun _ => trivial | exact fun h => (by cases h))⟩
  · intro l a' w' hJ hall
    obtain ⟨gx, xa, xb, L, T, Sp, O, pw, st, s2, rfl, hb, h1, h5, h10, h11, hx, h21, h52, h65, h76, h86, h125, h135, h1210, h1311⟩ := hJ
    have hd : ∀ i, i < 15 → done l i = true := hall
    obtain ⟨hL, hT, hSp, hO, hvo⟩ := h5 (hd 5 (by decide))
    obtain ⟨hxa0, hxa⟩ := h10 (hd 10 (by decide))
    obtain ⟨hxb0, hxb⟩ := h11 (hd 11 (by decide))
    rw [hd 12 (by decide), sel_t] at hxa
    rw [hd 13 (by decide), sel_t] at hxb
    simp only [hd 0 (by decide), hd 1 (by decide), hd 2 (by decide), hd 3 (by decide), hd 4 (by decide), hd 5 (by decide), hd 6 (by decide), hd 7 (by decide), hd 8 (by decide), hd 9 (by decide), hd 10 (by decide), hd 11 (by decide), hd 14 (by decide), putIf, if_true, Act.put]
    clear hd hall h1 h5 h10 h11 hx h21 h52 h65 h76 h86 h125 h135 h1210 h1311
    rw [hvo] at hxa ⊢
    subst hL hT hSp hO
    have hq6 := HQ6.out.below hb HQ6.out.lt
    have hB4 := hide (hBw.trans (hb.mono hzw))
    have hz4 : z ≤ w'.heap.size := Nat.le_trans hzw hb.size
    have qn := Blk.new w' 3 #[.int .i64 1]
    have hbn : Below w'.heap.size w' (w'.alloc (.cells #[.int .i64 1] 3)) := bel1
    obtain ⟨b0, b1, b2, b3, b4, b5, b6, bf⟩ := facts7 (hxb.alloc (.cells #[.int .i64 1] 3))
    clear hb hxb0 hxa0
    go_wp2_with fail
    -- the flow
    refine (HF.out pw st _).mono ?_
    rintro e w5 ⟨rfl, hb5⟩
    have qn5 := qn.below hb5 qn.lt
    have HB5 := hide ((hB4.out.trans (hbn.mono hz4)).trans (hb5.mono (by simp only [World.size_alloc]; omega)))
    have hxa5 := (hxa.below hbn hxa.lt).below hb5 (by have := hxa.lt; simp only [World.size_alloc]; omega)
    have hq65 := (hq6.below hbn hq6.lt).below hb5 (by have := hq6.lt; simp only [World.size_alloc]; omega)
    have hz5 : z ≤ w5.heap.size := by have := HB5.out.size; omega
    have hg5 := qn5.lt
    have e1 := qn5.facts.1 0
    simp only [List.getElem?_toArray, List.getElem?_cons_zero] at e1
    clear b0 b1 b2 b3 b4 b5 b6 bf qn qn5 hbn hb5 hB4 hq6 hxa hxb
    go_wp2_with fail
    refine (rstep_ok w'.heap.size 1 w5 e1 hg5).mono ?_
    rintro e w6 ⟨⟨A6, n6, c6, rfl⟩, hb6⟩
    have HB6 := hide ((HB5.out.trans (hb6.mono hz5)).alloc (Nat.le_trans hz5 hb6.size) (.cells #[.slice A6 n6 c6] 105))
    obtain ⟨f0, f1, f2, f3, ff⟩ := ((hxa5.below hb6 hxa5.lt).alloc (.cells #[.slice A6 n6 c6] 105)).facts4
    obtain ⟨g0, g1, g2, g3, gf⟩ := ((hq65.below hb6 hq65.lt).alloc (.cells #[.slice A6 n6 c6] 105)).facts4
    clear hxa5 hq65 hb6 e1 hg5 HB5
    go_wp2
    go_ret
    exact ⟨rfl, by rw [hz]; exact HB6.out⟩
  · kernel_rfl
  -- R>
end Go.Proofs.YtodamjjlnagpjaaGreatDoor
namespace Go.Proofs.YtodamjjlnagpjaaGreatDoor
open Go.RowKit

theorem operated_any {A : Option Addr} {n c : Nat} {zs : List Int} {w : World} (m : Int) (hW : WT w) (hT : KT w) (hm : w.cell? ⟨2, 0, none⟩ = some (.int .i64 m)) (hs : Sl w w.heap.size 1 A n c (ints zs)) :
    Calls Tryz.prog 3 #[.slice A n c] w fun e w' => e = .returned (.bool true) ∧ Below w.heap.size w w' :=
  operated_of A n c zs w hT hs fun W hb => awake_any m W (hW.below hb hW.pos) (hT.below hb hT.pos) ((hb.cell (p := ⟨2, 0, none⟩) (World.block_lt_of_cell? w _ hm)).trans hm)
end Go.Proofs.YtodamjjlnagpjaaGreatDoor
