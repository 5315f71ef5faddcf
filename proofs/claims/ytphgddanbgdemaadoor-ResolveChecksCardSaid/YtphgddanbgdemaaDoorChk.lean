/-
  Contracts of both Checks of a choice: the error of the arguments, or whether it is the choice. Conditions: the contract of Choose at these arguments, the table of kinds, and that the lists can be read.
-/
import Derived.Test.YtphgddanbgdemaaDoorProg
import Derived.Test.YtphgddanbgdemaaDoorChE
import Derived.Test.YtphgddanbgdemaaDoorEqy
namespace Go.Proofs.YtphgddanbgdemaaDoor
open Go.RowKit

def chkE (E : Int) (same : Bool) : Int := if E ≠ 0 then E else if same then 0 else 14
theorem chk_err {E : Int} {b : Bool} (h : ¬ E = 0) : chkE E b = E := by unfold chkE; rw [if_pos h]
theorem chk_yes : chkE 0 true = 0 := rfl
theorem chk_no : chkE 0 false = 14 := rfl
set_option maxHeartbeats 1600000 in
set_option maxRecDepth 20000 in
theorem pchk (A : Option Addr) (n c : Nat) (cs : List Cd) (d lv bf g0 g1 wn E rl0 lo0 hi0 : Int) (ys0 : List (Int × Int))
    (H : ∀ W : World, KT W → Sl W W.heap.size 7 A n c (cdCells cs) → Calls Tryd.prog 15 #[.slice A n c, .int .i64 d, .int .i64 lv, .int .i64 bf, .agg #[.int .i64 g0, .int .i64 g1], .int .i64 wn] W (ChoV rl0 lo0 hi0 ys0 E W))
    (rl lo hi : Int) (B : Option Addr) (m c2 : Nat) (ys : List (Int × Int)) (w : World) (hT : KT w) (hs : Sl w w.heap.size 7 A n c (cdCells cs)) (hy : Sl w w.heap.size 2 B m c2 (yCells ys)) :
    Calls Tryd.prog 9 #[.slice A n c, .int .i64 d, .int .i64 lv, .int .i64 bf, .agg #[.int .i64 g0, .int .i64 g1], .int .i64 wn, .agg #[.int .i64 rl, .int .i64 lo, .int .i64 hi, .slice B m c2]] w
      fun e w' => e = .returned (.int .i64 (chkE E (decide (rl0 = rl ∧ lo0 = lo ∧ hi0 = hi ∧ ys0 = ys)))) ∧ Below w.heap.size w w' := by
  have hw0 := hT.pos
  have q0 := (Blk.new w 23 #[.int .i64 g0, .int .i64 g1]).alloc (.cells #[.int .i64 rl, .int .i64 lo, .int .i64 hi, .slice B m c2] 26)
  have q1 := Blk.new (w.alloc (.cells #[.int .i64 g0, .int .i64 g1] 23)) 26 #[.int .i64 rl, .int .i64 lo, .int .i64 hi, .slice B m c2]
  rw [World.size_alloc] at q1
  have hB := (bel1 (w := w) (o := .cells #[.int .i64 g0, .int .i64 g1] 23)).alloc (by simp) (.cells #[.int .i64 rl, .int .i64 lo, .int .i64 hi, .slice B m c2] 26)
  have hs1 := hs.thr hB
  have hT1 := hT.below hB hw0
  have HY1 := hide (hy.thr hB)
  have HC := hide H
  obtain ⟨V, hV⟩ : ∃ V, chkE E (decide (rl0 = rl ∧ lo0 = lo ∧ hi0 = hi ∧ ys0 = ys)) = V := ⟨_, rfl⟩
  have HVV := hide hV
  rw [hV]
  clear hV hs hy H hT
  obtain ⟨y0, y1, _⟩ := q0.facts2
  clear q0
  go_enter Tryd.func9, Tryd.ntmps9
  go_wp2_with fail
  generalize ((w.alloc _).alloc _) = w1 at *
  refine (HC.out w1 hT1 hs1).mono ?_
  rintro e w2 ⟨A2, c3, rfl, hy2, hb2⟩
  have hbx := bel1 (w := w2) (o := .cells #[.int .i64 rl0, .int .i64 lo0, .int .i64 hi0, .slice A2 ys0.length c3] 26)
  have p15 := Blk.new w2 26 #[.int .i64 rl0, .int .i64 lo0, .int .i64 hi0, .slice A2 ys0.length c3]
  have hb3 := bthr hb2 hbx hb2.size
  have HB3 := hide (bthr hB hb3 hB.size)
  have HY2 := hide (hy2.thr hbx)
  have HY3 := hide (HY1.out.thr hb3)
  have q1b := q1.below hb3 q1.lt
  clear hB hs1 hT1 HY1 HC y0 y1 hy2 hb2 hbx hb3 q1
  go_upto_region 2 with fail
  generalize w2.alloc _ = w3 at *
  generalize w2.heap.size = g15 at *
  by_cases hE : E = 0
  · subst hE
    obtain ⟨x0, x1, x2, x3, _⟩ := q1b.facts4
    obtain ⟨z0, z1, z2, z3, _⟩ := p15.facts4
    clear q1b p15
    by_cases hrl : rl0 = rl
    · by_cases hlo : lo0 = lo
      · by_cases hhi : hi0 = hi
        · subst hrl hlo hhi
          have HN := hide (fun (h : ys ≠ ys0) => show V = 14 by rw [← HVV.out, decide_eq_false (fun e => h e.2.2.2.symm)]; rfl)
          have HP := hide (fun (h : ys = ys0) => show V = 0 by rw [← HVV.out, decide_eq_true ⟨rfl, rfl, rfl, h.symm⟩]; rfl)
          have e1 : (rl0 != rl0) = false := by simp
          have e4 : (lo0 == lo0) = true := by simp
          have e5 : (hi0 == hi0) = true := by simp
          have HEQ := hide (eqy_any B A2 m ys0.length c2 c3 ys ys0 w3 HY3.out HY2.out)
          generalize ys0.length = l0 at *
          go_wp2_with fail
          refine HEQ.out.mono ?_
          rintro e w4 ⟨rfl, hb4⟩
          have HB4 := hide (bthr HB3.out hb4 HB3.out.size)
          clear hb4 HEQ x0 x1 x2 x3 z0 z1 z2 z3
          cases hq : decide (ys = ys0)
          · have HX := hide (HN.out (of_decide_eq_false hq))
            clear hq
            go_wp2
            go_ret
            exact ⟨ret_int HX.out.symm, HB4.out⟩
          · have HX := hide (HP.out (of_decide_eq_true hq))
            clear hq
            go_wp2
            go_ret
            exact ⟨ret_int HX.out.symm, HB4.out⟩
        · have HX := hide (show V = 14 by
            rw [← HVV.out, decide_eq_false (fun h => hhi h.2.2.1)]; rfl)
          subst hrl hlo
          have e1 : (rl0 != rl0) = false := by simp
          have e4 : (lo0 == lo0) = true := by simp
          have hhi2 : ¬ hi = hi0 := fun h => hhi h.symm
          have e5 : (hi == hi0) = false := by simpa using hhi2
          clear hhi hhi2
          go_wp2
          go_ret
          exact ⟨ret_int HX.out.symm, HB3.out⟩
      · have HX := hide (show V = 14 by
          rw [← HVV.out, decide_eq_false (fun h => hlo h.2.1)]; rfl)
        subst hrl
        have e1 : (rl0 != rl0) = false := by simp
        have hlo2 : ¬ lo = lo0 := fun h => hlo h.symm
        have e4 : (lo == lo0) = false := by simpa using hlo2
        clear hlo hlo2
        go_wp2
        go_ret
        exact ⟨ret_int HX.out.symm, HB3.out⟩
    · have HX := hide (show V = 14 by
        rw [← HVV.out, decide_eq_false (fun h => hrl h.1)]; rfl)
      have hrl2 : ¬ rl = rl0 := fun h => hrl h.symm
      have e1 : (rl != rl0) = true := by simpa using hrl2
      clear hrl hrl2
      go_wp2
      go_ret
      exact ⟨ret_int HX.out.symm, HB3.out⟩
  · have HX := hide (HVV.out.symm.trans (chk_err hE))
    have hne : (E != 0) = true := by simpa using hE
    clear hE q1b p15
    go_wp2
    go_ret
    exact ⟨ret_int HX.out.symm, HB3.out⟩
set_option maxHeartbeats 1600000 in
set_option maxRecDepth 20000 in
theorem rchk (A : Option Addr) (n c : Nat) (cs : List Cd) (d lv bf g0 g1 wn E rl0 lo0 hi0 : Int) (ys0 : List (Int × Int))
    (H : ∀ W : World, Sl W W.heap.size 7 A n c (cdCells cs) → Calls Tryd.prog 7 #[.slice A n c, .int .i64 d, .int .i64 lv, .int .i64 bf, .agg #[.int .i64 g0, .int .i64 g1], .int .i64 wn] W (ChoV rl0 lo0 hi0 ys0 E W))
    (rl lo hi : Int) (B : Option Addr) (m c2 : Nat) (ys : List (Int × Int)) (w : World) (hs : Sl w w.heap.size 7 A n c (cdCells cs)) (hy : Sl w w.heap.size 2 B m c2 (yCells ys)) :
    Calls Tryd.prog 10 #[.slice A n c, .int .i64 d, .int .i64 lv, .int .i64 bf, .agg #[.int .i64 g0, .int .i64 g1], .int .i64 wn, .agg #[.int .i64 rl, .int .i64 lo, .int .i64 hi, .slice B m c2]] w
      fun e w' => e = .returned (.int .i64 (chkE E (decide (rl0 = rl ∧ lo0 = lo ∧ hi0 = hi ∧ ys0 = ys)))) ∧ Below w.heap.size w w' := by
  have q0 := (Blk.new w 23 #[.int .i64 g0, .int .i64 g1]).alloc (.cells #[.int .i64 rl, .int .i64 lo, .int .i64 hi, .slice B m c2] 26)
  have q1 := Blk.new (w.alloc (.cells #[.int .i64 g0, .int .i64 g1] 23)) 26 #[.int .i64 rl, .int .i64 lo, .int .i64 hi, .slice B m c2]
  rw [World.size_alloc] at q1
  have hB := (bel1 (w := w) (o := .cells #[.int .i64 g0, .int .i64 g1] 23)).alloc (by simp) (.cells #[.int .i64 rl, .int .i64 lo, .int .i64 hi, .slice B m c2] 26)
  have hs1 := hs.thr hB
  have HY1 := hide (hy.thr hB)
  have HC := hide H
  obtain ⟨sm, hsm⟩ : ∃ sm, decide (rl0 = rl ∧ lo0 = lo ∧ hi0 = hi ∧ ys0 = ys) = sm := ⟨_, rfl⟩
  have HSM := hide hsm
  rw [hsm]
  clear hsm hs hy H
  obtain ⟨y0, y1, _⟩ := q0.facts2
  clear q0
  go_enter Tryd.func10, Tryd.ntmps10
  go_wp2_with fail
  generalize ((w.alloc _).alloc _) = w1 at *
  refine (HC.out w1 hs1).mono ?_
  rintro e w2 ⟨A2, c3, rfl, hy2, hb2⟩
  have hbx := bel1 (w := w2) (o := .cells #[.int .i64 rl0, .int .i64 lo0, .int .i64 hi0, .slice A2 ys0.length c3] 26)
  have p15 := Blk.new w2 26 #[.int .i64 rl0, .int .i64 lo0, .int .i64 hi0, .slice A2 ys0.length c3]
  have hb3 := bthr hb2 hbx hb2.size
  have HB3 := hide (bthr hB hb3 hB.size)
  have HY2 := hide (hy2.thr hbx)
  have HY3 := hide (HY1.out.thr hb3)
  have q1b := q1.below hb3 q1.lt
  clear hB hs1 HY1 HC y0 y1 hy2 hb2 hbx hb3 q1
  go_upto_region 2 with fail
  generalize w2.alloc _ = w3 at *
  generalize w2.heap.size = g15 at *
  by_cases hE : E = 0
  · subst hE
    obtain ⟨x0, x1, x2, x3, _⟩ := q1b.facts4
    obtain ⟨z0, z1, z2, z3, _⟩ := p15.facts4
    clear q1b p15
    have HEQ := hide (csame_any rl0 lo0 hi0 rl lo hi A2 B ys0.length m c3 c2 ys0 ys w3 HY2.out HY3.out)
    rw [HSM.out] at HEQ
    generalize ys0.length = l0 at *
    go_wp2_with fail
    refine HEQ.out.mono ?_
    rintro e w4 ⟨rfl, hb4⟩
    have HB4 := hide (bthr HB3.out hb4 HB3.out.size)
    clear hb4 HEQ x0 x1 x2 x3 z0 z1 z2 z3 HSM
    cases sm
    · go_wp2
      go_ret
      exact ⟨rfl, HB4.out⟩
    · go_wp2
      go_ret
      exact ⟨rfl, HB4.out⟩
  · have HX := hide (chk_err (b := sm) hE)
    have hne : (E != 0) = true := by simpa using hE
    clear hE q1b p15
    go_wp2
    go_ret
    exact ⟨ret_int HX.out.symm, HB3.out⟩
end Go.Proofs.YtphgddanbgdemaaDoor
