/-
  Contracts of Dead and Simple. Conditions: each condition is valid, there are 200 at most.
-/
import Derived.Test.YtjbddicgegkkjaaProg
import Derived.Test.YtjbddicgegkkjaaDdd
import Derived.Test.YtjbddicgegkkjaaCdl
namespace Go.Proofs.Ytjbddicgegkkjaa
open Go.RowKit

def DeadPost (w : World) (n : Nat) (cs : List Cd) (e : Ending) (w' : World) : Prop := ∃ v, e = .returned (.tuple #[v, .int .i64 0]) ∧ w'.ownsRow w.heap.size 3 1 v (deadL cs n).length (ints (deadL cs n)) ∧ Below w.heap.size w w'
theorem deadL_le (cs : List Cd) (k : Nat) : (deadL cs k).length ≤ k := by have := deadL_len cs k; omega
set_option maxHeartbeats 600000 in
set_option maxRecDepth 20000 in
theorem cdead_ok (A : Option Addr) (n c : Nat) (cs : List Cd) (w : World) (hn : n ≤ 200) (hg : ∀ x ∈ cs, x.err = 0) (hs : Sl w w.heap.size 7 A n c (cdCells cs)) :
    Calls Try.prog 20 #[.slice A n c] w (DeadPost w n cs) := by
  have HG := hide hg
  go_enter Try.func20, Try.ntmps20
  go_wp2_with fail
  refine (check_ok A n c cs w hn hg hs).mono ?_
  rintro e w1 ⟨rfl, hb1⟩
  have HS := hide (hs.thr hb1)
  have HB1 := hide hb1
  clear hs hb1 hg
  go_wp2
  go_loopw [5, 14] (fun v i wr => ∃ k : Nat, k ≤ n ∧ i = .int .i64 k ∧ wr.ownsRow w1.heap.size 3 1 v (deadL cs k).length (ints (deadL cs k)) ∧ Below w1.heap.size w1 wr) (fun _ i _ => n - (intOf i).toNat)
  case atStart => exact ⟨0, by omega, rfl, World.ownsRow_nil _ _ _ _, Below.refl _ _⟩
  case round =>
    obtain ⟨k, hk, rfl, hv, hb⟩ := hrel
    by_cases hlt : k < n
    · have HI := hide (fun h => deadL_in (cs := cs) (k := k) h)
      have HU := hide (fun h => deadL_out (cs := cs) (k := k) h)
      have HD := hide (dead_any A n c cs k wr hn hlt HG.out (HS.out.thr hb))
      have hle := deadL_le cs k
      have HV := hide hv
      have HB := hide hb
      have hki : (k : Int) < (n : Int) := by omega
      clear hv hb
      go_wp2_with fail
      refine HD.out.mono ?_
      rintro e w2 ⟨rfl, hb2⟩
      have hv2 := ownsRow_below HV.out hb2
      have hB2 := bthr HB.out hb2 HB.out.size
      have hz2 := hB2.size
      clear HD hb2 HV HB
      cases hd : deadB cs k
      · have A1 := hide (HU.out hd)
        have HV2 := hide hv2
        clear hv2 HI HU hd
        go_wp2
        go_roundw
        case rel => exact ⟨k + 1, by omega, by go_num, by rw [A1.out]; exact HV2.out, hB2⟩
        case measure => simp [intOf]; omega
      · have A1 := hide (HI.out hd)
        clear HI HU hd
        go_wp2_with (at_builtin; refine wpList_push rfl _ _ _ rfl w1.heap.size _ _ slInt _ _ _ rfl hv2 _ _ rfl rfl rfl (by omega) hz2 ?_)
        intro v' w6 hv6 hg6 _
        have hB6 := hide (hB2.trans (below_push hv2 hg6 hz2))
        have hv7 := hide (own_cells hv6 (ys := ints (deadL cs (k + 1))) (by rw [A1.out, ints_append]; rfl))
        clear hv2 hv6 hg6 hB2
        go_wp2
        go_roundw
        case rel => exact ⟨k + 1, by omega, by go_num, by rw [show (deadL cs (k + 1)).length = (deadL cs k).length + 1 by rw [A1.out]; simp]; exact hv7.out, hB6.out⟩
        case measure => simp [intOf]; omega
    · obtain rfl : k = n := by omega
      have HV := hide (ownsRow_base hv HB1.out.size)
      have HB2 := hide (bthr HB1.out hb HB1.out.size)
      clear hv hb
      go_wp2
      go_ret2
      exact ⟨_, rfl, HV.out, HB2.out⟩
def SimPost (w : World) (n : Nat) (cs : List Cd) (e : Ending) (w' : World) : Prop := ∃ v, e = .returned (.tuple #[v, .int .i64 0]) ∧ w'.ownsRow w.heap.size 28 7 v (leftL cs (deadB cs) n).length (cdCells (leftL cs (deadB cs) n)) ∧ Below w.heap.size w w'
set_option maxHeartbeats 1600000 in
set_option maxRecDepth 20000 in
theorem simple_ok (A : Option Addr) (n c : Nat) (cs : List Cd) (w : World) (hn : n ≤ 200) (hg : ∀ x ∈ cs, x.err = 0) (hs : Sl w w.heap.size 7 A n c (cdCells cs)) :
    Calls Try.prog 19 #[.slice A n c] w (SimPost w n cs) := by
  have hl : n = cs.length := by have := hs.1; rw [cdCells_length] at this; omega
  have HL := hide hl
  clear hl
  go_enter Try.func19, Try.ntmps19
  go_wp2_with fail
  refine (cdead_ok A n c cs w hn hg hs).mono ?_
  rintro e w1 ⟨v1, rfl, hv1, hb1⟩
  obtain ⟨Ad, cd, rfl, hsd⟩ := own_sl hv1
  have HS := hide (hs.thr hb1)
  have HSD := hide hsd
  have HB1 := hide hb1
  have hdl := deadL_le cs n
  have HM := hide (fun (k : Nat) (hk : k < n) => show decide ((k : Int) ∈ deadL cs n) = deadB cs k by
    cases h : deadB cs k
    · exact decide_eq_false (fun hm => by have := (deadL_mem.1 hm).2; rw [h] at this; cases this)
    · exact decide_eq_true (deadL_mem.2 ⟨hk, h⟩))
  clear hs hb1 hg hv1 hsd
  go_wp2
  go_loopw [6, 19] (fun v i wr => ∃ k : Nat, k ≤ n ∧ i = .int .i64 k ∧ wr.ownsRow w1.heap.size 28 7 v (leftL cs (deadB cs) k).length (cdCells (leftL cs (deadB cs) k)) ∧ Below w1.heap.size w1 wr) (fun _ i _ => n - (intOf i).toNat)
  case atStart => exact ⟨0, by omega, rfl, World.ownsRow_nil _ _ _ _, Below.refl _ _⟩
  case round =>
    obtain ⟨j, hj, rfl, hv, hb⟩ := hrel
    by_cases hlt : j < n
    · have hL := HL.out
      obtain ⟨bl, ol, rfl, _, hcl2⟩ := (HS.out.below hb).at_ hlt
      rcases ej : cs[j]'(by omega) with ⟨r, kd, vv, f, t, x, y⟩
      obtain ⟨e0, e1, e2, e3, e4, e5, e6⟩ := cd_cells (B := 0) (n := 0) (c := 0) hcl2 (by omega) ej
      have hgd : cs.getD j cdn = ⟨r, kd, vv, f, t, x, y⟩ := by simp [List.getD_eq_getElem?_getD, show j < cs.length by omega, ej]
      have q1 := Blk.new wr 28 #[.int .i64 r, .int .i64 kd, .int .i64 vv, .int .i64 f, .int .i64 t, .int .i64 x, .int .i64 y]
      have hb2 := hb.alloc hb.size (.cells #[.int .i64 r, .int .i64 kd, .int .i64 vv, .int .i64 f, .int .i64 t, .int .i64 x, .int .i64 y] 28)
      have hv2 := hv.alloc (.cells #[.int .i64 r, .int .i64 kd, .int .i64 vv, .int .i64 f, .int .i64 t, .int .i64 x, .int .i64 y] 28)
      have HI := hide (fun (h : deadB cs j = false) => left_in (cs := cs) h)
      have HU := hide (fun (h : deadB cs j = true) => left_out (cs := cs) h)
      rw [hgd] at HI
      have HMJ := hide (HM.out j hlt)
      have hll := left_len cs (deadB cs) j
      have hzq := hb.size
      have hki : (j : Int) < (n : Int) := by omega
      have HSD2 := hide (HSD.out.thr hb2)
      clear hcl2 ej hgd hL hb
      go_wp2_with fail
      clear e0 e1 e2 e3 e4 e5 e6 hv
      refine (contains_int _ _ _ _ _ _ HSD2.out).mono ?_
      rintro e w2 ⟨rfl, rfl⟩
      rw [HMJ.out]
      obtain ⟨⟨a0, a1, a2, a3, a4, a5, a6⟩, _⟩ := Blk.facts7 q1
      have hzw : (wr.alloc (.cells #[.int .i64 r, .int .i64 kd, .int .i64 vv, .int .i64 f, .int .i64 t, .int .i64 x, .int .i64 y] 28)).heap.size = wr.heap.size + 1 := by simp
      have hzz := hb2.size
      cases hd : deadB cs j
      · have A1 := hide (HI.out hd)
        clear HI HU hd q1 HSD2 HMJ
        generalize wr.alloc _ = w5 at *
        generalize wr.heap.size = g5 at *
        go_wp2_with (at_builtin; refine wpList_pushG (g5 + 1) hzw.symm rfl _ _ _ rfl w1.heap.size _ _ slCond u6 _ _ rfl hv2 _ _ rfl rfl rfl (by omega) hzz ?_)
        intro v' w9 hv9 hg9 _
        have hb9 := hide (hb2.trans (below_push hv2 hg9 hzz))
        have hva := hide (own_cells hv9 (ys := cdCells (leftL cs (deadB cs) (j + 1))) (by rw [A1.out, cdCells_append]; rfl))
        clear hv9 hg9 hv2 a0 a1 a2 a3 a4 a5 a6 hb2
        go_wp2
        go_roundw
        case rel => exact ⟨j + 1, by omega, by go_num, by rw [show (leftL cs (deadB cs) (j + 1)).length = (leftL cs (deadB cs) j).length + 1 by rw [A1.out]; simp]; exact hva.out, hb9.out⟩
        case measure => simp [intOf]; omega
      · have A1 := hide (HU.out hd)
        have HV2 := hide hv2
        have HB2 := hide hb2
        clear HI HU hd q1 HSD2 HMJ hv2 hb2 a0 a1 a2 a3 a4 a5 a6
        go_wp2
        go_roundw
        case rel => exact ⟨j + 1, by omega, by go_num, by rw [A1.out]; exact HV2.out, HB2.out⟩
        case measure => simp [intOf]; omega
    · obtain rfl : j = n := by omega
      have HV := hide (ownsRow_base hv HB1.out.size)
      have HB2 := hide (bthr HB1.out hb HB1.out.size)
      clear hv hb
      go_wp2
      go_ret2
      exact ⟨_, rfl, HV.out, HB2.out⟩
end Go.Proofs.Ytjbddicgegkkjaa
