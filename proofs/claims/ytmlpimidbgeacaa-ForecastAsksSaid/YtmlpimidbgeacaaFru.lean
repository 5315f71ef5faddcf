/-
  Contracts of the reference's usable, covers and Weight. Conditions: the bundle can be read; covers, Weight: it is valid.
-/
import Derived.Test.YtmlpimidbgeacaaProg
import Derived.Test.YtmlpimidbgeacaaFrc
namespace Go.Proofs.Ytmlpimidbgeacaa
open Go.RowKit

set_option maxHeartbeats 1600000 in
set_option maxRecDepth 20000 in
theorem usable_any (b : Bd) (w : World) (hb : b.ok w w.heap.size) :
    Calls Try.prog 44 #[.agg b.arr] w fun e w' => e = .returned (.int .i64 (liveE b)) ∧ Below w.heap.size w w' := by
  have HC := hide (fun W hW => rfcheck_any b W hW)
  have HE := hide (show liveE b = if b.err ≠ 0 then b.err else if b.wd then 9 else 0 from rfl)
  generalize liveE b = le at *
  generalize hbe : b.err = be at *
  have q0 := Blk.new w 27 b.arr
  have hB := bel1 (w := w) (o := .cells b.arr 27)
  have hb1 := Bd.ok.thr hb hB
  obtain ⟨fr, A, n, c, ss, wd⟩ := b
  unfold Bd.arr at q0 hB HC hb1 ⊢
  simp only at q0 hB HC HE hb1 ⊢
  obtain ⟨c0, c1, c2, _⟩ := q0.facts3
  clear hb hbe
  go_enter Try.func44, Try.ntmps44
  go_wp2_with fail
  generalize w.alloc _ = w1 at *
  refine (HC.out w1 hb1).mono ?_
  rintro e w2 ⟨rfl, hb2⟩
  have q2 := q0.below hb2 q0.lt
  have HB2 := hide (bthr hB hb2 hB.size)
  clear hb1 c0 c1 c2 hB q0 hb2 HC
  obtain ⟨c0, c1, c2, _⟩ := q2.facts3
  by_cases hbe : be = 0
  · have hq : (be != 0) = false := by simp [hbe]
    have HE2 := hide (HE.out.trans (if_neg (by simp [hbe])))
    clear HE hbe
    cases wd
    · have HX := hide (HE2.out.trans (if_neg (by simp)))
      clear HE2
      go_wp2
      go_ret
      exact ⟨by rw [HX.out]; first | done | rfl, HB2.out⟩
    · have HX := hide (HE2.out.trans (if_pos rfl))
      clear HE2
      go_wp2
      go_ret
      exact ⟨by rw [HX.out]; first | done | rfl, HB2.out⟩
  · have hq : (be != 0) = true := by simp [hbe]
    have HX := hide (HE.out.trans (if_pos hbe))
    clear HE hbe
    go_wp2
    go_ret
    exact ⟨by rw [HX.out]; first | done | rfl, HB2.out⟩
set_option maxHeartbeats 1600000 in
set_option maxRecDepth 20000 in
theorem rcovers_ok (b : Bd) (t : Int) (ht : t ≤ 9223372036854775807) (w : World) (hb : b.ok w w.heap.size) (hv : BdV b) :
    Calls Try.prog 45 #[.agg b.arr, .int .i64 t] w fun e w' => e = .returned (.bool (covB b t)) ∧ Below w.heap.size w w' := by
  obtain ⟨s0, h0, e0, hst⟩ := bd_steps hb hv
  have HE := hide (show covB b t = (decide (b.fr ≤ t) && decide (t < b.fr + stepsOf b.ss)) from rfl)
  generalize covB b t = cb at *
  have hfr := hv.fr
  have hm := hv.m
  have hn := hv.n
  generalize stepsOf b.ss = m at *
  have q0 := Blk.new w 27 b.arr
  have hB := bel1 (w := w) (o := .cells b.arr 27)
  have hb1 := Bd.ok.thr hb hB
  obtain ⟨fr, A, n, c, ss, wd⟩ := b
  obtain ⟨wt', A', n', c', fl'⟩ := s0
  unfold Bd.arr at q0 hB hb1 ⊢
  simp only at q0 hB HE hb1 hfr hm hn h0 e0 hst ⊢
  obtain ⟨bl, ol, rfl, _, hcl⟩ := hb1.1.at_ hn.1
  obtain ⟨-, d1⟩ := sc_cells hcl h0 e0
  simp only [Nat.zero_mul, Nat.add_zero] at d1
  obtain ⟨c0, c1, c2, _⟩ := q0.facts3
  have hni : (0 : Int) < (n : Int) := by omega
  subst hst
  clear hb hv hb1 hcl q0 e0
  obtain ⟨f0, f1⟩ := hfr
  obtain ⟨m0, m1⟩ := hm
  have hmi : (n' : Int) ≤ 1000 := by omega
  go_enter Try.func45, Try.ntmps45
  go_wp2_with fail
  generalize w.alloc _ = w1 at *
  by_cases h1 : fr ≤ t
  · have g1 : decide (fr ≤ t) = true := by simp [h1]
    have HX := hide (show cb = decide (t - fr < n') by rw [HE.out, g1, Bool.true_and]; congr 1; exact propext (by omega))
    have hwr : IntKind.i64.wrap (t - fr) = t - fr := by rw [IntKind.wrap_i64]; omega
    clear HE
    go_quiet (fail)
    go_wp2
    go_ret
    exact ⟨ret_bool HX.out.symm, below_drewN hB _⟩
  · have g1 : decide (fr ≤ t) = false := by simp; omega
    have HX := hide (show cb = false by rw [HE.out, g1]; rfl)
    clear HE
    go_quiet (fail)
    go_wp2
    go_ret
    exact ⟨ret_bool HX.out.symm, below_drewN hB _⟩
set_option maxHeartbeats 1600000 in
set_option maxRecDepth 20000 in
theorem rweight_ok (b : Bd) (w : World) (hb : b.ok w w.heap.size) (hv : BdV b) :
    Calls Try.prog 46 #[.agg b.arr] w fun e w' => e = .returned (.int .i64 (wAll b.ss)) ∧ Below w.heap.size w w' := by
  have q0 := Blk.new w 27 b.arr
  have hB := bel1 (w := w) (o := .cells b.arr 27)
  have hb1 := Bd.ok.thr hb hB
  have hn := hv.n
  have HWT := hide (fun s hs => (hv.sc s hs).1)
  have HWA := hide (show wAll b.ss = sumS (fun s => s.wt) b.ss from wAll_wt b.ss)
  generalize wAll b.ss = al at *
  obtain ⟨fr, A, n, c, ss, wd⟩ := b
  unfold Bd.arr at q0 hB hb1 ⊢
  simp only at q0 hB hn HWT hb1 HWA ⊢
  have HS := hide (show ScsOk _ _ A n c ss from hb1)
  have HL := hide (show n = ss.length from HS.out.len)
  obtain ⟨c0, c1, c2, _⟩ := q0.facts3
  clear hb hb1 hv
  go_enter Try.func46, Try.ntmps46
  go_upto_region 2 with fail
  generalize hw1 : w.alloc _ = w1 at *
  have hz1 : w.heap.size ≤ w1.heap.size := hB.size
  clear hw1
  go_wp2
  clear c0 c1 c2 q0
  go_loopw [3, 9] (fun sm i wr => ∃ k : Nat, k ≤ n ∧ i = .int .i64 k ∧ sm = .int .i64 (sumS (fun s => s.wt) (ss.take k)) ∧ Below w1.heap.size w1 wr) (fun _ i _ => n - (intOf i).toNat)
  case atStart => exact ⟨0, by omega, rfl, rfl, Below.refl _ _⟩
  case round =>
    obtain ⟨k, hk, rfl, rfl, hb⟩ := hrel
    by_cases hlt : k < n
    · have hL := HL.out
      obtain ⟨bl, ol, rfl, _, hcl⟩ := (HS.out.thr hb).1.at_ hlt
      rcases ek : ss[k]'(by omega) with ⟨wt, A1, n1, c1, fl⟩
      obtain ⟨e0, e1⟩ := sc_cells hcl (by omega) ek
      simp only at e0 e1
      have hwt := HWT.out ⟨wt, A1, n1, c1, fl⟩ (by rw [← ek]; exact List.getElem_mem _)
      simp only at hwt
      have HST := hide (sumS_take (f := fun s => s.wt) (show k < ss.length by omega) ek)
      have hbnd := sumS_bnd (f := fun s => s.wt) (M := 10000) (by omega) (ss.take k) (fun s hs => by
        have := HWT.out s (List.mem_of_mem_take hs); omega)
      rw [List.length_take, Nat.min_eq_left (by omega)] at hbnd
      simp only at HST
      obtain ⟨sm, hsm⟩ : ∃ sm, sm = sumS (fun s => s.wt) (ss.take k) := ⟨_, rfl⟩
      have hsb : 0 ≤ sm ∧ sm ≤ 500000 := by rw [hsm]; omega
      obtain ⟨hs0, hs1⟩ := hsb
      obtain ⟨w0, w1'⟩ := hwt
      rw [← hsm] at HST
      simp only [← hsm]
      have hb2 := hb.alloc hb.size (.cells #[.int .i64 wt, .slice A1 n1 c1] 32)
      have q1 := Blk.new wr 32 #[.int .i64 wt, .slice A1 n1 c1]
      have hki : (k : Int) < (n : Int) := by omega
      have HB2 := hide hb2
      clear hcl ek hL hb hb2 hsm hbnd
      go_upto_region 5 with fail
      clear e0 e1
      generalize wr.alloc _ = w5 at *
      generalize wr.heap.size = g5 at *
      obtain ⟨x0, x1, _⟩ := q1.facts2
      clear q1
      go_wp2
      go_roundw
      case rel => exact ⟨k + 1, by omega, by go_num, by rw [HST.out], HB2.out⟩
      case measure => simp [intOf]; omega
    · have hki : ¬ ((k : Int) < (n : Int)) := by omega
      have HX := hide (show sumS (fun s => s.wt) (ss.take k) = al by rw [HWA.out, List.take_of_length_le (by have := HL.out; omega)])
      have HBZ := hide (bthr hB hb hz1)
      clear hb
      rw [HX.out]
      go_wp2
      go_ret
      exact ⟨rfl, HBZ.out⟩
end Go.Proofs.Ytmlpimidbgeacaa
