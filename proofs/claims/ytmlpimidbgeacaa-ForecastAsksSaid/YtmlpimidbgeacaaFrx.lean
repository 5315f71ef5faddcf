/-
  The contract of the reference's Exceeds: the weights beyond a flow and of all, or the first error. Condition: the bundle can be read.
-/
import Derived.Test.YtmlpimidbgeacaaProg
import Derived.Test.YtmlpimidbgeacaaFrm
import Derived.Test.YtmlpimidbgeacaaFex
import Derived.Test.YtmlpimidbgeacaaFqp
namespace Go.Proofs.Ytmlpimidbgeacaa
open Go.RowKit

set_option maxHeartbeats 1600000 in
set_option maxRecDepth 20000 in
theorem rexceeds_any (b : Bd) (t flow : Int) (ht : t ≤ 9223372036854775807) (w : World) (hb : b.ok w w.heap.size) :
    Calls Try.prog 22 #[.agg b.arr, .int .i64 t, .int .i64 flow] w fun e w' => e = .returned (.tuple #[.int .i64 (if stepE b t = 0 then overV b t flow else 0), .int .i64 (if stepE b t = 0 then wAll b.ss else 0), .int .i64 (stepE b t)]) ∧ Below w.heap.size w w' := by
  have q0 := Blk.new w 27 b.arr
  have hB := bel1 (w := w) (o := .cells b.arr 27)
  have hb1 := Bd.ok.thr hb hB
  have HSP := hide (fun W hW => usable_any b W hW)
  by_cases hse : stepE b t = 0
  · obtain ⟨hv, ht0, ht1, hwd⟩ := stepE_zero hse (ScsOk.len hb)
    have HWE := hide (fun W hW => rweight_ok b W hW hv)
    unfold wAll at HWE
    have HCV := hide (fun W hW => rcovers_ok b t ht W hW hv)
    obtain ⟨hle, hcv⟩ := stepE_parts hse
    rw [hcv] at HCV
    rw [hle] at HSP
    clear hle hcv
    have HE := hide (show (if stepE b t = 0 then overV b t flow else 0) = sumS (wOf fun s => decide (flow < flAt b t s)) b.ss from if_pos hse)
    have HEA := hide (show (if stepE b t = 0 then wAll b.ss else 0) = sumS (wOf fun _ => true) b.ss from if_pos hse)
    generalize (if stepE b t = 0 then overV b t flow else 0) = mv at *
    generalize (if stepE b t = 0 then wAll b.ss else 0) = ma at *
    rw [hse]
    obtain ⟨at_, hat⟩ : ∃ at_ : Nat, t - b.fr = (at_ : Int) := ⟨(t - b.fr).toNat, by omega⟩
    have hfr := hv.fr
    have hm := hv.m
    have hn := hv.n
    have HSC := hide hv.sc
    have hatm : at_ < stepsOf b.ss := by omega
    have HAT := hide hat
    have HFA := hide (show ∀ s, flAt b t s = s.fl.getD at_ 0 from fun s => by unfold flAt; rw [hat]; rfl)
    have HEB := hide (show sumS (wOf fun s => decide (flow < flAt b t s)) b.ss = sumS (wOf fun s => decide (flow < s.fl.getD at_ 0)) b.ss from sumS_congr _ fun s _ => by unfold wOf; simp only [HFA.out])
    have hwpos : 1 ≤ sumS (wOf fun _ => true) b.ss ∧ sumS (wOf fun _ => true) b.ss ≤ 500000 := by
      have hl := ScsOk.len hb
      rcases hss : b.ss with _ | ⟨s, tl⟩
      · rw [hss] at hl; simp at hl; omega
      · have h1 := (hv.sc s (by rw [hss]; simp)).1
        have h2 := sumS_bnd (f := wOf fun _ => true) (M := 10000) (by omega) tl (fun s' hs' => by
          have := (hv.sc s' (by rw [hss]; simp [hs'])).1
          unfold wOf; simp; omega)
        have h3 : (tl.length : Int) ≤ 49 := by rw [hss] at hl; simp at hl; omega
        simp only [sumS]
        unfold wOf at h2 ⊢
        simp only [if_true] at h2 ⊢
        omega
    obtain ⟨fr, A, n, c, ss, wd⟩ := b
    unfold Bd.arr at q0 hB HSP HWE HCV hb1 ⊢
    simp only at q0 hB HSP HWE HCV HE hb1 hfr hm hn HSC hatm hwpos ht0 ht1 HAT HEA HEB ⊢
    generalize sumS (wOf fun _ => true) ss = ws at *
    have HS := hide (show ScsOk _ _ A n c ss from hb1)
    have hl : n = ss.length := HS.out.len
    have HL := hide hl
    obtain ⟨c0, c1, c2, _⟩ := q0.facts3
    clear hb hse hv hwd hl hat HFA
    go_enter Try.func22, Try.ntmps22
    go_wp2_with fail
    generalize w.alloc _ = w1 at *
    refine (HSP.out w1 hb1).mono ?_
    rintro e w2 ⟨rfl, hb2⟩
    have HQ2 := hide (q0.below hb2 q0.lt)
    have hB2 := bthr hB hb2 hB.size
    have HS2 := hide (HS.out.thr hb2)
    have HB2 := hide hB2
    clear hb1 c0 c1 c2 q0 hB hb2 hB2 HSP HS
    obtain ⟨c0, c1, c2, _⟩ := HQ2.out.facts3
    go_wp2_with fail
    refine (HCV.out w2 HS2.out).mono ?_
    rintro e w3 ⟨rfl, hb3⟩
    have HQ3 := hide (HQ2.out.below hb3 HQ2.out.lt)
    have HS3 := hide (HS2.out.thr hb3)
    have HB3 := hide (bthr HB2.out hb3 HB2.out.size)
    clear c0 c1 c2 hb3 HQ2 HS2 HB2 HCV
    rename Hid (Blk _ _ _ _) => HQ2
    rename Hid (ScsOk _ _ _ _ _ _) => HS2
    rename Hid (Below _ _ _) => HB2
    obtain ⟨c0, c1, c2, _⟩ := HQ2.out.facts3
    go_wp2
    clear c0 c1 c2
    go_loopw [10, 25] (fun sm i wr => ∃ k : Nat, k ≤ n ∧ i = .int .i64 k ∧ sm = .int .i64 (sumS (wOf fun s => decide (flow < s.fl.getD at_ 0)) (ss.take k)) ∧ Below w3.heap.size w3 wr) (fun _ i _ => n - (intOf i).toNat)
    case atStart => exact ⟨0, by omega, rfl, rfl, Below.refl _ _⟩
    case round =>
      obtain ⟨k, hk, rfl, rfl, hb⟩ := hrel
      by_cases hlt : k < n
      · have hL := HL.out
        have HSk := HS2.out.thr hb
        obtain ⟨bl, ol, rfl, _, hcl⟩ := HSk.1.at_ hlt
        rcases ek : ss[k]'(by omega) with ⟨wt, A1, n1, c1, fl⟩
        obtain ⟨e0, e1⟩ := sc_cells hcl (by omega) ek
        simp only at e0 e1
        have hmem : (⟨wt, A1, n1, c1, fl⟩ : Sc) ∈ ss := by rw [← ek]; exact List.getElem_mem _
        obtain ⟨⟨hw0, hw1'⟩, hn1, hfl⟩ := HSC.out _ hmem
        simp only at hw0 hw1' hn1 hfl
        have hok := HSk.2 _ hmem
        obtain ⟨bf, of_, hA1, hcf, hfm⟩ := fl_get hok (j := at_) (by simp only; omega)
        simp only at hA1 hcf hfm
        subst hA1
        have hfv := hfl _ hfm
        have HST := hide (sumS_take (f := wOf fun s => decide (flow < s.fl.getD at_ 0)) (show k < ss.length by omega) ek)
        have hbnd := sumS_bnd (f := wOf fun s => decide (flow < s.fl.getD at_ 0)) (M := 10000) (by omega) (ss.take k) (fun s hs => by
          have := (HSC.out s (List.mem_of_mem_take hs)).1
          unfold wOf; split <;> omega)
        rw [List.length_take, Nat.min_eq_left (by omega)] at hbnd
        obtain ⟨sm, hsm⟩ : ∃ sm, sm = sumS (wOf fun s => decide (flow < s.fl.getD at_ 0)) (ss.take k) := ⟨_, rfl⟩
        have hsb : 0 ≤ sm ∧ sm ≤ 500000 := by rw [hsm]; omega
        rw [← hsm] at HST
        simp only [← hsm]
        have HST2 := hide (show sumS (wOf fun s => decide (flow < s.fl.getD at_ 0)) (ss.take (k + 1)) = sm + (if decide (flow < fl.getD at_ 0) = true then wt else 0) from HST.out)
        obtain ⟨fv, hfv2⟩ : ∃ fv, fl.getD at_ 0 = fv := ⟨_, rfl⟩
        rw [hfv2] at HST2 hcf
        clear HST hfv
        have hb2 := hb.alloc hb.size (.cells #[.int .i64 wt, .slice (some ⟨bf, of_, none⟩) n1 c1] 32)
        have hbx := bel1 (w := wr) (o := .cells #[.int .i64 wt, .slice (some ⟨bf, of_, none⟩) n1 c1] 32)
        have q1 := Blk.new wr 32 #[.int .i64 wt, .slice (some ⟨bf, of_, none⟩) n1 c1]
        have hcf2 := cell_thr hbx hcf
        have hQw := HQ2.out.below hb2 HQ2.out.lt
        have hki : (k : Int) < (n : Int) := by omega
        have hati : (at_ : Int) < (n1 : Int) := by omega
        have hat0 : (0 : Int) ≤ (at_ : Int) := by omega
        have HB2 := hide hb2
        clear hcl ek hmem hL hb hb2 hbx hok hfm hfl hbnd hcf hsm hfv2 HSk hn1
        go_upto_region 10 with fail
        clear e0 e1
        generalize wr.alloc _ = w5 at *
        generalize wr.heap.size = g5 at *
        obtain ⟨x0, x1, _⟩ := q1.facts2
        obtain ⟨y0, y1, y2, _⟩ := hQw.facts3
        obtain ⟨hs0, hs1⟩ := hsb
        have hat2 : (t - fr).toNat = at_ := by rw [HAT.out]; rfl
        rw [← hat2] at hcf2
        have ha0 : 0 ≤ t - fr := by rw [HAT.out]; omega
        have ha1 : t - fr < (n1 : Int) := by rw [HAT.out]; omega
        clear hat2
        clear q1 hQw y1 y2
        by_cases hlf : flow < fv
        · have HX := hide (show sumS (wOf fun s => decide (flow < s.fl.getD at_ 0)) (ss.take (k + 1)) = sm + wt by rw [HST2.out, if_pos (by simpa using hlf)])
          clear HST2
          go_upto_region 11 with fail
          go_wp2
          go_roundw
          case rel => exact ⟨k + 1, by omega, by go_num, by rw [HX.out], HB2.out⟩
          case measure => simp [intOf]; omega
        · have HX := hide (show sumS (wOf fun s => decide (flow < s.fl.getD at_ 0)) (ss.take (k + 1)) = sm by rw [HST2.out, if_neg (by simpa using hlf)]; omega)
          clear HST2
          go_upto_region 12 with fail
          go_wp2
          go_roundw
          case rel => exact ⟨k + 1, by omega, by go_num, by rw [HX.out], HB2.out⟩
          case measure => simp [intOf]; omega
      · have hki : ¬ ((k : Int) < (n : Int)) := by omega
        have HX := hide (show sumS (wOf fun s => decide (flow < s.fl.getD at_ 0)) (ss.take k) = sumS (wOf fun s => decide (flow < s.fl.getD at_ 0)) ss by rw [List.take_of_length_le (by have := HL.out; omega)])
        have hq3 := HQ2.out.below hb HQ2.out.lt
        have hS3 := HS2.out.thr hb
        have HB3 := hide (bthr HB2.out hb HB2.out.size)
        obtain ⟨c0, c1, c2, _⟩ := hq3.facts3
        rw [HX.out]
        rw [← HEB.out]
        generalize sumS (wOf fun s => decide (flow < flAt ⟨fr, _, n, c, ss, wd⟩ t s)) ss = tot at *
        clear hb hq3
        go_wp2_with fail
        refine (HWE.out wr hS3).mono ?_
        rintro e w9 ⟨rfl, hb9⟩
        have HB9 := hide (bthr HB3.out hb9 HB3.out.size)
        clear hb9 c0 c1 c2 hS3 HWE
        go_wp2
        go_ret3
        exact ⟨by rw [HE.out, HEA.out]; first | done | rfl, HB9.out⟩
  · rw [if_neg hse, if_neg hse]
    have HSE := hide (show stepE b t = if liveE b ≠ 0 then liveE b else if covB b t then 0 else 6 from rfl)
    have HCV := hide (fun W hW hv => rcovers_ok b t ht W hW hv)
    have HVV := hide (fun (h : liveE b = 0) => (liveE_ok h (ScsOk.len hb)).1)
    generalize stepE b t = se at *
    generalize liveE b = le at *
    generalize covB b t = cb at *
    obtain ⟨fr, A, n, c, ss, wd⟩ := b
    unfold Bd.arr at q0 hB HSP HCV hb1 ⊢
    simp only at q0 hB HSP HCV hb1 ⊢
    obtain ⟨c0, c1, c2, _⟩ := q0.facts3
    clear hb
    go_enter Try.func22, Try.ntmps22
    go_wp2_with fail
    generalize w.alloc _ = w1 at *
    refine (HSP.out w1 hb1).mono ?_
    rintro e w2 ⟨rfl, hb2⟩
    have HB2 := hide (bthr hB hb2 hB.size)
    have q2 := q0.below hb2 q0.lt
    have hb3 := Bd.ok.thr hb1 hb2
    clear c0 c1 c2 hb2 hB q0 hb1 HSP
    obtain ⟨c0, c1, c2, _⟩ := q2.facts3
    by_cases hle : le = 0
    · have hq : (le != 0) = false := by simp [hle]
      have HSE2 := hide (HSE.out.trans (if_neg (by simp [hle])))
      have hv := HVV.out hle
      clear HSE hle HVV
      go_wp2_with fail
      refine (HCV.out w2 hb3 hv).mono ?_
      rintro e w3 ⟨rfl, hb4⟩
      have HB3 := hide (bthr HB2.out hb4 HB2.out.size)
      cases cb
      · have HX := hide (HSE2.out.trans (if_neg (by simp)))
        clear c0 c1 c2 hb3 hb4 HSE2 q2 hse
        go_wp2
        go_ret3
        exact ⟨by rw [HX.out]; first | done | rfl, HB3.out⟩
      · exact absurd (HSE2.out.trans (if_pos rfl)) hse
    · have hq : (le != 0) = true := by simp [hle]
      have HX := hide (HSE.out.trans (if_pos hle))
      clear HSE hle HVV hse hb3 q2
      go_wp2
      go_ret3
      exact ⟨by rw [HX.out]; first | done | rfl, HB2.out⟩
end Go.Proofs.Ytmlpimidbgeacaa
