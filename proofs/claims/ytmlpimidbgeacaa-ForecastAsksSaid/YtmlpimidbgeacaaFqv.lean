/-
  The contract of Quantile: the quantile, or the first error, whatever the number of scenarios. Condition: the bundle can be read.
-/
import Derived.Test.YtmlpimidbgeacaaProg
import Derived.Test.YtmlpimidbgeacaaFsp
import Derived.Test.YtmlpimidbgeacaaFqu
namespace Go.Proofs.Ytmlpimidbgeacaa
open Go.RowKit

set_option maxHeartbeats 1600000 in
set_option maxRecDepth 20000 in
theorem quantileL_any (b : Bd) (t num den : Int) (w : World) (hb : b.ok w w.heap.size) :
    Calls Try.prog 13 #[.agg b.arr, .int .i64 t, .int .i64 num, .int .i64 den] w fun e w' => ∃ x : Int, e = .returned (.tuple #[.int .i64 x, .int .i64 (qE b t num den)]) ∧ QOk b t num den w x w' := by
  have q0 := Blk.new w 27 b.arr
  have hB := bel1 (w := w) (o := .cells b.arr 27)
  have hb1 := Bd.ok.thr hb hB
  have HL := hide (fun W hW => live_any b W hW)
  have HQE := hide (show qE b t num den = if liveE b ≠ 0 then liveE b else if qBad num den then 1 else if covB b t then 0 else 6 from rfl)
  have HLN := hide (ScsOk.len hb)
  by_cases hle : liveE b = 0
  · have HQ2 := hide (HQE.out.trans (if_neg (by simp [hle])))
    have hv := (liveE_ok hle HLN.out).1
    rw [hle] at HL
    have HCV := hide (fun W hW => covers_ok b t W hW hv)
    have HWE := hide (fun W hW => weight_any b 36 #[] (fun _ => true) W hW hv (every_says W b.ss))
    have HV := hide hv
    have HP := hide (fun r W => qok_bad (b := b) (t := t) (num := num) (den := den) (r := r) (w := w) (w' := W))
    have hn := hv.n
    have hw := wAll_bnd hv HLN.out
    have HW := hide hw
    have HWD := hide (show sumS (wOf fun _ => true) b.ss = wAll b.ss from rfl)
    rw [HWD.out] at HWE
    have HPOK := hide (fun (x : Int) (W : World) (h1 : qE b t num den = 0) (h2 : QV (flAt b t) b.ss num den x) (h3 : Below w.heap.size w W) => show QOk b t num den w x W from ⟨fun _ => h2, fun h => absurd h1 h, h3⟩)
    have HCB := hide (show covB b t = true → b.fr ≤ t ∧ t < b.fr + stepsOf b.ss by
      intro h; unfold covB at h; simp only [Bool.and_eq_true, decide_eq_true_eq] at h; exact h)
    have HSC := hide hv.sc
    have hfr := hv.fr
    have HMM := hide hv.m
    have HFA := hide (show ∀ s, flAt b t s = s.fl.getD (t - b.fr).toNat 0 from fun _ => rfl)
    generalize covB b t = cb at *
    generalize wAll b.ss = al at *
    generalize flAt b t = fa at *
    generalize QOk b t num den w = PP at *
    generalize qE b t num den = qe at *
    obtain ⟨fr, A, n, c, ss, wd⟩ := b
    unfold Bd.arr at q0 hB HL HWE HCV hb1 ⊢
    simp only at q0 hB HL HWE HCV hb1 hn  HLN HV HSC hfr HCB HFA HMM HPOK ⊢
    obtain ⟨c0, c1, c2, _⟩ := q0.facts3
    clear hb hle HQE hv
    go_enter Try.func13, Try.ntmps13
    go_wp2_with fail
    generalize w.alloc _ = w1 at *
    refine (HL.out w1 hb1).mono ?_
    rintro e w2 ⟨rfl, hb2⟩
    have HQ2' := hide (q0.below hb2 q0.lt)
    have hB2 := bthr hB hb2 hB.size
    have HB2 := hide hB2
    have HS2 := hide (ScsOk.thr (show ScsOk _ _ A n c ss from hb1) hb2)
    clear hb1 c0 c1 c2 q0 hB hb2 hB2 HL
    obtain ⟨c0, c1, c2, _⟩ := HQ2'.out.facts3
    by_cases hbad : qBad num den
    · have HQ3 := hide (HQ2.out.trans (if_pos hbad))
      unfold qBad at hbad
      clear HQ2
      have HR := hide (HP.out 1 w2 HQ3.out (by decide) HB2.out)
      clear HPOK HP
      go_wp2
      all_goals first | (exfalso; omega) | skip
      all_goals go_ret2
      all_goals exact ⟨0, by rw [HQ3.out]; first | done | rfl, HR.out⟩
    · have HQ3 := hide (HQ2.out.trans (if_neg hbad))
      unfold qBad at hbad
      clear HQ2
      have hn1 : ¬ num < 1 := by omega
      have hn2 : ¬ den < 1 := by omega
      have hn3 : ¬ den < num := by omega
      have hn4 : ¬ 10000 < den := by omega
      clear hbad
      go_wp2_with fail
      refine (HCV.out w2 HS2.out).mono ?_
      rintro e w3 ⟨rfl, hb3⟩
      have HQ4' := hide (HQ2'.out.below hb3 HQ2'.out.lt)
      have HB3 := hide (bthr HB2.out hb3 HB2.out.size)
      have HS3 := hide (HS2.out.thr hb3)
      clear c0 c1 c2 hb3 HB2 HS2 HQ2' HCV
      obtain ⟨c0, c1, c2, _⟩ := HQ4'.out.facts3
      cases cb
      · have HQ4 := hide (HQ3.out.trans (if_neg (by simp)))
        have HR := hide (HP.out 6 w3 HQ4.out (by decide) HB3.out)
        clear HPOK HP HQ3
        go_wp2
        go_ret2
        exact ⟨0, by rw [HQ4.out]; first | done | rfl, HR.out⟩
      · have HQ4 := hide (HQ3.out.trans (if_pos rfl))
        obtain ⟨ht0, ht1⟩ := HCB.out rfl
        obtain ⟨hfr0, hfr1⟩ := hfr
        have hmm := HMM.out
        obtain ⟨at_, hat⟩ : ∃ at_ : Nat, t - fr = (at_ : Int) := ⟨(t - fr).toNat, by omega⟩
        have hatm : at_ < stepsOf ss := by omega
        have HATM := hide hatm
        have hw64 : wrap64 (at_ : Int) = (at_ : Int) := IntWalk.wrap64_in _ (by omega)
        have HFA2 := hide (show ∀ s, fa s = s.fl.getD at_ 0 from fun s => by rw [HFA.out, hat]; rfl)
        have hB5 := HB3.out.alloc HB3.out.size (.cells #[.int .i64 (at_ : Int)] 3)
        have q5 := (HQ4'.out).alloc (.cells #[.int .i64 (at_ : Int)] 3)
        have p5 := Blk.new w3 3 #[.int .i64 (at_ : Int)]
        have HS5 := hide (HS3.out.thr (bel1 (o := .cells #[.int .i64 (at_ : Int)] 3)))
        have HB5 := hide hB5
        have HQ5 := hide q5
        have HP5 := hide p5
        clear HP HQ3 HFA HCB HMM hatm hmm hB5 q5 p5 HQ4' HB3 HS3
        go_upto_region 9 with fail
        clear c0 c1 c2
        generalize w3.alloc _ = w5 at *
        generalize w3.heap.size = g5 at *
        clear hat ht0 ht1
        obtain ⟨c0, c1, c2, _⟩ := HQ5.out.facts3
        have p0 := HP5.out.facts.1 0
        go_wp2_with fail
        refine (HWE.out w5 HS5.out).mono ?_
        rintro e w6 ⟨rfl, hb6⟩
        have HB6 := hide (bthr HB5.out hb6 HB5.out.size)
        have HS6 := hide (HS5.out.thr hb6)
        have HQ6 := hide (HQ5.out.below hb6 HQ5.out.lt)
        have HP6 := hide (HP5.out.below hb6 HP5.out.lt)
        clear c0 c1 c2 p0 hb6 HB5 HS5 HQ5 HP5 HWE
        obtain ⟨c0, c1, c2, _⟩ := HQ6.out.facts3
        obtain ⟨hn0, hn50⟩ := hn
        obtain ⟨ba, oa, hA, _, _⟩ := HS6.out.1.at_ hn0
        subst hA
        have hTS : TellsS w6 ss 38 #[.pointer (some ⟨g5, 0, none⟩)] fa := ⟨cfQ, fun s hs W hW => by
          rw [HFA2.out]
          exact qby_any s at_ g5 W ((HS6.out.2 s hs).thr hW) (by rw [(HSC.out s hs).2.1]; exact HATM.out) (cell_thr hW (HP6.out.facts.1 0))⟩
        have HSO := hide (sortedL_ok ⟨ba, oa, none⟩ n c ss hn0 (by omega) 38 #[.pointer (some ⟨g5, 0, none⟩)] fa w6 HS6.out hTS)
        clear hTS
        go_wp2_with fail
        refine HSO.out.mono ?_
        rintro e w7 ⟨g7, c7, zs, rfl, hp, ho, hs7, hb7⟩
        have HPM := hide hp
        have HO := hide ho
        have HZ := hide hs7
        have HZL := hide hs7.len
        have HB7 := hide (bthr HB6.out hb7 HB6.out.size)
        have HP7 := hide (HP6.out.below hb7 HP6.out.lt)
        have HWT := hide (show ∀ s ∈ zs, (1 ≤ s.wt ∧ s.wt ≤ 10000) ∧ s.n = stepsOf ss from fun s hs => ⟨(HSC.out s (hp.mem_iff.1 hs)).1, (HSC.out s (hp.mem_iff.1 hs)).2.1⟩)
        have HAL := hide (show sumS (fun s => s.wt) zs = al by rw [← HWD.out, sumS_perm hp]; exact (wAll_wt ss).symm)
        clear c0 c1 c2 hp ho hs7 hb7 HB6 HS6 HQ6 HP6 HSO
        have hnb := mul_bnd2 (show 0 ≤ num by omega) (show num ≤ 10000 by omega) (show 0 ≤ al by omega) hw.2
        have hnp : 1 * 1 ≤ num * al := Int.mul_le_mul (by omega) hw.1 (by omega) (by omega)
        obtain ⟨na, hna⟩ : ∃ na, num * al = na := ⟨_, rfl⟩
        have HNA := hide hna
        go_wp2
        go_loopw [13, 53] (fun sm i wr => ∃ k : Nat, k ≤ n ∧ i = .int .i64 k ∧ sm = .int .i64 (sumS (fun s => s.wt) (zs.take k)) ∧ Hid (den * sumS (fun s => s.wt) (zs.take k) < num * al) ∧ Below w7.heap.size w7 wr) (fun _ i _ => n - (intOf i).toNat)
        case atStart => exact ⟨0, by omega, rfl, rfl, hide (by simp only [List.take_zero, sumS, Int.mul_zero]; omega), Below.refl _ _⟩
        case round =>
          obtain ⟨k, hk, rfl, rfl, HLT, hb⟩ := hrel
          by_cases hlt : k < n
          · have hL := HZL.out
            have HZk := HZ.out.thr hb
            obtain ⟨bl, ol, hAA, _, hcl⟩ := HZk.1.at_ hlt
            injection hAA with hAA
            injection hAA with hA1 hA2 _
            subst hA1 hA2
            rcases ek : zs[k]'(by omega) with ⟨wt, A1, n1, c1, fl⟩
            obtain ⟨e0, e1⟩ := sc_cells hcl (by omega) ek
            simp only [Nat.zero_add] at e0 e1
            have hmem : (⟨wt, A1, n1, c1, fl⟩ : Sc) ∈ zs := by rw [← ek]; exact List.getElem_mem _
            obtain ⟨hwt, hn1⟩ := HWT.out _ hmem
            simp only at hwt hn1
            obtain ⟨bf, of_, hA1, hcf, -⟩ := fl_get (HZk.2 _ hmem) (j := at_) (by rw [show Sc.n ⟨wt, A1, n1, c1, fl⟩ = n1 from rfl, hn1]; exact HATM.out)
            simp only at hA1 hcf
            subst hA1
            have HST := hide (sumS_take (f := fun s => s.wt) (show k < zs.length by omega) ek)
            simp only at HST
            have hbnd := sumS_bnd (f := fun s => s.wt) (M := 10000) (by omega) (zs.take k) (fun s hs => by
              have := (HWT.out s (List.mem_of_mem_take hs)).1
              omega)
            rw [List.length_take, Nat.min_eq_left (by omega)] at hbnd
            have HQV := hide (fun (h1 : num * al ≤ den * sumS (fun s => s.wt) (zs.take (k + 1))) => show QV fa ss num den (fl.getD at_ 0) by
              have h := qv_sorted (f := fa) (num := num) (den := den) HPM.out HO.out (fun s hs => by have := (HSC.out s hs).1; omega) (by omega) (k := k) (by omega) (by rw [show wAll ss = al from HWD.out]; exact h1) (by rw [show wAll ss = al from HWD.out]; exact HLT.out)
              rwa [ek, HFA2.out] at h)
            generalize fl.getD at_ 0 = fv at *
            obtain ⟨sm, hsm⟩ : ∃ sm, sm = sumS (fun s => s.wt) (zs.take k) := ⟨_, rfl⟩
            have hsb : 0 ≤ sm ∧ sm ≤ 500000 := by rw [hsm]; omega
            rw [← hsm] at HST
            rw [HST.out] at HQV
            simp only [← hsm]
            have hdb := mul_bnd2 (show 0 ≤ den by omega) (show den ≤ 10000 by omega) (show 0 ≤ sm + wt by omega) (show sm + wt ≤ 510000 by omega)
            rw [HNA.out] at HQV
            have hb2 := hb.alloc hb.size (.cells #[.int .i64 wt, .slice (some ⟨bf, of_, none⟩) n1 c1] 32)
            have hbx := bel1 (w := wr) (o := .cells #[.int .i64 wt, .slice (some ⟨bf, of_, none⟩) n1 c1] 32)
            have q1 := Blk.new wr 32 #[.int .i64 wt, .slice (some ⟨bf, of_, none⟩) n1 c1]
            have hcf2 := cell_thr hbx hcf
            have p7 := (HP7.out.below hb2 HP7.out.lt).facts.1 0
            have hki : (k : Int) < (n : Int) := by omega
            have hati : (at_ : Int) < (n1 : Int) := by have := HATM.out; omega
            have hat0 : (0 : Int) ≤ (at_ : Int) := by omega
            have HB8 := hide hb2
            clear hcl ek hmem hn1 HZk hcf hb hb2 hbx hL hbnd hsm
            go_upto_region 13 with fail
            clear e0 e1
            generalize wr.alloc _ = w8 at *
            generalize wr.heap.size = g8 at *
            obtain ⟨x0, x1, _⟩ := q1.facts2
            obtain ⟨hwt0, hwt1⟩ := hwt
            obtain ⟨hs0, hs1⟩ := hsb
            obtain ⟨s2, hs2⟩ : ∃ s2, sm + wt = s2 := ⟨_, rfl⟩
            rw [hs2] at hdb HQV HST
            have hs20 : 0 ≤ s2 := by omega
            have hs21 : s2 ≤ 510000 := by omega
            obtain ⟨ds, hds⟩ : ∃ ds, den * s2 = ds := ⟨_, rfl⟩
            rw [hds] at hdb HQV
            by_cases hge : na ≤ ds
            · have HX := hide (HQV.out hge)
              have HR := hide (HPOK.out fv w8 HQ4.out HX.out (bthr HB7.out HB8.out HB7.out.size))
              clear HQV HPOK q1
              go_wp2
              go_ret2
              exact ⟨fv, by rw [HQ4.out]; first | done | rfl, HR.out⟩
            · have HLT2 := hide (show den * sumS (fun s => s.wt) (zs.take (k + 1)) < num * al by rw [HST.out, hds, HNA.out]; omega)
              clear HQV HPOK q1
              go_wp2
              go_roundw
              case rel => exact ⟨k + 1, by omega, by go_num, by rw [HST.out], HLT2, HB8.out⟩
              case measure => simp [intOf]; omega
          · exfalso
            have h1 := HLT.out
            rw [List.take_of_length_le (by have := HZL.out; omega), HAL.out] at h1
            have h2 : num * al ≤ den * al := Int.mul_le_mul_of_nonneg_right (by omega) (by omega)
            omega
  · have HR := hide (fun W hW => qok_bad (b := b) (t := t) (num := num) (den := den) (w := w) (w' := W) (HQE.out.trans (if_pos hle)) hle hW)
    have HX := hide (HQE.out.trans (if_pos hle))
    generalize QOk b t num den w = PP at *
    generalize qE b t num den = qe at *
    generalize liveE b = le at *
    have hq : (le != 0) = true := by simp [hle]
    unfold Bd.arr at q0 hB HL hb1 ⊢
    obtain ⟨c0, c1, c2, _⟩ := q0.facts3
    clear hb HQE hle
    go_enter Try.func13, Try.ntmps13
    go_wp2_with fail
    generalize w.alloc _ = w1 at *
    refine (HL.out w1 hb1).mono ?_
    rintro e w2 ⟨rfl, hb2⟩
    have HR2 := hide (HR.out _ (bthr hB hb2 hB.size))
    clear hb1 c0 c1 c2 q0 hB hb2 HL HR
    go_wp2
    go_ret2
    exact ⟨0, by rw [HX.out]; first | done | rfl, HR2.out⟩
end Go.Proofs.Ytmlpimidbgeacaa
