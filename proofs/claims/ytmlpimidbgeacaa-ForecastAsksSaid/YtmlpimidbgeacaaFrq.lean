/-
  The contract of the reference's Quantile: the quantile, or the first error. Condition: the bundle can be read.
-/
import Derived.Test.YtmlpimidbgeacaaProg
import Derived.Test.YtmlpimidbgeacaaFrm
import Derived.Test.YtmlpimidbgeacaaFqu
namespace Go.Proofs.Ytmlpimidbgeacaa
open Go.RowKit

def leT (f : Sc → Int) (x : Int) (s : Sc) : Int := if f s ≤ x then s.wt else 0
theorem leT_all (f : Sc → Int) (x : Int) (ss : List Sc) : sumS (leT f x) ss = wLe f x ss := (wLe_wt f x ss).symm
set_option maxHeartbeats 3200000 in
set_option maxRecDepth 20000 in
theorem rquantile_any (b : Bd) (t num den : Int) (ht : t ≤ 9223372036854775807) (w : World) (hb : b.ok w w.heap.size) :
    Calls Try.prog 20 #[.agg b.arr, .int .i64 t, .int .i64 num, .int .i64 den] w fun e w' => ∃ x : Int, e = .returned (.tuple #[.int .i64 x, .int .i64 (qE b t num den)]) ∧ QOk b t num den w x w' := by
  have q0 := Blk.new w 27 b.arr
  have hB := bel1 (w := w) (o := .cells b.arr 27)
  have hb1 := Bd.ok.thr hb hB
  have HL := hide (fun W hW => usable_any b W hW)
  have HQE := hide (show qE b t num den = if liveE b ≠ 0 then liveE b else if qBad num den then 1 else if covB b t then 0 else 6 from rfl)
  have HLN := hide (ScsOk.len hb)
  by_cases hle : liveE b = 0
  · have HQ2 := hide (HQE.out.trans (if_neg (by simp [hle])))
    have hv := (liveE_ok hle HLN.out).1
    rw [hle] at HL
    have HCV := hide (fun W hW => rcovers_ok b t ht W hW hv)
    have HWE := hide (fun W hW => rweight_ok b W hW hv)
    have HP := hide (fun r W => qok_bad (b := b) (t := t) (num := num) (den := den) (r := r) (w := w) (w' := W))
    have hn := hv.n
    have hw := wAll_bnd hv HLN.out
    have HPOK := hide (fun (x : Int) (W : World) (h1 : qE b t num den = 0) (h2 : QV (flAt b t) b.ss num den x) (h3 : Below w.heap.size w W) => show QOk b t num den w x W from ⟨fun _ => h2, fun h => absurd h1 h, h3⟩)
    have HCB := hide (show covB b t = true → b.fr ≤ t ∧ t < b.fr + stepsOf b.ss by
      intro h; unfold covB at h; simp only [Bool.and_eq_true, decide_eq_true_eq] at h; exact h)
    have HSC := hide hv.sc
    have hfr := hv.fr
    have HMM := hide hv.m
    have HFA := hide (show ∀ s, flAt b t s = s.fl.getD (t - b.fr).toNat 0 from fun _ => rfl)
    have HWD := hide (show wAll b.ss = wAll b.ss from rfl)
    generalize covB b t = cb at *
    generalize hal : wAll b.ss = al at *
    have HAL := hide hal
    generalize flAt b t = fa at *
    generalize QOk b t num den w = PP at *
    generalize qE b t num den = qe at *
    obtain ⟨fr, A, n, c, ss, wd⟩ := b
    unfold Bd.arr at q0 hB HL HWE HCV hb1 ⊢
    simp only at q0 hB HL HWE HCV hb1 hn HLN HSC hfr HCB HFA HMM HPOK HAL ⊢
    obtain ⟨c0, c1, c2, _⟩ := q0.facts3
    clear hb hle HQE hv hal HWD
    go_enter Try.func20, Try.ntmps20
    go_wp2_with fail
    generalize w.alloc _ = w1 at *
    refine (HL.out w1 hb1).mono ?_
    rintro e w2 ⟨rfl, hb2⟩
    have HQ2' := hide (q0.below hb2 q0.lt)
    have hB2 := bthr hB hb2 hB.size
    have HB2 := hide hB2
    have HS2 := hide (ScsOk.thr (show ScsOk _ _ A n c ss from hb1) hb2)
    clear hb1 c0 c1 c2 q0 hB hb2 hB2 HL
    obtain ⟨c0, c1, c2, _⟩ := HQ2'.out.facts3
    by_cases hbad : qBad num den
    · have HQ3 := hide (HQ2.out.trans (if_pos hbad))
      unfold qBad at hbad
      clear HQ2
      have HR := hide (HP.out 1 w2 HQ3.out (by decide) HB2.out)
      clear HPOK HP
      go_wp2
      all_goals first | (exfalso; omega) | skip
      all_goals go_ret2
      all_goals exact ⟨0, by rw [HQ3.out]; first | done | rfl, HR.out⟩
    · have HQ3 := hide (HQ2.out.trans (if_neg hbad))
      unfold qBad at hbad
      clear HQ2
      have hn1 : ¬ num < 1 := by omega
      have hn2 : ¬ den < 1 := by omega
      have hn3 : ¬ den < num := by omega
      have hn4 : ¬ 10000 < den := by omega
      have hn5 : ¬ 10000 < num := by omega
      clear hbad
      go_wp2_with fail
      refine (HCV.out w2 HS2.out).mono ?_
      rintro e w3 ⟨rfl, hb3⟩
      have HQ4' := hide (HQ2'.out.below hb3 HQ2'.out.lt)
      have HB3 := hide (bthr HB2.out hb3 HB2.out.size)
      have HS3 := hide (HS2.out.thr hb3)
      clear c0 c1 c2 hb3 HB2 HS2 HQ2' HCV
      obtain ⟨c0, c1, c2, _⟩ := HQ4'.out.facts3
      cases cb
      · have HQ4 := hide (HQ3.out.trans (if_neg (by simp)))
        have HR := hide (HP.out 6 w3 HQ4.out (by decide) HB3.out)
        clear HPOK HP HQ3
        go_wp2
        go_ret2
        exact ⟨0, by rw [HQ4.out]; first | done | rfl, HR.out⟩
      · have HQ4 := hide (HQ3.out.trans (if_pos rfl))
        obtain ⟨ht0, ht1⟩ := HCB.out rfl
        obtain ⟨hfr0, hfr1⟩ := hfr
        have hmm := HMM.out
        obtain ⟨at_, hat⟩ : ∃ at_ : Nat, t - fr = (at_ : Int) := ⟨(t - fr).toNat, by omega⟩
        have hatm : at_ < stepsOf ss := by omega
        have HFA2 := hide (show ∀ s, fa s = s.fl.getD at_ 0 from fun s => by rw [HFA.out, hat]; rfl)
        obtain ⟨hn0, hn50⟩ := hn
        have hat0 : (0 : Int) ≤ (at_ : Int) := by omega
        have HATM := hide hatm
        have hb7 := mul_bnd2 (show 0 ≤ num by omega) (show num ≤ 10000 by omega) (show 0 ≤ al by omega) hw.2
        obtain ⟨na, hna⟩ : ∃ na, num * al = na := ⟨_, rfl⟩
        have HNA := hide hna
        rw [hna] at hb7
        have HLE := hide (fun (fv : Int) (j : Nat) (hj : j ≤ n) => show 0 ≤ sumS (leT fa fv) (ss.take j) ∧ sumS (leT fa fv) (ss.take j) ≤ 500000 from by
          have h := sumS_bnd (f := leT fa fv) (M := 10000) (by omega) (ss.take j) (fun s hs => by
            have := (HSC.out s (List.mem_of_mem_take hs)).1
            unfold leT; split <;> omega)
          rw [List.length_take, Nat.min_eq_left (by have := HLN.out; omega)] at h
          omega)
        clear HP HQ3 HFA HCB HMM hmm hatm
        go_wp2_with fail
        clear c0 c1 c2
        go_loopw [11, 49] (fun v11 v49 wr => ∃ (k : Nat) (best : Int), k ≤ n ∧ v49 = .int .i64 k ∧ v11 = .int .i64 best ∧ Hid (RB fa ss num den k best) ∧ Below w3.heap.size w3 wr) (fun _ v49 _ => n - (intOf v49).toNat)
        case atStart => exact ⟨0, -1, by omega, rfl, rfl, hide (.inl ⟨rfl, by simp⟩), Below.refl _ _⟩
        case round =>
          obtain ⟨k, best, hk, rfl, rfl, HRB, hb⟩ := hrel
          by_cases hlt : k < n
          · have hL := HLN.out
            have HSk := HS3.out.thr hb
            obtain ⟨bl, ol, rfl, _, hcl⟩ := HSk.1.at_ hlt
            rcases ek : ss[k]'(by omega) with ⟨wt, A1, n1, c1, fl⟩
            obtain ⟨e0, e1⟩ := sc_cells hcl (by omega) ek
            simp only at e0 e1
            have hmem : (⟨wt, A1, n1, c1, fl⟩ : Sc) ∈ ss := by rw [← ek]; exact List.getElem_mem _
            obtain ⟨⟨hw0, hw1'⟩, hnn1, hfl⟩ := HSC.out _ hmem
            simp only at hw0 hw1' hnn1 hfl
            have hok := HSk.2 _ hmem
            obtain ⟨bf, of_, hA1, hcf, hfm⟩ := fl_get hok (j := at_) (by simp only; have := HATM.out; omega)
            simp only at hA1 hcf hfm
            subst hA1
            have hfv := hfl _ hfm
            have HST := hide (rb_step (f := fa) (num := num) (den := den) (show k < ss.length by omega) ek HRB.out (by rw [HFA2.out]; exact hfv.1))
            rw [HFA2.out] at HST
            simp only at HST
            obtain ⟨fv, hfv2⟩ : ∃ fv, fl.getD at_ 0 = fv := ⟨_, rfl⟩
            rw [hfv2] at HST hcf hfv
            have hb2 := hb.alloc hb.size (.cells #[.int .i64 wt, .slice (some ⟨bf, of_, none⟩) n1 c1] 32)
            have hbx := bel1 (w := wr) (o := .cells #[.int .i64 wt, .slice (some ⟨bf, of_, none⟩) n1 c1] 32)
            have q1 := Blk.new wr 32 #[.int .i64 wt, .slice (some ⟨bf, of_, none⟩) n1 c1]
            have hcf2 := cell_thr hbx hcf
            have hQw := HQ4'.out.below hb2 HQ4'.out.lt
            have hki : (k : Int) < (n : Int) := by omega
            have hati : (at_ : Int) < (n1 : Int) := by have := HATM.out; omega
            have HB5 := hide hb2
            clear hcl ek hmem hL hb hb2 hbx hok hfm hfl hcf hfv2 HSk hnn1 HRB
            go_upto_region 12 with fail
            clear e0 e1
            generalize wr.alloc _ = w5 at *
            generalize wr.heap.size = g5 at *
            obtain ⟨x0, x1, _⟩ := q1.facts2
            obtain ⟨y0, y1, y2, _⟩ := hQw.facts3
            clear q1 hQw y2
            go_upto_region 14 with fail
            clear x0 x1 hcf2
            have HW5 := hide HB5.out
            go_wp2_with fail
            clear y0 y1
            go_loopw [15, 64] (fun v15 v64 wx => ∃ j : Nat, j ≤ n ∧ v64 = .int .i64 j ∧ v15 = .int .i64 (sumS (leT fa fv) (ss.take j)) ∧ Below w3.heap.size w3 wx) (fun _ v64 _ => n - (intOf v64).toNat)
            case atStart => exact ⟨0, by omega, rfl, rfl, HW5.out⟩
            case round =>
              obtain ⟨j, hj, rfl, rfl, hbx⟩ := hrel
              rename World => wx
              by_cases hjn : j < n
              · have hL := HLN.out
                have HSj := HS3.out.thr hbx
                obtain ⟨bl2, ol2, hAA, _, hcl⟩ := HSj.1.at_ hjn
                injection hAA with hAA
                injection hAA with hA1 hA2 _
                subst hA1 hA2
                rcases ek : ss[j]'(by omega) with ⟨wt2, A2, n2, c2, fl2⟩
                obtain ⟨e0, e1⟩ := sc_cells hcl (by omega) ek
                simp only at e0 e1
                have hmem : (⟨wt2, A2, n2, c2, fl2⟩ : Sc) ∈ ss := by rw [← ek]; exact List.getElem_mem _
                obtain ⟨⟨hv0, hv1'⟩, hnn2, hfl⟩ := HSC.out _ hmem
                simp only at hv0 hv1' hnn2 hfl
                have hok := HSj.2 _ hmem
                obtain ⟨bf2, of2, hA2, hcf, hfm⟩ := fl_get hok (j := at_) (by simp only; have := HATM.out; omega)
                simp only at hA2 hcf hfm
                subst hA2
                have hfx := hfl _ hfm
                have HSS := hide (sumS_take (f := leT fa fv) (show j < ss.length by omega) ek)
                have HLT := hide (show leT fa fv ⟨wt2, some ⟨bf2, of2, none⟩, n2, c2, fl2⟩ = if fl2.getD at_ 0 ≤ fv then wt2 else 0 from by unfold leT; rw [HFA2.out])
                obtain ⟨fx, hfx2⟩ : ∃ fx, fl2.getD at_ 0 = fx := ⟨_, rfl⟩
                rw [hfx2] at HLT hcf hfx
                obtain ⟨s0, s1⟩ := HLE.out fv j hj
                obtain ⟨sm, hsm⟩ : ∃ sm, sumS (leT fa fv) (ss.take j) = sm := ⟨_, rfl⟩
                rw [hsm] at s0 s1 HSS
                simp only [hsm]
                have hb2 := hbx.alloc hbx.size (.cells #[.int .i64 wt2, .slice (some ⟨bf2, of2, none⟩) n2 c2] 32)
                have hbw := bel1 (w := wx) (o := .cells #[.int .i64 wt2, .slice (some ⟨bf2, of2, none⟩) n2 c2] 32)
                have q1 := Blk.new wx 32 #[.int .i64 wt2, .slice (some ⟨bf2, of2, none⟩) n2 c2]
                have hcf2 := cell_thr hbw hcf
                have hQw := HQ4'.out.below hb2 HQ4'.out.lt
                have hji : (j : Int) < (n : Int) := by omega
                have hati2 : (at_ : Int) < (n2 : Int) := by have := HATM.out; omega
                have HB7 := hide hb2
                clear hcl ek hmem hL hbx hb2 hbw hok hfm hfl hcf hfx2 HSj hnn2 hsm
                go_upto_region 17 with fail
                clear e0 e1
                generalize wx.alloc _ = w7 at *
                generalize wx.heap.size = g7 at *
                obtain ⟨x0, x1, _⟩ := q1.facts2
                obtain ⟨y0, y1, y2, _⟩ := hQw.facts3
                clear q1 hQw y2
                by_cases hle : fx ≤ fv
                · have HSS2 := hide (HSS.out.trans (by rw [HLT.out, if_pos hle]))
                  clear HSS HLT
                  go_wp2
                  go_roundw
                  case rel => exact ⟨j + 1, by omega, by go_num, by rw [HSS2.out], HB7.out⟩
                  case measure => simp [intOf]; omega
                · have HSS2 := hide (HSS.out.trans (by rw [HLT.out, if_neg hle, Int.add_zero]))
                  clear HSS HLT
                  go_wp2
                  go_roundw
                  case rel => exact ⟨j + 1, by omega, by go_num, by rw [HSS2.out], HB7.out⟩
                  case measure => simp [intOf]; omega
              · have hjn2 : j = n := by omega
                have hji : ¬ ((j : Int) < (n : Int)) := by omega
                have HTK := hide (show sumS (leT fa fv) (ss.take j) = wLe fa fv ss by rw [List.take_of_length_le (by have := HLN.out; omega), leT_all])
                obtain ⟨s0, s1⟩ := HLE.out fv j hj
                rw [HTK.out] at s0 s1 ⊢
                obtain ⟨sm, hsm⟩ : ∃ sm, wLe fa fv ss = sm := ⟨_, rfl⟩
                rw [hsm] at s0 s1 ⊢
                have hHE := hide (show Enough fa ss num den fv ↔ na ≤ den * sm from by unfold Enough; rw [HAL.out, HNA.out, hsm])
                have hyb := mul_bnd2 (show 0 ≤ den by omega) (show den ≤ 10000 by omega) s0 s1
                obtain ⟨y, hy⟩ : ∃ y, den * sm = y := ⟨_, rfl⟩
                rw [hy] at hyb hHE
                have hQw := HQ4'.out.below hbx HQ4'.out.lt
                have hSx := HS3.out.thr hbx
                obtain ⟨y0, y1, y2, _⟩ := hQw.facts3
                have HBX := hide hbx
                clear hQw hbx HTK hsm
                have hHE2 := hide hHE
                clear hHE
                obtain ⟨b0, b1⟩ := hb7
                obtain ⟨z0, z1⟩ := hyb
                go_wp2_with fail
                refine (HWE.out wx hSx).mono ?_
                rintro e w9 ⟨rfl, hb9⟩
                have HB9 := hide (bthr HBX.out hb9 HBX.out.size)
                clear hb9 y0 y1 y2 hSx
                by_cases hen : na ≤ y
                · have hE := hHE2.out.2 hen
                  by_cases hbe : best < 0 ∨ fv < best
                  · have HR := hide (HST.out.1 hE hbe)
                    clear HST hHE2 hE
                    go_wp2
                    all_goals first | (exfalso; omega) | skip
                    all_goals go_roundw
                    all_goals first | (exact ⟨k + 1, fv, by omega, by go_num, rfl, HR, HB9.out⟩) | (simp [intOf]; omega)
                  · have HR := hide (HST.out.2 (.inr (by omega)))
                    clear HST hHE2 hE
                    have hbe1 : ¬ best < 0 := by omega
                    have hbe2 : ¬ fv < best := by omega
                    clear hbe
                    go_wp2
                    all_goals first | (exfalso; omega) | skip
                    all_goals go_roundw
                    all_goals first | (exact ⟨k + 1, best, by omega, by go_num, rfl, HR, HB9.out⟩) | (simp [intOf]; omega)
                · have HR := hide (HST.out.2 (.inl (fun h => hen (hHE2.out.1 h))))
                  clear HST hHE2
                  go_wp2
                  all_goals first | (exfalso; omega) | skip
                  all_goals go_roundw
                  all_goals first | (exact ⟨k + 1, best, by omega, by go_num, rfl, HR, HB9.out⟩) | (simp [intOf]; omega)
          · have hki : ¬ ((k : Int) < (n : Int)) := by omega
            have HB9 := hide (bthr HB3.out hb HB3.out.size)
            have HQV := hide (rb_end (f := fa) (num := num) (den := den) (ss := ss) (k := k) (by have := HLN.out; omega) (by intro h; have := HLN.out; rw [h] at this; simp at this; omega) (fun s hs => by have := (HSC.out s hs).1.1; omega) (by omega) HRB.out)
            have HR := hide (HPOK.out best wr HQ4.out HQV.out HB9.out)
            clear hb
            go_wp2
            go_ret2
            exact ⟨best, by rw [HQ4.out]; first | done | rfl, HR.out⟩
  · have HQ2 := hide (HQE.out.trans (if_pos hle))
    have HP := hide (fun W => qok_bad (b := b) (t := t) (num := num) (den := den) (r := liveE b) (w := w) (w' := W) HQ2.out hle)
    generalize QOk b t num den w = PP at *
    generalize qE b t num den = qe at *
    generalize liveE b = le at *
    obtain ⟨fr, A, n, c, ss, wd⟩ := b
    unfold Bd.arr at q0 hB HL hb1 ⊢
    simp only at q0 hB HL hb1 ⊢
    obtain ⟨c0, c1, c2, _⟩ := q0.facts3
    have hle0 : (le == 0) = false := by simp [hle]
    clear hb HQE
    go_enter Try.func20, Try.ntmps20
    go_wp2_with fail
    generalize w.alloc _ = w1 at *
    refine (HL.out w1 hb1).mono ?_
    rintro e w2 ⟨rfl, hb2⟩
    have HB2 := hide (bthr hB hb2 hB.size)
    have HR := hide (HP.out w2 HB2.out)
    clear hb1 c0 c1 c2 q0 hB hb2 HL HP
    go_wp2
    go_ret2
    exact ⟨0, by rw [HQ2.out]; first | done | rfl, HR.out⟩
end Go.Proofs.Ytmlpimidbgeacaa
