/-
  The contract of the reference's Mean: the weighted mean, or the first error. Condition: the bundle can be read.
-/
import Derived.Test.YtmlpimidbgeacaaProg
import Derived.Test.YtmlpimidbgeacaaFru
namespace Go.Proofs.Ytmlpimidbgeacaa
open Go.RowKit

theorem stepE_parts {b : Bd} {t : Int} (h : stepE b t = 0) : liveE b = 0 ∧ covB b t = true := by
  unfold stepE at h
  by_cases h1 : liveE b = 0
  · rw [if_neg (by simp [h1])] at h
    cases hc : covB b t
    · rw [hc] at h; simp at h
    · exact ⟨h1, rfl⟩
  · rw [if_pos h1] at h; exact absurd h h1
set_option maxHeartbeats 1600000 in
set_option maxRecDepth 20000 in
theorem rmean_any (b : Bd) (t : Int) (ht : t ≤ 9223372036854775807) (w : World) (hb : b.ok w w.heap.size) :
    Calls Try.prog 21 #[.agg b.arr, .int .i64 t] w fun e w' => e = .returned (.tuple #[.int .i64 (if stepE b t = 0 then meanV b t else 0), .int .i64 (stepE b t)]) ∧ Below w.heap.size w w' := by
  have q0 := Blk.new w 27 b.arr
  have hB := bel1 (w := w) (o := .cells b.arr 27)
  have hb1 := Bd.ok.thr hb hB
  have HSP := hide (fun W hW => usable_any b W hW)
  by_cases hse : stepE b t = 0
  · obtain ⟨hv, ht0, ht1, hwd⟩ := stepE_zero hse (ScsOk.len hb)
    have HWE := hide (fun W hW => rweight_ok b W hW hv)
    unfold wAll at HWE
    have HCV := hide (fun W hW => rcovers_ok b t ht W hW hv)
    obtain ⟨hle, hcv⟩ := stepE_parts hse
    rw [hcv] at HCV
    rw [hle] at HSP
    clear hle hcv
    have HE := hide (show (if stepE b t = 0 then meanV b t else 0) = sumS (meanT (t - b.fr).toNat) b.ss / sumS (wOf fun _ => true) b.ss by rw [if_pos hse]; rfl)
    generalize (if stepE b t = 0 then meanV b t else 0) = mv at *
    rw [hse]
    obtain ⟨at_, hat⟩ : ∃ at_ : Nat, t - b.fr = (at_ : Int) := ⟨(t - b.fr).toNat, by omega⟩
    have hfr := hv.fr
    have hm := hv.m
    have hn := hv.n
    have HSC := hide hv.sc
    have hatm : at_ < stepsOf b.ss := by omega
    have hsub : IntKind.i64.wrap (t - b.fr) = (at_ : Int) := by rw [IntKind.wrap_i64]; omega
    rw [hat, Int.toNat_natCast] at HE
    have hwpos : 1 ≤ sumS (wOf fun _ => true) b.ss ∧ sumS (wOf fun _ => true) b.ss ≤ 500000 := by
      have hl := ScsOk.len hb
      rcases hss : b.ss with _ | ⟨s, tl⟩
      · rw [hss] at hl; simp at hl; omega
      · have h1 := (hv.sc s (by rw [hss]; simp)).1
        have h2 := sumS_bnd (f := wOf fun _ => true) (M := 10000) (by omega) tl (fun s' hs' => by
          have := (hv.sc s' (by rw [hss]; simp [hs'])).1
          unfold wOf; simp; omega)
        have h3 : (tl.length : Int) ≤ 49 := by rw [hss] at hl; simp at hl; omega
        simp only [sumS]
        unfold wOf at h2 ⊢
        simp only [if_true] at h2 ⊢
        omega
    obtain ⟨fr, A, n, c, ss, wd⟩ := b
    unfold Bd.arr at q0 hB HSP HWE HCV hb1 ⊢
    simp only at q0 hB HSP HWE HCV HE hb1 hfr hm hn HSC hatm hsub hwpos ht0 ht1 hat ⊢
    generalize sumS (wOf fun _ => true) ss = ws at *
    have HS := hide (show ScsOk _ _ A n c ss from hb1)
    have hl : n = ss.length := HS.out.len
    have HL := hide hl
    obtain ⟨c0, c1, c2, _⟩ := q0.facts3
    clear hb hse hv hwd hl
    go_enter Try.func21, Try.ntmps21
    go_wp2_with fail
    generalize w.alloc _ = w1 at *
    refine (HSP.out w1 hb1).mono ?_
    rintro e w2 ⟨rfl, hb2⟩
    have HQ2 := hide (q0.below hb2 q0.lt)
    have hB2 := bthr hB hb2 hB.size
    have HS2 := hide (HS.out.thr hb2)
    have HB2 := hide hB2
    clear hb1 c0 c1 c2 q0 hB hb2 hB2 HSP HS
    obtain ⟨c0, c1, c2, _⟩ := HQ2.out.facts3
    go_wp2_with fail
    refine (HCV.out w2 HS2.out).mono ?_
    rintro e w3 ⟨rfl, hb3⟩
    have HQ3 := hide (HQ2.out.below hb3 HQ2.out.lt)
    have HS3 := hide (HS2.out.thr hb3)
    have HB3 := hide (bthr HB2.out hb3 HB2.out.size)
    clear c0 c1 c2 hb3 HQ2 HS2 HB2 HCV
    rename Hid (Blk _ _ _ _) => HQ2
    rename Hid (ScsOk _ _ _ _ _ _) => HS2
    rename Hid (Below _ _ _) => HB2
    obtain ⟨c0, c1, c2, _⟩ := HQ2.out.facts3
    go_wp2
    clear c0 c1 c2
    go_loopw [7, 22] (fun sm i wr => ∃ k : Nat, k ≤ n ∧ i = .int .i64 k ∧ sm = .int .i64 (sumS (meanT at_) (ss.take k)) ∧ Below w3.heap.size w3 wr) (fun _ i _ => n - (intOf i).toNat)
    case atStart => exact ⟨0, by omega, rfl, rfl, Below.refl _ _⟩
    case round =>
      obtain ⟨k, hk, rfl, rfl, hb⟩ := hrel
      by_cases hlt : k < n
      · have hL := HL.out
        have HSk := HS2.out.thr hb
        obtain ⟨bl, ol, rfl, _, hcl⟩ := HSk.1.at_ hlt
        rcases ek : ss[k]'(by omega) with ⟨wt, A1, n1, c1, fl⟩
        obtain ⟨e0, e1⟩ := sc_cells hcl (by omega) ek
        simp only at e0 e1
        have hmem : (⟨wt, A1, n1, c1, fl⟩ : Sc) ∈ ss := by rw [← ek]; exact List.getElem_mem _
        obtain ⟨⟨hw0, hw1'⟩, hn1, hfl⟩ := HSC.out _ hmem
        simp only at hw0 hw1' hn1 hfl
        have hok := HSk.2 _ hmem
        obtain ⟨bf, of_, hA1, hcf, hfm⟩ := fl_get hok (j := at_) (by simp only; omega)
        simp only at hA1 hcf hfm
        subst hA1
        have hfv := hfl _ hfm
        have HST := hide (sumS_take (f := meanT at_) (show k < ss.length by omega) ek)
        have hbnd := sumS_bnd (f := meanT at_) (M := 10737418240000) (by omega) (ss.take k) (fun s hs => by
          have hms := List.mem_of_mem_take hs
          obtain ⟨a1, a2, a3⟩ := HSC.out s hms
          obtain ⟨_, _, _, _, b4⟩ := fl_get (HSk.2 s hms) (j := at_) (by omega)
          have b5 := a3 _ b4
          unfold meanT
          exact mul_bnd (by omega) (by omega) b5.1 b5.2)
        rw [List.length_take, Nat.min_eq_left (by omega)] at hbnd
        unfold meanT at HST
        simp only at HST
        obtain ⟨fv, hfv2⟩ : ∃ fv, fl.getD at_ 0 = fv := ⟨_, rfl⟩
        rw [hfv2] at HST hcf hfv
        obtain ⟨x, hx⟩ : ∃ x, wt * fv = x := ⟨_, rfl⟩
        have hxb := mul_bnd (show 0 ≤ wt by omega) hw1' hfv.1 hfv.2
        rw [hx] at HST hxb
        obtain ⟨sm, hsm⟩ : ∃ sm, sm = sumS (meanT at_) (ss.take k) := ⟨_, rfl⟩
        have hsb : 0 ≤ sm ∧ sm ≤ 536870912000000 := by rw [hsm]; omega
        rw [show sumS (fun s => s.wt * s.fl.getD at_ 0) (ss.take k) = sm from hsm.symm] at HST
        simp only [← hsm]
        have hmul : IntKind.i64.wrap (wt * fv) = x := by rw [hx, IntKind.wrap_i64]; omega
        have hadd : IntKind.i64.wrap (sm + x) = sm + x := by rw [IntKind.wrap_i64]; omega
        have hb2 := hb.alloc hb.size (.cells #[.int .i64 wt, .slice (some ⟨bf, of_, none⟩) n1 c1] 32)
        have hbx := bel1 (w := wr) (o := .cells #[.int .i64 wt, .slice (some ⟨bf, of_, none⟩) n1 c1] 32)
        have q1 := Blk.new wr 32 #[.int .i64 wt, .slice (some ⟨bf, of_, none⟩) n1 c1]
        have hcf2 := cell_thr hbx hcf
        have hQw := HQ2.out.below hb2 HQ2.out.lt
        have hki : (k : Int) < (n : Int) := by omega
        have hati : (at_ : Int) < (n1 : Int) := by omega
        have hat0 : (0 : Int) ≤ (at_ : Int) := by omega
        have HB2 := hide hb2
        clear hcl ek hmem hL hb hb2 hbx hok hfm hfl hbnd hcf hsm hfv2 HSk hn1 hx
        go_upto_region 10 with fail
        clear e0 e1
        generalize wr.alloc _ = w5 at *
        generalize wr.heap.size = g5 at *
        obtain ⟨x0, x1, _⟩ := q1.facts2
        obtain ⟨y0, y1, y2, _⟩ := hQw.facts3
        clear q1 hQw y1 y2
        go_quiet (fail)
        have HX := hide (show sumS (meanT at_) (ss.take (k + 1)) = sm + x from HST.out)
        have HBN := hide (fun q => below_drewN HB2.out q)
        clear HST x0 x1 y0 hcf2
        go_wp2
        go_roundw
        case rel => exact ⟨k + 1, by omega, by go_num, by rw [HX.out], HBN.out _⟩
        case measure => simp [intOf]; omega
      · have hki : ¬ ((k : Int) < (n : Int)) := by omega
        have HX := hide (show sumS (meanT at_) (ss.take k) = sumS (meanT at_) ss by rw [List.take_of_length_le (by have := HL.out; omega)])
        have hq3 := HQ2.out.below hb HQ2.out.lt
        have hS3 := HS2.out.thr hb
        have hbnd : 0 ≤ sumS (meanT at_) ss ∧ sumS (meanT at_) ss ≤ 536870912000000 := by
          have hbnd := sumS_bnd (f := meanT at_) (M := 10737418240000) (by omega) ss (fun s hms => by
            obtain ⟨a1, a2, a3⟩ := HSC.out s hms
            obtain ⟨_, _, _, _, b4⟩ := fl_get (hS3.2 s hms) (j := at_) (by omega)
            have b5 := a3 _ b4
            unfold meanT
            exact mul_bnd (by omega) (by omega) b5.1 b5.2)
          have := HL.out
          omega
        have HB3 := hide (bthr HB2.out hb HB2.out.size)
        obtain ⟨c0, c1, c2, _⟩ := hq3.facts3
        rw [HX.out]
        generalize sumS (meanT at_) ss = tot at *
        clear hb hq3
        go_wp2_with fail
        refine (HWE.out wr hS3).mono ?_
        rintro e w9 ⟨rfl, hb9⟩
        have HB9 := hide (bthr HB3.out hb9 HB3.out.size)
        clear hb9 c0 c1 c2 hS3 HWE
        obtain ⟨b0, b1⟩ := hbnd
        obtain ⟨p0, p1⟩ := hwpos
        go_wp2
        go_ret2
        exact ⟨by rw [HE.out]; first | done | rfl, HB9.out⟩
  · rw [if_neg hse]
    have HSE := hide (show stepE b t = if liveE b ≠ 0 then liveE b else if covB b t then 0 else 6 from rfl)
    have HCV := hide (fun W hW hv => rcovers_ok b t ht W hW hv)
    have HVV := hide (fun (h : liveE b = 0) => (liveE_ok h (ScsOk.len hb)).1)
    generalize stepE b t = se at *
    generalize liveE b = le at *
    generalize covB b t = cb at *
    obtain ⟨fr, A, n, c, ss, wd⟩ := b
    unfold Bd.arr at q0 hB HSP HCV hb1 ⊢
    simp only at q0 hB HSP HCV hb1 ⊢
    obtain ⟨c0, c1, c2, _⟩ := q0.facts3
    clear hb
    go_enter Try.func21, Try.ntmps21
    go_wp2_with fail
    generalize w.alloc _ = w1 at *
    refine (HSP.out w1 hb1).mono ?_
    rintro e w2 ⟨rfl, hb2⟩
    have HB2 := hide (bthr hB hb2 hB.size)
    have q2 := q0.below hb2 q0.lt
    have hb3 := Bd.ok.thr hb1 hb2
    clear c0 c1 c2 hb2 hB q0 hb1 HSP
    obtain ⟨c0, c1, c2, _⟩ := q2.facts3
    by_cases hle : le = 0
    · have hq : (le != 0) = false := by simp [hle]
      have HSE2 := hide (HSE.out.trans (if_neg (by simp [hle])))
      have hv := HVV.out hle
      clear HSE hle HVV
      go_wp2_with fail
      refine (HCV.out w2 hb3 hv).mono ?_
      rintro e w3 ⟨rfl, hb4⟩
      have HB3 := hide (bthr HB2.out hb4 HB2.out.size)
      cases cb
      · have HX := hide (HSE2.out.trans (if_neg (by simp)))
        clear c0 c1 c2 hb3 hb4 HSE2 q2 hse
        go_wp2
        go_ret2
        exact ⟨by rw [HX.out]; first | done | rfl, HB3.out⟩
      · exact absurd (HSE2.out.trans (if_pos rfl)) hse
    · have hq : (le != 0) = true := by simp [hle]
      have HX := hide (HSE.out.trans (if_pos hle))
      clear HSE hle HVV hse hb3 q2
      go_wp2
      go_ret2
      exact ⟨by rw [HX.out]; first | done | rfl, HB2.out⟩
end Go.Proofs.Ytmlpimidbgeacaa
