/-
  Quantiles do not fall: the walk of ForecastQuantiles. Condition: its list can be read.
-/
import Derived.Test.YtmlpimidbgeacaaProg
import Derived.Test.YtmlpimidbgeacaaFlq
import Derived.Test.YtmlpimidbgeacaaFcu
namespace Go.Proofs.Ytmlpimidbgeacaa
open Go.RowKit

theorem BdOwn.deck {w w' : World} {base b : Nat} {x : Bd} (h : BdOwn w base x) (hg : w.grownBy w' (some b)) (hb : b < base) : BdOwn w' base x := ⟨own_deckF h.1 hg hb, fun s hs => own_deckF (show w.ownsRow base 3 1 (.slice s.A s.n s.c) s.n (ints s.fl) from h.2 s hs) hg hb⟩
def QCut (w : World) (base g8 nn : Nat) (x : Bd) (v9 : Value) (wx : World) : Prop := ∃ x0 : Nat, x0 < nn ∧ v9 = .int .i64 (x.fr + x0) ∧ BdOwn wx base x ∧ Blk wx g8 27 x.arr ∧ Below w.heap.size w wx
theorem qcut_of {w w3 w4 : World} {base g8 nn b : Nat} {x : Bd} {v : Int} (hv0 : 0 ≤ v) (hv1 : v < nn ∨ v = 0) (hnn : 1 ≤ nn) (hO : BdOwn w3.drew base x) (hQ : Blk w3.drew g8 27 x.arr) (hB : Below w.heap.size w w3.drew) (hg : w3.drew.grownBy w4 (some b)) (hb : b < base) (hb2 : g8 ≠ b) (hb3 : w.heap.size ≤ b) : QCut w base g8 nn x (.int .i64 (x.fr + v)) w4 :=
  ⟨v.toNat, by omega, by congr 2; omega, hO.deck hg hb, hQ.only hg hb2, below_grown hB hg hB.size hb3⟩
set_option maxHeartbeats 3200000 in
set_option maxRecDepth 20000 in
theorem fquant_walk {A : Option Addr} {n c : Nat} {zs : List Int} {w : World} (hs : Sl w w.heap.size 1 A n c (ints zs)) (num den : Int) : Calls Try.prog 4 #[.slice A n c, .int .i64 num, .int .i64 den] w fun e w' => e = .returned (.bool true) ∧ Below w.heap.size w w' := by
  go_enter Try.func4, Try.ntmps4
  go_wp2_with fail
  refine (new_any _ _ _ _ _ hs).mono ?_
  rintro e w1 ⟨rfl, hD1, hb1⟩
  have hw1 := hD1.lt
  clear hs
  go_wp2_with fail
  refine (bundle_any _ _ hD1).mono ?_
  rintro e w2 ⟨x, rfl, ⟨hf0, hf1⟩, ⟨hl0, hl1⟩, hn, ⟨nn, hn0, hn6, hg⟩, ho1, ho2, hD2, hg2⟩
  obtain ⟨fr, B, m, d, ss, wd0⟩ := x
  simp only at hf0 hf1 hl0 hl1 hn hg ho1 ho2
  have HG := hide hg
  have HN := hide hn
  have hm4 : 1 ≤ m ∧ m ≤ 4 := by omega
  have HST := hide (steps_made hl0 hg)
  have hB2 := below_grown hb1 hg2 hb1.size (Nat.le_refl _)
  have HO := hide (show BdOwn (w2.alloc (.cells #[.int .i64 fr, .slice B m d, .bool false] 27)) w1.heap.size ⟨fr, B, m, d, ss, false⟩ from ⟨ho1.alloc _, fun s hs => World.ownsRow.alloc (ho2 s hs) _⟩)
  have q3 := Blk.new w2 27 #[.int .i64 fr, .slice B m d, .bool false]
  have HD3 := hide (hD2.alloc (.cells #[.int .i64 fr, .slice B m d, .bool false] 27))
  have HB3 := hide (hB2.alloc hB2.size (.cells #[.int .i64 fr, .slice B m d, .bool false] 27))
  have hg8 : w.heap.size < w2.heap.size := Nat.lt_of_lt_of_le hw1 hg2.size
  unfold Bd.arr
  simp only
  clear hg hn ho1 ho2 hD1 hD2 hb1 hg2 hB2 hl0 hl1
  go_upto_region 4 with fail
  generalize w2.alloc _ = w3 at *
  generalize w2.heap.size = g8 at *
  have hq3 := q3.lt
  have HQ3 := hide q3
  obtain ⟨c0, c1, c2, cf⟩ := q3.facts3
  obtain ⟨b0, o0, hA, _, hcl⟩ := HO.out.ok.1.at_ (show 0 < m by omega)
  simp only at hA hcl
  subst hA
  rcases e0 : ss[0]'(by have := HN.out; omega) with ⟨wt, A1, n1, c1', fl⟩
  obtain ⟨-, d1⟩ := sc_cells hcl (by have := HN.out; omega) e0
  simp only [Nat.zero_mul, Nat.add_zero] at d1
  have hn1 : n1 = nn := by have := (HG.out _ (show (⟨wt, A1, n1, c1', fl⟩ : Sc) ∈ ss by rw [← e0]; exact List.getElem_mem _)).2.1; exact this
  rw [hn1] at d1
  have HE0 := hide (show ∃ h : 0 < ss.length, ss[0] = ⟨wt, A1, n1, c1', fl⟩ from ⟨by have := HN.out; omega, e0⟩)
  have hmi : (0 : Int) < (m : Int) := by omega
  have hmn : 0 < m := by omega
  have hnn63 : (nn : Int) ≤ 6 := by omega
  have HD4 := hide (show Dk w3.drew w.heap.size from HD3.out.keep (fun _ _ => rfl))
  have HO4 := hide (show BdOwn w3.drew w1.heap.size ⟨fr, some ⟨b0, o0, none⟩, m, d, ss, false⟩ from HO.out)
  have HQ4 := hide (Blk.drew HQ3.out)
  have HB4 := hide (HB3.out.drew)
  clear e0 hcl hn1 q3
  go_cut [9] (fun v9 wx => QCut w w1.heap.size g8 nn ⟨fr, some ⟨b0, o0, none⟩, m, d, ss, false⟩ v9 wx)
  case first =>
    go_region_law (go_simp; go_at_call 12; refine (next_any w.heap.size nn (by omega) _ HD4.out).mono ?_; rintro e w5 ⟨v, rfl, hv0, hv1, hD5, hg5, hz5⟩; have hwr : IntKind.i64.wrap (fr + v) = fr + v := (by rw [IntKind.wrap_i64]; omega); obtain ⟨t0, t1, t2, tf⟩ := (HQ4.out.only hg5 (by omega)).facts3)
    all_goals
      go_wp2_with fail
      go_meet
      exact qcut_of (x := ⟨fr, some ⟨b0, o0, none⟩, m, d, ss, false⟩) hv0 (by omega) hn0 HO4.out HQ4.out HB4.out hg5 hw1 (by omega) (Nat.le_refl _)
  case rest =>
    rename World => w5
    obtain ⟨x0, hx0, rfl, HO5', HQ5', HB5'⟩ := hcut
    obtain ⟨T, hT⟩ : ∃ T, fr + (x0 : Int) = T := ⟨_, rfl⟩
    simp only [hT]
    have HT := hide (show T - fr = (x0 : Int) by omega)
    have hT0 : 0 ≤ T := by omega
    have hT1 : T ≤ 100 := by omega
    have HLV := hide (live_made (x := ⟨fr, some ⟨b0, o0, none⟩, m, d, ss, false⟩) (made_err (nn := nn) ⟨hf0, by simp only; omega⟩ (by have := HN.out; simp only; omega) HN.out ⟨hn0, by omega⟩ (fun s hs => good_sc (HG.out s hs))) rfl)
    have HCV := hide (show covB ⟨fr, some ⟨b0, o0, none⟩, m, d, ss, false⟩ T = true by unfold covB; simp only [Bool.and_eq_true, decide_eq_true_eq]; rw [HST.out]; omega)
    have HVB := hide (bd_valid (b := ⟨fr, some ⟨b0, o0, none⟩, m, d, ss, false⟩) (made_err (nn := nn) ⟨hf0, by simp only; omega⟩ (by have := HN.out; simp only; omega) HN.out ⟨hn0, by omega⟩ (fun s hs => good_sc (HG.out s hs))) HN.out)
    have HOK5 := hide HO5'.ok
    have HQ5 := hide HQ5'
    have HB5 := hide HB5'
    clear hT d1 c0 c1 c2 cf HO5' HQ5' HB5' hx0 HD3 HD4 HO HO4 HQ4 HB4 HQ3 HB3 hq3
    unfold Bd.arr at HQ5
    simp only at HQ5
    go_wp2_with fail
    refine (mod_any den 9 (by omega) (by omega) _).mono ?_
    rintro e w' ⟨rfl, rfl⟩
    obtain ⟨q, hq⟩ : ∃ q, 1 + den % 9 = q := ⟨_, rfl⟩
    have hq1 : 1 ≤ q := by omega
    have hq9 : q ≤ 9 := by omega
    have hdm : 0 ≤ den % 9 := by omega
    have hdm9 : den % 9 ≤ 8 := by omega
    go_wp2_with fail
    clear hq hdm hdm9
    refine (mod_any num q (by omega) (by omega) _).mono ?_
    rintro e w' ⟨rfl, rfl⟩
    obtain ⟨p, hp⟩ : ∃ p, 1 + num % q = p := ⟨_, rfl⟩
    have hp0 : 0 ≤ num % q := Int.emod_nonneg _ (by omega)
    have hpq : num % q < q := Int.emod_lt_of_pos _ (by omega)
    have hp1 : 1 ≤ p := by omega
    have hpq1 : p ≤ q := by omega
    obtain ⟨c0, c1, c2, cf⟩ := HQ5.out.facts3
    have HU := hide (fun (W : World) (hW : Bd.ok W W.heap.size ⟨fr, some ⟨b0, o0, none⟩, m, d, ss, false⟩) (p' : Int) (h1 : 1 ≤ p') (h2 : p' ≤ q) => quantile_any ⟨fr, some ⟨b0, o0, none⟩, m, d, ss, false⟩ T p' q W hW (fun _ => show m ≤ 20 by omega))
    have HUE := hide (fun (p' : Int) (h1 : 1 ≤ p') (h2 : p' ≤ q) => qE_made (t := T) HLV.out h1 h2 (by omega) HCV.out)
    have HSE := hide (stepE_made HLV.out HCV.out)
    unfold QOk at HU
    unfold Bd.arr at HU
    simp only at HU
    go_wp2_with fail
    clear hp hp0 hpq
    refine (HU.out w5 HOK5.out p hp1 hpq1).mono ?_
    rw [HUE.out p hp1 hpq1]
    rintro e w6 ⟨x, rfl, hx, -, hb6⟩
    have HX := hide (hx rfl)
    have HB6 := hide (bthr HB5.out hb6 HB5.out.size)
    have HOK6 := hide (Bd.ok.thr HOK5.out hb6)
    have HQ6 := hide (HQ5.out.below hb6 HQ5.out.lt)
    clear hx hb6 c0 c1 c2 cf HB5 HOK5 HQ5
    obtain ⟨c0, c1, c2, cf⟩ := HQ6.out.facts3
    go_wp2_with fail
    refine (HU.out w6 HOK6.out q hq1 (Int.le_refl _)).mono ?_
    rw [HUE.out q hq1 (Int.le_refl _)]
    rintro e w7 ⟨y, rfl, hy, -, hb7⟩
    have HY := hide (hy rfl)
    have HB7 := hide (bthr HB6.out hb7 HB6.out.size)
    have HOK7 := hide (Bd.ok.thr HOK6.out hb7)
    have HQ7 := hide (HQ6.out.below hb7 HQ6.out.lt)
    clear hy hb7 c0 c1 c2 cf HB6 HOK6 HQ6 HU HUE
    obtain ⟨c0, c1, c2, cf⟩ := HQ7.out.facts3
    have HM := hide (mean_any ⟨fr, some ⟨b0, o0, none⟩, m, d, ss, false⟩ T w7 HOK7.out)
    rw [if_pos HSE.out, HSE.out] at HM
    have HMV := hide (show meanV ⟨fr, some ⟨b0, o0, none⟩, m, d, ss, false⟩ T = sumS (fun s => s.wt * flAt ⟨fr, some ⟨b0, o0, none⟩, m, d, ss, false⟩ T s) ss / wAll ss from rfl)
    generalize meanV ⟨fr, some ⟨b0, o0, none⟩, m, d, ss, false⟩ T = mv at *
    unfold Bd.arr at HM
    simp only at HM
    go_wp2_with fail
    refine HM.out.mono ?_
    rintro e w8 ⟨rfl, hb8⟩
    have HB8 := hide (bthr HB7.out hb8 HB7.out.size)
    have HOK8 := hide (Bd.ok.thr HOK7.out hb8)
    have HQ8 := hide (HQ7.out.below hb8 HQ7.out.lt)
    clear hb8 c0 c1 c2 cf HB7 HOK7 HQ7 HM
    obtain ⟨c0, c1, c2, cf⟩ := HQ8.out.facts3
    have HE1 := hide (exceeds_any ⟨fr, some ⟨b0, o0, none⟩, m, d, ss, false⟩ T x w8 HOK8.out)
    rw [if_pos HSE.out, if_pos HSE.out, HSE.out] at HE1
    have HWT := hide (show ∀ s ∈ ss, 1 ≤ s.wt from fun s hs => (HG.out s hs).1.1)
    have HWA := hide (wAll_bnd HVB.out HN.out)
    have HLAW := hide (quant_law HWT.out hp1 hpq1 HWA.out.1 HX.out HY.out)
    have hov : 0 ≤ overV ⟨fr, some ⟨b0, o0, none⟩, m, d, ss, false⟩ T x ∧ overV ⟨fr, some ⟨b0, o0, none⟩, m, d, ss, false⟩ T x ≤ 500000 := by
      unfold overV; simp only
      have h1 := sumS_nonneg (f := wOf fun s => decide (x < flAt ⟨fr, some ⟨b0, o0, none⟩, m, d, ss, false⟩ T s)) ss (fun s hs => by unfold wOf; have := HWT.out s hs; split <;> omega)
      have h2 := sumS_le (f := wOf fun s => decide (x < flAt ⟨fr, some ⟨b0, o0, none⟩, m, d, ss, false⟩ T s)) (g := wOf fun _ => true) ss (fun s hs => by unfold wOf; have := HWT.out s hs; simp only [if_true]; split <;> omega)
      have h3 := HWA.out.2
      unfold wAll at h3
      simp only at h3
      omega
    have hun : 0 ≤ overV ⟨fr, some ⟨b0, o0, none⟩, m, d, ss, false⟩ T (x - 1) ∧ overV ⟨fr, some ⟨b0, o0, none⟩, m, d, ss, false⟩ T (x - 1) ≤ wAll ss := by
      unfold overV; simp only
      have h1 := sumS_nonneg (f := wOf fun s => decide (x - 1 < flAt ⟨fr, some ⟨b0, o0, none⟩, m, d, ss, false⟩ T s)) ss (fun s hs => by unfold wOf; have := HWT.out s hs; split <;> omega)
      have h2 := sumS_le (f := wOf fun s => decide (x - 1 < flAt ⟨fr, some ⟨b0, o0, none⟩, m, d, ss, false⟩ T s)) (g := wOf fun _ => true) ss (fun s hs => by unfold wOf; have := HWT.out s hs; simp only [if_true]; split <;> omega)
      exact ⟨h1, h2⟩
    have HLAW2 := hide (show x ≤ y ∧ q * overV ⟨fr, some ⟨b0, o0, none⟩, m, d, ss, false⟩ T x ≤ (q - p) * wAll ss ∧ q * (wAll ss - overV ⟨fr, some ⟨b0, o0, none⟩, m, d, ss, false⟩ T (x - 1)) < p * wAll ss from HLAW.out)
    have hxb : 0 ≤ x ∧ x < 12 := by
      obtain ⟨s, hs, e⟩ := HX.out.1
      have hg := HG.out s hs
      have hl := HOK8.out.2 s hs
      obtain ⟨_, _, _, _, h4⟩ := fl_get hl (j := x0) (by rw [hg.2.1]; have := HCV.out; unfold covB at this; simp only [Bool.and_eq_true, decide_eq_true_eq] at this; rw [HST.out] at this; have := HT.out; omega)
      have h5 := hg.2.2 _ h4
      rw [← e]; unfold flAt; simp only
      rw [HT.out, Int.toNat_natCast]; exact h5
    obtain ⟨al, hal⟩ : ∃ al, wAll ss = al := ⟨_, rfl⟩
    have hal1 : 1 ≤ al ∧ al ≤ 500000 := by rw [← hal]; exact HWA.out
    have HAL := hide hal
    have HE2 := hide (fun (W : World) hW => exceeds_any ⟨fr, some ⟨b0, o0, none⟩, m, d, ss, false⟩ T (x - 1) W hW)
    rw [if_pos HSE.out, if_pos HSE.out, HSE.out] at HE2
    simp only [hal] at HE1 HE2 HLAW2 hun
    obtain ⟨ov, hov'⟩ : ∃ ov, overV ⟨fr, some ⟨b0, o0, none⟩, m, d, ss, false⟩ T x = ov := ⟨_, rfl⟩
    obtain ⟨un, hun'⟩ : ∃ un, overV ⟨fr, some ⟨b0, o0, none⟩, m, d, ss, false⟩ T (x - 1) = un := ⟨_, rfl⟩
    simp only [hov', hun'] at HE1 HE2 HLAW2 hov hun
    clear hov' hun' hal
    unfold Bd.arr at HE1 HE2
    simp only at HE1 HE2
    obtain ⟨hx0, hx1⟩ := hxb
    obtain ⟨hov0, hov1⟩ := hov
    obtain ⟨hun0, hun1⟩ := hun
    obtain ⟨hal0, hal2⟩ := hal1
    go_wp2_with fail
    refine HE1.out.mono ?_
    rintro e w9 ⟨rfl, hb9⟩
    have HB9 := hide (bthr HB8.out hb9 HB8.out.size)
    have HOK9 := hide (Bd.ok.thr HOK8.out hb9)
    have HQ9 := hide (HQ8.out.below hb9 HQ8.out.lt)
    clear hb9 c0 c1 c2 cf HB8 HOK8 HQ8 HE1
    obtain ⟨c0, c1, c2, cf⟩ := HQ9.out.facts3
    go_wp2_with fail
    refine (HE2.out w9 HOK9.out).mono ?_
    rintro e w10 ⟨rfl, hb10⟩
    have HB10 := hide (bthr HB9.out hb10 HB9.out.size)
    have HOK10 := hide (Bd.ok.thr HOK9.out hb10)
    have HQ10 := hide (HQ9.out.below hb10 HQ9.out.lt)
    clear hb10 c0 c1 c2 cf HB9 HOK9 HQ9 HE2
    obtain ⟨c0, c1, c2, cf⟩ := HQ10.out.facts3
    obtain ⟨hl1, hl2, hl3⟩ := HLAW2.out
    have m1 := mul_bnd2 (show 0 ≤ q by omega) hq9 hov0 hov1
    have m2 := mul_bnd2 (show 0 ≤ q - p by omega) (show q - p ≤ 9 by omega) (show 0 ≤ al by omega) hal2
    have m3 := mul_bnd2 (show 0 ≤ q by omega) hq9 (show 0 ≤ al - un by omega) (show al - un ≤ 500000 by omega)
    have m4 := mul_bnd2 (show 0 ≤ p by omega) (show p ≤ 9 by omega) (show 0 ≤ al by omega) hal2
    obtain ⟨r1, hr1⟩ : ∃ r, q * ov = r := ⟨_, rfl⟩
    obtain ⟨r2, hr2⟩ : ∃ r, (q - p) * al = r := ⟨_, rfl⟩
    obtain ⟨r3, hr3⟩ : ∃ r, q * (al - un) = r := ⟨_, rfl⟩
    obtain ⟨r4, hr4⟩ : ∃ r, p * al = r := ⟨_, rfl⟩
    rw [hr1, hr2] at hl2
    rw [hr3, hr4] at hl3
    rw [hr1] at m1
    rw [hr2] at m2
    rw [hr3] at m3
    rw [hr4] at m4
    have hk1 : ¬ y < x := by omega
    have hk2 : ¬ al < 1 := by omega
    have hk3 : ¬ r2 < r1 := by omega
    have hk4 : ¬ r4 ≤ r3 := by omega
    go_upto_region 14 with fail
    clear hk1 hk2 hk3 hk4 m1 m2 m3 m4 hl1 hl2 hl3 hr1 hr2 hr3 hr4
    have hx0n : x0 < nn := by
      have := HCV.out
      unfold covB at this
      simp only [Bool.and_eq_true, decide_eq_true_eq] at this
      rw [HST.out] at this
      have := HT.out
      omega
    have HXN := hide hx0n
    have hTf : T - fr = (x0 : Int) := HT.out
    have hw1' : IntKind.i64.wrap (T - fr) = (x0 : Int) := by rw [hTf, IntKind.wrap_i64]; omega
    have HFV := hide (show ∀ s, flAt ⟨fr, some ⟨b0, o0, none⟩, m, d, ss, false⟩ T s = s.fl.getD x0 0 from fun s => by unfold flAt; simp only; rw [HT.out]; rfl)
    obtain ⟨hlen0, e0⟩ := HE0.out
    obtain ⟨_, _, hAA, _, hcl⟩ := HOK10.out.1.at_ (show 0 < m by omega)
    simp only at hAA hcl
    injection hAA with hAA
    injection hAA with hA1 hA2 _
    subst hA1 hA2
    obtain ⟨-, d1⟩ := sc_cells hcl hlen0 e0
    simp only [Nat.zero_mul, Nat.add_zero] at d1
    have hmem0 : (⟨wt, A1, n1, c1', fl⟩ : Sc) ∈ ss := by rw [← e0]; exact List.getElem_mem _
    have hgd0 := HG.out _ hmem0
    obtain ⟨bf, of_, hA1, hcf, hfm⟩ := fl_get (HOK10.out.2 _ hmem0) (j := x0) (by rw [hgd0.2.1]; exact hx0n)
    simp only at hA1 hcf hfm
    subst hA1
    have hfv := hgd0.2.2 _ hfm
    have hn1n : n1 = nn := hgd0.2.1
    rw [hn1n] at d1
    have HLM0 := hide (show LM (flAt ⟨fr, some ⟨b0, o0, none⟩, m, d, ss, false⟩ T) ss 0 (fl.getD x0 0) 0 from ⟨by simp, ⟨_, hmem0, by rw [HFV.out]; exact Int.le_refl _⟩, by simp, by omega, .inl rfl⟩)
    obtain ⟨v0, hv0⟩ : ∃ v, fl.getD x0 0 = v := ⟨_, rfl⟩
    rw [hv0] at hcf HLM0
    have hx0i : (x0 : Int) < (nn : Int) := Int.ofNat_lt.2 hx0n
    have hx00 : (0 : Int) ≤ (x0 : Int) := Int.natCast_nonneg _
    clear hcl e0 hmem0 hgd0 hfm hn1n hfv hv0 hx0n
    go_quiet (fail)
    clear d1 hcf
    go_wp2
    clear c0 c1 c2 cf
    go_loopw [24, 25, 145] (fun v1 v2 i wr => ∃ (k : Nat) (lo hi : Int), k ≤ m ∧ i = .int .i64 k ∧ v1 = .int .i64 lo ∧ v2 = .int .i64 hi ∧ Hid (LM (flAt ⟨fr, some ⟨b0, o0, none⟩, m, d, ss, false⟩ T) ss k lo hi) ∧ Below w10.heap.size w10 wr) (fun _ _ i _ => m - (intOf i).toNat)
    case atStart => exact ⟨0, v0, 0, by omega, rfl, rfl, rfl, HLM0, below_drewN (Below.refl _ _) _⟩
    case round =>
      obtain ⟨k, lo, hi, hk, rfl, rfl, rfl, HLM, hb⟩ := hrel
      by_cases hlt : k < m
      · have hL := HN.out
        have HSk := Bd.ok.thr HOK10.out hb
        obtain ⟨_, _, hAA, _, hcl⟩ := HSk.1.at_ hlt
        simp only at hAA hcl
        injection hAA with hAA
        injection hAA with hA1 hA2 _
        subst hA1 hA2
        rcases ek : ss[k]'(by omega) with ⟨wt2, A2, n2, c2', fl2⟩
        obtain ⟨e0, e1⟩ := sc_cells hcl (by omega) ek
        simp only at e0 e1
        have hmem : (⟨wt2, A2, n2, c2', fl2⟩ : Sc) ∈ ss := by rw [← ek]; exact List.getElem_mem _
        have hgd := HG.out _ hmem
        obtain ⟨bq, oq, hA2, hcq, hfq⟩ := fl_get (HSk.2 _ hmem) (j := x0) (by rw [hgd.2.1]; exact HXN.out)
        simp only at hA2 hcq hfq
        subst hA2
        have hfv := hgd.2.2 _ hfq
        have hn2 : n2 = nn := hgd.2.1
        have HSTEP := hide (lm_step (show k < ss.length by omega) ek (by rw [HFV.out]; exact hfv.1) HLM.out)
        rw [HFV.out] at HSTEP
        simp only at HSTEP
        obtain ⟨v, hv'⟩ : ∃ v, fl2.getD x0 0 = v := ⟨_, rfl⟩
        rw [hv'] at hcq HSTEP
        clear hv' hfv
        have hbx := bel1 (w := wr) (o := .cells #[.int .i64 wt2, .slice (some ⟨bq, oq, none⟩) n2 c2'] 32)
        have hb2 := hb.alloc hb.size (.cells #[.int .i64 wt2, .slice (some ⟨bq, oq, none⟩) n2 c2'] 32)
        have q1 := Blk.new wr 32 #[.int .i64 wt2, .slice (some ⟨bq, oq, none⟩) n2 c2']
        have hcq2 := cell_thr hbx hcq
        have q8 := HQ10.out.below hb2 HQ10.out.lt
        have HB11 := hide hb2
        have hki : (k : Int) < (m : Int) := by omega
        have hxn2 : (x0 : Int) < (n2 : Int) := by omega
        clear hcl ek hmem hgd hfq hn2 hL HSk hcq hb hb2 hbx
        go_upto_region 18 with fail
        clear e0 e1
        generalize wr.alloc _ = w11 at *
        generalize wr.heap.size = g11 at *
        obtain ⟨x0', x1', xf'⟩ := q1.facts2
        obtain ⟨c0, c1, c2, cf⟩ := q8.facts3
        obtain ⟨lo2, hlo2⟩ : ∃ z, (if v < lo then v else lo) = z := ⟨_, rfl⟩
        obtain ⟨hi2, hhi2⟩ : ∃ z, (if hi < v then v else hi) = z := ⟨_, rfl⟩
        have HS2 := hide (show LM (flAt ⟨fr, some ⟨b0, o0, none⟩, m, d, ss, false⟩ T) ss (k + 1) lo2 hi2 by
          have e1 : min lo v = lo2 := by rw [← hlo2]; split <;> omega
          have e2 : max hi v = hi2 := by rw [← hhi2]; split <;> omega
          have := HSTEP.out
          rwa [e1, e2] at this)
        have HLO := hide hlo2
        have HHI := hide hhi2
        clear hlo2 hhi2 HSTEP
        go_quiet (fail)
        simp only [HLO.out, HHI.out]
        have HB12 := hide (below_drewN HB11.out nq)
        clear x0' x1' xf' c0 c1 c2 cf q1 q8 hcq2
        go_wp2
        go_roundw
        case rel => exact ⟨k + 1, lo2, hi2, by omega, by go_num, rfl, rfl, HS2, HB12.out⟩
        case measure => simp [intOf]; omega
      · have hki : ¬ ((k : Int) < (m : Int)) := by omega
        obtain ⟨r1, r2, r3, r4⟩ := lm_end (by have := HN.out; omega) (fun s hs => (HG.out s hs).1.1) hq1 HWA.out.1 HLM.out HX.out HY.out
        have hyh : (y == hi) = true := by simp [r1]
        rw [← HMV.out] at r2 r3
        have HBZ := hide (bthr HB10.out hb HB10.out.size)
        clear r1 hb
        go_wp2_with fail
        all_goals first | (exfalso; omega) | skip
        refine (awake_any _).mono ?_
        rintro e wz ⟨rfl, hbz⟩
        have HBY := hide (bthr HBZ.out hbz HBZ.out.size)
        clear hbz
        go_wp2
        go_ret
        exact ⟨rfl, HBY.out⟩
end Go.Proofs.Ytmlpimidbgeacaa
