/-
  A bundle that is shifted says the same of the steps that are left: the walk of ForecastShifts. Condition: its list can be read.
-/
import Derived.Test.YtmlpimidbgeacaaProg
import Derived.Test.YtmlpimidbgeacaaFsl
import Derived.Test.YtmlpimidbgeacaaFqw
namespace Go.Proofs.Ytmlpimidbgeacaa
open Go.RowKit

set_option maxHeartbeats 3200000 in
set_option maxRecDepth 20000 in
theorem fshift_walk {A : Option Addr} {n c : Nat} {zs : List Int} {w : World} (hs : Sl w w.heap.size 1 A n c (ints zs)) : Calls Try.prog 8 #[.slice A n c] w fun e w' => e = .returned (.bool true) ∧ Below w.heap.size w w' := by
  go_enter Try.func8, Try.ntmps8
  go_wp2_with fail
  refine (new_any _ _ _ _ _ hs).mono ?_
  rintro e w1 ⟨rfl, hD1, hb1⟩
  have hw1 := hD1.lt
  clear hs
  go_wp2_with fail
  refine (bundle_any _ _ hD1).mono ?_
  rintro e w2 ⟨x, rfl, ⟨hf0, hf1⟩, ⟨hl0, hl1⟩, hn, ⟨nn, hn0, hn6, hg⟩, ho1, ho2, hD2, hg2⟩
  obtain ⟨fr, B, m, d, ss, wd0⟩ := x
  simp only at hf0 hf1 hl0 hl1 hn hg ho1 ho2
  have HG := hide hg
  have HN := hide hn
  have hm4 : 1 ≤ m ∧ m ≤ 4 := by omega
  have HST := hide (steps_made hl0 hg)
  have hB2 := below_grown hb1 hg2 hb1.size (Nat.le_refl _)
  have HO := hide (show BdOwn (w2.alloc (.cells #[.int .i64 fr, .slice B m d, .bool false] 27)) w1.heap.size ⟨fr, B, m, d, ss, false⟩ from ⟨ho1.alloc _, fun s hs => World.ownsRow.alloc (ho2 s hs) _⟩)
  have HLF := hide (show ∀ s ∈ ss, s.n = s.fl.length from fun s hs => sc_n (ho2 s hs))
  have q3 := Blk.new w2 27 #[.int .i64 fr, .slice B m d, .bool false]
  have HD3 := hide (hD2.alloc (.cells #[.int .i64 fr, .slice B m d, .bool false] 27))
  have HB3 := hide (hB2.alloc hB2.size (.cells #[.int .i64 fr, .slice B m d, .bool false] 27))
  have hg8 : w.heap.size < w2.heap.size := Nat.lt_of_lt_of_le hw1 hg2.size
  unfold Bd.arr
  simp only
  clear hg hn ho1 ho2 hD1 hD2 hb1 hg2 hB2 hl0 hl1
  go_upto_region 4 with fail
  generalize w2.alloc _ = w3 at *
  generalize w2.heap.size = g8 at *
  have HQ3 := hide q3
  obtain ⟨c0, c1, c2, cf⟩ := q3.facts3
  obtain ⟨b0, o0, hA, _, hcl⟩ := HO.out.ok.1.at_ (show 0 < m by omega)
  simp only at hA hcl
  subst hA
  rcases e0 : ss[0]'(by have := HN.out; omega) with ⟨wt, A1, n1, c1', fl⟩
  obtain ⟨-, d1⟩ := sc_cells hcl (by have := HN.out; omega) e0
  simp only [Nat.zero_mul, Nat.add_zero] at d1
  have hn1 : n1 = nn := by have := (HG.out _ (show (⟨wt, A1, n1, c1', fl⟩ : Sc) ∈ ss by rw [← e0]; exact List.getElem_mem _)).2.1; exact this
  rw [hn1] at d1
  have hmi : (0 : Int) < (m : Int) := by omega
  have hmn : 0 < m := by omega
  have hnn63 : (nn : Int) ≤ 6 := by omega
  clear e0 hcl hn1 q3
  go_wp2_with fail
  clear d1 c0 c1 c2 cf
  refine (next_any w.heap.size nn (by omega) _ HD3.out).mono ?_
  rintro e w4 ⟨v, rfl, hv0, hv1, hD4, hg4, hz4⟩
  obtain ⟨k, rfl⟩ : ∃ k : Nat, v = (k : Int) := ⟨v.toNat, by omega⟩
  have hk : k < nn := by omega
  have HO4 := hide (HO.out.deck hg4 hw1)
  have HQ4 := hide (HQ3.out.only hg4 (by omega))
  have HB4 := hide (below_grown HB3.out hg4 HB3.out.size (Nat.le_refl _))
  have HD4 := hide hD4
  clear hv0 hv1 hD4 hg4 hz4 HO HQ3 HB3 HD3
  obtain ⟨r, hr⟩ : ∃ r : Nat, (nn : Int) - (k : Int) = (r : Int) := ⟨nn - k, by omega⟩
  go_wp2_with fail
  have hr0 : 0 < r := by omega
  have hrn : r ≤ 6 := by omega
  refine (next_any w.heap.size r (by omega) _ HD4.out).mono ?_
  rintro e w5 ⟨v, rfl, hv0, hv1, hD5, hg5, hz5⟩
  obtain ⟨j, rfl⟩ : ∃ j : Nat, v = (j : Int) := ⟨v.toNat, by omega⟩
  obtain ⟨tt, htt⟩ : ∃ tt : Nat, (k : Int) + (j : Int) = (tt : Int) := ⟨k + j, by omega⟩
  have HKT := hide (show k ≤ tt ∧ tt < nn ∧ r = nn - k ∧ k < nn from by omega)
  have hktn : k ≤ 6 ∧ tt ≤ 6 := by omega
  have HO5 := hide (HO4.out.deck hg5 hw1)
  have HQ5 := hide (HQ4.out.only hg5 (by omega))
  have HB5 := hide (below_grown HB4.out hg5 HB4.out.size (Nat.le_refl _))
  have HOK5 := hide HO5.out.ok
  clear hv0 hv1 hD5 hg5 hz5 HO4 HQ4 HB4 HD4 HO5
  go_upto_region 7 with fail
  clear htt hr hk hr0
  have HEB := hide (made_err (x := ⟨fr, some ⟨b0, o0, none⟩, m, d, ss, false⟩) (nn := nn) ⟨hf0, by simp only; omega⟩ (by have := HN.out; simp only; omega) HN.out ⟨hn0, by omega⟩ (fun s hs => good_sc (HG.out s hs)))
  have HVB := hide (bd_valid (b := ⟨fr, some ⟨b0, o0, none⟩, m, d, ss, false⟩) HEB.out HN.out)
  have HLB := hide (live_made (x := ⟨fr, some ⟨b0, o0, none⟩, m, d, ss, false⟩) HEB.out rfl)
  have HCB := hide (fun (T : Int) (h0 : fr ≤ T) (h1 : T < fr + nn) => show covB ⟨fr, some ⟨b0, o0, none⟩, m, d, ss, false⟩ T = true by unfold covB; simp only [Bool.and_eq_true, decide_eq_true_eq]; rw [HST.out]; omega)
  have HSH := hide (fun (W : World) (hW : Bd.ok W W.heap.size ⟨fr, some ⟨b0, o0, none⟩, m, d, ss, false⟩) => shift_any ⟨fr, some ⟨b0, o0, none⟩, m, d, ss, false⟩ (fr + k) W hW)
  have HSE := hide (show shE ⟨fr, some ⟨b0, o0, none⟩, m, d, ss, false⟩ (fr + k) = 0 by unfold shE; rw [if_neg (by rw [HEB.out]; simp), if_pos (HCB.out _ (by omega) (by have := HKT.out; omega))])
  rw [HSE.out] at HSH
  unfold BdRes at HSH
  rw [show ((fr + (k : Int)) - fr).toNat = k by omega] at HSH
  unfold Bd.arr at HSH
  simp only [forall_const, ne_eq, not_true_eq_false, false_implies, true_and] at HSH
  obtain ⟨c0, c1, c2, cf⟩ := HQ5.out.facts3
  go_wp2_with fail
  refine (HSH.out w5 HOK5.out).mono ?_
  rintro e w6 ⟨x, rfl, hx, hb6⟩
  obtain ⟨xf, xA, xn, xc, xs, xw⟩ := x
  obtain ⟨hx1, hx2, hx3, hx4, hx5, _⟩ := hx
  simp only at hx1 hx2 hx3 hx4 hx5
  have hxl := cut_len hx4
  have hxn : xn = m := by rw [hx3, hxl]; exact HN.out.symm
  subst hx1 hx2 hxn
  have HXD := hide hx4
  have HXN := hide hx3
  have HXG := hide (cut_good (x := ⟨fr + k, xA, xn, xc, xs, false⟩) hx4 hx5 HG.out HLF.out)
  simp only
  have q6 := (HQ5.out.below hb6 HQ5.out.lt).alloc (.cells #[.int .i64 (fr + k), .slice xA xn xc, .bool false] 27)
  have p6 := Blk.new w6 27 #[.int .i64 (fr + k), .slice xA xn xc, .bool false]
  have HB6 := hide ((bthr HB5.out hb6 HB5.out.size).alloc (bthr HB5.out hb6 HB5.out.size).size (.cells #[.int .i64 (fr + k), .slice xA xn xc, .bool false] 27))
  have HOK6 := hide (Bd.ok.thr (Bd.ok.thr HOK5.out hb6) (bel1 (o := .cells #[.int .i64 (fr + k), .slice xA xn xc, .bool false] 27)))
  have HXK6 := hide (Bd.ok.thr hx5.ok (bel1 (o := .cells #[.int .i64 (fr + k), .slice xA xn xc, .bool false] 27)))
  have hg86 : g8 < w6.heap.size := Nat.lt_of_lt_of_le HQ5.out.lt hb6.size
  clear hx3 hx4 hx5 hxl hb6 c0 c1 c2 cf HB5 HOK5 HQ5 HSH HSE
  go_upto_region 8 with fail
  generalize w6.alloc _ = w7 at *
  generalize w6.heap.size = g9 at *
  have HQ6 := hide q6
  have HP6 := hide p6
  clear q6 p6
  have hxl1 : 1 ≤ xs.length ∧ xs.length ≤ 4 := by have := HXN.out; omega
  have HXL := hide hxl1
  have HEX := hide (made_err (x := ⟨fr + k, xA, xn, xc, xs, false⟩) (nn := nn - k) ⟨by simp only; omega, by simp only; omega⟩ (by simp only; omega) HXN.out (by have := HKT.out; omega) HXG.out)
  have HLX := hide (live_made (x := ⟨fr + k, xA, xn, xc, xs, false⟩) HEX.out rfl)
  have HSX := hide (steps_of hxl1.1 (fun t ht => (HXG.out t ht).2.1))
  have HCX := hide (show covB ⟨fr + k, xA, xn, xc, xs, false⟩ (fr + tt) = true by unfold covB; simp only [Bool.and_eq_true, decide_eq_true_eq]; rw [HSX.out]; have := HKT.out; omega)
  clear hxl1
  have HU1 := hide (quantile_any ⟨fr, some ⟨b0, o0, none⟩, xn, d, ss, false⟩ (fr + tt) 1 2 w7 HOK6.out (fun _ => show xn ≤ 20 by omega))
  have HUE := hide (qE_made (t := fr + tt) (p := 1) (q := 2) HLB.out (by omega) (by omega) (by omega) (HCB.out _ (by omega) (by have := HKT.out; omega)))
  have HUF := hide (qE_made (t := fr + tt) (p := 1) (q := 2) HLX.out (by omega) (by omega) (by omega) HCX.out)
  unfold QOk at HU1
  rw [HUE.out] at HU1
  unfold Bd.arr at HU1
  simp only [forall_const, ne_eq, not_true_eq_false, false_implies, true_and] at HU1
  obtain ⟨c0, c1, c2, cf⟩ := HQ6.out.facts3
  go_wp2_with fail
  refine HU1.out.mono ?_
  rintro e w8 ⟨x, rfl, hx, hb8⟩
  have HX := hide hx
  have HB8 := hide (bthr HB6.out hb8 HB6.out.size)
  have HOK8 := hide (Bd.ok.thr HOK6.out hb8)
  have HXK8 := hide (Bd.ok.thr HXK6.out hb8)
  have HQ8 := hide (HQ6.out.below hb8 HQ6.out.lt)
  have HP8 := hide (HP6.out.below hb8 HP6.out.lt)
  clear hx hb8 c0 c1 c2 cf HB6 HOK6 HXK6 HQ6 HP6 HU1 HUE
  have HU2 := hide (quantile_any ⟨fr + k, xA, xn, xc, xs, false⟩ (fr + tt) 1 2 w8 HXK8.out (fun _ => show xn ≤ 20 by omega))
  unfold QOk at HU2
  rw [HUF.out] at HU2
  unfold Bd.arr at HU2
  simp only [forall_const, ne_eq, not_true_eq_false, false_implies, true_and] at HU2
  obtain ⟨c0, c1, c2, cf⟩ := HQ8.out.facts3
  obtain ⟨d0, d1, d2, df⟩ := HP8.out.facts3
  go_wp2_with fail
  refine HU2.out.mono ?_
  rintro e w9 ⟨y, rfl, hy, hb9⟩
  have hxy : y = x := qv_one (qv_cut (b := ⟨fr, some ⟨b0, o0, none⟩, xn, d, ss, false⟩) (x := ⟨fr + k, xA, xn, xc, xs, false⟩) HXD.out rfl (by have := HKT.out; simp only; omega) hy) HX.out
  subst hxy
  have HB9 := hide (bthr HB8.out hb9 HB8.out.size)
  have HOK9 := hide (Bd.ok.thr HOK8.out hb9)
  have HXK9 := hide (Bd.ok.thr HXK8.out hb9)
  have HQ9 := hide (HQ8.out.below hb9 HQ8.out.lt)
  have HP9 := hide (HP8.out.below hb9 HP8.out.lt)
  clear hy hb9 c0 c1 c2 cf d0 d1 d2 df HB8 HOK8 HXK8 HQ8 HP8 HU2 HUF HX
  have HV1 := hide (volumes_any ⟨fr, some ⟨b0, o0, none⟩, xn, d, ss, false⟩ k w9 HOK9.out)
  unfold VOk at HV1
  rw [volE_made HLB.out (by omega) (by rw [HST.out]; have := HKT.out; omega)] at HV1
  unfold Bd.arr at HV1
  simp only [if_true] at HV1
  obtain ⟨c0, c1, c2, cf⟩ := HQ9.out.facts3
  go_wp2_with fail
  refine HV1.out.mono ?_
  rintro e w10 ⟨v, rfl, hv, hb10⟩
  obtain ⟨Aa, ca, rfl, hsa⟩ := own_sl hv
  have HSA := hide hsa
  have HB10 := hide (bthr HB9.out hb10 HB9.out.size)
  have HOK10 := hide (Bd.ok.thr HOK9.out hb10)
  have HXK10 := hide (Bd.ok.thr HXK9.out hb10)
  have HQ10 := hide (HQ9.out.below hb10 HQ9.out.lt)
  have HP10 := hide (HP9.out.below hb10 HP9.out.lt)
  clear hv hsa hb10 c0 c1 c2 cf HB9 HOK9 HXK9 HQ9 HP9 HV1
  have HV2 := hide (volumes_any ⟨fr + k, xA, xn, xc, xs, false⟩ r w10 HXK10.out)
  unfold VOk at HV2
  rw [volE_made HLX.out (by omega) (by rw [HSX.out]; have := HKT.out; omega)] at HV2
  unfold Bd.arr at HV2
  simp only [if_true] at HV2
  obtain ⟨d0, d1, d2, df⟩ := HP10.out.facts3
  have hr : (nn : Int) - (k : Int) = (r : Int) := by have := HKT.out; omega
  go_wp2_with fail
  clear hr
  refine HV2.out.mono ?_
  rintro e w11 ⟨v, rfl, hv, hb11⟩
  obtain ⟨Ac, cc, rfl, hsc⟩ := own_sl hv
  have HSC := hide hsc
  have HSA11 := hide (HSA.out.thr hb11)
  have HB11 := hide (bthr HB10.out hb11 HB10.out.size)
  have HOK11 := hide (Bd.ok.thr HOK10.out hb11)
  have HQ11 := hide (HQ10.out.below hb11 HQ10.out.lt)
  clear hv hsc hb11 d0 d1 d2 df HB10 HOK10 HXK10 HQ10 HP10 HV2 HSA
  have HV3 := hide (volumes_any ⟨fr, some ⟨b0, o0, none⟩, xn, d, ss, false⟩ nn w11 HOK11.out)
  unfold VOk at HV3
  rw [volE_made HLB.out (by omega) (by rw [HST.out]; omega)] at HV3
  unfold Bd.arr at HV3
  simp only [if_true] at HV3
  obtain ⟨c0, c1, c2, cf⟩ := HQ11.out.facts3
  go_wp2_with fail
  refine HV3.out.mono ?_
  rintro e w12 ⟨v, rfl, hv, hb12⟩
  obtain ⟨Al, cl, rfl, hsl⟩ := own_sl hv
  have HSL := hide hsl
  have HSA12 := hide (HSA11.out.thr hb12)
  have HSC12 := hide (HSC.out.thr hb12)
  have HB12 := hide (bthr HB11.out hb12 HB11.out.size)
  have HOK12 := hide (Bd.ok.thr HOK11.out hb12)
  have HQ12 := hide (HQ11.out.below hb12 HQ11.out.lt)
  clear hv hsl hb12 c0 c1 c2 cf HB11 HOK11 HQ11 HV3 HSA11 HSC
  have hxx : ((xn : Int) != (xn : Int)) = false := by simp
  have hyy : (y != y) = false := by simp
  go_wp2
  have HADD := hide (fun (i : Nat) (hi : i < xn) => show (volL ⟨fr, some ⟨b0, o0, none⟩, xn, d, ss, false⟩ k).getD i 0 + (volL ⟨fr + k, xA, xn, xc, xs, false⟩ r).getD i 0 = (volL ⟨fr, some ⟨b0, o0, none⟩, xn, d, ss, false⟩ nn).getD i 0 by
    unfold volL
    simp only [Int.toNat_natCast]
    rw [HKT.out.2.2.1]
    exact vol_cut HXD.out (by have := HKT.out; omega) (by have := HN.out; omega))
  have HBND := hide (fun (st i : Nat) (hi : i < xn) => show 0 ≤ (volL ⟨fr, some ⟨b0, o0, none⟩, xn, d, ss, false⟩ st).getD i 0 ∧ (volL ⟨fr, some ⟨b0, o0, none⟩, xn, d, ss, false⟩ st).getD i 0 ≤ 100 by
    have hil : i < ss.length := by have := HN.out; omega
    unfold volL
    simp only [Int.toNat_natCast, List.getD_eq_getElem?_getD, List.getElem?_map, List.getElem?_eq_getElem hil, Option.map_some, Option.getD_some]
    exact vol_bnd (HG.out _ (List.getElem_mem hil)) (HLF.out _ (List.getElem_mem hil)) hn6)
  have HLEN := hide (show ∀ st : Nat, (volL ⟨fr, some ⟨b0, o0, none⟩, xn, d, ss, false⟩ st).length = xn ∧ (volL ⟨fr + k, xA, xn, xc, xs, false⟩ st).length = xn from fun st => by
    unfold volL; simp only [List.length_map]; have := HN.out; have := HXN.out; omega)
  clear hxx hyy
  go_loopw [126] (fun i wr => ∃ q : Nat, q ≤ xn ∧ i = .int .i64 q ∧ Below w12.heap.size w12 wr) (fun i _ => xn - (intOf i).toNat)
  case atStart => exact ⟨0, by omega, rfl, Below.refl _ _⟩
  case round =>
    obtain ⟨q, hq, rfl, hb⟩ := hrel
    by_cases hlt : q < xn
    · obtain ⟨ba, oa, hA1, _, hca⟩ := (HSA12.out.thr hb).at_ hlt
      obtain ⟨bc, oc, hA2, _, hcc⟩ := (HSC12.out.thr hb).at_ hlt
      obtain ⟨bl, ol, hA3, _, hcl⟩ := (HSL.out.thr hb).at_ hlt
      subst hA1 hA2 hA3
      have ea := hca q _ (ints_get _ q (by rw [(HLEN.out k).1]; exact hlt))
      have ec := hcc q _ (ints_get _ q (by rw [(HLEN.out r).2]; exact hlt))
      have el := hcl q _ (ints_get _ q (by rw [(HLEN.out nn).1]; exact hlt))
      have hadd := HADD.out q hlt
      have hba := HBND.out k q hlt
      have hbl := HBND.out nn q hlt
      obtain ⟨va, hva⟩ : ∃ z, (volL ⟨fr, some ⟨b0, o0, none⟩, xn, d, ss, false⟩ k).getD q 0 = z := ⟨_, rfl⟩
      obtain ⟨vc, hvc⟩ : ∃ z, (volL ⟨fr + k, xA, xn, xc, xs, false⟩ r).getD q 0 = z := ⟨_, rfl⟩
      obtain ⟨vl, hvl⟩ : ∃ z, (volL ⟨fr, some ⟨b0, o0, none⟩, xn, d, ss, false⟩ nn).getD q 0 = z := ⟨_, rfl⟩
      rw [hva] at ea hadd hba
      rw [hvc] at ec hadd
      rw [hvl] at el hadd hbl
      have hne : (va + vc != vl) = false := by rw [hadd]; simp
      obtain ⟨a0, a1⟩ := hba
      have b1 : -100 ≤ vc := by omega
      have b2 : vc ≤ 100 := by omega
      have hqi : (q : Int) < (xn : Int) := by omega
      clear hva hvc hvl hca hcc hcl hadd hbl
      go_upto_region 18 with fail
      go_quiet (fail)
      have HB13 := hide (below_drewN hb nq)
      clear ea ec el hne a0 a1 b1 b2 hb
      go_wp2
      go_roundw
      case rel => exact ⟨q + 1, by omega, by go_num, HB13.out⟩
      case measure => simp [intOf]; omega
    · have HB13 := hide (bthr HB12.out hb HB12.out.size)
      have HOK13 := hide (Bd.ok.thr HOK12.out hb)
      have HQ13 := hide (HQ12.out.below hb HQ12.out.lt)
      have hki : ¬ ((q : Int) < (xn : Int)) := by omega
      obtain ⟨c0, c1, c2, cf⟩ := HQ13.out.facts3
      have HW := hide (withdraw_any ⟨fr, some ⟨b0, o0, none⟩, xn, d, ss, false⟩ wr HOK13.out)
      unfold BdRes at HW
      rw [HEB.out] at HW
      unfold Bd.arr at HW
      simp only [forall_const, ne_eq, not_true_eq_false, false_implies, true_and] at HW
      clear hb
      go_wp2_with fail
      refine HW.out.mono ?_
      rintro e w14 ⟨x, rfl, hx, hb14⟩
      obtain ⟨xf2, xA2, xn2, xc2, xs2, xw2⟩ := x
      obtain ⟨hx1, hx2, hx3, hx4, hx5, _⟩ := hx
      simp only at hx1 hx2 hx3 hx4 hx5
      have hxl := cut_len hx4
      have hxg := cut_good (x := ⟨xf2, xA2, xn2, xc2, xs2, xw2⟩) hx4 hx5 HG.out HLF.out
      have hfr2 : xf2 = fr := by rw [hx1]; omega
      subst hfr2 hx2
      have HER := hide (made_err (x := ⟨xf2, xA2, xn2, xc2, xs2, true⟩) (nn := nn - 0) ⟨by simp only; omega, by simp only; omega⟩ (by have := HN.out; simp only; omega) hx3 (by omega) hxg)
      have HOKW := hide hx5.ok
      clear hx1 hx3 hx4 hx5 hxl hxg c0 c1 c2 cf HW
      simp only
      have q15 := (HQ13.out.below hb14 HQ13.out.lt).alloc (.cells #[.int .i64 xf2, .slice xA2 xn2 xc2, .bool true] 27)
      have p15 := Blk.new w14 27 #[.int .i64 xf2, .slice xA2 xn2 xc2, .bool true]
      have hB14 := bthr HB13.out hb14 HB13.out.size
      have HB15 := hide (hB14.alloc hB14.size (.cells #[.int .i64 xf2, .slice xA2 xn2 xc2, .bool true] 27))
      have HOK15 := hide (Bd.ok.thr HOKW.out (bel1 (o := .cells #[.int .i64 xf2, .slice xA2 xn2 xc2, .bool true] 27)))
      clear hb14 hB14 HB13 HOK13 HQ13 HOKW
      go_upto_region 22 with fail
      generalize w14.alloc _ = w15 at *
      generalize w14.heap.size = g15 at *
      obtain ⟨c0, c1, c2, cf⟩ := q15.facts3
      obtain ⟨d0, d1, d2, df⟩ := p15.facts3
      have HM := hide (mean_any ⟨xf2, xA2, xn2, xc2, xs2, true⟩ xf2 w15 HOK15.out)
      rw [gone_step HER.out rfl, if_neg (by decide)] at HM
      unfold Bd.arr at HM
      simp only at HM
      clear q15 p15
      go_wp2_with fail
      refine HM.out.mono ?_
      rintro e w16 ⟨rfl, hb16⟩
      have HB16 := hide (bthr HB15.out hb16 HB15.out.size)
      clear hb16 c0 c1 c2 cf d0 d1 d2 df HM HB15
      go_wp2_with fail
      refine (awake_any _).mono ?_
      rintro e wz ⟨rfl, hbz⟩
      have HBY := hide (bthr HB16.out hbz HB16.out.size)
      clear hbz
      go_wp2
      go_ret
      exact ⟨rfl, HBY.out⟩
end Go.Proofs.Ytmlpimidbgeacaa
