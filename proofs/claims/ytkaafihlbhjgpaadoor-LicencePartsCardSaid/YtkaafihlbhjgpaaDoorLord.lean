/-
  Order has each number once, by rank, and of one rank ascending, and Active is the part of it that applies: the walk of LicenceOrder. Conditions: the list can be read, and the table of kinds holds what the program lays.
-/
import Derived.Test.YtkaafihlbhjgpaaDoorProg
import Derived.Test.YtkaafihlbhjgpaaDoorAcv
import Derived.Test.YtkaafihlbhjgpaaDoorLaw12
namespace Go.Proofs.YtkaafihlbhjgpaaDoor
open Go.RowKit

def Rk (cs : List Cd) (x y : Int) : Prop := rankC cs x < rankC cs y ∨ rankC cs x = rankC cs y ∧ x < y
theorem idxs_lt (n : Nat) : (idxs n).Pairwise fun x z => x < z := by
  unfold idxs
  rw [List.pairwise_map]
  exact List.pairwise_lt_range.imp fun h => by omega
theorem cmp3_neg {x y : Int} : cmp3 x y < 0 ↔ x < y := by
  unfold cmp3
  split
  · omega
  · split <;> omega
theorem ordC_spec (cs : List Cd) : (ordC cs).Pairwise (Rk cs) ∧ (ordC cs).Perm (idxs cs.length) := by
  refine sortK_sorted (fun x y z _ _ _ h1 h2 => ?_) ((idxs_lt _).imp fun {x z} h => ?_)
  · simp only [Rk] at *; omega
  · simp only [Rk, cmpC, cmp3_neg]; omega
theorem ord_next {cs : List Cd} {i : Nat} (h : i + 1 < cs.length) : Rk cs ((ordC cs).getD i 0) ((ordC cs).getD (i + 1) 0) := by
  have hl := ordC_length cs
  have := List.pairwise_iff_getElem.1 (ordC_spec cs).1 i (i + 1) (by omega) (by omega) (by omega)
  simpa [List.getD_eq_getElem?_getD, show i < (ordC cs).length by omega, show i + 1 < (ordC cs).length by omega] using this
theorem ord_in {cs : List Cd} {i : Nat} (h : i < cs.length) : 0 ≤ (ordC cs).getD i 0 ∧ (ordC cs).getD i 0 < cs.length := by
  have hl := ordC_length cs
  rw [List.getD_eq_getElem?_getD, List.getElem?_eq_getElem (by omega)]
  exact ordC_mem _ (List.getElem_mem _)
theorem keepL_cut (p : Int → Bool) (xs : List Int) (i : Nat) : keepL p xs = keepL p (xs.take i) ++ keepL p (xs.drop i) := by
  unfold keepL; rw [← List.filter_append, List.take_append_drop]
theorem act_at {p : Int → Bool} {xs : List Int} {i : Nat} (h : i < xs.length) (hp : p (xs.getD i 0) = false) : (keepL p (xs.take i)).length < (keepL p xs).length ∧ (keepL p xs).getD (keepL p (xs.take i)).length 0 = xs.getD i 0 := by
  have h1 := keepL_cut p xs (i + 1)
  rw [keepL_snoc_in h hp] at h1
  rw [h1]
  refine ⟨by simp, ?_⟩
  rw [List.getD_eq_getElem?_getD, List.append_assoc, List.getElem?_append_right (Nat.le_refl _), Nat.sub_self]
  rfl
set_option maxHeartbeats 3200000 in
set_option maxRecDepth 20000 in
theorem order_walk {A : Option Addr} {n c : Nat} {zs : List Int} {w : World} (hT : KT w) (hs : Sl w w.heap.size 1 A n c (ints zs)) (dy lv : Int) : Calls Tryd.prog 4 #[.slice A n c, .int .i64 dy, .int .i64 lv] w fun e w' => e = .returned (.bool true) ∧ Below w.heap.size w w' := by
  have hw0 := hT.pos
  go_enter Tryd.func4, Tryd.ntmps4
  go_wp2_with fail
  refine (new_any _ _ _ _ _ hs).mono ?_
  rintro e w1 ⟨rfl, hD1, hb1⟩
  clear hs
  go_wp2_with fail
  refine (conds_any _ _ hD1).mono ?_
  rintro e w2 ⟨v, cs, rfl, hcl, hcg, hv, _, hg2⟩
  have hB := below_grown hb1 hg2 hb1.size (Nat.le_refl _)
  obtain ⟨A2, c2, rfl, hsl⟩ := own_sl hv
  clear hD1 hg2 hb1 hv
  obtain ⟨m, hm⟩ : ∃ m, m = cs.length := ⟨_, rfl⟩
  rw [← hm] at hsl hcl ⊢
  have HG := hide (fun x hx => good_err (hcg x hx))
  have HM := hide hm
  clear hcg hm
  go_wp2_with fail
  refine (order_any A2 m c2 cs w2 (by omega) hsl).mono ?_
  rintro e w3 ⟨v3, rfl, hrow, hb3⟩
  obtain ⟨A3, c3, rfl, ho⟩ := hrow.sl
  have hB3 := bthr hB hb3 hB.size
  have hsl3 := hsl.thr hb3
  clear hrow hB hb3 hsl
  obtain ⟨x, hx⟩ : ∃ x, x = dy % 365 := ⟨_, rfl⟩
  obtain ⟨y, hy⟩ : ∃ y, y = lv % 150 := ⟨_, rfl⟩
  have x0 : 0 ≤ x ∧ x < 365 := by omega
  have y0 : 0 ≤ y ∧ y < 150 := by omega
  have HX := hide hx
  have HY := hide hy
  clear hx hy
  go_wp2_with (go_at_call 10; refine (mod_any _ _ (by omega) (by omega) _).mono ?_; rintro e w1 ⟨rfl, rfl⟩; first | rw [← HX.out] | rw [← HY.out])
  have z0 : 80 ≤ 80 + y ∧ 80 + y < 230 := by omega
  generalize 80 + y = z at *
  refine (active_ok A2 m c2 cs x z w3 (by omega) HG.out (wit_of (by omega) (by omega)) (wit_of (by omega) (by omega)) hsl3).mono ?_
  rintro e w4 ⟨A4, c4, rfl, ha, hb4⟩
  have hB4 := bthr hB3 hb4 hB3.size
  have HS := hide (hsl3.thr hb4)
  have HO := hide (ho.thr hb4)
  have HA := hide ha
  have HB4 := hide hB4
  have hT4 := hide (hT.below hB4 hw0)
  clear hB3 hb4 hsl3 ho ha hB4
  obtain ⟨q, hq⟩ : ∃ q, q = (actC cs x z).length := ⟨_, rfl⟩
  have HQ := hide hq
  rw [← hq] at HA ⊢
  clear hq
  have hql : q ≤ m := by
    have h1 := keepL_le (fun i => !appC cs x z i) (ordC cs)
    rw [ordC_length] at h1
    have h2 := HQ.out
    have h3 := HM.out
    unfold actC at h2; omega
  have HLO := hide (ordC_length cs)
  have HON := hide (fun (i : Nat) (h : i + 1 < m) => ord_next (cs := cs) (i := i) (by have := HM.out; omega))
  have HOI := hide (fun (i : Nat) (h : i < m) => ord_in (cs := cs) (i := i) (by have := HM.out; omega))
  have HAT := hide (fun (i : Nat) (h : i < m) (hp : (!appC cs x z ((ordC cs).getD i 0)) = false) => act_at (p := fun i => !appC cs x z i) (xs := ordC cs) (i := i) (by have := HLO.out; have := HM.out; omega) hp)
  have HIN := hide (fun (i : Nat) (h : i < m) (hp : (!appC cs x z ((ordC cs).getD i 0)) = false) => keepL_snoc_in (p := fun i => !appC cs x z i) (xs := ordC cs) (k := i) (by have := HLO.out; have := HM.out; omega) hp)
  have HOUT := hide (fun (i : Nat) (h : i < m) (hp : (!appC cs x z ((ordC cs).getD i 0)) = true) => keepL_snoc_out (p := fun i => !appC cs x z i) (xs := ordC cs) (k := i) (by have := HLO.out; have := HM.out; omega) hp)
  go_wp2
  go_loopw [13, 44] (fun vn vi wr => ∃ i : Nat, i ≤ m ∧ vi = .int .i64 i ∧ vn = .int .i64 ((keepL (fun i => !appC cs x z i) ((ordC cs).take i)).length : Nat) ∧ Below w4.heap.size w4 wr) (fun _ vi _ => m - (intOf vi).toNat)
  case atStart => exact ⟨0, by omega, rfl, by simp [keepL], Below.refl _ _⟩
  case round =>
    obtain ⟨i, hi, rfl, rfl, hb⟩ := hrel
    by_cases hlt : i < m
    · obtain ⟨o0, o1⟩ := HOI.out i hlt
      have hM := HM.out
      have hLO := HLO.out
      obtain ⟨k, hk⟩ : ∃ k : Nat, (ordC cs).getD i 0 = (k : Int) := ⟨((ordC cs).getD i 0).toNat, by omega⟩
      have hkm : k < m := by omega
      obtain ⟨bo, oo, rfl, hbo, hco⟩ := (HO.out.thr hb).at_ hlt
      obtain ⟨bl, ol, rfl, hbl, hcl2⟩ := (HS.out.thr hb).at_ hlt
      have co := hco i _ (ints_get (ordC cs) i (by omega))
      rw [hk] at co
      rcases ek : cs[k]'(by omega) with ⟨r, k1, v1, f1, t1, x1, y1⟩
      obtain ⟨e0, e1, e2, e3, e4, e5, e6⟩ := cd_cells (B := 0) (n := 0) (c := 0) hcl2 (by omega) ek
      have hek := HG.out _ (List.getElem_mem (show k < cs.length by omega))
      rw [ek] at hek
      have HAP := hide (fun W => applies_ok ⟨r, k1, v1, f1, t1, x1, y1⟩ x z W hek)
      have hapc : appC cs x z k = (inB f1 t1 x && decide (x1 ≤ z) && decide (z ≤ y1)) := by
        unfold appC; simp [List.getD_eq_getElem?_getD, show k < cs.length by omega, ek]
      have hrk : rankC cs k = r := by
        unfold rankC; simp [List.getD_eq_getElem?_getD, show k < cs.length by omega, ek]
      have HAP2 := hide (fun W => show Calls Tryd.prog 11 #[.agg #[.int .i64 r, .int .i64 k1, .int .i64 v1, .int .i64 f1, .int .i64 t1, .int .i64 x1, .int .i64 y1], .int .i64 x, .int .i64 z] W fun e w' => e = .returned (.bool (appC cs x z k)) ∧ Below W.heap.size W w' by
        rw [hapc]; exact HAP.out W)
      have HA1 := hide (fun (h : (!appC cs x z k) = false) => HAT.out i hlt (by rw [hk]; exact h))
      have HI1 := hide (fun (h : (!appC cs x z k) = false) => HIN.out i hlt (by rw [hk]; exact h))
      have HU1 := hide (fun (h : (!appC cs x z k) = true) => HOUT.out i hlt (by rw [hk]; exact h))
      obtain ⟨N, hN⟩ : ∃ N, N = (keepL (fun i => !appC cs x z i) ((ordC cs).take i)).length := ⟨_, rfl⟩
      have hNm : N ≤ i := by
        rw [hN]; have := keepL_le (fun i => !appC cs x z i) ((ordC cs).take i); rw [List.length_take] at this; omega
      have HA2 := hide (fun (h : (!appC cs x z k) = false) => show N < q ∧ (actC cs x z).getD N 0 = (k : Int) by
        have h1 := HA1.out h
        rw [← hN, hk] at h1
        rw [HQ.out]; exact h1)
      have HI2 := hide (fun (h : (!appC cs x z k) = false) => show (keepL (fun i => !appC cs x z i) ((ordC cs).take (i + 1))).length = N + 1 by
        rw [HI1.out h, List.length_append, ← hN]; rfl)
      have HU2 := hide (fun (h : (!appC cs x z k) = true) => show (keepL (fun i => !appC cs x z i) ((ordC cs).take (i + 1))).length = N by
        rw [HU1.out h, ← hN])
      rw [← hN]
      have HB := hide hb
      have hk0 : (0 : Int) ≤ (k : Int) := by omega
      have hk1 : (k : Int) < (m : Int) := by omega
      clear HA1 HI1 HU1 hN
      have D1 : decide ((k : Int) < 0) = false := decide_eq_false (by omega)
      have D2 : decide (m ≤ k) = false := decide_eq_false (by omega)
      by_cases hi0 : i = 0
      · subst hi0
        clear ek
        clear o0 o1 hM hLO hapc hek hco hb HAP hrk
        rw [Nat.add_zero] at co
        have D3 : decide ((0 : Int) < ((0 : Nat) : Int)) = false := rfl
        go_wp2_with fail
        go_quiet (fail)
        go_wp2_with fail
        refine (HAP2.out _).mono ?_
        rintro e w6 ⟨rfl, hb6⟩
        have HB6 := hide (bthr (below_drewN HB.out _) hb6 (below_drewN HB.out _).size)
        clear hb6 e0 e1 e2 e3 e4 e5 e6 co
        cases hap : appC cs x z k
        · have hs := hide (HU2.out (by rw [hap]; rfl))
          clear hap
          go_wp2
          go_roundw
          case rel => exact ⟨0 + 1, by omega, by go_num, by rw [hs.out], HB6.out⟩
          case measure => simp [intOf]; omega
        · have hs := hide (HI2.out (by rw [hap]; rfl))
          obtain ⟨g1, g2⟩ := HA2.out (by rw [hap]; rfl)
          obtain ⟨ba, oa, rfl, _, hca⟩ := HA.out.at_ g1
          have ca := cell_thr HB6.out (hca N _ (ints_get _ N (by rw [← HQ.out]; exact g1)))
          rw [g2] at ca
          have D7 : decide (q ≤ N) = false := decide_eq_false (by omega)
          clear hap hca g2
          go_wp2
          go_roundw
          case rel => exact ⟨0 + 1, by omega, by go_num, by rw [hs.out]; go_num, HB6.out⟩
          case measure => simp [intOf]; omega
      · obtain ⟨i, rfl⟩ : ∃ i', i = i' + 1 := ⟨i - 1, by omega⟩
        have hR := HON.out i hlt
        rw [hk] at hR
        obtain ⟨p0, p1⟩ := HOI.out i (by omega)
        obtain ⟨kp, hkp⟩ : ∃ kp : Nat, (ordC cs).getD i 0 = (kp : Int) := ⟨((ordC cs).getD i 0).toNat, by omega⟩
        have cp := hco i _ (ints_get (ordC cs) i (by omega))
        rw [hkp] at cp hR
        rcases ekp : cs[kp]'(by omega) with ⟨rp, k2, v2, f2, t2, x2, y2⟩
        have d0 := (cd_cells (B := 0) (n := 0) (c := 0) hcl2 (by omega) ekp).1
        have hrp : rankC cs kp = rp := by
          unfold rankC; simp [List.getD_eq_getElem?_getD, show kp < cs.length by omega, ekp]
        unfold Rk at hR
        rw [hrk, hrp] at hR
        have hkp0 : (0 : Int) ≤ (kp : Int) := by omega
        have hkp1 : (kp : Int) < (m : Int) := by omega
        have i0 : (0 : Int) ≤ (i : Int) := by omega
        have i1 : (i : Int) < (m : Int) := by omega
        have i2 : (0 : Int) < (i : Int) + 1 := by omega
        clear ek ekp
        clear o0 o1 hM hLO hapc hek hco hb HAP hkp hrk hrp p0 p1
        have D3 : decide ((0 : Int) < (i : Int) + 1) = true := decide_eq_true (by omega)
        have D4 : decide (r < rp) = false := decide_eq_false (by omega)
        rcases hR with hR | ⟨hR, hR2⟩
        · have hne1 : (rp == r) = false := beq_false_of_ne (by omega)
          go_wp2_with fail
          go_quiet (fail)
          go_wp2_with fail
          refine (HAP2.out _).mono ?_
          rintro e w6 ⟨rfl, hb6⟩
          have HB6 := hide (bthr (below_drewN HB.out _) hb6 (below_drewN HB.out _).size)
          clear hb6 e0 e1 e2 e3 e4 e5 e6 co
          cases hap : appC cs x z k
          · have hs := hide (HU2.out (by rw [hap]; rfl))
            clear hap
            go_wp2
            go_roundw
            case rel => exact ⟨(i + 1) + 1, by omega, by go_num, by rw [hs.out], HB6.out⟩
            case measure => simp [intOf]; omega
          · have hs := hide (HI2.out (by rw [hap]; rfl))
            obtain ⟨g1, g2⟩ := HA2.out (by rw [hap]; rfl)
            obtain ⟨ba, oa, rfl, _, hca⟩ := HA.out.at_ g1
            have ca := cell_thr HB6.out (hca N _ (ints_get _ N (by rw [← HQ.out]; exact g1)))
            rw [g2] at ca
            have D7 : decide (q ≤ N) = false := decide_eq_false (by omega)
            clear hap hca g2
            go_wp2
            go_roundw
            case rel => exact ⟨(i + 1) + 1, by omega, by go_num, by rw [hs.out]; go_num, HB6.out⟩
            case measure => simp [intOf]; omega
        · subst hR
          have D6 : decide (k ≤ kp) = false := decide_eq_false (by omega)
          go_wp2_with fail
          go_quiet (fail)
          go_wp2_with fail
          refine (HAP2.out _).mono ?_
          rintro e w6 ⟨rfl, hb6⟩
          have HB6 := hide (bthr (below_drewN HB.out _) hb6 (below_drewN HB.out _).size)
          clear hb6 e0 e1 e2 e3 e4 e5 e6 co
          cases hap : appC cs x z k
          · have hs := hide (HU2.out (by rw [hap]; rfl))
            clear hap
            go_wp2
            go_roundw
            case rel => exact ⟨(i + 1) + 1, by omega, by go_num, by rw [hs.out], HB6.out⟩
            case measure => simp [intOf]; omega
          · have hs := hide (HI2.out (by rw [hap]; rfl))
            obtain ⟨g1, g2⟩ := HA2.out (by rw [hap]; rfl)
            obtain ⟨ba, oa, rfl, _, hca⟩ := HA.out.at_ g1
            have ca := cell_thr HB6.out (hca N _ (ints_get _ N (by rw [← HQ.out]; exact g1)))
            rw [g2] at ca
            have D7 : decide (q ≤ N) = false := decide_eq_false (by omega)
            clear hap hca g2
            go_wp2
            go_roundw
            case rel => exact ⟨(i + 1) + 1, by omega, by go_num, by rw [hs.out]; go_num, HB6.out⟩
            case measure => simp [intOf]; omega
    · obtain rfl : i = m := by omega
      have hlast : (keepL (fun i => !appC cs x z i) ((ordC cs).take i)).length = q := by
        rw [List.take_of_length_le (by have := HLO.out; have := HM.out; omega), HQ.out]; rfl
      rw [hlast]
      have HB6 := hide (bthr HB4.out hb HB4.out.size)
      have HT6 := hide (hT4.out.below hb hT4.out.pos)
      clear hb hlast
      go_wp2_with fail
      refine (awake_any _ HT6.out).mono ?_
      rintro e w7 ⟨rfl, hb7⟩
      go_wp2
      go_ret
      exact ⟨rfl, bthr HB6.out hb7 HB6.out.size⟩
end Go.Proofs.YtkaafihlbhjgpaaDoor
