/-
  What a release keeps and violates of a list is what it keeps and violates of both parts, and together they are all active ones: the walk of LicenceParts. Conditions: the list can be read, and the table of kinds holds what the program lays.
-/
import Derived.Test.YtkaafihlbhjgpaaDoorProg
import Derived.Test.YtkaafihlbhjgpaaDoorLris
namespace Go.Proofs.YtkaafihlbhjgpaaDoor
open Go.RowKit

theorem cdCells_take (cs : List Cd) (k : Nat) : (cdCells cs).take (k * 7) = cdCells (cs.take k) := by
  rcases Nat.lt_or_ge cs.length k with h | h
  · rw [List.take_of_length_le (by rw [cdCells_length]; omega), List.take_of_length_le (by omega)]
  · have e : cdCells cs = cdCells (cs.take k) ++ cdCells (cs.drop k) := by rw [← cdCells_append, List.take_append_drop]
    rw [e, List.take_append_of_le_length (by rw [cdCells_length, List.length_take]; omega), List.take_of_length_le (by rw [cdCells_length, List.length_take]; omega)]
theorem cdCells_drop (cs : List Cd) (k : Nat) : (cdCells cs).drop (k * 7) = cdCells (cs.drop k) := by
  rcases Nat.lt_or_ge cs.length k with h | h
  · rw [List.drop_of_length_le (by rw [cdCells_length]; omega), List.drop_of_length_le (by omega)]; rfl
  · have e : cdCells cs = cdCells (cs.take k) ++ cdCells (cs.drop k) := by rw [← cdCells_append, List.take_append_drop]
    rw [e, List.drop_append_of_le_length (by rw [cdCells_length, List.length_take]; omega), List.drop_of_length_le (by rw [cdCells_length, List.length_take]; omega), List.nil_append]
theorem sl_take {w : World} {B m c k b o : Nat} {cs : List Cd} (h : Sl w B 7 (some ⟨b, o, none⟩) m c (cdCells cs)) (hk : k ≤ m) : Sl w B 7 (some ⟨b, o, none⟩) k c (cdCells (cs.take k)) := by
  obtain ⟨h1, h2, h3, h4⟩ := h
  rw [cdCells_length] at h1
  refine ⟨by rw [cdCells_length, List.length_take]; omega, by omega, h3, fun hn => ?_⟩
  obtain ⟨b', o', e, hb, hc⟩ := h4 (by omega)
  refine ⟨b', o', e, hb, fun j u hu => hc j u ?_⟩
  rw [← cdCells_take, List.getElem?_take] at hu
  split at hu
  · exact hu
  · cases hu
theorem sl_drop {w : World} {B m c k b o : Nat} {cs : List Cd} (h : Sl w B 7 (some ⟨b, o, none⟩) m c (cdCells cs)) (hk : k ≤ m) : Sl w B 7 (some ⟨b, o + k * 7, none⟩) (m - k) (c - k) (cdCells (cs.drop k)) := by
  obtain ⟨h1, h2, h3, h4⟩ := h
  rw [cdCells_length] at h1
  refine ⟨by rw [cdCells_length, List.length_drop]; omega, by omega, by omega, fun hn => ?_⟩
  obtain ⟨b', o', e, hb, hc⟩ := h4 (by omega)
  have e1 : b' = b ∧ o' = o := by injection e with e; injection e with e1 e2; exact ⟨e1.symm, e2.symm⟩
  obtain ⟨rfl, rfl⟩ := e1
  refine ⟨b', o' + k * 7, rfl, hb, fun j u hu => ?_⟩
  rw [← cdCells_drop, List.getElem?_drop] at hu
  rw [Nat.add_assoc]; exact hc _ u hu
theorem keptL_at {cs : List Cd} {d lv bf rl : Int} {j : Nat} (h : j < (keptL cs d lv bf rl).length) : ∃ i : Nat, (keptL cs d lv bf rl).getD j 0 = (i : Int) ∧ i < cs.length ∧ bLeast (cs.getD i cd0) bf ≤ rl ∧ rl ≤ bMost (cs.getD i cd0) bf := by
  have hm : (keptL cs d lv bf rl).getD j 0 ∈ keptL cs d lv bf rl := by
    rw [List.getD_eq_getElem?_getD, List.getElem?_eq_getElem h]; exact List.getElem_mem _
  obtain ⟨⟨⟨h0, h1⟩, _⟩, h2⟩ := keptL_mem.1 hm
  refine ⟨((keptL cs d lv bf rl).getD j 0).toNat, by omega, by omega, ?_⟩
  simpa [kepC, kepB] using h2
theorem kept0 (d lv bf rl : Int) : keptL [] d lv bf rl = [] := rfl
theorem viol0 (d lv bf rl : Int) : violL [] d lv bf rl = [] := rfl
theorem act0 (d lv : Int) : actC [] d lv = [] := rfl
set_option maxHeartbeats 3200000 in
set_option maxRecDepth 20000 in
theorem parts_walk {A : Option Addr} {n c : Nat} {zs : List Int} {w : World} (hT : KT w) (hs : Sl w w.heap.size 1 A n c (ints zs)) (by_ : Int) : Calls Tryd.prog 6 #[.slice A n c, .int .i64 by_] w fun e w' => e = .returned (.bool true) ∧ Below w.heap.size w w' := by
  have hw0 := hT.pos
  go_enter Tryd.func6, Tryd.ntmps6
  go_wp2_with fail
  refine (new_any _ _ _ _ _ hs).mono ?_
  rintro e w1 ⟨rfl, hD1, hb1⟩
  have hw1 := hD1.lt
  clear hs
  go_wp2_with fail
  refine (conds_any _ _ hD1).mono ?_
  rintro e w2 ⟨v, cs, rfl, hcl, hcg, hv, hD2, hg2⟩
  have hB := below_grown hb1 hg2 hb1.size (Nat.le_refl _)
  clear hD1 hg2 hb1
  obtain ⟨m, hm⟩ : ∃ m, m = cs.length := ⟨_, rfl⟩
  rw [← hm] at hv hcl
  have HG := hide (fun x hx => good_err (hcg x hx))
  have HM := hide hm
  clear hcg hm
  go_wp2_with fail
  refine (next_any _ _ (by omega) _ hD2).mono ?_
  rintro e w3 ⟨d, rfl, hd0, hd1, hD3, hg3, _⟩
  have hB3 := below_grown hB hg3 hB.size (Nat.le_refl _)
  have hv3 := hv.kept hg3 (own_ne hv (by omega))
  clear hB hD2 hg3 hv
  have hd : 0 ≤ d ∧ d < 365 := by omega
  clear hd0 hd1
  go_wp2_with fail
  refine (next_any _ _ (by omega) _ hD3).mono ?_
  rintro e w4 ⟨lv, rfl, hl0, hl1, hD4, hg4, _⟩
  have hB4 := below_grown hB3 hg4 hB3.size (Nat.le_refl _)
  have hv4 := hv3.kept hg4 (own_ne hv3 (by omega))
  clear hB3 hD3 hg4 hv3
  have hl : 0 ≤ lv ∧ lv < 150 := by omega
  clear hl0 hl1
  go_wp2_with fail
  refine (next_any _ _ (by omega) _ hD4).mono ?_
  rintro e w5 ⟨bf, rfl, hb0, hb1, hD5, hg5, _⟩
  have hB5 := below_grown hB4 hg5 hB4.size (Nat.le_refl _)
  have hv5 := hv4.kept hg5 (own_ne hv4 (by omega))
  clear hB4 hD4 hg5 hv4
  have hbf : 0 ≤ bf ∧ bf < 30 := by omega
  clear hb0 hb1
  go_wp2_with fail
  refine (next_any _ _ (by omega) _ hD5).mono ?_
  rintro e w6 ⟨rl, rfl, hr0, hr1, hD6, hg6, _⟩
  have hB6 := below_grown hB5 hg6 hB5.size (Nat.le_refl _)
  have hv6 := hv5.kept hg6 (own_ne hv5 (by omega))
  clear hB5 hD5 hg6 hv5 hD6
  have hrl : 0 ≤ rl ∧ rl < 60 := by omega
  clear hr0 hr1
  have q0 : 0 ≤ by_ % ((m : Int) + 1) := Int.emod_nonneg _ (by omega)
  have q1 : by_ % ((m : Int) + 1) < (m : Int) + 1 := Int.emod_lt_of_pos _ (by omega)
  obtain ⟨k, hk⟩ : ∃ k : Nat, by_ % ((m : Int) + 1) = (k : Int) := ⟨(by_ % ((m : Int) + 1)).toNat, (Int.toNat_of_nonneg q0).symm⟩
  rw [hk] at q0 q1
  have HKK := hide hk
  have hkm : k ≤ m := by omega
  clear hk q0 q1
  have wd := wit_of (show 0 ≤ d by omega) (show d ≤ 364 by omega)
  have wl := wit_of (show 0 ≤ 80 + lv by omega) (show 80 + lv ≤ 16777216 by omega)
  have HWD := hide wd
  have HWL := hide wl
  clear wd wl
  obtain ⟨hlen, hform⟩ := hv6
  rcases hform with ⟨hvn, hxs⟩ | ⟨b, c2, cur, hvs, hbb, hh, hcc, hcm, hcz, hcur⟩
  · subst hvn
    subst hxs
    obtain rfl : cs = [] := List.eq_nil_of_length_eq_zero HM.out.symm
    obtain rfl : k = 0 := by omega
    have HS6 := hide (Sl.none_ w6 w6.heap.size 7)
    clear hlen HKK
    go_wp2_with fail
    refine (mod_any by_ 1 (by omega) (by omega) _).mono ?_
    rintro e w1 ⟨rfl, rfl⟩
    rw [show by_ % 1 = 0 by omega]
    go_wp2_with fail
    with_reducible refine (kept_ok _ 0 0 [] d (80 + lv) bf rl w6 (hT.below hB6 hw0) (by omega) HG.out HWD.out HWL.out (by omega) (by omega) HS6.out).mono ?_
    rintro e w7 ⟨A7, c7, A8, c8, rfl, _, _, hb7⟩
    simp only [kept0, viol0, List.length_nil]
    have hB7 := bthr hB6 hb7 hB6.size
    have HS7 := hide (HS6.out.thr hb7)
    clear hB6 hb7
    go_wp2_with fail
    with_reducible refine (kept_ok _ 0 0 [] d (80 + lv) bf rl w7 (hT.below hB7 hw0) (by omega) HG.out HWD.out HWL.out (by omega) (by omega) HS7.out).mono ?_
    rintro e w8 ⟨A9, c9, A10, c10, rfl, _, _, hb8⟩
    simp only [kept0, viol0, List.length_nil]
    have hB8 := bthr hB7 hb8 hB7.size
    have HS8 := hide (HS7.out.thr hb8)
    clear hB7 hb8
    go_wp2_with fail
    with_reducible refine (kept_ok _ 0 0 [] d (80 + lv) bf rl w8 (hT.below hB8 hw0) (by omega) HG.out HWD.out HWL.out (by omega) (by omega) HS8.out).mono ?_
    rintro e w9 ⟨A11, c11, A12, c12, rfl, _, _, hb9⟩
    simp only [kept0, viol0, List.length_nil]
    have hB9 := bthr hB8 hb9 hB8.size
    have HS9 := hide (HS8.out.thr hb9)
    clear hB8 hb9
    go_wp2_with fail
    with_reducible refine (active_ok _ 0 0 [] d (80 + lv) w9 (by omega) HG.out HWD.out HWL.out HS9.out).mono ?_
    rintro e w10 ⟨A13, c13, rfl, _, hb10⟩
    simp only [act0, List.length_nil]
    have hB10 := bthr hB9 hb10 hB9.size
    have HT10 := hide (hT.below hB10 hw0)
    have HB10 := hide hB10
    clear hB9 hb10 hB10
    go_wp2
    refine wp_loop_rounds 1 ?_
    rw [rounds_succ]
    go_wp2_with fail
    refine (awake_any _ HT10.out).mono ?_
    rintro e w11 ⟨rfl, hb11⟩
    go_wp2
    go_ret
    exact ⟨rfl, bthr HB10.out hb11 HB10.out.size⟩
  · subst hvs
    have hsl6 : Sl w6 w6.heap.size 7 (some ⟨b, 0, none⟩) m c2 (cdCells cs) := by
      obtain ⟨A9, c9, he9, hsl⟩ := own_sl (w := w6) (base := w1.heap.size) ⟨hlen, Or.inr ⟨b, c2, cur, rfl, hbb, hh, hcc, hcm, hcz, hcur⟩⟩
      injection he9 with e1 e2 e3
      rw [e1, e3]; exact hsl
    have hcx := hcm
    unfold maxLen at hcx
    have hk0 : (0 : Int) ≤ (k : Int) := by omega
    have hk1 : (k : Int) ≤ (c2 : Int) := by omega
    have hk2 : (k : Int) ≤ (m : Int) := by omega
    have HGT := hide (fun x (hx : x ∈ cs.take k) => HG.out x (List.mem_of_mem_take hx))
    have HGD := hide (fun x (hx : x ∈ cs.drop k) => HG.out x (List.mem_of_mem_drop hx))
    clear hlen hbb hh hcm hcz hcur
    go_wp2_with fail
    refine (mod_any by_ ((m : Int) + 1) (by omega) (by omega) _).mono ?_
    rintro e w1 ⟨rfl, rfl⟩
    rw [HKK.out]
    go_wp2_with fail
    with_reducible refine (kept_ok _ m c2 cs d (80 + lv) bf rl w6 (hT.below hB6 hw0) (by omega) HG.out HWD.out HWL.out (by omega) (by omega) hsl6).mono ?_
    rintro e w7 ⟨A7, c7, A8, c8, rfl, ha, _, hb7⟩
    have hB7 := bthr hB6 hb7 hB6.size
    have hsl7 := hsl6.thr hb7
    have HA7 := hide ha
    clear hB6 hb7 hsl6 ha
    go_wp2_with fail
    with_reducible refine (kept_ok _ k c2 (cs.take k) d (80 + lv) bf rl w7 (hT.below hB7 hw0) (by omega) HGT.out HWD.out HWL.out (by omega) (by omega) (sl_take hsl7 hkm)).mono ?_
    rintro e w8 ⟨A9, c9, A10, c10, rfl, _, _, hb8⟩
    have hB8 := bthr hB7 hb8 hB7.size
    have hsl8 := hsl7.thr hb8
    have HA8 := hide (HA7.out.thr hb8)
    have HD1 := hide (show Sl w8 w8.heap.size 7 (some ⟨b, k * 7, none⟩) (m - k) (c2 - k) (cdCells (cs.drop k)) by have h := sl_drop hsl8 hkm; rwa [Nat.zero_add] at h)
    have HD2 := hide (fun (h : c2 ≤ k) => show Sl w8 w8.heap.size 7 (some ⟨b, 0, none⟩) (m - k) 0 (cdCells (cs.drop k)) by
      have h := sl_drop hsl8 hkm
      exact ⟨h.1, by omega, by unfold maxLen; omega, fun h0 => by omega⟩)
    clear hB7 hb8 hsl7 HA7
    go_wp2_with fail
    all_goals
      first
        | with_reducible refine (kept_ok _ (m - k) (c2 - k) (cs.drop k) d (80 + lv) bf rl w8 (hT.below hB8 hw0) (by omega) HGD.out HWD.out HWL.out (by omega) (by omega) HD1.out).mono ?_
        | have hck : k = c2 := by omega
          subst hck
          with_reducible refine (kept_ok _ _ 0 _ d (80 + lv) bf rl w8 (hT.below hB8 hw0) (by omega) HGD.out HWD.out HWL.out (by omega) (by omega) (HD2.out (by omega))).mono ?_
      rintro e w9 ⟨A11, c11, A12, c12, rfl, _, _, hb9⟩
      have hB9 := bthr hB8 hb9 hB8.size
      have hsl9 := hsl8.thr hb9
      have HA9 := hide (HA8.out.thr hb9)
      clear hB8 hb9 hsl8 HA8 HD1 HD2
      go_wp2_with fail
      with_reducible refine (active_ok _ m _ cs d (80 + lv) w9 (by omega) HG.out HWD.out HWL.out hsl9).mono ?_
      rintro e w10 ⟨A13, c13, rfl, _, hb10⟩
      have hB10 := bthr hB9 hb10 hB9.size
      have HSL := hide (hsl9.thr hb10)
      have HA := hide (HA9.out.thr hb10)
      have HT10 := hide (hT.below hB10 hw0)
      have HB10 := hide hB10
      have l1 := kept_cut cs d (80 + lv) bf rl k
      have l2 := viol_cut cs d (80 + lv) bf rl k
      have l3 := both_len cs d (80 + lv) bf rl
      have HAT := hide (fun (j : Nat) (h : j < (keptL cs d (80 + lv) bf rl).length) => keptL_at h)
      have hle : (keptL cs d (80 + lv) bf rl).length ≤ 1000 := by
        have h1 := keepL_le (fun i => !appC cs d (80 + lv) i) (ordC cs)
        have h2 := ordC_length cs
        have h3 := HM.out
        have h4 : (actC cs d (80 + lv)).length ≤ (ordC cs).length := h1
        omega
      have hle2 : (actC cs d (80 + lv)).length ≤ 1000 := by
        have h1 := keepL_le (fun i => !appC cs d (80 + lv) i) (ordC cs)
        have h2 := ordC_length cs
        have h3 := HM.out
        have h4 : (actC cs d (80 + lv)).length ≤ (ordC cs).length := h1
        omega
      have HBF := hide (wit_of (show 0 ≤ bf by omega) (show bf ≤ 1073741824 by omega))
      clear hB9 hb10 hsl9 HA9 hB10 HGT HGD HWD HWL hd hl hbf hrl
      generalize hL1 : (keptL cs d (80 + lv) bf rl).length = L1 at *
      generalize (violL cs d (80 + lv) bf rl).length = L2 at *
      generalize (keptL (cs.take k) d (80 + lv) bf rl).length = L3 at *
      generalize (violL (cs.take k) d (80 + lv) bf rl).length = L4 at *
      generalize (keptL (cs.drop k) d (80 + lv) bf rl).length = L5 at *
      generalize (violL (cs.drop k) d (80 + lv) bf rl).length = L6 at *
      generalize (actC cs d (80 + lv)).length = L7 at *
      have t1 : ((L1 : Int) != (L3 : Int) + (L5 : Int)) = false := by simp; omega
      have t2 : ((L2 : Int) != (L4 : Int) + (L6 : Int)) = false := by simp; omega
      have t3 : ((L1 : Int) + (L2 : Int) != (L7 : Int)) = false := by simp; omega
      have HL1 := hide hL1
      have b3 : L3 ≤ 1000 := by omega
      have b4 : L4 ≤ 1000 := by omega
      have b5 : L5 ≤ 1000 := by omega
      have b6 : L6 ≤ 1000 := by omega
      have b2 : L2 ≤ 1000 := by omega
      clear l1 l2 l3 hL1
      go_wp2
      go_loopw [126] (fun vi wr => ∃ j : Nat, j ≤ L1 ∧ vi = .int .i64 j ∧ Below w10.heap.size w10 wr) (fun vi _ => L1 - (intOf vi).toNat)
      case atStart => exact ⟨0, by omega, rfl, Below.refl _ _⟩
      case round =>
        obtain ⟨j, hj, rfl, hb⟩ := hrel
        by_cases hlt : j < L1
        · obtain ⟨i, hi, him, hlo, hhi⟩ := HAT.out j hlt
          obtain ⟨ba, oa, rfl, _, hca⟩ := (HA.out.thr hb).at_ hlt
          have ca := hca j _ (ints_get _ j (by have := HL1.out; omega))
          rw [hi] at ca
          have hMM := HM.out
          obtain ⟨bl, ol, hbo, _, hcl2⟩ := (HSL.out.thr hb).at_ (show i < m by omega)
          obtain ⟨rfl, rfl⟩ : b = bl ∧ 0 = ol := by injection hbo with e; injection e with e1 e2; exact ⟨e1, e2⟩
          rcases ek : cs[i]'him with ⟨r, k1, v1, f1, t4, x1, y1⟩
          obtain ⟨e0, e1, e2, e3, e4, e5, e6⟩ := cd_cells (B := 0) (n := 0) (c := 0) hcl2 him ek
          simp only [Nat.zero_add] at e0 e1 e2 e3 e4 e5 e6
          have hek := HG.out _ (List.getElem_mem him)
          rw [ek] at hek
          have hgd : cs.getD i cd0 = ⟨r, k1, v1, f1, t4, x1, y1⟩ := by simp [List.getD_eq_getElem?_getD, him, ek]
          rw [hgd] at hlo hhi
          have hbk : bOk ⟨r, k1, v1, f1, t4, x1, y1⟩ bf = true := by unfold bOk; rw [HBF.out, hek]; rfl
          have HBN := hide (fun W (hW : KT W) => lbnd_ok ⟨r, k1, v1, f1, t4, x1, y1⟩ bf W hW hbk)
          unfold Cd.arr at HBN
          have HTb := hide (HT10.out.below hb HT10.out.pos)
          generalize bLeast ⟨r, k1, v1, f1, t4, x1, y1⟩ bf = lo at *
          generalize bMost ⟨r, k1, v1, f1, t4, x1, y1⟩ bf = hi2 at *
          have i0 : (0 : Int) ≤ (i : Int) := by omega
          have i1 : (i : Int) < (m : Int) := by omega
          have D1 : decide ((i : Int) < 0) = false := decide_eq_false (by omega)
          have D2 : decide (m ≤ i) = false := decide_eq_false (by omega)
          have HB := hide hb
          clear hbo hMM hca hi hcl2 ek hek hgd hbk hb
          go_wp2_with fail
          refine (HBN.out _ HTb.out).mono ?_
          rintro e w11 ⟨rfl, hb11⟩
          have hB11 := HB.out.trans (hb11.mono HB.out.size)
          have HB12 := hide (hB11.alloc hB11.size (.cells #[.int .i64 lo, .int .i64 hi2] 51))
          clear hb11 e0 e1 e2 e3 e4 e5 e6 ca hB11
          go_wp2
          go_roundw
          case rel => exact ⟨j + 1, by omega, by go_num, HB12.out⟩
          case measure => simp [intOf]; omega
        · obtain rfl : j = L1 := by omega
          have HB11 := hide (bthr HB10.out hb HB10.out.size)
          have HT11 := hide (HT10.out.below hb HT10.out.pos)
          clear hb
          go_wp2_with fail
          refine (awake_any _ HT11.out).mono ?_
          rintro e w12 ⟨rfl, hb12⟩
          go_wp2
          go_ret
          exact ⟨rfl, bthr HB11.out hb12 HB11.out.size⟩
end Go.Proofs.YtkaafihlbhjgpaaDoor
