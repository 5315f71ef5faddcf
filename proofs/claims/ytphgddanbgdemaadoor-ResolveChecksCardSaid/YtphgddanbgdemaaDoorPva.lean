/-
  The contract of the program's Proved at any choice. Conditions: each condition is valid, there are 200 at most, the table of kinds, a valid level, release before and bounds, and that the lists can be read.
-/
import Derived.Test.YtphgddanbgdemaaDoorProg
import Derived.Test.YtphgddanbgdemaaDoorPvd
import Derived.Test.YtphgddanbgdemaaDoorRsE
namespace Go.Proofs.YtphgddanbgdemaaDoor
open Go.RowKit

theorem act_nodup (cs : List Cd) (d lv : Int) : (actC cs d lv).Nodup := by
  have h : (ordC cs).Nodup := (ordC_spec cs).1.imp fun {x y} h => by unfold Rk at h; intro e; subst e; omega
  exact List.Pairwise.filter _ h
theorem fsts_snocA {ys : List (Int × Int)} {k : Nat} (h : k < ys.length) {y0 y1 : Int} (e : ys[k] = (y0, y1)) : fsts (ys.take (k + 1)) = fsts (ys.take k) ++ [y0] := by
  unfold fsts
  rw [List.take_succ_eq_append_getElem h, List.map_append, e]; rfl
set_option maxHeartbeats 3200000 in
set_option maxRecDepth 20000 in
theorem proved_bad (A B : Option Addr) (n c m c2 : Nat) (cs : List Cd) (d lv bf g0 g1 rl lo hi : Int) (w : World) (hne : ¬ chE n cs d lv bf g0 g1 0 = 0) (hs : Sl w w.heap.size 7 A n c (cdCells cs)) :
    Calls Tryd.prog 11 #[.slice A n c, .int .i64 d, .int .i64 lv, .int .i64 bf, .agg #[.int .i64 g0, .int .i64 g1], .agg #[.int .i64 rl, .int .i64 lo, .int .i64 hi, .slice B m c2]] w fun e w' => e = .returned (.bool false) ∧ Below w.heap.size w w' := by
  have q0 := (Blk.new w 23 #[.int .i64 g0, .int .i64 g1]).alloc (.cells #[.int .i64 rl, .int .i64 lo, .int .i64 hi, .slice B m c2] 26)
  have hB := (bel1 (w := w) (o := .cells #[.int .i64 g0, .int .i64 g1] 23)).alloc (by simp) (.cells #[.int .i64 rl, .int .i64 lo, .int .i64 hi, .slice B m c2] 26)
  have hs1 := hs.thr hB
  have HA := hide (fun W hs2 => rsasked_any A n c cs d lv bf g0 g1 0 W hs2)
  generalize chE n cs d lv bf g0 g1 0 = E at *
  have hne2 : (E != 0) = true := by simpa using hne
  clear hs hne
  obtain ⟨y0, y1, _⟩ := q0.facts2
  clear q0
  go_enter Tryd.func11, Tryd.ntmps11
  go_wp2_with fail
  generalize ((w.alloc _).alloc _) = w1 at *
  refine (HA.out w1 hs1).mono ?_
  rintro e w2 ⟨rfl, hb2⟩
  have HB2 := hide (bthr hB hb2 hB.size)
  clear hB hb2 hs1 y0 y1 HA
  go_wp2
  go_ret
  exact ⟨rfl, HB2.out⟩
set_option maxHeartbeats 6400000 in
set_option maxRecDepth 20000 in
theorem proved_any (A B : Option Addr) (n c m c2 : Nat) (cs : List Cd) (ys : List (Int × Int)) (d lv bf g0 g1 rl lo hi : Int) (w : World) (hT : KT w) (hn : n ≤ 200) (hg : ∀ x ∈ cs, x.err = 0) (hd : wit d 364 = true) (hv : wit lv 16777216 = true) (hbf : wit bf 1073741824 = true) (h0 : wit g0 1073741824 = true) (h1 : wit g1 1073741824 = true) (hgg : g0 ≤ g1)
    (hs : Sl w w.heap.size 7 A n c (cdCells cs)) (hy : Sl w w.heap.size 2 B m c2 (yCells ys)) :
    Calls Tryd.prog 11 #[.slice A n c, .int .i64 d, .int .i64 lv, .int .i64 bf, .agg #[.int .i64 g0, .int .i64 g1], .agg #[.int .i64 rl, .int .i64 lo, .int .i64 hi, .slice B m c2]] w fun e w' => e = .returned (.bool (prvB cs d lv bf g0 g1 rl ys)) ∧ Below w.heap.size w w' := by
  have hw0 := hT.pos
  have hl : n = cs.length := by have := hs.1; rw [cdCells_length] at this; omega
  have hm : m = ys.length := by have := hy.1; rw [yCells_len] at this; omega
  have hbf2 := wit_iff.1 hbf
  have h02 := wit_iff.1 h0
  have h12 := wit_iff.1 h1
  have q0 := (Blk.new w 23 #[.int .i64 g0, .int .i64 g1]).alloc (.cells #[.int .i64 rl, .int .i64 lo, .int .i64 hi, .slice B m c2] 26)
  have q1 := Blk.new (w.alloc (.cells #[.int .i64 g0, .int .i64 g1] 23)) 26 #[.int .i64 rl, .int .i64 lo, .int .i64 hi, .slice B m c2]
  rw [World.size_alloc] at q1
  have hB := (bel1 (w := w) (o := .cells #[.int .i64 g0, .int .i64 g1] 23)).alloc (by simp) (.cells #[.int .i64 rl, .int .i64 lo, .int .i64 hi, .slice B m c2] 26)
  have hs1 := hs.thr hB
  have HY1 := hide (hy.thr hB)
  have HL := hide hl
  have HM := hide hm
  have HG := hide hg
  have HA := hide (fun W hs2 => rsasked_ok A n c cs d lv bf g0 g1 0 W hn hg hd hv hbf (by decide) h0 h1 hgg hs2)
  have HAC := hide (fun W hs2 => active_ok A n c cs d lv W hn hg hd hv hs2)
  have HKP := hide (fun (hr : g0 ≤ rl ∧ rl ≤ g1) W hT2 hs2 => kept_ok A n c cs d lv bf rl W hT2 hn hg hd hv hbf2 (by omega) hs2)
  have HBO := hide (fun (W : World) (hT2 : KT W) (r k v f t x y : Int) (he : Cd.err ⟨r, k, v, f, t, x, y⟩ = 0) => show Calls Tryd.prog 30 #[.agg #[.int .i64 r, .int .i64 k, .int .i64 v, .int .i64 f, .int .i64 t, .int .i64 x, .int .i64 y], .int .i64 bf] W fun e w' => e = .returned (.tuple #[.agg #[.int .i64 (bLeast ⟨r, k, v, f, t, x, y⟩ bf), .int .i64 (bMost ⟨r, k, v, f, t, x, y⟩ bf)], .bool true]) ∧ Below W.heap.size W w' from
    lbnd_ok ⟨r, k, v, f, t, x, y⟩ bf W hT2 (by unfold bOk; rw [hbf, he]; rfl))
  have hm63 : m ≤ 9223372036854775807 := by have a1 := hy.2.1; have a2 := hy.2.2.1; unfold maxLen at a2; omega
  obtain ⟨R, hR⟩ : ∃ R, prvB cs d lv bf g0 g1 rl ys = R := ⟨_, rfl⟩
  rw [hR]
  have HF1 := hide (fun h => hR.symm.trans (prv_1 (d := d) (lv := lv) (cs := cs) (bf := bf) (g1 := g1) (ys := ys) (rl := rl) (g0 := g0) h))
  have HF2 := hide (fun h => hR.symm.trans (prv_2 (d := d) (lv := lv) (cs := cs) (bf := bf) (g0 := g0) (ys := ys) (rl := rl) (g1 := g1) h))
  have HF3 := hide (fun h => hR.symm.trans (prv_3 (d := d) (lv := lv) (cs := cs) (bf := bf) (g0 := g0) (g1 := g1) (ys := ys) (rl := rl) h))
  have HF4 := hide (fun ha hb h => hR.symm.trans (prv_4 (d := d) (lv := lv) (cs := cs) (bf := bf) (g0 := g0) (g1 := g1) (ys := ys) (rl := rl) ha hb h))
  have HNN := hide (act_nodup cs d lv)
  clear hl hm hg hd hv hbf h0 h1 hs hy hbf2 h02 h12 hR
  obtain ⟨y0, y1, _⟩ := q0.facts2
  obtain ⟨z0, z1, z2, z3, _⟩ := q1.facts4
  go_enter Tryd.func11, Tryd.ntmps11
  go_wp2_with fail
  generalize ((w.alloc _).alloc _) = w1 at *
  refine (HA.out w1 hs1).mono ?_
  rintro e w2 ⟨rfl, hb2⟩
  have hB2 := bthr hB hb2 hB.size
  replace q0 := q0.below hb2 q0.lt
  replace q1 := q1.below hb2 q1.lt
  have hs2 := hs1.thr hb2
  have HY2 := hide (HY1.out.thr hb2)
  clear hB hs1 hb2 HA HY1 y0 y1 z0 z1 z2 z3
  obtain ⟨y0, y1, _⟩ := q0.facts2
  obtain ⟨z0, z1, z2, z3, _⟩ := q1.facts4
  by_cases hr0 : rl < g0
  · have HX := hide (HF1.out hr0)
    have HB2 := hide hB2
    clear hB2
    go_wp2
    go_ret
    exact ⟨ret_bool HX.out.symm, HB2.out⟩
  by_cases hr1 : g1 < rl
  · have HX := hide (HF2.out hr1)
    have HB2 := hide hB2
    clear hB2
    go_wp2
    go_ret
    exact ⟨ret_bool HX.out.symm, HB2.out⟩
  have hr2 : g0 ≤ rl ∧ rl ≤ g1 := by omega
  have HF5 := hide (HF4.out hr2.1 hr2.2)
  have HKQ := hide (HKP.out hr2)
  clear HF1 HF2 HF4 HKP hr2
  go_wp2_with fail
  refine (HAC.out w2 hs2).mono ?_
  rintro e w3 ⟨A3, c3, rfl, ha, hb3⟩
  have hB3 := bthr hB2 hb3 hB2.size
  replace q0 := q0.below hb3 q0.lt
  replace q1 := q1.below hb3 q1.lt
  have hs3 := hs2.thr hb3
  have HY3 := hide (HY2.out.thr hb3)
  have hT3 := hT.below hB3 hw0
  have HAV := hide ha
  clear hB2 hs2 hb3 HAC HY2 y0 y1 z0 z1 z2 z3 ha
  obtain ⟨y0, y1, _⟩ := q0.facts2
  obtain ⟨z0, z1, z2, z3, _⟩ := q1.facts4
  go_wp2_with fail
  refine (HKQ.out w3 hT3 hs3).mono ?_
  rintro e w4 ⟨A4, c4, A5, c5, rfl, -, hv4, hb4⟩
  generalize (keptL cs d lv bf rl).length = lk
  have HVA := hide (fun (x : Int) (h : x ∈ violL cs d lv bf rl) => viol_act h)
  have HAI := hide (fun (x : Int) (h : x ∈ actC cs d lv) => act_in (cs := cs) (d := d) (lv := lv) x h)
  have HVL := hide (show (violL cs d lv bf rl).length ≤ 200 by
    have e1 := keepL_le (fun i => kepC cs bf rl i) (actC cs d lv)
    have e2 := keepL_le (fun i => !appC cs d lv i) (ordC cs)
    rw [ordC_length] at e2
    have e3 := HL.out
    unfold violL
    unfold actC at e1 ⊢
    omega)
  generalize violL cs d lv bf rl = vs at *
  generalize actC cs d lv = acs at *
  obtain ⟨vl, hvl⟩ : ∃ vl, vl = vs.length := ⟨_, rfl⟩
  rw [← hvl] at hv4 HVL HF5 HF3 ⊢
  obtain ⟨la, hla⟩ : ∃ la, la = acs.length := ⟨_, rfl⟩
  rw [← hla] at HAV ⊢
  have HB4 := hide (bthr hB3 hb4 hB3.size)
  have HQ0 := hide (q0.below hb4 q0.lt)
  have HQ1 := hide (q1.below hb4 q1.lt)
  have HS4 := hide (hs3.thr hb4)
  have HY4 := hide (HY3.out.thr hb4)
  have HA4 := hide (HAV.out.thr hb4)
  have HV4 := hide hv4
  have HT4 := hide (hT.below HB4.out hw0)
  rw [← HM.out] at HF5 HF3
  clear hB3 hs3 hb4 HKQ HY3 HAV hv4 q0 q1 y0 y1 z0 z1 z2 z3 hT3 hla hvl hT
  obtain ⟨y0, y1, _⟩ := HQ0.out.facts2
  obtain ⟨z0, z1, z2, z3, _⟩ := HQ1.out.facts4
  by_cases hlen : vl = m
  · have HLEN := hide hlen
    have HYS := hide (HF5.out hlen)
    have hm200 : m ≤ 200 := by have := HVL.out; omega
    have hli : (vl : Int) = (m : Int) := by omega
    have hlb : ((vl : Int) != (m : Int)) = false := by simpa using hli
    clear hlen hli HF5 HF3
    have HEND := hide (fun (h : ∀ j (hj : j < ys.length), yOk cs bf g0 g1 acs vs (fsts (ys.take j)) ys[j] = true) => show R = true from HYS.out.trans (ysOk_good h))
    have HBADS := hide (fun (k : Nat) (h : k < ys.length) (y : Int × Int) (e : ys[k] = y) (hy : yOk cs bf g0 g1 acs vs (fsts (ys.take k)) y = false) => show R = false from HYS.out.trans (ysOk_bad h e hy))
    clear HYS
    go_upto_region 9 with fail
    clear y0 y1 z0 z1 z2 z3
    go_loopw [18, 78] (fun sv i wr => ∃ k : Nat, k ≤ m ∧ i = .int .i64 k ∧ wr.ownsRow w4.heap.size 3 1 sv k (ints (fsts (ys.take k))) ∧ Hid (∀ j (hj : j < ys.length), j < k → yOk cs bf g0 g1 acs vs (fsts (ys.take j)) ys[j] = true) ∧ Below w4.heap.size w4 wr) (fun _ i _ => m - (intOf i).toNat)
    case atStart => exact ⟨0, by omega, rfl, World.ownsRow_nil _ _ _ _, hide (fun j _ h => by omega), Below.refl _ _⟩
    case round =>
      obtain ⟨k, hk, rfl, hv, HPRE, hb⟩ := hrel
      rename World => wr
      by_cases hlt : k < m
      · have hM := HM.out
        obtain ⟨b2, o2, rfl, _, hyc⟩ := (HY4.out.below hb).at_ hlt
        rcases ey : ys[k]'(by omega) with ⟨i0, by0⟩
        obtain ⟨x0, x1⟩ := y_cells hyc (by omega) ey
        have HBAD := hide (HBADS.out k (by omega) (i0, by0) ey)
        have HGOOD := hide (fun (h : yOk cs bf g0 g1 acs vs (fsts (ys.take k)) (i0, by0) = true) => show ∀ j (hj : j < ys.length), j < k + 1 → yOk cs bf g0 g1 acs vs (fsts (ys.take j)) ys[j] = true from fun j hj hjk => by
          by_cases e : j = k
          · subst e; rw [ey]; exact h
          · exact HPRE.out j hj (by omega))
        have HSNOC := hide (fsts_snocA (show k < ys.length by omega) ey)
        have hki : (k : Int) < (m : Int) := by omega
        have hki0 : (0 : Int) ≤ (k : Int) := by omega
        have hno : ∀ j, u18.ownBlock = some j → w4.heap.size ≤ j ∧ j < wr.heap.size := fun j hj => hv.lt j hj
        have hv5 := hv.alloc (.cells #[.int .i64 i0, .int .i64 by0] 49)
        have hB5 := hb.alloc hb.size (.cells #[.int .i64 i0, .int .i64 by0] 49)
        have q5 := Blk.new wr 49 #[.int .i64 i0, .int .i64 by0]
        have HNO := hide hno
        clear hyc ey hM hv hb HPRE hno
        go_upto_region 11 with fail
        clear x0 x1
        generalize wr.alloc _ = w5 at *
        generalize wr.heap.size = g5 at *
        obtain ⟨As, csn, hse, hss⟩ := own_sl hv5
        subst hse
        obtain ⟨x0, x1, _⟩ := q5.facts2
        have hz5 := hB5.size
        have HBY := hide (bthr HB4.out hB5 HB4.out.size)
        generalize fsts (ys.take k) = sk at *
        go_wp2_with fail
        refine (cont_any _ _ _ _ _ _ (HV4.out.thr hB5)).mono ?_
        rintro e w' ⟨rfl, rfl⟩
        cases hc1 : decide (i0 ∈ vs)
        · have HX := hide (HBAD.out (yOk_1 (of_decide_eq_false hc1)))
          clear hc1 hss hv5 hB5 hz5
          go_wp2
          go_ret
          exact ⟨ret_bool HX.out.symm, HBY.out⟩
        · have HIN := hide (of_decide_eq_true hc1)
          clear hc1
          go_wp2_with fail
          refine (cont_any _ _ _ _ _ _ hss).mono ?_
          rintro e w' ⟨rfl, rfl⟩
          cases hc2 : decide (i0 ∈ sk)
          · have HNS := hide (of_decide_eq_false hc2)
            have hia := HAI.out i0 (HVA.out i0 HIN.out)
            have HPI := hide (show (i0 : Int) = i0 from rfl)
            obtain ⟨p, rfl⟩ : ∃ p : Nat, i0 = (p : Int) := ⟨i0.toNat, by omega⟩
            have hL := HL.out
            rcases ep : cs[p]'(by omega) with ⟨r, kd, vv, f, t, x, y⟩
            have hek := HG.out _ (List.getElem_mem (show p < cs.length by omega))
            rw [ep] at hek
            have HB0 := hide (show bL cs bf p = bLeast ⟨r, kd, vv, f, t, x, y⟩ bf ∧ bM cs bf p = bMost ⟨r, kd, vv, f, t, x, y⟩ bf by
              unfold bL bM; simp [List.getD_eq_getElem?_getD, show p < cs.length by omega, ep])
            have HBO1 := hide (fun W hW => HBO.out W hW r kd vv f t x y hek)
            have hpn : (p : Int) < (n : Int) := by omega
            have hp0 : (0 : Int) ≤ (p : Int) := by omega
            have HEP := hide (show ∃ h : p < cs.length, cs[p] = ⟨r, kd, vv, f, t, x, y⟩ from ⟨by omega, ep⟩)
            clear hc2 hss hia ep hek hL
            go_wp2_with (at_builtin; refine wpList_push rfl _ _ _ rfl w4.heap.size _ _ slInt _ _ _ rfl hv5 _ _ rfl rfl rfl (by omega) hz5 ?_)
            intro v' w6 hv6 hg6 _
            have hB6 := hB5.trans (below_push hv5 hg6 hz5)
            have q6 := q5.grownF hg6 (fun j hj => by have := (HNO.out j hj).2; omega)
            have HV6 := hide (own_cells hv6 (ys := ints (fsts (ys.take (k + 1)))) (by rw [HSNOC.out, ints_append]; rfl))
            have hT6 := HT4.out.below hB6 HT4.out.pos
            obtain ⟨hpl, ep⟩ := HEP.out
            obtain ⟨bl, ol, rfl, hblt, hcl⟩ := (HS4.out.below hB6).at_ (show p < n by omega)
            obtain ⟨e0, e1, e2, e3, e4, e5, e6⟩ := cd_cells (B := 0) (n := 0) (c := 0) hcl hpl ep
            clear hv5 hv6 hg6 q5 x0 x1 hcl hpl ep hB5 hz5
            obtain ⟨x0, x1, _⟩ := q6.facts2
            go_wp2_with fail
            refine (HBO1.out w6 hT6).mono ?_
            rintro e w7 ⟨rfl, hb7⟩
            generalize bLeast ⟨r, kd, vv, f, t, x, y⟩ bf = b0 at *
            generalize bMost ⟨r, kd, vv, f, t, x, y⟩ bf = b1 at *
            have hB7 := hB6.trans (hb7.mono hB6.size)
            have q8 := (q6.below hb7 q6.lt).alloc (.cells #[.int .i64 b0, .int .i64 b1] 23)
            have p8 := Blk.new w7 23 #[.int .i64 b0, .int .i64 b1]
            have hB8 := hB7.alloc hB7.size (.cells #[.int .i64 b0, .int .i64 b1] 23)
            have HV8 := hide ((ownsRow_below HV6.out hb7).alloc (.cells #[.int .i64 b0, .int .i64 b1] 23))
            clear e0 e1 e2 e3 e4 e5 e6 x0 x1 hb7 hB7 hB6 q6 HV6 HBO1 hT6
            go_upto_region 15 with fail
            generalize w7.alloc _ = w8 at *
            generalize w7.heap.size = g8 at *
            obtain ⟨x0, x1, _⟩ := q8.facts2
            obtain ⟨x2, x3, _⟩ := p8.facts2
            obtain ⟨hb0, hb1⟩ := HB0.out
            have HB8 := hide hB8
            have HBY8 := hide (bthr HB4.out hB8 HB4.out.size)
            by_cases hby : by0 = -1
            · subst hby
              have H3 := hide (fun h => HBAD.out (yOk_3 (cs := cs) (bf := bf) (g0 := g0) (g1 := g1) (act := acs) (viol := vs) (seen := sk) (i := (p : Int)) rfl (by rw [hb0, hb1]; exact h)))
              have H3T := hide (fun h => HGOOD.out (yOk_3t (cs := cs) (bf := bf) (g0 := g0) (g1 := g1) (act := acs) (viol := vs) (seen := sk) (i := (p : Int)) HIN.out HNS.out rfl (by rw [hb0, hb1]; exact h)))
              obtain ⟨y0, y1, _⟩ := (HQ0.out.below hB8 HQ0.out.lt).facts2
              clear hB8 hb0 hb1
              go_wp2_with fail
              refine (apart_any _ _ _ _ _).mono ?_
              rintro e w9 ⟨rfl, hb9⟩
              have HV9 := hide (ownsRow_below HV8.out hb9)
              have HB9 := hide (HB8.out.trans (hb9.mono HB8.out.size))
              have HBZ := hide (bthr HB4.out HB9.out HB4.out.size)
              clear hb9 x0 x1 x2 x3 y0 y1 q8 p8
              cases hmm : metOk b0 b1 g0 g1
              · have HX := hide (H3T.out hmm)
                clear hmm H3 H3T
                go_wp2
                go_roundw
                case rel => exact ⟨k + 1, by omega, by go_num, HV9.out, HX, HB9.out⟩
                case measure => simp [intOf]; omega
              · have HX := hide (H3.out hmm)
                clear hmm H3 H3T
                go_wp2
                go_ret
                exact ⟨ret_bool HX.out.symm, HBZ.out⟩
            · have hbyb : (by0 == -1) = false := by simpa using hby
              have HBYN := hide hby
              have H4 := hide (fun h => HBAD.out (yOk_4 (cs := cs) (bf := bf) (g0 := g0) (g1 := g1) (act := acs) (viol := vs) (seen := sk) (i := (p : Int)) HBYN.out h))
              have H5 := hide (fun h => HBAD.out (yOk_5 (cs := cs) (bf := bf) (g0 := g0) (g1 := g1) (act := acs) (viol := vs) (seen := sk) (i := (p : Int)) HBYN.out h))
              have H6 := hide (fun h => HBAD.out (yOk_6 (cs := cs) (bf := bf) (g0 := g0) (g1 := g1) (act := acs) (viol := vs) (seen := sk) (i := (p : Int)) HBYN.out h))
              have H7 := hide (fun h => HBAD.out (yOk_7 (cs := cs) (bf := bf) (g0 := g0) (g1 := g1) (act := acs) (viol := vs) (seen := sk) (i := (p : Int)) HBYN.out (by rw [hb0, hb1]; exact h)))
              have HT' := hide (fun h3 h4 h5 h => HGOOD.out (yOk_t (cs := cs) (bf := bf) (g0 := g0) (g1 := g1) (act := acs) (viol := vs) (seen := sk) (i := (p : Int)) HIN.out HNS.out HBYN.out h3 h4 h5 (by rw [hb0, hb1]; exact h)))
              clear hby hb0 hb1
              go_wp2_with fail
              refine (idx_any _ _ _ _ _ _ (HA4.out.thr hB8)).mono ?_
              rintro e w' ⟨r1, rfl, hr1', rfl⟩
              have HR1 := hide (hr1'.pos HNN.out)
              clear hr1'
              by_cases hneg : r1 < 0
              · have HX := hide (H4.out (by rw [← HR1.out]; exact hneg))
                clear hB8 H4 H5 H6 H7 HT'
                go_wp2
                go_ret
                exact ⟨ret_bool HX.out.symm, HBY8.out⟩
              · have hneg' : 0 ≤ r1 := by omega
                go_wp2_with fail
                refine (idx_any _ _ _ _ _ _ (HA4.out.thr hB8)).mono ?_
                rintro e w' ⟨r2, rfl, hr2', rfl⟩
                have HR2 := hide (hr2'.pos HNN.out)
                clear hr2'
                by_cases hle : r2 ≤ r1
                · have HX := hide (H5.out (by rw [← HR1.out, ← HR2.out]; exact hle))
                  clear hB8 H4 H5 H6 H7 HT'
                  go_wp2
                  go_ret
                  exact ⟨ret_bool HX.out.symm, HBY8.out⟩
                · have hle' : r1 < r2 := by omega
                  go_wp2_with fail
                  refine (cont_any _ _ _ _ _ _ (HV4.out.thr hB8)).mono ?_
                  rintro e w' ⟨rfl, rfl⟩
                  cases hc3 : decide (by0 ∈ vs)
                  · have HN5 := hide (of_decide_eq_false hc3)
                    have hqa := HAI.out by0 (posN_mem acs 0 (by rw [← HR1.out]; exact hneg'))
                    obtain ⟨q, rfl⟩ : ∃ q : Nat, by0 = (q : Int) := ⟨by0.toNat, by omega⟩
                    have hL := HL.out
                    rcases eq : cs[q]'(by omega) with ⟨r', kd', vv', f', t', x', y'⟩
                    have hek := HG.out _ (List.getElem_mem (show q < cs.length by omega))
                    rw [eq] at hek
                    have HBO2 := hide (fun W hW => HBO.out W hW r' kd' vv' f' t' x' y' hek)
                    have HBQ := hide (show bL cs bf q = bLeast ⟨r', kd', vv', f', t', x', y'⟩ bf ∧ bM cs bf q = bMost ⟨r', kd', vv', f', t', x', y'⟩ bf by
                      unfold bL bM; simp [List.getD_eq_getElem?_getD, show q < cs.length by omega, eq])
                    have hqn : (q : Int) < (n : Int) := by omega
                    have hq0 : (0 : Int) ≤ (q : Int) := by omega
                    obtain ⟨bl2, ol2, hA2, hblt2, hcl⟩ := (HS4.out.below hB8).at_ (show q < n by omega)
                    injection hA2 with hA2
                    injection hA2 with hA21 hA22 _
                    subst hA21 hA22
                    obtain ⟨e0, e1, e2, e3, e4, e5, e6⟩ := cd_cells (B := 0) (n := 0) (c := 0) hcl (by omega) eq
                    have HX7 := hide (fun h => H7.out (by rw [HBQ.out.1, HBQ.out.2]; exact h))
                    have HXT := hide (fun h => HT'.out (by rw [← HR1.out]; exact hneg') (by rw [← HR1.out, ← HR2.out]; exact hle') HN5.out (by rw [HBQ.out.1, HBQ.out.2]; exact h))
                    clear hc3 hek eq hcl hqa hL H4 H5 H6 H7 HT' HBQ
                    go_wp2_with fail
                    refine (HBO2.out w8 (HT4.out.below hB8 HT4.out.pos)).mono ?_
                    rintro e w9 ⟨rfl, hb9⟩
                    generalize bLeast ⟨r', kd', vv', f', t', x', y'⟩ bf = d0 at *
                    generalize bMost ⟨r', kd', vv', f', t', x', y'⟩ bf = d1 at *
                    have p9 := (p8.below hb9 p8.lt).alloc (.cells #[.int .i64 d0, .int .i64 d1] 23)
                    have p10 := Blk.new w9 23 #[.int .i64 d0, .int .i64 d1]
                    have hB9 := HB8.out.trans (hb9.mono HB8.out.size)
                    have hB10 := hB9.alloc hB9.size (.cells #[.int .i64 d0, .int .i64 d1] 23)
                    have HV10 := hide ((ownsRow_below HV8.out hb9).alloc (.cells #[.int .i64 d0, .int .i64 d1] 23))
                    have HB10 := hide hB10
                    clear e0 e1 e2 e3 e4 e5 e6 x0 x1 x2 x3 hb9 hB9 hB10 q8 p8 HBO2 hB8
                    obtain ⟨x2, x3, _⟩ := p9.facts2
                    obtain ⟨x4, x5, _⟩ := p10.facts2
                    go_wp2_with fail
                    refine (apart_any _ _ _ _ _).mono ?_
                    rintro e w11 ⟨rfl, hb11⟩
                    have HV11 := hide (ownsRow_below HV10.out hb11)
                    have HB11 := hide (HB10.out.trans (hb11.mono HB10.out.size))
                    have HBZ := hide (bthr HB4.out HB11.out HB4.out.size)
                    clear hb11 x2 x3 x4 x5 p9 p10
                    cases hmm : metOk b0 b1 d0 d1
                    · have HX := hide (HXT.out hmm)
                      clear hmm HXT HX7
                      go_wp2
                      go_roundw
                      case rel => exact ⟨k + 1, by omega, by go_num, HV11.out, HX, HB11.out⟩
                      case measure => simp [intOf]; omega
                    · have HX := hide (HX7.out hmm)
                      clear hmm HXT HX7
                      go_wp2
                      go_ret
                      exact ⟨ret_bool HX.out.symm, HBZ.out⟩
                  · have HX := hide (H6.out (of_decide_eq_true hc3))
                    clear hB8 hc3 H4 H5 H6 H7 HT'
                    go_wp2
                    go_ret
                    exact ⟨ret_bool HX.out.symm, HBY8.out⟩
          · have HX := hide (HBAD.out (yOk_2 (of_decide_eq_true hc2)))
            clear hc2 hss hv5 hB5 hz5
            go_wp2
            go_ret
            exact ⟨ret_bool HX.out.symm, HBY.out⟩
      · obtain rfl : k = m := by omega
        have HX := hide (HEND.out (fun j hj => HPRE.out j hj (by have := HM.out; omega)))
        have HBZ := hide (bthr HB4.out hb HB4.out.size)
        clear hv hb
        go_wp2
        go_ret
        exact ⟨ret_bool HX.out.symm, HBZ.out⟩
  · have HX := hide (HF3.out hlen)
    have hlb : ((vl : Int) != (m : Int)) = true := by simp; omega
    have hlb2 : ((vl : Nat) != m) = true := by simp; omega
    have HBX := hide HB4.out
    clear hlen
    go_wp2
    go_ret
    exact ⟨ret_bool HX.out.symm, HBX.out⟩
end Go.Proofs.YtphgddanbgdemaaDoor
