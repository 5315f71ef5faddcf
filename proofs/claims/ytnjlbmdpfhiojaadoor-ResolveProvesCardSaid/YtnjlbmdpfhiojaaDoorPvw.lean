/-
  The contract of Proved at a choice that proves itself: true. Conditions: each condition is valid, there are 20 at most, the table of kinds, a valid day, level, release and bounds, and that the choice proves itself.
-/
import Derived.Test.YtnjlbmdpfhiojaaDoorProg
import Derived.Test.YtnjlbmdpfhiojaaDoorPvx
namespace Go.Proofs.YtnjlbmdpfhiojaaDoor
open Go.RowKit

theorem fsts_len (ys : List (Int × Int)) : (fsts ys).length = ys.length := by simp [fsts]
theorem fsts_at {ys : List (Int × Int)} {k : Nat} (h : k < ys.length) {y0 y1 : Int} (e : ys[k] = (y0, y1)) : (fsts ys)[k]'(by rw [fsts_len]; exact h) = y0 := by
  simp [fsts, e]
theorem fsts_snoc {ys : List (Int × Int)} {k : Nat} (h : k < ys.length) {y0 y1 : Int} (e : ys[k] = (y0, y1)) : fsts (ys.take (k + 1)) = fsts (ys.take k) ++ [y0] := by
  unfold fsts
  rw [List.take_succ_eq_append_getElem h, List.map_append, e]; rfl
theorem fsts_new {ys : List (Int × Int)} (hn : (fsts ys).Nodup) {k : Nat} (h : k < ys.length) {y0 y1 : Int} (e : ys[k] = (y0, y1)) : y0 ∉ fsts (ys.take k) := by
  intro hm
  have h2 : fsts (ys.take k) = (fsts ys).take k := by simp [fsts, List.map_take]
  rw [h2] at hm
  obtain ⟨j, hj, ej⟩ := List.getElem_of_mem hm
  rw [List.getElem_take] at ej
  rw [List.length_take] at hj
  have hl := fsts_len ys
  have := nodup_inj hn (i := j) (j := k) (by omega) (by omega) (ej.trans (fsts_at h e).symm)
  omega
set_option maxHeartbeats 3200000 in
set_option maxRecDepth 20000 in
theorem proved_ok (A B : Option Addr) (n c m c2 : Nat) (cs : List Cd) (ys : List (Int × Int)) (d lv bf g0 g1 rl lo hi : Int) (w : World) (hT : KT w) (hn : n ≤ 20) (hg : ∀ x ∈ cs, x.err = 0) (hd : wit d 364 = true) (hv : wit lv 16777216 = true) (hbf : wit bf 1073741824 = true) (h0 : wit g0 1073741824 = true) (h1 : wit g1 1073741824 = true) (hgg : g0 ≤ g1) (hr0 : g0 ≤ rl) (hr1 : rl ≤ g1)
    (hV : fsts ys = violL cs d lv bf rl) (hN : (actC cs d lv).Nodup) (hW : ∀ y ∈ ys, y.1 ∈ actC cs d lv ∧ Why cs bf g0 g1 (actC cs d lv) ys y.1 y.2) (hs : Sl w w.heap.size 7 A n c (cdCells cs)) (hy : Sl w w.heap.size 2 B m c2 (yCells ys)) :
    Calls Tryd.prog 19 #[.slice A n c, .int .i64 d, .int .i64 lv, .int .i64 bf, .agg #[.int .i64 g0, .int .i64 g1], .agg #[.int .i64 rl, .int .i64 lo, .int .i64 hi, .slice B m c2]] w fun e w' => e = .returned (.bool true) ∧ Below w.heap.size w w' := by
  have hw0 := hT.pos
  have hl : n = cs.length := by have := hs.1; rw [cdCells_length] at this; omega
  have hm : m = ys.length := by have := hy.1; rw [yCells_len] at this; omega
  have hbf2 := wit_iff.1 hbf
  have h02 := wit_iff.1 h0
  have h12 := wit_iff.1 h1
  have q0 := (Blk.new w 24 #[.int .i64 g0, .int .i64 g1]).alloc (.cells #[.int .i64 rl, .int .i64 lo, .int .i64 hi, .slice B m c2] 35)
  have q1 := Blk.new (w.alloc (.cells #[.int .i64 g0, .int .i64 g1] 24)) 35 #[.int .i64 rl, .int .i64 lo, .int .i64 hi, .slice B m c2]
  rw [World.size_alloc] at q1
  have hB := (bel1 (w := w) (o := .cells #[.int .i64 g0, .int .i64 g1] 24)).alloc (by simp) (.cells #[.int .i64 rl, .int .i64 lo, .int .i64 hi, .slice B m c2] 35)
  have hs1 := hs.thr hB
  have HY1 := hide (hy.thr hB)
  have HL := hide hl
  have HM := hide hm
  have HG := hide hg
  have HA := hide (fun W hs2 => rsasked_ok A n c cs d lv bf g0 g1 0 W (show n ≤ 200 by omega) hg hd hv hbf (by decide) h0 h1 hgg hs2)
  have HAC := hide (fun W hs2 => active_ok A n c cs d lv W hn hg hd hv hs2)
  have HKP := hide (fun W hT2 hs2 => kept_ok A n c cs d lv bf rl W hT2 hn hg hd hv hbf2 (by omega) hs2)
  have HBO := hide (fun (W : World) (hT2 : KT W) (r k v f t x y : Int) (he : Cd.err ⟨r, k, v, f, t, x, y⟩ = 0) => show Calls Tryd.prog 39 #[.agg #[.int .i64 r, .int .i64 k, .int .i64 v, .int .i64 f, .int .i64 t, .int .i64 x, .int .i64 y], .int .i64 bf] W fun e w' => e = .returned (.tuple #[.agg #[.int .i64 (bLeast ⟨r, k, v, f, t, x, y⟩ bf), .int .i64 (bMost ⟨r, k, v, f, t, x, y⟩ bf)], .bool true]) ∧ Below W.heap.size W w' from
    lbnd_ok ⟨r, k, v, f, t, x, y⟩ bf W hT2 (by unfold bOk; rw [hbf, he]; rfl))
  have HVV := hide hV
  have HNN := hide hN
  have HWW := hide hW
  have HFN := hide (show (fsts ys).Nodup by rw [hV]; unfold violL keepL; exact List.Pairwise.filter _ hN)
  have HFL := hide (show (fsts ys).length = m by rw [fsts_len, hm])
  have hm63 : m ≤ 9223372036854775807 := by have a1 := hy.2.1; have a2 := hy.2.2.1; unfold maxLen at a2; omega
  have HM20 := hide (show m ≤ 20 by
    rw [hm, ← fsts_len, hV]
    have e1 := keepL_le (fun i => kepC cs bf rl i) (actC cs d lv)
    have e2 := keepL_le (fun i => !appC cs d lv i) (ordC cs)
    rw [ordC_length] at e2
    unfold violL
    unfold actC at e1 ⊢
    omega)
  have hm20 := HM20.out
  clear hl hm hg hd hv hbf h0 h1 hV hN hW hs hy hbf2 h02 h12
  obtain ⟨y0, y1, _⟩ := q0.facts2
  obtain ⟨z0, z1, z2, z3, _⟩ := q1.facts4
  go_enter Tryd.func19, Tryd.ntmps19
  go_wp2_with fail
  generalize ((w.alloc _).alloc _) = w1 at *
  refine (HA.out w1 hs1).mono ?_
  rintro e w2 ⟨rfl, hb2⟩
  have hB2 := bthr hB hb2 hB.size
  replace q0 := q0.below hb2 q0.lt
  replace q1 := q1.below hb2 q1.lt
  have hs2 := hs1.thr hb2
  have HY2 := hide (HY1.out.thr hb2)
  clear hB hs1 hb2 HA HY1 y0 y1 z0 z1 z2 z3
  obtain ⟨y0, y1, _⟩ := q0.facts2
  obtain ⟨z0, z1, z2, z3, _⟩ := q1.facts4
  go_wp2_with fail
  refine (HAC.out w2 hs2).mono ?_
  rintro e w3 ⟨A3, c3, rfl, ha, hb3⟩
  have hB3 := bthr hB2 hb3 hB2.size
  replace q0 := q0.below hb3 q0.lt
  replace q1 := q1.below hb3 q1.lt
  have hs3 := hs2.thr hb3
  have HY3 := hide (HY2.out.thr hb3)
  have hT3 := hT.below hB3 hw0
  have HAV := hide ha
  clear hB2 hs2 hb3 HAC HY2 y0 y1 z0 z1 z2 z3 ha
  obtain ⟨y0, y1, _⟩ := q0.facts2
  obtain ⟨z0, z1, z2, z3, _⟩ := q1.facts4
  go_wp2_with fail
  refine (HKP.out w3 hT3 hs3).mono ?_
  rintro e w4 ⟨A4, c4, A5, c5, rfl, -, hv4, hb4⟩
  rw [← HVV.out] at hv4 ⊢
  rw [HFL.out] at hv4 ⊢
  generalize (keptL cs d lv bf rl).length = lk
  have HB4 := hide (bthr hB3 hb4 hB3.size)
  have HQ0 := hide (q0.below hb4 q0.lt)
  have HQ1 := hide (q1.below hb4 q1.lt)
  have HS4 := hide (hs3.thr hb4)
  have HY4 := hide (HY3.out.thr hb4)
  have HA4 := hide (HAV.out.thr hb4)
  have HV4 := hide hv4
  have HT4 := hide (hT.below HB4.out hw0)
  obtain ⟨la, hla⟩ : ∃ la, la = (actC cs d lv).length := ⟨_, rfl⟩
  rw [← hla] at HA4 ⊢
  have HLA := hide hla
  clear hB3 hs3 hb4 HKP HY3 HAV hv4 q0 q1 y0 y1 z0 z1 z2 z3 hT3 hla hT
  obtain ⟨y0, y1, _⟩ := HQ0.out.facts2
  obtain ⟨z0, z1, z2, z3, _⟩ := HQ1.out.facts4
  go_wp2
  clear y0 y1 z0 z1 z2 z3
  go_loopw [18, 78] (fun sv i wr => ∃ k : Nat, k ≤ m ∧ i = .int .i64 k ∧ wr.ownsRow w4.heap.size 3 1 sv k (ints (fsts (ys.take k))) ∧ Below w4.heap.size w4 wr) (fun _ i _ => m - (intOf i).toNat)
  case atStart => exact ⟨0, by omega, rfl, World.ownsRow_nil _ _ _ _, Below.refl _ _⟩
  case round =>
    obtain ⟨k, hk, rfl, hv, hb⟩ := hrel
    by_cases hlt : k < m
    · have hM := HM.out
      have hL := HL.out
      obtain ⟨b2, o2, rfl, _, hyc⟩ := (HY4.out.below hb).at_ hlt
      rcases ey : ys[k]'(by omega) with ⟨i0, by0⟩
      obtain ⟨x0, x1⟩ := y_cells hyc (by omega) ey
      obtain ⟨hi, hwhy⟩ := HWW.out (i0, by0) (by rw [← ey]; exact List.getElem_mem _)
      simp only at hi hwhy
      have hia := act_in _ hi
      have HMEM := hide (decide_eq_true (show i0 ∈ fsts ys by rw [← fsts_at (show k < ys.length by omega) ey]; exact List.getElem_mem _))
      have HNEW := hide (decide_eq_false (fsts_new HFN.out (show k < ys.length by omega) ey))
      have HSNOC := hide (fsts_snoc (show k < ys.length by omega) ey)
      obtain ⟨p, rfl⟩ : ∃ p : Nat, i0 = (p : Int) := ⟨i0.toNat, by omega⟩
      rcases ep : cs[p]'(by omega) with ⟨r, kd, vv, f, t, x, y⟩
      have hek := HG.out _ (List.getElem_mem (show p < cs.length by omega))
      rw [ep] at hek
      have HB0 := hide (show bL cs bf p = bLeast ⟨r, kd, vv, f, t, x, y⟩ bf ∧ bM cs bf p = bMost ⟨r, kd, vv, f, t, x, y⟩ bf by
        unfold bL bM; simp [List.getD_eq_getElem?_getD, show p < cs.length by omega, ep])
      have HBO1 := hide (fun W hW => HBO.out W hW r kd vv f t x y hek)
      have hki : (k : Int) < (m : Int) := by omega
      have hpn : (p : Int) < (n : Int) := by omega
      have hp0 : (0 : Int) ≤ (p : Int) := by omega
      have hno : ∀ j, u18.ownBlock = some j → w4.heap.size ≤ j ∧ j < wr.heap.size := fun j hj => hv.lt j hj
      have hv5 := hv.alloc (.cells #[.int .i64 (p : Int), .int .i64 by0] 47)
      have hB5 := hb.alloc hb.size (.cells #[.int .i64 (p : Int), .int .i64 by0] 47)
      have q5 := Blk.new wr 47 #[.int .i64 (p : Int), .int .i64 by0]
      have HEP := hide (show ∃ h : p < cs.length, cs[p] = ⟨r, kd, vv, f, t, x, y⟩ from ⟨by omega, ep⟩)
      clear hyc ey hia ep hek hM hL hv hb
      go_upto_region 11 with fail
      clear x0 x1
      generalize wr.alloc _ = w5 at *
      generalize wr.heap.size = g5 at *
      obtain ⟨As, csn, hse, hss⟩ := own_sl hv5
      subst hse
      obtain ⟨x0, x1, _⟩ := q5.facts2
      have hz5 := hB5.size
      go_wp2_with fail
      refine (cont_any _ _ _ _ _ _ (HV4.out.thr hB5)).mono ?_
      rintro e w' ⟨rfl, rfl⟩
      rw [HMEM.out]
      go_wp2_with fail
      refine (cont_any _ _ _ _ _ _ hss).mono ?_
      rintro e w' ⟨rfl, rfl⟩
      rw [HNEW.out]
      have HSS := hide hss
      clear hss
      go_wp2_with (at_builtin; refine wpList_push rfl _ _ _ rfl w4.heap.size _ _ slInt _ _ _ rfl hv5 _ _ rfl rfl rfl (by omega) hz5 ?_)
      intro v' w6 hv6 hg6 _
      have hB6 := hB5.trans (below_push hv5 hg6 hz5)
      have q6 := q5.grownF hg6 (fun j hj => by have := (hno j hj).2; omega)
      have HV6 := hide (own_cells hv6 (ys := ints (fsts (ys.take (k + 1)))) (by rw [HSNOC.out, ints_append]; rfl))
      have hT6 := HT4.out.below hB6 HT4.out.pos
      obtain ⟨hpl, ep⟩ := HEP.out
      obtain ⟨bl, ol, rfl, hblt, hcl⟩ := (HS4.out.below hB6).at_ (show p < n by omega)
      obtain ⟨e0, e1, e2, e3, e4, e5, e6⟩ := cd_cells (B := 0) (n := 0) (c := 0) hcl hpl ep
      clear hv5 hv6 hg6 q5 hno x0 x1 hcl hpl ep hB5 hz5 HSS
      obtain ⟨x0, x1, _⟩ := q6.facts2
      go_wp2_with fail
      refine (HBO1.out w6 hT6).mono ?_
      rintro e w7 ⟨rfl, hb7⟩
      generalize bLeast ⟨r, kd, vv, f, t, x, y⟩ bf = b0 at *
      generalize bMost ⟨r, kd, vv, f, t, x, y⟩ bf = b1 at *
      have hB7 := hB6.trans (hb7.mono hB6.size)
      have q8 := (q6.below hb7 q6.lt).alloc (.cells #[.int .i64 b0, .int .i64 b1] 24)
      have p8 := Blk.new w7 24 #[.int .i64 b0, .int .i64 b1]
      have hB8 := hB7.alloc hB7.size (.cells #[.int .i64 b0, .int .i64 b1] 24)
      have HV8 := hide ((ownsRow_below HV6.out hb7).alloc (.cells #[.int .i64 b0, .int .i64 b1] 24))
      clear e0 e1 e2 e3 e4 e5 e6 x0 x1 hb7 hB7 hB6 q6 HV6 HBO1 hT6
      go_upto_region 15 with fail
      generalize w7.alloc _ = w8 at *
      generalize w7.heap.size = g8 at *
      obtain ⟨x0, x1, _⟩ := q8.facts2
      obtain ⟨x2, x3, _⟩ := p8.facts2
      obtain ⟨hb0, hb1⟩ := HB0.out
      have HB8 := hide hB8
      rcases hwhy with ⟨hby, hap⟩ | ⟨hby, hbn, hsub, hap⟩
      · subst hby
        rw [hb0, hb1] at hap
        have HAP := hide (apart_yes (a0 := b0) (a1 := b1) (b0 := g0) (b1 := g1) hap)
        obtain ⟨y0, y1, _⟩ := (HQ0.out.below hB8 HQ0.out.lt).facts2
        clear hap hB8 hb0 hb1
        go_wp2_with fail
        refine (apart_any _ _ _ _ _).mono ?_
        rintro e w9 ⟨rfl, hb9⟩
        rw [HAP.out]
        have HV9 := hide (ownsRow_below HV8.out hb9)
        have HB9 := hide (HB8.out.trans (hb9.mono HB8.out.size))
        clear hb9 x0 x1 x2 x3 y0 y1 q8 p8
        go_wp2
        go_roundw
        case rel => exact ⟨k + 1, by omega, by go_num, HV9.out, HB9.out⟩
        case measure => simp [intOf]; omega
      · have hqa := act_in _ hby
        obtain ⟨q, rfl⟩ : ∃ q : Nat, by0 = (q : Int) := ⟨by0.toNat, by omega⟩
        have hL := HL.out
        rcases eq : cs[q]'(by omega) with ⟨r', kd', vv', f', t', x', y'⟩
        have hek := HG.out _ (List.getElem_mem (show q < cs.length by omega))
        rw [eq] at hek
        have HBO2 := hide (fun W hW => HBO.out W hW r' kd' vv' f' t' x' y' hek)
        have hap2 : b1 < bLeast ⟨r', kd', vv', f', t', x', y'⟩ bf ∨ bMost ⟨r', kd', vv', f', t', x', y'⟩ bf < b0 := by
          rw [hb0, hb1] at hap
          unfold bL bM at hap
          simp [List.getD_eq_getElem?_getD, show q < cs.length by omega, eq] at hap
          exact hap
        have HAP := hide (apart_yes (a0 := b0) (a1 := b1) hap2)
        have HBN := hide (decide_eq_false hbn)
        have HSUB := hide hsub
        have hqn : (q : Int) < (n : Int) := by omega
        have hq0 : (0 : Int) ≤ (q : Int) := by omega
        have hqm : ((q : Int) == -1) = false := by first | (simp; done) | (simp; omega)
        obtain ⟨bl2, ol2, hA2, hblt2, hcl⟩ := (HS4.out.below hB8).at_ (show q < n by omega)
        injection hA2 with hA2
        injection hA2 with hA21 hA22 _
        subst hA21 hA22
        obtain ⟨e0, e1, e2, e3, e4, e5, e6⟩ := cd_cells (B := 0) (n := 0) (c := 0) hcl (by omega) eq
        clear hap hap2 hbn hsub hek eq hcl hqa hL hb0 hb1
        go_wp2_with fail
        refine (idx_any _ _ _ _ _ _ (HA4.out.thr hB8)).mono ?_
        rintro e w' ⟨r1, rfl, hr1', rfl⟩
        have HR1 := hide hr1'
        clear hr1'
        obtain ⟨rlo, hrlo⟩ : ∃ z, z = r1 := ⟨_, rfl⟩
        have hr10 : 0 ≤ r1 := by
          rcases HR1.out with ⟨j, _, hj, _⟩ | ⟨hj, _⟩
          · omega
          · exact absurd hby hj
        clear hrlo
        go_wp2_with fail
        refine (idx_any _ _ _ _ _ _ (HA4.out.thr hB8)).mono ?_
        rintro e w' ⟨r2, rfl, hr2', rfl⟩
        have hr12 := (idx_lt HNN.out HSUB.out HR1.out hr2').2
        clear hr2'
        go_wp2_with fail
        refine (cont_any _ _ _ _ _ _ (HV4.out.thr hB8)).mono ?_
        rintro e w' ⟨rfl, rfl⟩
        rw [HBN.out]
        go_wp2_with fail
        refine (HBO2.out w8 (HT4.out.below hB8 HT4.out.pos)).mono ?_
        rintro e w9 ⟨rfl, hb9⟩
        generalize bLeast ⟨r', kd', vv', f', t', x', y'⟩ bf = d0 at *
        generalize bMost ⟨r', kd', vv', f', t', x', y'⟩ bf = d1 at *
        have p9 := (p8.below hb9 p8.lt).alloc (.cells #[.int .i64 d0, .int .i64 d1] 24)
        have p10 := Blk.new w9 24 #[.int .i64 d0, .int .i64 d1]
        have hB9 := HB8.out.trans (hb9.mono HB8.out.size)
        have hB10 := hB9.alloc hB9.size (.cells #[.int .i64 d0, .int .i64 d1] 24)
        have HV10 := hide ((ownsRow_below HV8.out hb9).alloc (.cells #[.int .i64 d0, .int .i64 d1] 24))
        have HB10 := hide hB10
        clear e0 e1 e2 e3 e4 e5 e6 x0 x1 x2 x3 hb9 hB9 hB10 q8 p8 HBO2 hB8
        obtain ⟨x2, x3, _⟩ := p9.facts2
        obtain ⟨x4, x5, _⟩ := p10.facts2
        go_wp2_with fail
        refine (apart_any _ _ _ _ _).mono ?_
        rintro e w11 ⟨rfl, hb11⟩
        rw [HAP.out]
        have HV11 := hide (ownsRow_below HV10.out hb11)
        have HB11 := hide (HB10.out.trans (hb11.mono HB10.out.size))
        clear hb11 x2 x3 x4 x5 p9 p10
        go_wp2
        go_roundw
        case rel => exact ⟨k + 1, by omega, by go_num, HV11.out, HB11.out⟩
        case measure => simp [intOf]; omega
    · have hki : ¬ ((k : Int) < (m : Int)) := by omega
      have HBZ := hide (bthr HB4.out hb HB4.out.size)
      clear hv hb
      go_wp2
      go_ret
      exact ⟨rfl, HBZ.out⟩
end Go.Proofs.YtnjlbmdpfhiojaaDoor
