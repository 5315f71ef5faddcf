/-
  What is scaled by parts of a whole adds up to at most the amount, with less than one left for each part: the walk of QuantityScales. Condition: its list can be read.
-/
import Derived.Test.YtdgaaiplhgbakaaProg
import Derived.Test.YtdgaaiplhgbakaaQsc
namespace Go.Proofs.Ytdgaaiplhgbakaa
open Go.RowKit
set_option maxHeartbeats 3200000 in
set_option maxRecDepth 20000 in
theorem scales_walk {A : Option Addr} {n c : Nat} {zs : List Int} {w : World} (hs : Sl w w.heap.size 1 A n c (ints zs)) (am : Int) : Calls Try.prog 6 #[.slice A n c, .int .i64 am] w fun e w' => e = .returned (.bool true) ∧ Below w.heap.size w w' := by
  have hl : n = zs.length := by have := hs.1; rw [ints_length] at this; omega
  have hm63 : n ≤ 9223372036854775807 := by have a1 := hs.2.1; have a2 := hs.2.2.1; unfold maxLen at a2; omega
  have HS := hide hs
  have HL := hide hl
  clear hs hl
  go_enter Try.func6, Try.ntmps6
  go_wp2
  go_loopw [5, 6, 7] (fun v s i wr => ∃ (k : Nat) (ws : List Int), k ≤ n ∧ k ≤ 12 ∧ ws.length = k ∧ (∀ x ∈ ws, 0 ≤ x ∧ x < 50) ∧ s = .int .i64 ws.sum ∧ i = .int .i64 k ∧ wr.ownsRow w.heap.size 3 1 v k (ints ws) ∧ Below w.heap.size w wr) (fun _ _ i _ => 12 - (intOf i).toNat)
  case atStart => exact ⟨0, [], by omega, by omega, rfl, by simp, rfl, rfl, World.ownsRow_nil _ _ _ _, Below.refl _ _⟩
  case round =>
    obtain ⟨k, ws, hk, hk2, hwl, hws, rfl, rfl, hv, hb⟩ := hrel
    by_cases hlt : k < n ∧ k < 12
    · obtain ⟨hl1, hl2⟩ := hlt
      obtain ⟨b, o, rfl, hb1, hcl⟩ := (HS.out.below hb).at_ hl1
      have hL := HL.out
      have hx := hcl k _ (ints_get zs k (by omega))
      clear hcl hL
      generalize zs.getD k 0 = z at *
      go_wp2_with fail
      refine (mod_any _ _ (by omega) (by omega) _).mono ?_
      rintro e w2 ⟨rfl, rfl⟩
      obtain ⟨x, hxe⟩ : ∃ x, x = z % 50 := ⟨_, rfl⟩
      have x0 : 0 ≤ x ∧ x < 50 := by omega
      rw [← hxe]
      clear hxe
      have hbz := hb.size
      go_wp2_with (at_builtin; refine wpList_push rfl _ _ _ rfl w.heap.size _ _ slInt _ _ _ rfl hv _ _ rfl rfl rfl (by omega) hbz ?_)
      intro v' w3 hv3 hg3 _
      have hb3 := hb.trans (below_push hv hg3 hbz)
      have hv4 := own_cells hv3 (ys := ints (ws ++ [x])) (by rw [ints_append]; rfl)
      clear hv hv3 hg3 hb hx
      obtain ⟨gv, cv, rfl, _, _⟩ := hv4.form (by omega)
      have hcv : w3.cell? ⟨gv, k, none⟩ = some (.int .i64 x) := by
        rw [hv4.cellAt k (by omega), ints_append, List.getElem?_append_right (by rw [ints_length]; omega), ints_length, hwl]
        simp [ints]
      have hsb := sum_takeM (M := 49) (by omega) (fun y hy => by have := hws y hy; omega) ws.length
      rw [List.take_length, hwl] at hsb
      have HV := hide hv4
      have HSM := hide (show (ws ++ [x]).sum = ws.sum + x by simp)
      have HWS := hide (show ∀ y ∈ ws ++ [x], 0 ≤ y ∧ y < 50 from fun y hy => by
        rcases List.mem_append.1 hy with h | h
        · exact hws y h
        · simp at h; omega)
      have HWL := hide (show (ws ++ [x]).length = k + 1 by simp [hwl])
      clear hws hwl hv4
      generalize ws.sum = y at *
      go_wp2
      go_roundw
      case rel => exact ⟨k + 1, ws ++ [x], by omega, by omega, HWL.out, HWS.out, by rw [HSM.out], by go_num, HV.out, hb3⟩
      case measure => simp [intOf]; omega
    · obtain ⟨w4, rfl⟩ : ∃ wo : World, wo = wr := ⟨_, rfl⟩
      have HWS := hide hws
      have HWL := hide hwl
      obtain ⟨A2, c2, rfl, hsl⟩ := own_sl hv
      have hm4 : k ≤ 12 := hk2
      have hS0 : 0 ≤ ws.sum ∧ ws.sum ≤ 588 := by
        have := sum_takeM (M := 49) (by omega) (fun y hy => by have := hws y hy; omega) ws.length
        rw [List.take_length, hwl] at this; omega
      have HSH := hide (fun (a : Int) (h : 0 ≤ a ∧ a < 10000) => share_any a ws A2 k c2 w4 (by omega) (by omega) (fun y hy => by have := HWS.out y hy; omega) hsl)
      have HB4 := hide hb
      have HSL := hide hsl
      have hb4z := hb.size
      clear hws hwl hv hsl hb HS HL
      have hend : ¬ (k : Int) < (n : Int) ∨ ((k : Int) < (n : Int) ∧ ¬ (k : Int) < 12) := by omega
      clear hlt hk2
      obtain ⟨q, hq⟩ : ∃ q, q = am % 10000 := ⟨_, rfl⟩
      have q0 : 0 ≤ q ∧ q < 10000 := by omega
      have HQ := hide hq
      clear hq
      rcases hend with hend | ⟨hend, hend2⟩
      all_goals
        go_wp2_with (go_at_call 10; refine (mod_any _ _ (by omega) (by omega) _).mono ?_; rintro e w1 ⟨rfl, rfl⟩; rw [← HQ.out])
        refine (HSH.out q q0).mono ?_
        rintro e w5 ⟨v, rfl, hv, hb5⟩
        have hB5 := bthr HB4.out hb5 hb4z
        have HSL5 := hide (HSL.out.thr hb5)
        clear HSH HB4 hb5
        by_cases hS1 : ws.sum = 0
        · rw [hS1]
          clear hv hS0 hS1
          have hBs := hide hB5
          clear hB5
          go_wp2_with fail
          refine (awake_any _).mono ?_
          rintro e w9 ⟨rfl, hb9⟩
          go_wp2
          go_ret
          exact ⟨rfl, bthr hBs.out hb9 hBs.out.size⟩
        · have hE : shE q ws = 0 := by simp [shE, hS1]
          have hS2 : 0 < ws.sum := by omega
          have hV : shV q ws = shareL q ws := by simp [shV, hS1]
          have hSP := shareL_spec (a := q) hS2
          have hS3 : (ws.sum == 0) = false := by simpa using hS1
          rw [hE]
          rw [hV, hSP.len, HWL.out] at hv
          obtain ⟨A5, c5, rfl, hsl5⟩ := own_sl hv
          have HWI := hide (fun (i : Nat) (h : i < k) => show 0 ≤ ws.getD i 0 ∧ ws.getD i 0 ≤ 49 by
            rw [List.getD_eq_getElem?_getD, List.getElem?_eq_getElem (by rw [HWL.out]; exact h)]
            have := HWS.out _ (List.getElem_mem (show i < ws.length by rw [HWL.out]; exact h))
            simp only [Option.getD_some]; omega)
          have HXI := hide (fun (i : Nat) (h : i < k) => show q * ws.getD i 0 / ws.sum ≤ (shareL q ws).getD i 0 ∧ (shareL q ws).getD i 0 ≤ q * ws.getD i 0 / ws.sum + 1 by
            have := hSP.each i (by rw [HWL.out]; exact h)
            omega)
          have HXL := hide (hSP.len.trans HWL.out)
          have HLF := hide (show 0 ≤ q - (floA q ws.sum ws).sum ∧ q - (floA q ws.sum ws).sum < k by
            have h1 := hSP.left0
            have h2 := hSP.leftn
            rw [HWL.out] at h2
            exact ⟨h1, h2⟩)
          have HFS := hide (fun (i : Nat) (h : i < k) => show ((floA q ws.sum ws).take (i + 1)).sum = ((floA q ws.sum ws).take i).sum + q * ws.getD i 0 / ws.sum by
            rw [sum_snoc _ _ (by simp [floA]; rw [HWL.out]; exact h)]
            congr 1
            exact getD_map (fun w => q * w / ws.sum) ws i (by rw [HWL.out]; exact h))
          have HFL := hide (show (floA q ws.sum ws).length = k by simp [floA]; exact HWL.out)
          have HFB := hide (fun j => sum_takeM (M := 489951) (l := floA q ws.sum ws) (by omega) (fun y hy => by
            obtain ⟨x, hx, rfl⟩ := List.mem_map.1 hy
            have hx2 := HWS.out x hx
            have p0 : 0 ≤ q * x := Int.mul_nonneg q0.1 hx2.1
            have p1 := Int.mul_le_mul (show q ≤ 9999 by omega) (show x ≤ 49 by omega) hx2.1 (by omega)
            have d0 : 0 ≤ q * x / ws.sum := Int.ediv_nonneg p0 (by omega)
            have d1 := Int.ediv_le_self ws.sum p0
            omega) j)
          have HSP := hide hsl5
          have HB5 := hide hB5
          have hB5z := hB5.size
          clear hSP hV hE hv hsl5 hB5 hS1
          generalize shareL q ws = xs at *
          generalize floA q ws.sum ws = fl at *
          go_wp2
          go_loopw [11, 52] (fun va i wr => ∃ j : Nat, j ≤ k ∧ i = .int .i64 j ∧ va = .int .i64 (fl.take j).sum ∧ Below w5.heap.size w5 wr) (fun _ i _ => k - (intOf i).toNat)
          case atStart => exact ⟨0, by omega, rfl, rfl, Below.refl _ _⟩
          case round =>
            obtain ⟨j, hj, rfl, rfl, hbr⟩ := hrel
            by_cases hjk : j < k
            · obtain ⟨wo, rfl⟩ : ∃ wo : World, wo = wr := ⟨_, rfl⟩
              obtain ⟨bx, ox, rfl, hbx, hcx⟩ := (HSP.out.below hbr).at_ hjk
              obtain ⟨bw, ow, rfl, hbw, hcw⟩ := (HSL5.out.below hbr).at_ hjk
              have hX := HXL.out
              have hW := HWL.out
              have cx := hcx j _ (ints_get xs j (by omega))
              have cw := hcw j _ (ints_get ws j (by omega))
              obtain ⟨x0, x1⟩ := HXI.out j hjk
              obtain ⟨w0, w1⟩ := HWI.out j hjk
              obtain ⟨t0, t1⟩ := HFB.out j
              have HSN := hide (HFS.out j hjk)
              have p0 : 0 ≤ q * ws.getD j 0 := Int.mul_nonneg q0.1 w0
              have p1 := Int.mul_le_mul (show q ≤ 9999 by omega) w1 w0 (by omega)
              have d0 : 0 ≤ q * ws.getD j 0 / ws.sum := Int.ediv_nonneg p0 (by omega)
              have d1 := Int.ediv_le_self ws.sum p0
              clear hcx hcw hX hW
              generalize xs.getD j 0 = x at *
              generalize ws.getD j 0 = wj at *
              generalize (fl.take j).sum = y at *
              go_wp2_with fail
              refine (scale_any _ _ _ _).mono ?_
              rintro e w6 ⟨rfl, rfl⟩
              have hsc : scE q wj ws.sum = 0 := sc_ok (by rw [wit_of (by omega) (by omega), wit_of (by omega) (by omega)]; rfl) (by omega)
              rw [show scV q wj ws.sum = q * wj / ws.sum by simp [scV, hsc], hsc]
              clear hsc
              generalize q * wj / ws.sum = f at *
              go_wp2
              go_roundw
              case rel => exact ⟨j + 1, by omega, by go_num, by rw [HSN.out], hbr⟩
              case measure => simp [intOf]; omega
            · obtain rfl : k = j := by omega
              have hX := HFL.out
              obtain ⟨l0, l1⟩ := HLF.out
              rw [List.take_of_length_le (by omega)]
              have HBR := hide (bthr HB5.out hbr hB5z)
              obtain ⟨t0, t1⟩ := HFB.out k
              rw [List.take_of_length_le (by omega)] at t0 t1
              clear hbr hX
              generalize fl.sum = y at *
              go_wp2_with fail
              refine (awake_any _).mono ?_
              rintro e w9 ⟨rfl, hb9⟩
              go_wp2
              go_ret
              exact ⟨rfl, bthr HBR.out hb9 HBR.out.size⟩
end Go.Proofs.Ytdgaaiplhgbakaa
