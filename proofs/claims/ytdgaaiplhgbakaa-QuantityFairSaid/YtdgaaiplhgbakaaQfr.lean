/-
  Shares add up to the amount, are within 1 of their exact parts, and a greater weight gets no less: the plain law, and the walk of QuantityFair. Condition: its list can be read.
-/
import Derived.Test.YtdgaaiplhgbakaaProg
import Derived.Test.YtdgaaiplhgbakaaQaw
namespace Go.Proofs.Ytdgaaiplhgbakaa
open Go.RowKit

theorem share_near {a : Int} {ws xs : List Int} (hS : 0 < ws.sum) (h : Shared a ws xs) {i : Nat} (hi : i < ws.length) : xs.getD i 0 * ws.sum ≤ a * ws.getD i 0 + ws.sum - 1 ∧ a * ws.getD i 0 - ws.sum + 1 ≤ xs.getD i 0 * ws.sum := by
  have h1 := Int.mul_ediv_add_emod (a * ws.getD i 0) ws.sum
  have h2 := Int.emod_lt_of_pos (a * ws.getD i 0) hS
  have h3 := Int.emod_nonneg (a * ws.getD i 0) (show ws.sum ≠ 0 by omega)
  rw [Int.mul_comm] at h1
  rcases h.each i hi with e | ⟨e, h4⟩
  · rw [e]; omega
  · rw [e, Int.add_mul, Int.one_mul]; omega
theorem share_mono {a : Int} {ws xs : List Int} (ha : 0 ≤ a) (hS : 0 < ws.sum) (h : Shared a ws xs) {i k : Nat} (hi : i < ws.length) (hk : k < ws.length) (hlt : ws.getD i 0 < ws.getD k 0) : xs.getD i 0 ≤ xs.getD k 0 := by
  have i1 := Int.mul_ediv_add_emod (a * ws.getD i 0) ws.sum
  have k1 := Int.mul_ediv_add_emod (a * ws.getD k 0) ws.sum
  have hp : a * ws.getD i 0 ≤ a * ws.getD k 0 := Int.mul_le_mul_of_nonneg_left (by omega) ha
  have hf : a * ws.getD i 0 / ws.sum ≤ a * ws.getD k 0 / ws.sum := Int.ediv_le_ediv hS hp
  have hk2 := h.each k hk
  rcases h.each i hi with e | ⟨e, h4⟩
  · rw [e]; omega
  · by_cases hq : a * ws.getD i 0 / ws.sum = a * ws.getD k 0 / ws.sum
    · have ha0 : a ≠ 0 := by rintro rfl; simp at h4
      have hp2 : a * ws.getD i 0 < a * ws.getD k 0 := Int.mul_lt_mul_of_pos_left hlt (by omega)
      have := h.more i k hi hk e (by rw [hq] at i1; omega)
      rw [e, this]; omega
    · rw [e]; omega
set_option maxHeartbeats 3200000 in
set_option maxRecDepth 20000 in
theorem fair_walk {A : Option Addr} {n c : Nat} {zs : List Int} {w : World} (hs : Sl w w.heap.size 1 A n c (ints zs)) (am : Int) : Calls Try.prog 4 #[.slice A n c, .int .i64 am] w fun e w' => e = .returned (.bool true) ∧ Below w.heap.size w w' := by
  have hl : n = zs.length := by have := hs.1; rw [ints_length] at this; omega
  have hm63 : n ≤ 9223372036854775807 := by have a1 := hs.2.1; have a2 := hs.2.2.1; unfold maxLen at a2; omega
  have HS := hide hs
  have HL := hide hl
  clear hs hl
  go_enter Try.func4, Try.ntmps4
  go_wp2
  go_loopw [5, 6, 7] (fun v s i wr => ∃ (k : Nat) (ws : List Int), k ≤ n ∧ k ≤ 15 ∧ ws.length = k ∧ (∀ x ∈ ws, 0 ≤ x ∧ x < 40) ∧ s = .int .i64 ws.sum ∧ i = .int .i64 k ∧ wr.ownsRow w.heap.size 3 1 v k (ints ws) ∧ Below w.heap.size w wr) (fun _ _ i _ => 15 - (intOf i).toNat)
  case atStart => exact ⟨0, [], by omega, by omega, rfl, by simp, rfl, rfl, World.ownsRow_nil _ _ _ _, Below.refl _ _⟩
  case round =>
    obtain ⟨k, ws, hk, hk2, hwl, hws, rfl, rfl, hv, hb⟩ := hrel
    by_cases hlt : k < n ∧ k < 15
    · obtain ⟨hl1, hl2⟩ := hlt
      obtain ⟨b, o, rfl, hb1, hcl⟩ := (HS.out.below hb).at_ hl1
      have hL := HL.out
      have hx := hcl k _ (ints_get zs k (by omega))
      clear hcl hL
      generalize zs.getD k 0 = z at *
      go_wp2_with fail
      refine (mod_any _ _ (by omega) (by omega) _).mono ?_
      rintro e w2 ⟨rfl, rfl⟩
      obtain ⟨x, hxe⟩ : ∃ x, x = z % 40 := ⟨_, rfl⟩
      have x0 : 0 ≤ x ∧ x < 40 := by omega
      rw [← hxe]
      clear hxe
      have hbz := hb.size
      go_wp2_with (at_builtin; refine wpList_push rfl _ _ _ rfl w.heap.size _ _ slInt _ _ _ rfl hv _ _ rfl rfl rfl (by omega) hbz ?_)
      intro v' w3 hv3 hg3 _
      have hb3 := hb.trans (below_push hv hg3 hbz)
      have hv4 := own_cells hv3 (ys := ints (ws ++ [x])) (by rw [ints_append]; rfl)
      clear hv hv3 hg3 hb hx
      obtain ⟨gv, cv, rfl, _, _⟩ := hv4.form (by omega)
      have hcv : w3.cell? ⟨gv, k, none⟩ = some (.int .i64 x) := by
        rw [hv4.cellAt k (by omega), ints_append, List.getElem?_append_right (by rw [ints_length]; omega), ints_length, hwl]
        simp [ints]
      have hsb := sum_takeM (M := 39) (by omega) (fun y hy => by have := hws y hy; omega) ws.length
      rw [List.take_length, hwl] at hsb
      have HV := hide hv4
      have HSM := hide (show (ws ++ [x]).sum = ws.sum + x by simp)
      have HWS := hide (show ∀ y ∈ ws ++ [x], 0 ≤ y ∧ y < 40 from fun y hy => by
        rcases List.mem_append.1 hy with h | h
        · exact hws y h
        · simp at h; omega)
      have HWL := hide (show (ws ++ [x]).length = k + 1 by simp [hwl])
      clear hws hwl hv4
      generalize ws.sum = y at *
      go_wp2
      go_roundw
      case rel => exact ⟨k + 1, ws ++ [x], by omega, by omega, HWL.out, HWS.out, by rw [HSM.out], by go_num, HV.out, hb3⟩
      case measure => simp [intOf]; omega
    · obtain ⟨w4, rfl⟩ : ∃ wo : World, wo = wr := ⟨_, rfl⟩
      have HWS := hide hws
      have HWL := hide hwl
      obtain ⟨A2, c2, rfl, hsl⟩ := own_sl hv
      have hm4 : k ≤ 15 := hk2
      have hS0 : 0 ≤ ws.sum ∧ ws.sum ≤ 585 := by
        have := sum_takeM (M := 39) (by omega) (fun y hy => by have := hws y hy; omega) ws.length
        rw [List.take_length, hwl] at this; omega
      have HSH := hide (fun (a : Int) (h : 0 ≤ a ∧ a < 1000) => share_any a ws A2 k c2 w4 (by omega) (by omega) (fun y hy => by have := HWS.out y hy; omega) hsl)
      have HB4 := hide hb
      have HSL := hide hsl
      have hb4z := hb.size
      clear hws hwl hv hsl hb HS HL
      have hend : ¬ (k : Int) < (n : Int) ∨ ((k : Int) < (n : Int) ∧ ¬ (k : Int) < 15) := by omega
      clear hlt hk2
      obtain ⟨q, hq⟩ : ∃ q, q = am % 1000 := ⟨_, rfl⟩
      have q0 : 0 ≤ q ∧ q < 1000 := by omega
      have HQ := hide hq
      clear hq
      rcases hend with hend | ⟨hend, hend2⟩
      all_goals
        go_wp2_with (go_at_call 10; refine (mod_any _ _ (by omega) (by omega) _).mono ?_; rintro e w1 ⟨rfl, rfl⟩; rw [← HQ.out])
        refine (HSH.out q q0).mono ?_
        rintro e w5 ⟨v, rfl, hv, hb5⟩
        have hB5 := bthr HB4.out hb5 hb4z
        have HSL5 := hide (HSL.out.thr hb5)
        clear HSH HB4 hb5
        by_cases hS1 : ws.sum = 0
        · have hE : shE q ws = if 0 < q then 2 else 0 := by simp [shE, hS1]
          by_cases hq1 : 0 < q
          · rw [if_pos hq1] at hE
            rw [hE]
            rw [hS1]
            clear hv hS0 hS1
            have hBs := hide hB5
            clear hB5
            go_wp2_with fail
            refine (awake_any _).mono ?_
            rintro e w9 ⟨rfl, hb9⟩
            go_wp2
            go_ret
            exact ⟨rfl, bthr hBs.out hb9 hBs.out.size⟩
          · rw [if_neg hq1] at hE
            rw [hE]
            rw [hS1]
            clear hv hS0 hS1
            have hBs := hide hB5
            clear hB5
            obtain rfl : q = 0 := by omega
            go_wp2_with fail
            refine (awake_any _).mono ?_
            rintro e w9 ⟨rfl, hb9⟩
            go_wp2
            go_ret
            exact ⟨rfl, bthr hBs.out hb9 hBs.out.size⟩
        · have hE : shE q ws = 0 := by simp [shE, hS1]
          have hS2 : 0 < ws.sum := by omega
          have hV : shV q ws = shareL q ws := by simp [shV, hS1]
          have hSP := shareL_spec (a := q) hS2
          have hS3 : (ws.sum == 0) = false := by simpa using hS1
          rw [hE]
          rw [hV, hSP.len, HWL.out] at hv
          obtain ⟨A5, c5, rfl, hsl5⟩ := own_sl hv
          have HNR := hide (fun (i : Nat) (h : i < k) => share_near (i := i) hS2 hSP (by rw [HWL.out]; exact h))
          have HMN := hide (fun (i j : Nat) (h : i < k) (h2 : j < k) => share_mono (i := i) (k := j) q0.1 hS2 hSP (by rw [HWL.out]; exact h) (by rw [HWL.out]; exact h2))
          have HWI := hide (fun (i : Nat) (h : i < k) => show 0 ≤ ws.getD i 0 ∧ ws.getD i 0 ≤ 39 by
            rw [List.getD_eq_getElem?_getD, List.getElem?_eq_getElem (by rw [HWL.out]; exact h)]
            have := HWS.out _ (List.getElem_mem (show i < ws.length by rw [HWL.out]; exact h))
            simp only [Option.getD_some]; omega)
          have HXI := hide (fun (i : Nat) (h : i < k) => show 0 ≤ (shareL q ws).getD i 0 ∧ (shareL q ws).getD i 0 ≤ 38962 by
            obtain ⟨w0, w1⟩ := HWI.out i h
            have p0 : 0 ≤ q * ws.getD i 0 := Int.mul_nonneg q0.1 w0
            have p1 := Int.mul_le_mul (show q ≤ 999 by omega) w1 w0 (by omega)
            have d0 : 0 ≤ q * ws.getD i 0 / ws.sum := Int.ediv_nonneg p0 (by omega)
            have d1 := Int.ediv_le_self ws.sum p0
            have := hSP.each i (by rw [HWL.out]; exact h)
            omega)
          have HXL := hide (hSP.len.trans HWL.out)
          have HXS := hide hSP.sum
          have HSP := hide hsl5
          have HB5 := hide hB5
          have hB5z := hB5.size
          clear hSP hV hE hv hsl5 hB5 hS1
          generalize shareL q ws = xs at *
          have HTK := hide (fun j => sum_takeM (M := 38962) (l := xs) (by omega) (fun y hy => by
            obtain ⟨i, hi, rfl⟩ := List.getElem_of_mem hy
            have := HXI.out i (by rw [← HXL.out]; exact hi)
            rwa [List.getD_eq_getElem?_getD, List.getElem?_eq_getElem hi] at this) j)
          go_wp2
          go_loopw [11, 68] (fun va i wr => ∃ j : Nat, j ≤ k ∧ i = .int .i64 j ∧ va = .int .i64 (xs.take j).sum ∧ Below w5.heap.size w5 wr) (fun _ i _ => k - (intOf i).toNat)
          case atStart => exact ⟨0, by omega, rfl, rfl, Below.refl _ _⟩
          case round =>
            obtain ⟨j, hj, rfl, rfl, hbr⟩ := hrel
            by_cases hjk : j < k
            · obtain ⟨wo, rfl⟩ : ∃ wo : World, wo = wr := ⟨_, rfl⟩
              obtain ⟨bx, ox, rfl, hbx, hcx⟩ := (HSP.out.below hbr).at_ hjk
              obtain ⟨bw, ow, rfl, hbw, hcw⟩ := (HSL5.out.below hbr).at_ hjk
              have hX := HXL.out
              have hW := HWL.out
              have cx := hcx j _ (ints_get xs j (by omega))
              have cw := hcw j _ (ints_get ws j (by omega))
              have HCX := hide (fun (i : Nat) (h : i < k) => hcx i _ (ints_get xs i (by omega)))
              have HCW := hide (fun (i : Nat) (h : i < k) => hcw i _ (ints_get ws i (by omega)))
              obtain ⟨x0, x1⟩ := HXI.out j hjk
              obtain ⟨w0, w1⟩ := HWI.out j hjk
              obtain ⟨n1, n2⟩ := HNR.out j hjk
              obtain ⟨t0, t1⟩ := HTK.out j
              have HMJ := hide (fun (i : Nat) (h : i < k) => HMN.out j i hjk h)
              have HSN := hide (sum_snoc xs j (by omega))
              have p0 : 0 ≤ q * ws.getD j 0 := Int.mul_nonneg q0.1 w0
              have p1 := Int.mul_le_mul (show q ≤ 999 by omega) w1 w0 (by omega)
              have p2 : 0 ≤ xs.getD j 0 * ws.sum := Int.mul_nonneg x0 (by omega)
              clear hcx hcw hX hW
              generalize xs.getD j 0 = x at *
              generalize hwj : ws.getD j 0 = wj at *
              have hWJ := hide hwj
              clear hwj
              generalize (xs.take j).sum = y at *
              go_wp2
              clear n1 n2 p0 p1 p2 cx cw
              go_loopw [106] (fun i wr => ∃ m : Nat, m ≤ k ∧ i = .int .i64 m ∧ Below wo.heap.size wo wr) (fun i _ => k - (intOf i).toNat)
              case atStart => exact ⟨0, by omega, rfl, Below.refl _ _⟩
              case round =>
                obtain ⟨m, hm, rfl, hb2⟩ := hrel
                by_cases hmk : m < k
                · have ex := cell_thr hb2 (HCX.out m hmk)
                  have ew := cell_thr hb2 (HCW.out m hmk)
                  have ej := cell_thr hb2 (HCW.out j hjk)
                  have hmo := HMJ.out m hmk
                  have ewj : wr.cell? ⟨bw, ow + j, none⟩ = some (.int .i64 wj) := by rw [← hWJ.out]; exact ej
                  clear ej
                  generalize xs.getD m 0 = xm at *
                  generalize ws.getD m 0 = wm at *
                  by_cases hgt : wj < wm
                  · have hxm := hmo hgt
                    have HB2 := hide hb2
                    clear hmo hb2
                    go_wp2_with fail
                    go_quiet (fail)
                    go_wp2
                    go_roundw
                    case rel => exact ⟨m + 1, by omega, by go_num, below_drewN HB2.out _⟩
                    case measure => simp [intOf]; omega
                  · have HB2 := hide hb2
                    have hd : decide (wj < wm) = false := by simpa using hgt
                    clear hmo hb2
                    go_wp2_with fail
                    go_quiet (fail)
                    go_wp2
                    go_roundw
                    case rel => exact ⟨m + 1, by omega, by go_num, below_drewN HB2.out _⟩
                    case measure => simp [intOf]; omega
                · obtain rfl : k = m := by omega
                  have HB2 := hide (bthr hbr hb2 hbr.size)
                  clear hb2
                  go_wp2
                  go_roundw
                  case rel => exact ⟨j + 1, by omega, by go_num, by rw [HSN.out], HB2.out⟩
                  case measure => simp [intOf]; omega
            · obtain rfl : k = j := by omega
              have hX := HXL.out
              rw [List.take_of_length_le (by omega), HXS.out]
              have HBR := hide (bthr HB5.out hbr hB5z)
              clear hbr hX
              go_wp2_with fail
              refine (awake_any _).mono ?_
              rintro e w9 ⟨rfl, hb9⟩
              go_wp2
              go_ret
              exact ⟨rfl, bthr HBR.out hb9 HBR.out.size⟩
end Go.Proofs.Ytdgaaiplhgbakaa
