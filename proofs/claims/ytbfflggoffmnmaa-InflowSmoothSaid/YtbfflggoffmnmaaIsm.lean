/-
  Smoothing keeps the sum of each group, values of a group do not rise and differ by at most 1: the walk of InflowSmooth. Condition: its list can be read.
-/
import Derived.Test.YtbfflggoffmnmaaProg
import Derived.Test.YtbfflggoffmnmaaIml
namespace Go.Proofs.Ytbfflggoffmnmaa
open Go.RowKit

theorem psum_in {xs : List Int} (h : ∀ j, -20 ≤ xs.getD j 0 ∧ xs.getD j 0 ≤ 41) : ∀ k : Nat, -(20 * (k : Int)) ≤ psum xs k ∧ psum xs k ≤ 41 * (k : Int)
  | 0 => by simp [psum]
  | k + 1 => by
    have h1 := psum_in h k
    have h2 := h k
    simp only [psum]
    omega
set_option maxHeartbeats 600000 in
set_option maxRecDepth 20000 in
theorem smooth_walk {A : Option Addr} {n c : Nat} {zs : List Int} {w : World} (hs : Sl w w.heap.size 1 A n c (ints zs)) (width : Int) : Calls Try.prog 3 #[.slice A n c, .int .i64 width] w fun e w' => e = .returned (.bool true) ∧ Below w.heap.size w w' := by
  have HN := hide (new_any A n c zs w hs)
  clear hs
  go_enter Try.func3, Try.ntmps3
  go_wp2_with fail
  refine HN.out.mono ?_
  rintro e w1 ⟨rfl, hD, hb1⟩
  have hz1 := hD.lt
  clear HN
  go_wp2_with fail
  refine (next_any _ 30 (by omega) _ hD).mono ?_
  rintro e w2 ⟨k0, rfl, hk0, hk1, hD2, hg2, hz2⟩
  obtain ⟨k0, rfl⟩ : ∃ k : Nat, k0 = (k : Int) := ⟨k0.toNat, by omega⟩
  have hb2 := below_grown hb1 hg2 hb1.size (Nat.le_refl _)
  have hk30 : k0 ≤ 30 := by omega
  have hz1' : w.heap.size < w2.heap.size := by omega
  clear hD hb1 hg2 hk0 hk1 hz2 hz1
  go_wp2
  go_loopw [6, 7] (fun v i wr => ∃ (k : Nat) (xs : List Int), k + xs.length = k0 ∧ i = .int .i64 k ∧ Hid (∀ x ∈ xs, -20 ≤ x ∧ x < 40) ∧ wr.ownsRow w2.heap.size 3 1 v xs.length (ints xs) ∧ Dk wr w.heap.size ∧ w2.grownBy wr (some w.heap.size)) (fun _ i _ => (intOf i).toNat)
  case atStart => exact ⟨k0, [], by simp, rfl, hide (by simp), World.ownsRow_nil _ _ _ _, hD2, grown_refl _ _⟩
  case round =>
    obtain ⟨k, xs, hk, rfl, hxs, hv, hDr, hgr⟩ := hrel
    by_cases h0 : k = 0
    · have hki0 : (k : Int) ≤ 0 := by omega
      have hm30 : xs.length ≤ 30 := by omega
      have hxs40 := hxs.out
      have hgd : ∀ j, -20 ≤ xs.getD j 0 ∧ xs.getD j 0 ≤ 40 := fun j => getD_in (p := fun x => -20 ≤ x ∧ x ≤ 40) (fun x hx => by have := hxs40 x hx; omega) (by omega) j
      have hbz := below_grown hb2 hgr (by omega) (Nat.le_refl _)
      have hzr := hgr.size
      clear hDr hgr hk hxs hD2 hb2
      go_wp2_with fail
      refine (mod_any _ 8 (by omega) (by omega) _).mono ?_
      rintro e w' ⟨rfl, rfl⟩
      obtain ⟨r, hr⟩ : ∃ r, width % 8 = r := ⟨_, rfl⟩
      have hr0 : 0 ≤ r ∧ r < 8 := by omega
      obtain ⟨hr0, hr1⟩ := hr0
      rw [hr]
      clear hr
      obtain ⟨A1, c1, rfl, hsv⟩ := own_sl hv
      go_wp2_with fail
      obtain ⟨wd, hwd⟩ : ∃ wd : Nat, 1 + r = (wd : Int) := ⟨(1 + r).toNat, by omega⟩
      rw [hwd]
      have hw1 : 1 ≤ wd := by omega
      have hw8 : wd ≤ 8 := by omega
      clear hwd hr0 hr1
      refine (smooth_any _ _ _ xs wd _ hsv).mono ?_
      rintro e w3 ⟨v3, rfl, ha, hb3⟩
      obtain ⟨he1, hl1⟩ := smo_ok (xs := xs) hw1 (by omega) (by omega) (fun x hx => by have := hxs40 x hx; omega)
      rw [hl1, smoK_length] at ha
      rw [he1]
      have hmem := smoK_mem hgd hw1
      have hv3 := ownsRow_below hv hb3
      have hbz3 := bthr hbz hb3 hbz.size
      have hz3 := hb3.size
      obtain ⟨A3, c3, rfl, hsa⟩ := own_sl ha
      clear he1 hl1 hsv hv hbz hb3
      go_wp2_with fail
      refine (smooth_any _ _ _ (smoK wd xs xs.length) wd _ hsa).mono ?_
      rintro e w4 ⟨v4, rfl, hb, hb4⟩
      obtain ⟨he1, hl1⟩ := smo_ok (xs := smoK wd xs xs.length) hw1 (by omega) (by rw [smoK_length]; omega) (fun x hx => by have := hmem x hx; omega)
      rw [hl1, smoK_length, smoK_length, smo_again hw1] at hb
      rw [he1]
      have hv4 := ownsRow_below hv3 hb4
      have ha4 := ownsRow_below ha hb4
      have hbz4 := bthr hbz3 hb4 hbz3.size
      obtain ⟨A4, c4, rfl, hsb⟩ := own_sl hb
      obtain ⟨_, _, hgg, hsa4⟩ := own_sl ha4
      injection hgg with e1 e2 e3
      subst e1 e3
      clear he1 hl1 hsa hv3 ha hbz3 hb4 hb
      go_wp2_with fail
      refine (same_any _ _ _ _ _ _ _ _ _ hsa4 hsb).mono ?_
      rintro e w5 ⟨rfl, hb5⟩
      rw [show sameB (smoK wd xs xs.length) (smoK wd xs xs.length) = true by simp [sameB]]
      have hv5 := ownsRow_below hv4 hb5
      have ha5 := ownsRow_below ha4 hb5
      have hbz5 := bthr hbz4 hb5 hbz4.size
      obtain ⟨_, _, hgg, hsv⟩ := own_sl hv5
      injection hgg with e1 e2 e3
      subst e1 e3
      obtain ⟨_, _, hgg, hsa⟩ := own_sl ha5
      injection hgg with e1 e2 e3
      subst e1 e3
      have HSV := hide hsv
      have HSA := hide hsa
      have HB := hide hbz5
      have HG := hide hgd
      have HMM := hide hmem
      obtain ⟨m, hm⟩ : ∃ m, xs.length = m := ⟨_, rfl⟩
      have HM := hide hm
      rw [hm] at hm30 ⊢
      clear hsa hsv hsb hv4 ha4 hv5 ha5 hbz4 hbz5 hb5 hsa4 hgd hmem hxs40 hm h0 hki0
      have hmi : (m : Int) ≤ 30 := by omega
      go_wp2
      go_loopw [13, 14, 66] (fun x y i wr => ∃ k : Nat, k ≤ m ∧ i = .int .i64 k ∧ x = .int .i64 (psum xs k) ∧ y = .int .i64 (psum (smoK wd xs xs.length) k) ∧ Below w5.heap.size w5 wr) (fun _ _ i _ => m - (intOf i).toNat)
      case atStart => exact ⟨0, by omega, rfl, rfl, rfl, Below.refl _ _⟩
      case round =>
        obtain ⟨k, hk, rfl, rfl, rfl, hbr⟩ := hrel
        by_cases hlt : k < m
        · have hml := HM.out
          have hki : (k : Int) < (m : Int) := by omega
          obtain ⟨gv, ov, rfl, hgv, hcv⟩ := HSV.out.at_ (k := k) (by omega)
          obtain ⟨ga, oa, rfl, hga, hca⟩ := HSA.out.at_ (k := k) (by omega)
          have x0 := (hbr.cell (p := ⟨gv, ov + k, none⟩) hgv).trans (hcv k _ (ints_get xs k (by omega)))
          have y0 := (hbr.cell (p := ⟨ga, oa + k, none⟩) hga).trans (hca k _ (ints_get _ k (by rw [smoK_length]; omega)))
          have y1 := (hbr.cell (p := ⟨ga, oa + (k - 1), none⟩) hga).trans (hca (k - 1) _ (ints_get _ (k - 1) (by rw [smoK_length]; omega)))
          have hsk : k / wd * wd ≤ k := Nat.div_mul_le_self k wd
          have y2 := (hbr.cell (p := ⟨ga, oa + k / wd * wd, none⟩) hga).trans (hca (k / wd * wd) _ (ints_get _ (k / wd * wd) (by rw [smoK_length]; omega)))
          obtain ⟨b0, b1⟩ := psum_in (xs := xs) (fun j => by have := HG.out j; omega) k
          have ha41 : ∀ j, -20 ≤ (smoK wd xs xs.length).getD j 0 ∧ (smoK wd xs xs.length).getD j 0 ≤ 41 := fun j => by have := getD_in (p := fun x => -20 ≤ x ∧ x ≤ 40 + 1) HMM.out (by omega) j; omega
          obtain ⟨b2, b3⟩ := psum_in (xs := smoK wd xs xs.length) ha41 k
          have HP := hide (show psum xs (k + 1) = psum xs k + xs.getD k 0 from rfl)
          have HQ := hide (show psum (smoK wd xs xs.length) (k + 1) = psum (smoK wd xs xs.length) k + (smoK wd xs xs.length).getD k 0 from rfl)
          have HE := hide (fun (h : (k + 1) % wd = 0 ∨ k + 1 = xs.length) => smo_ends (wd := wd) (xs := xs) hw1 h (by omega))
          have HF := hide (fun (h : k % wd ≠ 0) => smo_fall (wd := wd) (xs := xs) hw1 h)
          have c0 := HG.out k
          have c1 := ha41 k
          have c2 := ha41 (k - 1)
          have c3 := ha41 (k / wd * wd)
          have HE2 : Hid (((k + 1) % wd = 0 ∨ k + 1 = m) → psum xs k + xs.getD k 0 = psum (smoK wd xs xs.length) k + (smoK wd xs xs.length).getD k 0) := hide (fun h => by rw [← HP.out, ← HQ.out, HE.out (by rw [hml]; exact h)])
          have HF2 : Hid (k % wd ≠ 0 → (smoK wd xs xs.length).getD k 0 ≤ (smoK wd xs xs.length).getD (k - 1) 0 ∧ (smoK wd xs xs.length).getD (k / wd * wd) 0 ≤ (smoK wd xs xs.length).getD k 0 + 1) := hide (fun h => by
            rw [smoK_get (by omega), smoK_get (by omega), smoK_get (by omega)]; exact HF.out h)
          have hmodz : ((k % wd : Nat) : Int) = (k : Int) % (wd : Int) := Int.natCast_emod k wd
          have hmodz1 : (((k + 1) % wd : Nat) : Int) = ((k : Int) + 1) % (wd : Int) := by rw [Int.natCast_emod]; rfl
          have hmulz : ((k / wd * wd : Nat) : Int) = (k : Int) / (wd : Int) * (wd : Int) := by rw [Int.natCast_mul, Int.natCast_ediv]
          have hm0 : 0 ≤ (k : Int) / (wd : Int) * (wd : Int) := by omega
          have hm1 : (k : Int) / (wd : Int) * (wd : Int) < (m : Int) := by omega
          have hwdi : (0 : Int) < (wd : Int) := by omega
          have hwdi8 : (wd : Int) ≤ 8 := by omega
          have hq0 : 0 ≤ (k : Int) / (wd : Int) := Int.ediv_nonneg (by omega) (by omega)
          have hq1 : (k : Int) / (wd : Int) ≤ (k : Int) := Int.ediv_le_self _ (by omega)
          clear hcv hca HE HF hml ha41
          generalize (smoK wd xs xs.length).getD k 0 = ak at *
          generalize (smoK wd xs xs.length).getD (k - 1) 0 = ap at *
          generalize (smoK wd xs xs.length).getD (k / wd * wd) 0 = ah at *
          generalize xs.getD k 0 = x at *
          generalize psum xs k = px at *
          generalize psum (smoK wd xs xs.length) k = py at *
          obtain ⟨c00, c01⟩ := c0
          obtain ⟨c10, c11⟩ := c1
          obtain ⟨c20, c21⟩ := c2
          obtain ⟨c30, c31⟩ := c3
          have hbrN : ∀ q, Below w5.heap.size w5 (wr.drewN q) := fun q => hbr.grown (grown_drewN (grown_refl wr none) q) hbr.size (fun k hk => by cases hk)
          by_cases hz : k % wd = 0
          · have hzi : decide (0 < (k : Int) % (wd : Int)) = false := by simp; omega
            have HMZ := hide hmodz1
            clear hmulz hmodz hmodz1 hm0 hm1 hq0 hq1 y1 y2 hz HF2
            go_wp2
            go_quiet (fail)
            go_wp2
            go_quiet (fail)
            have hmodz1 := HMZ.out
            by_cases hb1 : (k + 1) % wd = 0
            · have hb1i : ((k : Int) + 1) % (wd : Int) = 0 := by omega
              have hb1b : (((k : Int) + 1) % (wd : Int) == 0) = true := by simp [hb1i]
              have heq := HE2.out (.inl hb1)
              have heqb : (px + x != py + ak) = false := by simp [heq]
              clear hmodz1 hb1i heq
              go_wp2
              go_roundw
              case rel => exact ⟨k + 1, by omega, by go_num, by rw [HP.out], by rw [HQ.out], hbrN _⟩
              case measure => simp [intOf]; omega
            · have hb1i : ¬ ((k : Int) + 1) % (wd : Int) = 0 := by omega
              have hb1b : (((k : Int) + 1) % (wd : Int) == 0) = false := by simp; omega
              clear hmodz1 hb1i
              by_cases hb2 : k + 1 = m
              · have hb2b : ((k : Int) == (m : Int) - 1) = true := by simp; omega
                have heq := HE2.out (.inr hb2)
                have heqb : (px + x != py + ak) = false := by simp [heq]
                clear heq
                go_wp2
                go_roundw
                case rel => exact ⟨k + 1, by omega, by go_num, by rw [HP.out], by rw [HQ.out], hbrN _⟩
                case measure => simp [intOf]; omega
              · have hb2b : ((k : Int) == (m : Int) - 1) = false := by simp; omega
                go_wp2
                go_roundw
                case rel => exact ⟨k + 1, by omega, by go_num, by rw [HP.out], by rw [HQ.out], hbrN _⟩
                case measure => simp [intOf]; omega
          · have hzi : decide (0 < (k : Int) % (wd : Int)) = true := by simp; omega
            have HMZ := hide hmodz1
            obtain ⟨f1, f2⟩ := HF2.out hz
            have hk1 : 1 ≤ k := by
              rcases Nat.eq_zero_or_pos k with h | h
              · exact absurd (by rw [h]; exact Nat.zero_mod _) hz
              · exact h
            have hk1i : (1 : Int) ≤ (k : Int) := by omega
            clear hmodz hmodz1 hz HF2
            go_wp2
            go_quiet (fail)
            go_wp2
            have g1 : decide (ap < ak) = false := by simp; omega
            have g2 : decide (ak + 1 < ah) = false := by simp; omega
            refine wp_region_quiet_lit (by kernel_rfl) (by kernel_rfl) ?_
            repeat (go_big_quiet_step (fail))
            rw [← hmulz]
            generalize k / wd * wd = s at *
            have hsi : (s : Int) < (m : Int) := by omega
            repeat (go_big_quiet_step (fail))
            refine wpQuiet_nil ?_
            rintro _ ⟨nq2, rfl⟩
            have hmodz1 := HMZ.out
            by_cases hb1 : (k + 1) % wd = 0
            · have hb1i : ((k : Int) + 1) % (wd : Int) = 0 := by omega
              have hb1b : (((k : Int) + 1) % (wd : Int) == 0) = true := by simp [hb1i]
              have heq := HE2.out (.inl hb1)
              have heqb : (px + x != py + ak) = false := by simp [heq]
              clear hmodz1 hb1i heq
              go_wp2
              go_roundw
              case rel => exact ⟨k + 1, by omega, by go_num, by rw [HP.out], by rw [HQ.out], hbrN _⟩
              case measure => simp [intOf]; omega
            · have hb1i : ¬ ((k : Int) + 1) % (wd : Int) = 0 := by omega
              have hb1b : (((k : Int) + 1) % (wd : Int) == 0) = false := by simp; omega
              clear hmodz1 hb1i
              by_cases hb2 : k + 1 = m
              · have hb2b : ((k : Int) == (m : Int) - 1) = true := by simp; omega
                have heq := HE2.out (.inr hb2)
                have heqb : (px + x != py + ak) = false := by simp [heq]
                clear heq
                go_wp2
                go_roundw
                case rel => exact ⟨k + 1, by omega, by go_num, by rw [HP.out], by rw [HQ.out], hbrN _⟩
                case measure => simp [intOf]; omega
              · have hb2b : ((k : Int) == (m : Int) - 1) = false := by simp; omega
                go_wp2
                go_roundw
                case rel => exact ⟨k + 1, by omega, by go_num, by rw [HP.out], by rw [HQ.out], hbrN _⟩
                case measure => simp [intOf]; omega
        · obtain rfl : k = m := by omega
          go_wp2_with (go_at_call 13; refine (awake_any _).mono ?_; rintro e w9 ⟨rfl, hb9⟩)
          go_ret
          exact ⟨rfl, bthr (bthr HB.out hbr HB.out.size) hb9 (by have := HB.out.size; have := hbr.size; omega)⟩
    · have hk0' : (0 : Int) < (k : Int) := by omega
      have hki : (k : Int) ≤ 30 := by omega
      go_wp2_with fail
      refine (next_any _ 60 (by omega) _ hDr).mono ?_
      rintro e w5 ⟨y, rfl, hy0, hy1, hD5, hg5, -⟩
      have hv5 := own_deck hv hg5 (by omega)
      have hgr5 := grown_trans hgr hg5
      have hz5 := hgr5.size
      have hy2 : y < 60 := by omega
      have HX := hide (show ∀ z ∈ xs ++ [y - 20], -20 ≤ z ∧ z < 40 by
        intro z hz
        rcases List.mem_append.1 hz with h | h
        · exact hxs.out z h
        · rw [List.mem_singleton] at h; subst h; omega)
      have hxl : xs.length ≤ 30 := by omega
      clear hv hg5 hDr hgr hxs hy1
      go_wp2_with (at_builtin; refine wpList_push rfl _ _ _ rfl w2.heap.size _ _ slInt _ _ _ rfl hv5 _ _ rfl rfl rfl (by omega) hz5 ?_)
      intro v' w6 hv6 hg6 _
      have hD6 := hD5.other hg6 (fun k hk => by have := (hv5.lt k hk).1; omega)
      have hgr6 := grown_push hgr5 hg6 (fun k hk => (hv5.lt k hk).1)
      have HV := hide (own_cells hv6 (ys := ints (xs ++ [y - 20])) (by rw [ints_append]; rfl))
      clear hv5 hv6 hg6 hD5 hgr5 hz5
      go_wp2
      go_roundw
      case rel => exact ⟨k - 1, xs ++ [y - 20], by simp; omega, by rw [Int.natCast_sub (by omega)]; rfl, HX, by simpa using HV.out, hD6, hgr6⟩
      case measure => simp [intOf]; omega
end Go.Proofs.Ytbfflggoffmnmaa
