/-
  Inflows add up to what the volume has grown and what went out: the walk of InflowSums. Condition: its list can be read.
-/
import Derived.Test.YtbfflggoffmnmaaProg
import Derived.Test.YtbfflggoffmnmaaIsp
namespace Go.Proofs.Ytbfflggoffmnmaa
open Go.RowKit

set_option maxHeartbeats 600000 in
set_option maxRecDepth 20000 in
theorem sums_walk {A : Option Addr} {n c : Nat} {zs : List Int} {w : World} (hs : Sl w w.heap.size 1 A n c (ints zs)) (at_ by_ : Int) : Calls Try.prog 4 #[.slice A n c, .int .i64 at_, .int .i64 by_] w fun e w' => e = .returned (.bool true) ∧ Below w.heap.size w w' := by
  have HN := hide (new_any A n c zs w hs)
  clear hs
  go_enter Try.func4, Try.ntmps4
  go_wp2_with fail
  refine HN.out.mono ?_
  rintro e w1 ⟨rfl, hD, hb1⟩
  have hz1 := hD.lt
  clear HN
  go_wp2_with fail
  refine (run_any _ _ hD).mono ?_
  rintro e w2 ⟨A1, B1, c1, d1, m, vs, os, rfl, hm, hvl, hol, hvs, hos, hv, ho, hne, -, hg⟩
  have hb2 := below_grown hb1 hg hb1.size (Nat.le_refl _)
  have hz2 := hb2.size
  obtain ⟨g, cc, hgg⟩ := ownsRow_succ hv
  injection hgg with e1 e2 e3
  subst e1 e3
  have hog := hne g rfl
  have hgl := (hv.lt g rfl).2
  have hgm := (hv.lt g rfl).1
  have hO : Okl vs os := ⟨by omega, by omega, fun x hx => by have := hvs x hx; omega, hos⟩
  obtain ⟨_, _, hgg, hsv⟩ := own_sl hv
  injection hgg with e1 e2 e3
  subst e1 e3
  obtain ⟨_, _, hgg, hso⟩ := own_sl ho
  injection hgg with e1 e2 e3
  subst e1 e3
  have HO := hide hO
  have HU := hide (okl_unc hO (Int.le_refl 0) (by omega)).1
  have HVS := hide hvs
  have HVL := hide hvl
  have HOL := hide hol
  have HB := hide (bal_any _ _ _ _ _ _ vs os _ (by omega) hsv hso)
  clear hD hb1 hg hne hO hsv hvs hvl hol hos
  go_wp2_with fail
  refine HB.out.mono ?_
  rintro e w3 ⟨v3, rfl, ha, hb3⟩
  have hbl := bal_len HO.out
  rw [hbl, HOL.out] at ha
  rw [HU.out]
  have hv3 := ownsRow_below hv hb3
  have ho3 := ownsRow_below ho hb3
  have hb4 := bthr hb2 hb3 hz2
  have hz3 := hb3.size
  have hal := fun k hk => (ha.lt k hk).1
  obtain ⟨A3, c3, rfl, hsa⟩ := own_sl ha
  obtain ⟨_, _, hgg, hso3⟩ := own_sl ho3
  injection hgg with e1 e2 e3
  subst e1 e3
  have x0 := (hv3.cellAt 0 (by omega)).trans (ints_get vs 0 (by have := HVL.out; omega))
  have x1 := (hv3.cellAt m (by omega)).trans (ints_get vs m (by have := HVL.out; omega))
  have hv200 := getD_in HVS.out (p := fun x => 0 ≤ x ∧ x < 200) (by omega)
  obtain ⟨p0, p1⟩ := hv200 0
  obtain ⟨q0, q1⟩ := hv200 m
  have HAB := hide (psum_bound (xs := balL vs os) fun k => by
    by_cases hk : k < os.length
    · rw [bal_get HO.out hk]; exact balAt_bound HO.out k
    · rw [List.getD_eq_getElem?_getD, List.getElem?_eq_none (by rw [hbl]; omega)]; simp)
  have HOB := hide (psum_bound (xs := os) fun k => by have := getD_in HO.out.2.2.2 (p := fun x => 0 ≤ x ∧ x < 40) (by omega) k; omega)
  have HSM := hide (bal_sums HO.out m (by have := HOL.out; omega))
  have HAL := hide hbl
  clear hb2 hb3 hv ho hso hv200 hbl HB
  obtain ⟨v0, hv0⟩ : ∃ v0, vs.getD 0 0 = v0 := ⟨_, rfl⟩
  obtain ⟨vm, hvm⟩ : ∃ vm, vs.getD m 0 = vm := ⟨_, rfl⟩
  rw [hv0] at x0 p0 p1
  rw [hvm] at x1 q0 q1
  have HV0 := hide hv0
  have HVM := hide hvm
  clear hv0 hvm
  have hmi : (m : Int) ≤ 13 := by omega
  have hm0 : (0 : Int) ≤ (m : Int) := by omega
  go_wp2
  go_quiet (fail)
  have hbz : Below w3.heap.size w3 (w3.drewN nq) := (Below.refl _ w3).grown (grown_drewN (grown_refl w3 none) _) (Nat.le_refl _) (fun k hk => by cases hk)
  generalize w3.drewN nq = wz at *
  have hzz := hbz.size
  have ha4 := ownsRow_below ha hbz
  have hv4 := ownsRow_below hv3 hbz
  have ho4 := ownsRow_below ho3 hbz
  have HSA := hide (hsa.thr hbz)
  have HSO := hide (hso3.thr hbz)
  have hb5 := bthr hb4 hbz hb4.size
  clear x0 x1 hsa hso3 hbz hb4 ha hv3 ho3
  go_wp2
  go_loopw [12, 45] (fun s i wr => ∃ k : Nat, k ≤ m ∧ i = .int .i64 k ∧ s = .int .i64 (v0 - vm + psum (balL vs os) k) ∧ wr = wz) (fun _ i _ => m - (intOf i).toNat)
  case atStart => exact ⟨0, by omega, rfl, by simp [psum], rfl⟩
  case round =>
    obtain ⟨k, hk, rfl, rfl, rfl⟩ := hrel
    obtain ⟨b1, b2⟩ := HAB.out k
    by_cases hlt : k < m
    · obtain ⟨gb, o, rfl, hgb, hcl⟩ := HSA.out.at_ hlt
      have hx := hcl k _ (ints_get _ k (by rw [HAL.out, HOL.out]; exact hlt))
      have HP := hide (show psum (balL vs os) (k + 1) = psum (balL vs os) k + (balL vs os).getD k 0 from rfl)
      obtain ⟨b3, b4⟩ := HAB.out (k + 1)
      rw [HP.out] at b3 b4
      clear hcl
      generalize (balL vs os).getD k 0 = x at *
      generalize psum (balL vs os) k = s at *
      go_wp2
      go_roundw
      case rel => exact ⟨k + 1, by omega, by go_num, by rw [HP.out, Int.add_assoc], by trivial⟩
      case measure => simp [intOf]; omega
    · obtain rfl : k = m := by omega
      obtain ⟨s1, hs1⟩ : ∃ s1, v0 - vm + psum (balL vs os) k = s1 := ⟨_, rfl⟩
      rw [hs1]
      have hs2 : s1 = psum os k := by have h1 := HSM.out; have h2 := HV0.out; have h3 := HVM.out; omega
      have HS2 := hide hs2
      clear hs1 hs2
      go_wp2
      go_loopw [12, 57] (fun s i wr' => ∃ j : Nat, j ≤ k ∧ i = .int .i64 j ∧ s = .int .i64 (s1 - psum os j) ∧ wr' = wr) (fun _ i _ => k - (intOf i).toNat)
      case atStart => exact ⟨0, by omega, rfl, by simp [psum], rfl⟩
      case round =>
        obtain ⟨j, hj, rfl, rfl, rfl⟩ := hrel
        obtain ⟨c1', c2'⟩ := HOB.out j
        obtain ⟨c5, c6⟩ := HOB.out k
        rw [← HS2.out] at c5 c6
        by_cases hlt : j < k
        · obtain ⟨gb, o, rfl, hgb, hcl⟩ := HSO.out.at_ hlt
          have hx := hcl j _ (ints_get _ j (by rw [HOL.out]; exact hlt))
          have HP := hide (show psum os (j + 1) = psum os j + os.getD j 0 from rfl)
          obtain ⟨c3, c4⟩ := HOB.out (j + 1)
          rw [HP.out] at c3 c4
          clear hcl
          generalize os.getD j 0 = x at *
          generalize psum os j = s at *
          go_wp2
          go_roundw
          case rel => exact ⟨j + 1, by omega, by go_num, by rw [HP.out]; go_num, by trivial⟩
          case measure => simp [intOf]; omega
        · obtain rfl : j = k := by omega
          have hz0 : s1 - psum os j = 0 := by have := HS2.out; omega
          rw [hz0]
          clear c1' c2' c5 c6 b1 b2
          by_cases hm3 : j < 2
          · have hm3i : (j : Int) + 1 < 3 := by omega
            go_wp2_with (go_at_call 13; refine (awake_any _).mono ?_; rintro e w9 ⟨rfl, hb9⟩)
            go_ret
            exact ⟨rfl, bthr hb5 hb9 hb5.size⟩
          · have hm3i : ¬ (j : Int) + 1 < 3 := by omega
            go_wp2_with fail
            refine (mod_any _ _ (by omega) (by omega) _).mono ?_
            rintro e w' ⟨rfl, rfl⟩
            have hr0 := Int.emod_nonneg at_ (show (j : Int) + 1 - 2 ≠ 0 by omega)
            have hr1 := Int.emod_lt_of_pos at_ (show (0 : Int) < (j : Int) + 1 - 2 by omega)
            obtain ⟨r, hr⟩ : ∃ r : Nat, at_ % ((j : Int) + 1 - 2) = (r : Int) := ⟨(at_ % ((j : Int) + 1 - 2)).toNat, by omega⟩
            rw [hr]
            rw [hr] at hr0 hr1
            have hrj : r + 1 < j := by omega
            have hr63 : (r : Int) ≤ 13 := by omega
            clear hr hr0 hr1
            go_wp2_with fail
            refine (mod_any _ 30 (by omega) (by omega) _).mono ?_
            rintro e w' ⟨rfl, rfl⟩
            obtain ⟨d, hd⟩ : ∃ d, by_ % 30 = d := ⟨_, rfl⟩
            have hd0 : 0 ≤ d ∧ d < 30 := by omega
            obtain ⟨hd0, hd1⟩ := hd0
            rw [hd]
            clear hd
            have HON := hide (okl_set (i := 1 + r) HO.out HVS.out hd0 hd1)
            have HBT := hide (bal_between (i := 1 + r) HO.out HON.out (by omega) (by have := HOL.out; omega))
            have hv200 := getD_in HVS.out (p := fun x => 0 ≤ x ∧ x < 200) (by omega) (1 + r)
            have hvi := (hv4.cellAt (1 + r) (by omega)).trans (ints_get vs (1 + r) (by have := HVL.out; omega))
            have hfi := hv4.frozenAt (1 + r)
            have HST := hide (fun v : Int => hv4.stored (1 + r) (.int .i64 v))
            obtain ⟨x, hx⟩ : ∃ x, vs.getD (1 + r) 0 = x := ⟨_, rfl⟩
            rw [hx] at hvi hv200
            have HXX := hide hx
            clear hx
            have HV4 := hide hv4
            have HO4 := hide ho4
            have HA4 := hide ha4
            have HB5 := hide hb5
            obtain ⟨hv0', hv1'⟩ := hv200
            clear hv4 ho4 ha4 hb5
            go_wp2_with fail
            obtain ⟨hv8, hg8⟩ := HST.out (x + d)
            have hv9 := own_cells hv8 (ys := ints (vs.set (1 + r) (vs.getD (1 + r) 0 + d))) (by rw [HXX.out]; simp [ints, List.map_set])
            have ho8 := HO4.out.kept hg8 (.inr hog)
            have ha8 := HA4.out.kept hg8 (by
              cases hb : (Value.slice A3 j c3).ownBlock with
              | none => exact .inl rfl
              | some y => exact .inr (fun e => by injection e with e; have := hal y hb; omega))
            have hb8 := below_grown HB5.out hg8 (by have := HB5.out.size; omega) (by omega)
            clear HST HV4 HO4 HA4 HB5 hv8 hg8 hvi hfi
            generalize wr.setCell ⟨g, 1 + r, none⟩ (.int .i64 (x + d)) = w8 at *
            obtain ⟨_, _, hgg, hsv⟩ := own_sl hv9
            injection hgg with e1 e2 e3
            subst e1 e3
            obtain ⟨_, _, hgg, hso⟩ := own_sl ho8
            injection hgg with e1 e2 e3
            subst e1 e3
            refine (bal_any _ _ _ _ _ _ _ os _ (by omega) hsv hso).mono ?_
            rintro e w9 ⟨v9, rfl, hb, hb9⟩
            rw [(okl_unc HON.out (Int.le_refl 0) (by omega)).1]
            have hbl := bal_len HON.out
            rw [hbl, HOL.out] at hb
            have ha9 := ownsRow_below ha8 hb9
            have hb10 := bthr hb8 hb9 hb8.size
            obtain ⟨A9, c9, rfl, hsb⟩ := own_sl hb
            obtain ⟨_, _, hgg, hsa⟩ := own_sl ha9
            injection hgg with e1 e2 e3
            subst e1 e3
            obtain ⟨gb, ob, rfl, -, hcb⟩ := hsb.at_ (k := r) (by omega)
            obtain ⟨ga, oa, rfl, -, hca⟩ := hsa.at_ (k := r) (by omega)
            have hol := HOL.out
            have hal2 := HAL.out
            have cb0 := hcb r _ (ints_get _ r (by omega))
            have cb1 := hcb (1 + r) _ (ints_get _ (1 + r) (by omega))
            have ca0 := hca r _ (ints_get _ r (by omega))
            have ca1 := hca (1 + r) _ (ints_get _ (1 + r) (by omega))
            have hbt := HBT.out
            rw [show 1 + r - 1 = r by omega] at hbt
            rw [hbt.1] at cb0
            rw [hbt.2] at cb1
            have q0 := balAt_bound HO.out r
            have q1 := balAt_bound HO.out (1 + r)
            rw [← bal_get HO.out (by omega)] at q0 q1
            generalize (balL vs os).getD r 0 = p0 at *
            generalize (balL vs os).getD (1 + r) 0 = p1 at *
            obtain ⟨q00, q01⟩ := q0
            obtain ⟨q10, q11⟩ := q1
            clear hcb hca hbt hsb hsa hb ha9 hb9 hso hsv hv9 ho8 ha8 hb8 hal2 hol HBT HON HXX
            have HB10 := hide hb10
            clear hb10
            have hri : (1 + (r : Int)) < (j : Int) := by omega
            go_wp2_with fail
            have hne : Nonempty (InW fun W => Below w9.heap.size w9 W) := ⟨⟨w9, Below.refl _ _⟩⟩
            replace cb0 := inv_cell cb0
            replace cb1 := inv_cell cb1
            replace ca0 := inv_cell ca0
            replace ca1 := inv_cell ca1
            refine wp_region_inv (I := fun W => Below w9.heap.size w9 W) (by kernel_rfl) (by kernel_rfl) (Below.refl _ _).drew ?_
            repeat (go_big_quiet_step (first | (go_at_call 13; refine inv_call (inv_closed w9) (awake_any _))))
            refine wpQuiet_nil ?_
            rintro _ ⟨⟨w10, h10⟩, rfl⟩
            clear cb0 cb1 ca0 ca1 hne
            have HB11 := hide (bthr HB10.out h10 HB10.out.size)
            clear h10 HB10
            go_wp2
            go_ret
            exact ⟨rfl, HB11.out⟩
end Go.Proofs.Ytbfflggoffmnmaa
