/-
  The inflow lies within its bounds, also if volumes were measured wrong: the walk of InflowUncertain. Condition: its list can be read.
-/
import Derived.Test.YtbfflggoffmnmaaProg
import Derived.Test.YtbfflggoffmnmaaIsp
namespace Go.Proofs.Ytbfflggoffmnmaa
open Go.RowKit

def Near (n : Int) (vs ws : List Int) (k : Nat) : Prop := ws.length = k ∧ ∀ j, j < k → 0 ≤ ws.getD j 0 ∧ vs.getD j 0 - n ≤ ws.getD j 0 ∧ ws.getD j 0 ≤ vs.getD j 0 + n
theorem near_nil (n : Int) (vs : List Int) : Near n vs [] 0 := ⟨rfl, fun j h => absurd h (by omega)⟩
theorem near_snoc {n : Int} {vs ws : List Int} {k : Nat} {x y : Int} (h : Near n vs ws k) (hx : vs.getD k 0 = x) (h0 : 0 ≤ y) (h1 : x - n ≤ y) (h2 : y ≤ x + n) : Near n vs (ws ++ [y]) (k + 1) := by
  obtain ⟨hl, h⟩ := h
  refine ⟨by simp [hl], fun j hj => ?_⟩
  by_cases hk : j < k
  · have e : (ws ++ [y]).getD j 0 = ws.getD j 0 := by simp only [List.getD_eq_getElem?_getD]; rw [List.getElem?_append_left (by omega)]
    rw [e]; exact h j hk
  · obtain rfl : j = k := by omega
    have e : (ws ++ [y]).getD j 0 = y := by simp only [List.getD_eq_getElem?_getD]; rw [List.getElem?_append_right (by omega)]; simp [hl]
    rw [e, hx]; exact ⟨h0, h1, h2⟩
theorem near_okl {n : Int} {vs ws os : List Int} (h : Near n vs ws (os.length + 1)) (hn : n < 30) (ho : os.length ≤ 13) (hos : ∀ x ∈ os, 0 ≤ x ∧ x < 40) (hv : ∀ x ∈ vs, 0 ≤ x ∧ x < 200) : Okl ws os := by
  refine ⟨h.1, ho, fun x hx => ?_, hos⟩
  obtain ⟨j, hj, rfl⟩ := List.getElem_of_mem hx
  have h1 := h.2 j (by rw [h.1] at hj; omega)
  have h2 := getD_in hv (p := fun x => 0 ≤ x ∧ x < 200) (by omega) j
  rw [List.getD_eq_getElem?_getD, List.getElem?_eq_getElem hj] at h1
  simp only [Option.getD_some] at h1
  omega
theorem unc_near {n : Int} {vs ws os : List Int} {k : Nat} (h : Near n vs ws (os.length + 1)) (hk : k < os.length) (_hn : 0 ≤ n) (hv : ∀ x ∈ vs, 0 ≤ x ∧ x < 200) :
    (uncAt vs os n k).1 ≤ balAt ws os k ∧ balAt ws os k ≤ (uncAt vs os n k).2 ∧ (uncAt vs os (n + 3) k).1 ≤ (uncAt vs os n k).1 ∧ (uncAt vs os n k).2 ≤ (uncAt vs os (n + 3) k).2 := by
  have h1 := h.2 k (by omega)
  have h2 := h.2 (k + 1) (by omega)
  have h3 := getD_in hv (p := fun x => 0 ≤ x ∧ x < 200) (by omega) k
  have h4 := getD_in hv (p := fun x => 0 ≤ x ∧ x < 200) (by omega) (k + 1)
  simp only [uncAt, uncLo, uncHi, balAt]
  omega
set_option maxHeartbeats 600000 in
set_option maxRecDepth 20000 in
theorem uncertain_walk {A : Option Addr} {n c : Nat} {zs : List Int} {w : World} (hs : Sl w w.heap.size 1 A n c (ints zs)) (off : Int) : Calls Try.prog 5 #[.slice A n c, .int .i64 off] w fun e w' => e = .returned (.bool true) ∧ Below w.heap.size w w' := by
  have HN := hide (new_any A n c zs w hs)
  clear hs
  go_enter Try.func5, Try.ntmps5
  go_wp2_with fail
  refine HN.out.mono ?_
  rintro e w1 ⟨rfl, hD, hb1⟩
  have hz1 := hD.lt
  clear HN
  go_wp2_with fail
  refine (run_any _ _ hD).mono ?_
  rintro e w2 ⟨A1, B1, c1, d1, m, vs, os, rfl, hm, hvl, hol, hvs, hos, hv, ho, -, hD2, hg⟩
  have hb2 := below_grown hb1 hg hb1.size (Nat.le_refl _)
  have hz2 := hb2.size
  obtain ⟨g, cc, hgg⟩ := ownsRow_succ hv
  injection hgg with e1 e2 e3
  subst e1 e3
  have hgm := (hv.lt g rfl).1
  have hgl := (hv.lt g rfl).2
  have hO : Okl vs os := ⟨by omega, by omega, fun x hx => by have := hvs x hx; omega, hos⟩
  have HO := hide hO
  have HOS := hide hos
  have HVS := hide hvs
  have HVL := hide hvl
  have HOL := hide hol
  clear hD hb1 hg hO hvs hvl hol hos
  go_wp2_with fail
  refine (mod_any _ 30 (by omega) (by omega) _).mono ?_
  rintro e w' ⟨rfl, rfl⟩
  obtain ⟨r, hr⟩ : ∃ r, off % 30 = r := ⟨_, rfl⟩
  have hr0 : 0 ≤ r ∧ r < 30 := by omega
  obtain ⟨hr0, hr1⟩ := hr0
  rw [hr]
  clear hr
  obtain ⟨_, _, hgg, hsv⟩ := own_sl hv
  injection hgg with e1 e2 e3
  subst e1 e3
  obtain ⟨_, _, hgg, hso⟩ := own_sl ho
  injection hgg with e1 e2 e3
  subst e1 e3
  go_wp2_with fail
  refine (unc_any _ _ _ _ _ _ vs os r _ (by omega) hsv hso).mono ?_
  rintro e w3 ⟨v3, rfl, hb, hb3⟩
  obtain ⟨hu0, hu1⟩ := okl_unc HO.out hr0 (by omega)
  rw [hu1, uncK_length, HOL.out] at hb
  rw [hu0]
  have hv3 := ownsRow_below hv hb3
  have ho3 := ownsRow_below ho hb3
  have hD3 := hD2.below hb3
  have hb4 := bthr hb2 hb3 hz2
  have hz3 := hb3.size
  obtain ⟨A3, c3, rfl, hsb⟩ := own_sl hb
  clear hv ho hsv hso hD2 hb2 hb3 hu0 hu1 hsb
  have hmi : (m : Int) ≤ 13 := by omega
  go_wp2
  go_loopw [11, 37] (fun v i wr => ∃ (k : Nat) (ws : List Int), k ≤ m + 1 ∧ i = .int .i64 k ∧ Hid (Near r vs ws k) ∧ wr.ownsRow w3.heap.size 3 1 v k (ints ws) ∧ Dk wr w.heap.size ∧ w3.grownBy wr (some w.heap.size)) (fun _ i _ => m + 1 - (intOf i).toNat)
  case atStart => exact ⟨0, [], by omega, rfl, hide (near_nil _ _), World.ownsRow_nil _ _ _ _, hD3, grown_refl _ _⟩
  case round =>
    obtain ⟨k, ws, hk, rfl, hnr, hw, hDr, hgr⟩ := hrel
    by_cases hlt : k < m + 1
    · have hx := ((own_deck hv3 hgr (by omega)).cellAt k (by omega)).trans (ints_get vs k (by have := HVL.out; omega))
      have hx200 := getD_in HVS.out (p := fun x => 0 ≤ x ∧ x < 200) (by omega) k
      obtain ⟨x, hxe⟩ : ∃ x, vs.getD k 0 = x := ⟨_, rfl⟩
      rw [hxe] at hx hx200
      obtain ⟨hx0, hx1⟩ := hx200
      have HX := hide hxe
      clear hxe
      have hki : (k : Int) < (m : Int) + 1 := by omega
      go_wp2_with fail
      refine (next_any _ _ (by omega) _ hDr).mono ?_
      rintro e w5 ⟨y, rfl, hy0, hy1, hD5, hg5, -⟩
      have hw5 := own_deck hw hg5 (by omega)
      have hgr5 := grown_trans hgr hg5
      have hz5 := hgr5.size
      have hy2 : y ≤ 2 * r := by omega
      clear hx hw hg5 hDr hgr hy1
      go_wp2_with (at_builtin; refine wpList_push rfl _ _ _ rfl w3.heap.size _ _ slInt _ _ _ rfl hw5 _ _ rfl rfl rfl (by omega) hz5 ?_)
      all_goals
        intro v' w6 hw6 hg6 _
        have hD6 := hD5.other hg6 (fun k hk => by have := (hw5.lt k hk).1; omega)
        have hgr6 := grown_push hgr5 hg6 (fun k hk => (hw5.lt k hk).1)
        have HW := hide hw6
        clear hw5 hw6 hg6 hD5 hgr5 hz5
        go_wp2
        go_roundw
        case rel =>
          first
            | exact ⟨k + 1, ws ++ [0], by omega, by go_num, hide (near_snoc hnr.out HX.out (by omega) (by omega) (by omega)), by rw [ints_append]; exact HW.out, hD6, hgr6⟩
            | exact ⟨k + 1, ws ++ [x + y - r], by omega, by go_num, hide (near_snoc hnr.out HX.out (by omega) (by omega) (by omega)), by rw [ints_append]; exact HW.out, hD6, hgr6⟩
        case measure => simp [intOf]; omega
    · obtain rfl : k = m + 1 := by omega
      have hol := HOL.out
      have HOK := hide (near_okl (os := os) (by rw [hol]; exact hnr.out) hr1 (by omega) HOS.out HVS.out)
      have ho4 := own_deck ho3 hgr (by omega)
      have hv4 := own_deck hv3 hgr (by omega)
      have hb4' := own_deck hb hgr (by omega)
      have hb5 := below_grown hb4 hgr (by omega) (Nat.le_refl _)
      have hz4 := hgr.size
      have HNR := hide (show Near r vs ws (os.length + 1) by rw [hol]; exact hnr.out)
      obtain ⟨A4, c4, rfl, hsw⟩ := own_sl hw
      obtain ⟨_, _, hgg, hso⟩ := own_sl ho4
      injection hgg with e1 e2 e3
      subst e1 e3
      clear ho3 hv3 hb hb4 hD3 hgr hDr hol
      go_wp2_with fail
      refine (bal_any _ _ _ _ _ _ ws os _ (by omega) hsw hso).mono ?_
      rintro e w5 ⟨v5, rfl, ha, hb6⟩
      rw [(okl_unc HOK.out (Int.le_refl 0) (by omega)).1]
      have hbl := bal_len HOK.out
      rw [hbl, HOL.out] at ha
      have hv5 := ownsRow_below hv4 hb6
      have ho5 := ownsRow_below ho4 hb6
      have hb7 := ownsRow_below hb4' hb6
      have hb8 := bthr hb5 hb6 hb5.size
      have hz5 := hb6.size
      obtain ⟨A5, c5, rfl, -⟩ := own_sl ha
      obtain ⟨_, _, hgg, hso5⟩ := own_sl ho5
      injection hgg with e1 e2 e3
      subst e1 e3
      obtain ⟨_, _, hgg, hsv5⟩ := own_sl hv5
      injection hgg with e1 e2 e3
      subst e1 e3
      have HAL := hide hbl
      clear hbl hsw hso hv4 ho4 hb4' hb5 hb6 hw
      go_wp2_with fail
      refine (unc_any _ _ _ _ _ _ vs os (r + 3) _ (by omega) hsv5 hso5).mono ?_
      rintro e w6 ⟨v6, rfl, hcc, hb9⟩
      obtain ⟨hu0, hu1⟩ := okl_unc HO.out (off := r + 3) (by omega) (by omega)
      rw [hu1, uncK_length, HOL.out] at hcc
      rw [hu0]
      have ha6 := ownsRow_below ha hb9
      have hbb6 := ownsRow_below hb7 hb9
      have hb10 := bthr hb8 hb9 hb8.size
      obtain ⟨A6, c6, rfl, hsc⟩ := own_sl hcc
      obtain ⟨_, _, hgg, hsa⟩ := own_sl ha6
      injection hgg with e1 e2 e3
      subst e1 e3
      obtain ⟨_, _, hgg, hsb⟩ := own_sl hbb6
      injection hgg with e1 e2 e3
      subst e1 e3
      clear hu0 hu1 hv5 ho5 hb7 hb8 hb9 hso5 hsv5 hcc ha6 hbb6 ha
      have HSA := hide hsa
      have HSB := hide hsb
      have HSC := hide hsc
      have HB := hide hb10
      clear hsa hsb hsc hb10
      go_wp2
      go_loopw [91] (fun i wr => ∃ k : Nat, k ≤ m ∧ i = .int .i64 k ∧ Below w6.heap.size w6 wr) (fun i _ => m - (intOf i).toNat)
      case atStart => exact ⟨0, by omega, rfl, Below.refl _ _⟩
      case round =>
        obtain ⟨k, hk, rfl, hbr⟩ := hrel
        by_cases hlt : k < m
        · obtain ⟨ga, oa, rfl, hga, hca⟩ := HSA.out.at_ hlt
          obtain ⟨gb, ob, rfl, hgb, hcb⟩ := HSB.out.at_ hlt
          obtain ⟨gc, oc, rfl, hgc, hcc⟩ := HSC.out.at_ hlt
          have hol := HOL.out
          have hal := HAL.out
          have x0 := (hbr.cell (p := ⟨ga, oa + k, none⟩) hga).trans (hca k _ (ints_get _ k (by omega)))
          have gt := bcells_get (uncK vs os r m) k (by rw [uncK_length]; exact hlt)
          have gt2 := bcells_get (uncK vs os (r + 3) m) k (by rw [uncK_length]; exact hlt)
          rw [uncK_get vs os r hlt] at gt
          rw [uncK_get vs os (r + 3) hlt] at gt2
          have y0 := (hbr.cell (p := ⟨gb, ob + k * 2, none⟩) hgb).trans (hcb _ _ gt.1)
          have y1 := (hbr.cell (p := ⟨gb, ob + k * 2 + 1, none⟩) hgb).trans (hcb _ _ gt.2)
          have z0 := (hbr.cell (p := ⟨gc, oc + k * 2, none⟩) hgc).trans (hcc _ _ gt2.1)
          have z1 := (hbr.cell (p := ⟨gc, oc + k * 2 + 1, none⟩) hgc).trans (hcc _ _ gt2.2)
          obtain ⟨u0, u1, u2, u3⟩ := unc_near HNR.out (show k < os.length by omega) hr0 HVS.out
          rw [← bal_get HOK.out (by omega)] at u0 u1
          clear gt gt2 hca hcb hcc hol hal
          generalize (balL ws os).getD k 0 = p0 at *
          generalize (uncAt vs os r k).1 = p1 at *
          generalize (uncAt vs os r k).2 = p2 at *
          generalize (uncAt vs os (r + 3) k).1 = p3 at *
          generalize (uncAt vs os (r + 3) k).2 = p4 at *
          have hki : (k : Int) < (m : Int) := by omega
          go_wp2
          go_quiet (fail)
          have hbr2 := hbr.grown (grown_drewN (grown_refl wr none) nq) hbr.size (fun k hk => by cases hk)
          go_wp2
          go_roundw
          case rel => exact ⟨k + 1, by omega, by go_num, hbr2⟩
          case measure => simp [intOf]; omega
        · obtain rfl : k = m := by omega
          go_wp2_with (go_at_call 13; refine (awake_any _).mono ?_; rintro e w9 ⟨rfl, hb9⟩)
          go_ret
          exact ⟨rfl, bthr (bthr HB.out hbr HB.out.size) hb9 (by have := HB.out.size; have := hbr.size; omega)⟩
end Go.Proofs.Ytbfflggoffmnmaa
