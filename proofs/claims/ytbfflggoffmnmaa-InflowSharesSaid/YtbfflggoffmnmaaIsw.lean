/-
  A total spread by weights and smoothed keeps its sum: the walk of InflowShares. Condition: its list can be read.
-/
import Derived.Test.YtbfflggoffmnmaaProg
import Derived.Test.YtbfflggoffmnmaaIsh
namespace Go.Proofs.Ytbfflggoffmnmaa
open Go.RowKit

set_option maxHeartbeats 600000 in
set_option maxRecDepth 20000 in
theorem ishares_walk {A : Option Addr} {n c : Nat} {zs : List Int} {w : World} (hs : Sl w w.heap.size 1 A n c (ints zs)) (total width : Int) : Calls Try.prog 7 #[.slice A n c, .int .i64 total, .int .i64 width] w fun e w' => e = .returned (.bool true) ∧ Below w.heap.size w w' := by
  have HN := hide (new_any A n c zs w hs)
  clear hs
  go_enter Try.func7, Try.ntmps7
  go_wp2_with fail
  refine HN.out.mono ?_
  rintro e w1 ⟨rfl, hD, hb1⟩
  have hz1 := hD.lt
  clear HN
  go_wp2_with fail
  refine (next_any _ 12 (by omega) _ hD).mono ?_
  rintro e w2 ⟨k0, rfl, hk0, hk1, hD2, hg2, hz2⟩
  have hb2 := below_grown hb1 hg2 hb1.size (Nat.le_refl _)
  have hz1' : w.heap.size < w2.heap.size := by omega
  clear hD hb1 hg2 hz2 hz1
  go_wp2_with fail
  obtain ⟨m, hm⟩ : ∃ m : Nat, 1 + k0 = (m : Int) := ⟨(1 + k0).toNat, by omega⟩
  rw [hm]
  have hm1 : 1 ≤ m := by omega
  have hm12 : m ≤ 12 := by omega
  clear hm hk0 hk1
  refine (flows_any _ m 30 (by omega) (by omega) (by omega) _ hD2).mono ?_
  rintro e w3 ⟨v, ws, rfl, hwl, hws, hv, -, hg3⟩
  have hb3 := below_grown hb2 hg3 (by omega) (Nat.le_refl _)
  have hz3 := hg3.size
  obtain ⟨m', rfl⟩ : ∃ m', m = m' + 1 := ⟨m - 1, by omega⟩
  obtain ⟨g, cc, rfl⟩ := ownsRow_succ hv
  have hgm := (hv.lt g rfl).1
  have hx0 := (hv.cellAt 0 (by omega)).trans (ints_get ws 0 (by omega))
  have hf0 := hv.frozenAt 0
  have hx30 := getD_in hws (p := fun x => 0 ≤ x ∧ x < 30) (by omega) 0
  obtain ⟨x, hx⟩ : ∃ x, ws.getD 0 0 = x := ⟨_, rfl⟩
  rw [hx] at hx0 hx30
  obtain ⟨hx1, hx2⟩ := hx30
  have HST := hide (hv.stored 0 (.int .i64 (x + 1)))
  have HB3 := hide hb3
  have HWL := hide hwl
  have HWS := hide hws
  have hwl2 : (ws.set 0 (x + 1)).length = m' + 1 := by rw [List.length_set]; exact hwl
  have hws2 : ∀ y ∈ ws.set 0 (x + 1), 0 ≤ y ∧ y ≤ 30 := by
    intro y hy
    rcases List.mem_or_eq_of_mem_set hy with h | h
    · have := hws y h; omega
    · omega
  have hsum : 0 < (ws.set 0 (x + 1)).sum := by
    have h1 := get_le_sum (ws := ws.set 0 (x + 1)) (fun w hw => (hws2 w hw).1) 0
    have e1 : (ws.set 0 (x + 1)).getD 0 0 = x + 1 := by rw [List.getD_eq_getElem?_getD, List.getElem?_set_self (by omega)]; rfl
    omega
  have HW2 := hide hws2
  have HL2 := hide hwl2
  have HSUM := hide hsum
  clear hv hb2 hb3 hg3 hD2 hwl hws hx hwl2 hws2 hsum
  go_wp2_with fail
  obtain ⟨hv, hg⟩ := HST.out
  have hv4 := own_cells hv (ys := ints (ws.set 0 (x + 1))) (by rw [ints_set])
  have hb4 := below_grown HB3.out hg (by have := HB3.out.size; omega) (by omega)
  have hz4 := hg.size
  clear hv hg HST HB3 hx0 hf0
  generalize w3.setCell ⟨g, 0, none⟩ (.int .i64 (x + 1)) = w4 at *
  obtain ⟨us, hus⟩ : ∃ us, ws.set 0 (x + 1) = us := ⟨_, rfl⟩
  rw [hus] at HW2 HL2 HSUM hv4
  clear hus HWL HWS hx1 hx2
  refine (mod_any _ 5000 (by omega) (by omega) _).mono ?_
  rintro e w' ⟨rfl, rfl⟩
  obtain ⟨a, ha⟩ : ∃ a, total % 5000 = a := ⟨_, rfl⟩
  have ha0 : 0 ≤ a ∧ a < 5000 := by omega
  obtain ⟨ha0, ha1⟩ := ha0
  rw [ha]
  clear ha
  obtain ⟨_, _, hgg, hsv⟩ := own_sl hv4
  injection hgg with e1 e2 e3
  subst e1 e3
  go_wp2_with fail
  refine (spread_any a us _ _ _ _ (by omega) ⟨ha0, by omega⟩ (fun y hy => by have := HW2.out y hy; omega) hsv).mono ?_
  rintro e w5 ⟨v5, rfl, hx, hb5⟩
  have hSh := shareL_spec (a := a) HSUM.out
  have hsh := hSh.len
  have hxin := share_in hSh ha0 (fun y hy => (HW2.out y hy).1) HSUM.out
  have hsE : shE a us = 0 := by unfold shE; rw [if_neg (by have := HSUM.out; omega)]
  have hsV : shV a us = shareL a us := by unfold shV; rw [if_neg (by have := HSUM.out; omega)]
  rw [hsV] at hx
  rw [hsE]
  rw [hsh, HL2.out] at hx
  have hv5 := ownsRow_below hv4 hb5
  have hb6 := bthr hb4 hb5 hb4.size
  have hxs := hSh.sum
  rw [HL2.out] at hsh
  clear hSh hsE hsV hv4 hsv hb5 hb4
  generalize shareL a us = xs at *
  obtain ⟨X, cx, rfl, hsx⟩ := own_sl hx
  go_wp2_with fail
  refine (mod_any _ 9 (by omega) (by omega) _).mono ?_
  rintro e w' ⟨rfl, rfl⟩
  obtain ⟨r, hr⟩ : ∃ r, width % 9 = r := ⟨_, rfl⟩
  have hr0 : 0 ≤ r ∧ r < 9 := by omega
  obtain ⟨hr0, hr1⟩ := hr0
  rw [hr]
  clear hr
  go_wp2_with fail
  obtain ⟨wd, hwd⟩ : ∃ wd : Nat, 1 + r = (wd : Int) := ⟨(1 + r).toNat, by omega⟩
  rw [hwd]
  have hw1 : 1 ≤ wd := by omega
  have hw9 : wd ≤ 9 := by omega
  clear hwd hr0 hr1
  have hin : ∀ y ∈ xs, -1000000 ≤ y ∧ y ≤ 1000000 := fun y hy => by have := hxin y hy; omega
  refine (smooth_any _ _ _ xs wd _ hsx).mono ?_
  rintro e w6 ⟨v6, rfl, hy, hb7⟩
  obtain ⟨he1, hl1⟩ := smo_ok (xs := xs) hw1 (by omega) (by omega) hin
  rw [hl1, show (smoK wd xs xs.length).length = m' + 1 by rw [smoK_length, hsh]] at hy
  rw [he1]
  have hx6 := ownsRow_below hx hb7
  have hb8 := bthr hb6 hb7 hb6.size
  obtain ⟨Y, cy, rfl, -⟩ := own_sl hy
  obtain ⟨_, _, hgg, hsx6⟩ := own_sl hx6
  injection hgg with e1 e2 e3
  subst e1 e3
  clear he1 hl1 hx hsx hb7 hb6
  go_wp2_with fail
  refine (smooth_any _ _ _ xs 1 _ hsx6).mono ?_
  rintro e w7 ⟨v7, rfl, hzz, hb9⟩
  obtain ⟨he1, hl1⟩ := smo_ok (wd := 1) (xs := xs) (by omega) (by omega) (by omega) hin
  have e001 : ((1 : Nat) : Int) = 1 := rfl
  rw [e001] at he1 hl1
  rw [hl1, smo_one, hsh] at hzz
  rw [he1]
  have hx7 := ownsRow_below hx6 hb9
  have hy7 := ownsRow_below hy hb9
  have hb10 := bthr hb8 hb9 hb8.size
  obtain ⟨Z, cz, rfl, -⟩ := own_sl hzz
  obtain ⟨_, _, hgg, hsx7⟩ := own_sl hx7
  injection hgg with e1 e2 e3
  subst e1 e3
  clear he1 hl1 hx6 hsx6 hb9 hb8 hy
  go_wp2_with fail
  refine (smooth_any _ _ _ xs 4096 _ hsx7).mono ?_
  rintro e w8 ⟨v8, rfl, hq, hb11⟩
  obtain ⟨he1, hl1⟩ := smo_ok (wd := 4096) (xs := xs) (by omega) (by omega) (by omega) hin
  have e4096 : ((4096 : Nat) : Int) = 4096 := rfl
  rw [e4096] at he1 hl1
  rw [hl1, show (smoK 4096 xs xs.length).length = m' + 1 by rw [smoK_length, hsh]] at hq
  rw [he1]
  have hx8 := ownsRow_below hx7 hb11
  have hy8 := ownsRow_below hy7 hb11
  have hz8 := ownsRow_below hzz hb11
  have hb12 := bthr hb10 hb11 hb10.size
  obtain ⟨Q, cq, rfl, -⟩ := own_sl hq
  obtain ⟨_, _, hgg, hsx8⟩ := own_sl hx8
  injection hgg with e1 e2 e3
  subst e1 e3
  obtain ⟨_, _, hgg, hsz8⟩ := own_sl hz8
  injection hgg with e1 e2 e3
  subst e1 e3
  clear he1 hl1 hx7 hsx7 hb11 hb10 hy7 hzz
  go_wp2_with fail
  refine (same_any _ _ _ _ _ _ _ _ _ hsx8 hsz8).mono ?_
  rintro e w9 ⟨rfl, hb13⟩
  rw [show sameB xs xs = true by simp [sameB]]
  have hx9 := ownsRow_below hx8 hb13
  have hy9 := ownsRow_below hy8 hb13
  have hq9 := ownsRow_below hq hb13
  have hb14 := bthr hb12 hb13 hb12.size
  obtain ⟨_, _, hgg, hsx9⟩ := own_sl hx9
  injection hgg with e1 e2 e3
  subst e1 e3
  obtain ⟨_, _, hgg, hsy9⟩ := own_sl hy9
  injection hgg with e1 e2 e3
  subst e1 e3
  obtain ⟨_, _, hgg, hsq9⟩ := own_sl hq9
  injection hgg with e1 e2 e3
  subst e1 e3
  have HSX := hide hsx9
  have HSY := hide hsy9
  have HB := hide hb14
  have hxg : ∀ j, 0 ≤ xs.getD j 0 ∧ xs.getD j 0 ≤ 5001 := fun j => getD_in (p := fun x => 0 ≤ x ∧ x ≤ 5001) (fun y hy => by have := hxin y hy; omega) (by omega) j
  have hyg : ∀ j, 0 ≤ (smoK wd xs xs.length).getD j 0 ∧ (smoK wd xs xs.length).getD j 0 ≤ 5002 := fun j => getD_in (p := fun x => 0 ≤ x ∧ x ≤ 5002) (fun y hy => by have := smoK_mem hxg hw1 y hy; omega) (by omega) j
  have hqg : ∀ j, 0 ≤ (smoK 4096 xs xs.length).getD j 0 ∧ (smoK 4096 xs xs.length).getD j 0 ≤ 5002 := fun j => getD_in (p := fun x => 0 ≤ x ∧ x ≤ 5002) (fun y hy => by have := smoK_mem hxg (wd := 4096) (by omega) y hy; omega) (by omega) j
  obtain ⟨gq, oq, rfl, hgq, hcq⟩ := hsq9.at_ (k := 0) (by omega)
  have q0 := hcq 0 _ (ints_get _ 0 (by rw [smoK_length]; omega))
  have q1 := hcq m' _ (ints_get _ m' (by rw [smoK_length]; omega))
  have q2 := smo_whole (xs := xs) (n := 4096) (i := m') (by omega) (by omega) (by omega)
  rw [← smoK_get (n := xs.length) (by omega), ← smoK_get (wd := 4096) (xs := xs) (n := xs.length) (i := m') (by omega)] at q2
  have q3 := hqg 0
  have q4 := hqg m'
  generalize (smoK 4096 xs xs.length).getD 0 0 = y0 at *
  generalize (smoK 4096 xs xs.length).getD m' 0 = y1 at *
  obtain ⟨q30, q31⟩ := q3
  obtain ⟨q40, q41⟩ := q4
  have HXA := hide (show psum xs (m' + 1) = a by rw [← hxs, ← psum_all, hsh])
  have HYA := hide (show psum (smoK wd xs xs.length) (m' + 1) = a by
    have h1 := smo_ends (wd := wd) (xs := xs) (s := xs.length) hw1 (.inr rfl) (Nat.le_refl _)
    rw [psum_all xs, hxs, hsh] at h1
    rw [hsh]; exact h1)
  have HXG := hide hxg
  have HYG := hide hyg
  have HSH := hide hsh
  clear hsx9 hsy9 hsq9 hx9 hy9 hq9 hb14 hb13 hb12 hcq hqg hxg hyg hxin hin hxs hsh hx8 hy8 hq hz8 hsx8 hsz8
  have hmi : (m' : Int) ≤ 11 := by omega
  go_wp2
  go_loopw [18, 19, 89] (fun x y i wr => ∃ k : Nat, k ≤ m' + 1 ∧ i = .int .i64 k ∧ x = .int .i64 (psum xs k) ∧ y = .int .i64 (psum (smoK wd xs xs.length) k) ∧ Below w9.heap.size w9 wr) (fun _ _ i _ => m' + 1 - (intOf i).toNat)
  case atStart => exact ⟨0, by omega, rfl, rfl, rfl, Below.refl _ _⟩
  case round =>
    obtain ⟨k, hk, rfl, rfl, rfl, hbr⟩ := hrel
    by_cases hlt : k < m' + 1
    · have hsh := HSH.out
      obtain ⟨gx, ox, rfl, hgx, hcx⟩ := HSX.out.at_ (k := k) (by omega)
      obtain ⟨gy, oy, rfl, hgy, hcy⟩ := HSY.out.at_ (k := k) (by omega)
      have c0 := (hbr.cell (p := ⟨gx, ox + k, none⟩) hgx).trans (hcx k _ (ints_get xs k (by omega)))
      have c1 := (hbr.cell (p := ⟨gy, oy + k, none⟩) hgy).trans (hcy k _ (ints_get _ k (by rw [smoK_length]; omega)))
      obtain ⟨p0, p1⟩ := psum_gen HXG.out k
      obtain ⟨p2, p3⟩ := psum_gen HYG.out k
      have HP := hide (show psum xs (k + 1) = psum xs k + xs.getD k 0 from rfl)
      have HQ := hide (show psum (smoK wd xs xs.length) (k + 1) = psum (smoK wd xs xs.length) k + (smoK wd xs xs.length).getD k 0 from rfl)
      obtain ⟨r0, r1⟩ := HXG.out k
      obtain ⟨r2, r3⟩ := HYG.out k
      have hbrN : ∀ q, Below w9.heap.size w9 (wr.drewN q) := fun q => hbr.grown (grown_drewN (grown_refl wr none) q) hbr.size (fun k hk => by cases hk)
      have hki : (k : Int) < (m' : Int) + 1 := by omega
      clear hcx hcy hsh
      generalize xs.getD k 0 = xk at *
      generalize (smoK wd xs xs.length).getD k 0 = yk at *
      generalize psum xs k = px at *
      generalize psum (smoK wd xs xs.length) k = py at *
      go_wp2
      go_quiet (fail)
      go_wp2
      go_roundw
      case rel => exact ⟨k + 1, by omega, by go_num, by rw [HP.out], by rw [HQ.out], hbrN _⟩
      case measure => simp [intOf]; omega
    · obtain rfl : k = m' + 1 := by omega
      rw [HXA.out, HYA.out]
      have z0 := (hbr.cell (p := ⟨gq, oq, none⟩) hgq).trans q0
      have z1 := (hbr.cell (p := ⟨gq, oq + m', none⟩) hgq).trans q1
      have HBR := hide hbr
      clear q0 q1 hbr
      have ee : (a == a) = true := by simp
      have g1 : decide (y0 - y1 ≤ 1) = true := by simp; omega
      go_wp2_with fail
      have hne : Nonempty (InW fun W => Below wr.heap.size wr W) := ⟨⟨wr, Below.refl _ _⟩⟩
      replace z0 := inv_cell z0
      replace z1 := inv_cell z1
      refine wp_region_inv (I := fun W => Below wr.heap.size wr W) (by kernel_rfl) (by kernel_rfl) (Below.refl _ _).drew ?_
      repeat (go_big_quiet_step (first | (go_at_call 13; refine inv_call (inv_closed wr) (awake_any _))))
      refine wpQuiet_nil ?_
      rintro _ ⟨⟨w10, h10⟩, rfl⟩
      clear z0 z1 hne
      have HB11 := hide (bthr (bthr HB.out HBR.out HB.out.size) h10 (by have := HB.out.size; have := HBR.out.size; omega))
      clear h10
      go_wp2
      go_ret
      exact ⟨rfl, HB11.out⟩
end Go.Proofs.Ytbfflggoffmnmaa
