/-
  The reference's Smooth: the smoothed values, or the error. Condition: the slice can be read.
-/
import Derived.Test.YtbfflggoffmnmaaProg
import Derived.Test.YtbfflggoffmnmaaFlw
namespace Go.Proofs.Ytbfflggoffmnmaa
open Go.RowKit

theorem rfloor_any (a b : Int) (w : World) (ha : -1125899906842624 ≤ a) (ha' : a ≤ 1125899906842624) (hb : 0 < b) (hb' : b ≤ 4096) :
    Calls Try.prog 40 #[.int .i64 a, .int .i64 b] w fun e w' => e = .returned (.int .i64 (a / b)) ∧ w = w' := by
  have hbz : (b == 0) = false := by simp; omega
  by_cases h0 : 0 ≤ a
  · have h1 : 0 ≤ a / b := Int.ediv_nonneg h0 (by omega)
    have h2 : a / b ≤ a := Int.ediv_le_self b h0
    have h3 := Int.emod_nonneg a (b := b) (by omega)
    have h4 := Int.emod_lt_of_pos a hb
    go_enter Try.func40, Try.ntmps40
    go_wp2
    go_ret
    exact ⟨rfl, rfl⟩
  · have hn : a < 0 := by omega
    obtain ⟨h1, h2⟩ := tdiv_range hn hb
    obtain ⟨h3, h4⟩ := tmod_neg hn hb
    by_cases hr : a.tmod b < 0
    · have HE := hide (tdiv_neg1 hn hb hr)
      go_enter Try.func40, Try.ntmps40
      go_wp2
      go_ret
      exact ⟨ret_int HE.out, rfl⟩
    · have HE := hide (tdiv_neg0 hn hb hr)
      go_enter Try.func40, Try.ntmps40
      go_wp2
      go_ret
      exact ⟨ret_int HE.out, rfl⟩
theorem rdown_any (a b : Int) (w : World) (ha : -1125899906842624 ≤ a) (ha' : a ≤ 1125899906842624) (hb : 0 < b) (hb' : b ≤ 4096) :
    Calls Try.prog 34 #[.int .i64 a, .int .i64 b] w fun e w' => e = .returned (.int .i64 (a / b)) ∧ w = w' := by
  have HF := hide (rfloor_any a b w ha ha' hb hb')
  go_enter Try.func34, Try.ntmps34
  go_wp2_with fail
  refine HF.out.mono ?_
  rintro e w' ⟨rfl, rfl⟩
  go_wp2
  go_ret
  exact ⟨rfl, rfl⟩
theorem big_wrong {l : List Int} {k : Nat} (hk : k < l.length) (h : bigB (l.getD k 0) = true) : l.any bigB = true := by
  rw [List.any_eq_true]
  refine ⟨l[k], List.getElem_mem hk, ?_⟩
  rwa [List.getD_eq_getElem?_getD, List.getElem?_eq_getElem hk, Option.getD_some] at h
theorem big_right {l : List Int} (h : ∀ j, j < l.length → bigB (l.getD j 0) = false) : l.any bigB = false := by
  rw [List.any_eq_false]
  intro x hx
  obtain ⟨j, hj, rfl⟩ := List.getElem_of_mem hx
  have := h j hj
  rw [List.getD_eq_getElem?_getD, List.getElem?_eq_getElem hj, Option.getD_some] at this
  simp [this]
def NoBig (l : List Int) (k : Nat) : Prop := ∀ j, j < k → bigB (l.getD j 0) = false
theorem noBig_succ {l : List Int} {k : Nat} (h : NoBig l k) (hx : bigB (l.getD k 0) = false) : NoBig l (k + 1) := by
  intro j hj
  rcases Nat.lt_or_ge j k with h1 | h1
  · exact h j h1
  · obtain rfl : j = k := by omega
    exact hx
set_option maxHeartbeats 600000 in
set_option maxRecDepth 20000 in
theorem rsmooth_any (A : Option Addr) (n c : Nat) (xs : List Int) (wd : Int) (w : World) (hs : Sl w w.heap.size 1 A n c (ints xs)) :
    Calls Try.prog 22 #[.slice A n c, .int .i64 wd] w (SmoOut w wd xs) := by
  have hl : n = xs.length := by have := hs.1; rw [ints_length] at this; omega
  have hm : n ≤ 9223372036854775807 := by have a1 := hs.2.1; have a2 := hs.2.2.1; unfold maxLen at a2; omega
  have hnc : n ≤ c := hs.2.1
  have hcm : c ≤ 9223372036854775807 := by have := hs.2.2.1; unfold maxLen at this; omega
  by_cases h1 : wd < 1
  · have HE := hide (show smoE wd xs = 1 by simp [smoE, h1])
    have HL := hide (show smoL wd xs = [] by simp [smoL, HE.out])
    clear hl hs
    go_enter Try.func22, Try.ntmps22
    go_wp2
    go_ret2
    exact ⟨_, by rw [HE.out]; rfl, by rw [HL.out]; exact World.ownsRow_nil _ _ _ _, Below.refl _ _⟩
  · have h1' : 1 ≤ wd := by omega
    by_cases h2 : 4096 < wd
    · have HE := hide (show smoE wd xs = 1 by simp [smoE, h2])
      have HL := hide (show smoL wd xs = [] by simp [smoL, HE.out])
      clear hl hs
      go_enter Try.func22, Try.ntmps22
      go_wp2
      go_ret2
      exact ⟨_, by rw [HE.out]; rfl, by rw [HL.out]; exact World.ownsRow_nil _ _ _ _, Below.refl _ _⟩
    · have h2' : wd ≤ 4096 := by omega
      have HBW := hide (fun (h : xs.any bigB = true) => show smoE wd xs = 1 by simp [smoE, h])
      have HBL := hide (fun (h : xs.any bigB = true) => show smoL wd xs = [] by simp [smoL, smoE, h])
      have HS := hide hs
      have HL := hide hl
      clear hl hs
      go_enter Try.func22, Try.ntmps22
      go_wp2
      go_loopw [25] (fun i wr => ∃ k : Nat, k ≤ n ∧ i = .int .i64 k ∧ Hid (NoBig xs k) ∧ wr = w) (fun i _ => n - (intOf i).toNat)
      case atStart => exact ⟨0, by omega, rfl, hide (fun j h => absurd h (by omega)), rfl⟩
      case round =>
        obtain ⟨k, hk, rfl, hall, rfl⟩ := hrel
        by_cases hlt : k < n
        · obtain ⟨b, o, rfl, hbb, hc⟩ := HS.out.at_ hlt
          have cx := hc k _ (ints_get xs k (by have := HL.out; omega))
          have HW := hide (fun h => big_wrong (l := xs) (k := k) (by have := HL.out; omega) h)
          have HN := hide (fun h => noBig_succ hall.out h)
          have hki : (k : Int) < (n : Int) := by omega
          clear hc
          generalize xs.getD k 0 = x at *
          by_cases hx1 : x < -274877906944
          · have HT := hide (HW.out (by simp [bigB, hx1]))
            clear HW HN
            go_wp2
            go_ret2
            exact ⟨_, by rw [HBW.out HT.out]; rfl, by rw [HBL.out HT.out]; exact World.ownsRow_nil _ _ _ _, Below.refl _ _⟩
          · have hx1' : -274877906944 ≤ x := by omega
            by_cases hx2 : 274877906944 < x
            · have HT := hide (HW.out (by simp [bigB, hx2]))
              clear HW HN
              go_wp2
              go_ret2
              exact ⟨_, by rw [HBW.out HT.out]; rfl, by rw [HBL.out HT.out]; exact World.ownsRow_nil _ _ _ _, Below.refl _ _⟩
            · have hx2' : x ≤ 274877906944 := by omega
              have HN2 := hide (HN.out (by simp [bigB]; omega))
              clear HW HN
              go_wp2
              go_roundw
              case rel => exact ⟨k + 1, by omega, by go_num, HN2, by trivial⟩
              case measure => simp [intOf]; omega
        · obtain rfl : k = n := by omega
          rename World => w1
          have HB := hide (big_right (l := xs) (fun j hj => hall.out j (by have := HL.out; omega)))
          have hl := HL.out
          by_cases hlong : 4096 < k
          · have HE := hide (show smoE wd xs = 10 by simp only [smoE, HB.out]; rw [if_neg (by simp; omega), if_pos (by omega)])
            have HLL := hide (show smoL wd xs = [] by simp [smoL, HE.out])
            have hli : (4096 : Int) < (k : Int) := by omega
            clear hl
            go_wp2
            go_ret2
            exact ⟨_, by rw [HE.out]; rfl, by rw [HLL.out]; exact World.ownsRow_nil _ _ _ _, Below.refl _ _⟩
          · have HE := hide (show smoE wd xs = 0 by simp only [smoE, HB.out]; rw [if_neg (by simp; omega), if_neg (by omega)])
            have hli : (k : Int) ≤ 4096 := by omega
            obtain ⟨m, rfl⟩ : ∃ m : Nat, wd = (m : Int) := ⟨wd.toNat, by omega⟩
            have HLL := hide (show smoL (m : Int) xs = smoK m xs k by rw [smoL, if_pos HE.out, Int.toNat_natCast, hl])
            have hw1 : 1 ≤ m := by omega
            have hw2 : m ≤ 4096 := by omega
            clear hl hall
            go_wp2
            go_loopw [8, 9] (fun v i wr => ∃ s q : Nat, i = .int .i64 (q : Int) ∧ q % m = 0 ∧ q < k + m ∧ s = min q k ∧ wr.ownsRow w1.heap.size 3 1 v s (ints (smoK m xs s)) ∧ Below w1.heap.size w1 wr) (fun _ i _ => k - (intOf i).toNat)
            case atStart => exact ⟨0, 0, rfl, Nat.zero_mod _, by omega, by omega, World.ownsRow_nil _ _ _ _, Below.refl _ _⟩
            case round =>
              obtain ⟨s, q, rfl, hqm, hq, hsq, hown, hbr⟩ := hrel
              by_cases hlt2 : q < k
              · obtain rfl : s = q := by omega
                clear hsq hq
                have hl := HL.out
                obtain ⟨d, hd⟩ : ∃ d, k - s = d := ⟨_, rfl⟩
                have hd0 : 0 < d := by omega
                obtain ⟨g, hg⟩ : ∃ g, min m d = g := ⟨_, rfl⟩
                have hg0 : 0 < g := by omega
                have hgd : g ≤ d := by omega
                have hgm : g ≤ m := by omega
                have HGL := hide (show grpLen m xs.length s = g by unfold grpLen; rw [← hl, hd]; exact hg)
                obtain ⟨bb, o, rfl, hbb, hc⟩ := HS.out.at_ hlt2
                have HX2 := hide (fun (j : Nat) (hj : j < g) => (hbr.cell (p := ⟨bb, o + s + j, none⟩) hbb).trans (show w1.cell? ⟨bb, o + s + j, none⟩ = some (.int .i64 (xs.getD (s + j) 0)) by rw [Nat.add_assoc]; exact hc (s + j) _ (ints_get xs (s + j) (by omega))))
                have HAT := hide (fun (j : Nat) (hj : j < g) => smoAt_grp (xs := xs) (s := s) (j := j) hw1 hqm (by omega))
                have HSB := hide (sumTo_bound HB.out s)
                have HNX := hide (show (s + m) % m = 0 ∧ min (s + m) k = s + g from ⟨by rw [Nat.add_mod_right]; exact hqm, by omega⟩)
                have hkd : (k : Int) - (s : Int) = (d : Int) := by omega
                have hski : (s : Int) < (k : Int) := by omega
                have hgki : (s : Int) + (g : Int) ≤ (k : Int) := by omega
                have hkc : (k : Int) ≤ (c : Int) := by omega
                have hg0i : (0 : Int) < (g : Int) := by omega
                have hgi : (g : Int) ≤ 4096 := by omega
                have hz2 := hbr.size
                have hsk1 : s + g ≤ k := by omega
                have HOW := hide hown
                clear hc hl hown
                rcases Nat.lt_trichotomy m d with hmd | hmd | hmd
                · obtain rfl : m = g := by omega
                  have hmdi : (m : Int) < (d : Int) := by omega
                  clear hg
                  go_wp2
                  go_loopw [11, 59] (fun t i wr' => ∃ j : Nat, j ≤ m ∧ i = .int .i64 j ∧ t = .int .i64 (sumTo xs s j) ∧ wr' = wr) (fun _ i _ => m - (intOf i).toNat)
                  case atStart => exact ⟨0, by omega, rfl, rfl, rfl⟩
                  case round =>
                    obtain ⟨j, hj, rfl, rfl, rfl⟩ := hrel
                    obtain ⟨t, ht⟩ : ∃ t, sumTo xs s j = t := ⟨_, rfl⟩
                    have hb1 := HSB.out j
                    rw [ht] at hb1 ⊢
                    by_cases hlt3 : j < m
                    · have hx := HX2.out j hlt3
                      have hxb := big_at HB.out (s + j)
                      have HSS := hide (show sumTo xs s (j + 1) = t + xs.getD (s + j) 0 by rw [← ht]; rfl)
                      clear ht
                      generalize xs.getD (s + j) 0 = x at *
                      obtain ⟨hb1, hb2⟩ := hb1
                      obtain ⟨hx1, hx2⟩ := hxb
                      have hji : (j : Int) < (m : Int) := by omega
                      have ht1 : -1125899906842624 ≤ t := by omega
                      have ht2 : t ≤ 1125899906842624 := by omega
                      go_wp2
                      go_roundw
                      case rel => exact ⟨j + 1, by omega, by go_num, by rw [HSS.out], by trivial⟩
                      case measure => simp [intOf]; omega
                    · obtain rfl : m = j := by omega
                      obtain ⟨hb1, hb2⟩ := hb1
                      have ht1 : -1125899906842624 ≤ t := by omega
                      have ht2 : t ≤ 1125899906842624 := by omega
                      obtain ⟨q, hq⟩ : ∃ q, t / (m : Int) = q := ⟨_, rfl⟩
                      obtain ⟨p, hp⟩ : ∃ p, q * (m : Int) = p := ⟨_, rfl⟩
                      have hp1 : p ≤ t := by rw [← hp, ← hq]; exact Int.ediv_mul_le t (by omega)
                      have hp2 : t < p + m := by have := Int.lt_ediv_add_one_mul_self t hg0i; rw [hq, Int.add_mul, hp, Int.one_mul] at this; exact this
                      have hq1 : -1125899906842624 ≤ q ∧ q ≤ 1125899906842624 := by
                        constructor
                        · rw [← hq, Int.le_ediv_iff_mul_le hg0i]; have := Int.mul_le_mul_of_nonpos_left (a := -1125899906842624) (b := (m : Int)) (c := 1) (by omega) (by omega); omega
                        · have : q < 1125899906842625 := by rw [← hq, Int.ediv_lt_iff_lt_mul hg0i]; omega
                          omega
                      obtain ⟨hq1, hq2⟩ := hq1
                      have HAT2 := hide (fun (k : Nat) (hk : k < m) => show smoAt m xs (s + k) = q + if (k : Int) < t - p then 1 else 0 by rw [HAT.out k hk]; rw [HGL.out, ht]; unfold evenV; rw [hq, hp])
                      have HD := hide (rdown_any t (m : Int) wr ht1 ht2 hg0i hgi)
                      rw [hq] at HD
                      have hpr : q * (m : Int) = p := hp
                      clear ht hq hp HAT HSB HGL
                      go_wp2_with fail
                      refine HD.out.mono ?_
                      rintro e w5 ⟨rfl, rfl⟩
                      go_wp2
                      go_loopw [8, 71] (fun v i wr' => ∃ k' : Nat, k' ≤ m ∧ i = .int .i64 k' ∧ wr'.ownsRow w1.heap.size 3 1 v (s + k') (ints (smoK m xs (s + k'))) ∧ Below w1.heap.size w1 wr') (fun _ i _ => m - (intOf i).toNat)
                      case atStart => exact ⟨0, by omega, rfl, HOW.out, hbr⟩
                      case round =>
                        clear hbr hz2 HOW
                        obtain ⟨k', hk', rfl, hown, hbr⟩ := hrel
                        have hz2 := hbr.size
                        by_cases hlt4 : k' < m
                        · have HA3 := HAT2.out k' hlt4
                          have HSU := hide (smoK_succ m xs (s + k'))
                          have hkj : (k' : Int) < (m : Int) := by omega
                          by_cases hkl : (k' : Int) < t - p
                          · rw [if_pos hkl] at HA3
                            have HA4 := hide HA3
                            clear HA3
                            go_wp2_with (at_builtin; refine wpList_push rfl _ _ _ rfl w1.heap.size _ _ slInt _ _ _ rfl hown _ _ rfl rfl rfl (by omega) hz2 ?_)
                            intro v' w6 hown6 hg6 _
                            have hb6 := hbr.trans (below_push hown hg6 hz2)
                            have HOW6 := hide (own_eqI hown6 (ys := ints (smoK m xs (s + (k' + 1)))) (by show _ = ints (smoK m xs (s + k' + 1)); rw [HSU.out, ints_append, HA4.out]; rfl))
                            clear hown hown6 hg6 hbr hz2
                            go_wp2
                            go_roundw
                            case rel => exact ⟨k' + 1, by omega, by go_num, HOW6.out, hb6⟩
                            case measure => simp [intOf]; omega
                          · have hkl' : t - p ≤ (k' : Int) := by omega
                            rw [if_neg hkl, Int.add_zero] at HA3
                            have HA4 := hide HA3
                            clear HA3
                            go_wp2_with (at_builtin; refine wpList_push rfl _ _ _ rfl w1.heap.size _ _ slInt _ _ _ rfl hown _ _ rfl rfl rfl (by omega) hz2 ?_)
                            intro v' w6 hown6 hg6 _
                            have hb6 := hbr.trans (below_push hown hg6 hz2)
                            have HOW6 := hide (own_eqI hown6 (ys := ints (smoK m xs (s + (k' + 1)))) (by show _ = ints (smoK m xs (s + k' + 1)); rw [HSU.out, ints_append, HA4.out]; rfl))
                            clear hown hown6 hg6 hbr hz2
                            go_wp2
                            go_roundw
                            case rel => exact ⟨k' + 1, by omega, by go_num, HOW6.out, hb6⟩
                            case measure => simp [intOf]; omega
                        · obtain rfl : m = k' := by omega
                          have HOW7 := hide hown
                          clear hown
                          go_wp2
                          go_roundw
                          case rel => exact ⟨s + m, s + m, by go_num, HNX.out.1, by omega, HNX.out.2.symm, HOW7.out, hbr⟩
                          case measure => simp [intOf]; omega
                · obtain rfl : m = g := by omega
                  obtain rfl : m = d := by omega
                  clear hg
                  go_wp2
                  go_loopw [11, 59] (fun t i wr' => ∃ j : Nat, j ≤ m ∧ i = .int .i64 j ∧ t = .int .i64 (sumTo xs s j) ∧ wr' = wr) (fun _ i _ => m - (intOf i).toNat)
                  case atStart => exact ⟨0, by omega, rfl, rfl, rfl⟩
                  case round =>
                    obtain ⟨j, hj, rfl, rfl, rfl⟩ := hrel
                    obtain ⟨t, ht⟩ : ∃ t, sumTo xs s j = t := ⟨_, rfl⟩
                    have hb1 := HSB.out j
                    rw [ht] at hb1 ⊢
                    by_cases hlt3 : j < m
                    · have hx := HX2.out j hlt3
                      have hxb := big_at HB.out (s + j)
                      have HSS := hide (show sumTo xs s (j + 1) = t + xs.getD (s + j) 0 by rw [← ht]; rfl)
                      clear ht
                      generalize xs.getD (s + j) 0 = x at *
                      obtain ⟨hb1, hb2⟩ := hb1
                      obtain ⟨hx1, hx2⟩ := hxb
                      have hji : (j : Int) < (m : Int) := by omega
                      have ht1 : -1125899906842624 ≤ t := by omega
                      have ht2 : t ≤ 1125899906842624 := by omega
                      go_wp2
                      go_roundw
                      case rel => exact ⟨j + 1, by omega, by go_num, by rw [HSS.out], by trivial⟩
                      case measure => simp [intOf]; omega
                    · obtain rfl : m = j := by omega
                      obtain ⟨hb1, hb2⟩ := hb1
                      have ht1 : -1125899906842624 ≤ t := by omega
                      have ht2 : t ≤ 1125899906842624 := by omega
                      obtain ⟨q, hq⟩ : ∃ q, t / (m : Int) = q := ⟨_, rfl⟩
                      obtain ⟨p, hp⟩ : ∃ p, q * (m : Int) = p := ⟨_, rfl⟩
                      have hp1 : p ≤ t := by rw [← hp, ← hq]; exact Int.ediv_mul_le t (by omega)
                      have hp2 : t < p + m := by have := Int.lt_ediv_add_one_mul_self t hg0i; rw [hq, Int.add_mul, hp, Int.one_mul] at this; exact this
                      have hq1 : -1125899906842624 ≤ q ∧ q ≤ 1125899906842624 := by
                        constructor
                        · rw [← hq, Int.le_ediv_iff_mul_le hg0i]; have := Int.mul_le_mul_of_nonpos_left (a := -1125899906842624) (b := (m : Int)) (c := 1) (by omega) (by omega); omega
                        · have : q < 1125899906842625 := by rw [← hq, Int.ediv_lt_iff_lt_mul hg0i]; omega
                          omega
                      obtain ⟨hq1, hq2⟩ := hq1
                      have HAT2 := hide (fun (k : Nat) (hk : k < m) => show smoAt m xs (s + k) = q + if (k : Int) < t - p then 1 else 0 by rw [HAT.out k hk]; rw [HGL.out, ht]; unfold evenV; rw [hq, hp])
                      have HD := hide (rdown_any t (m : Int) wr ht1 ht2 hg0i hgi)
                      rw [hq] at HD
                      have hpr : q * (m : Int) = p := hp
                      clear ht hq hp HAT HSB HGL
                      go_wp2_with fail
                      refine HD.out.mono ?_
                      rintro e w5 ⟨rfl, rfl⟩
                      go_wp2
                      go_loopw [8, 71] (fun v i wr' => ∃ k' : Nat, k' ≤ m ∧ i = .int .i64 k' ∧ wr'.ownsRow w1.heap.size 3 1 v (s + k') (ints (smoK m xs (s + k'))) ∧ Below w1.heap.size w1 wr') (fun _ i _ => m - (intOf i).toNat)
                      case atStart => exact ⟨0, by omega, rfl, HOW.out, hbr⟩
                      case round =>
                        clear hbr hz2 HOW
                        obtain ⟨k', hk', rfl, hown, hbr⟩ := hrel
                        have hz2 := hbr.size
                        by_cases hlt4 : k' < m
                        · have HA3 := HAT2.out k' hlt4
                          have HSU := hide (smoK_succ m xs (s + k'))
                          have hkj : (k' : Int) < (m : Int) := by omega
                          by_cases hkl : (k' : Int) < t - p
                          · rw [if_pos hkl] at HA3
                            have HA4 := hide HA3
                            clear HA3
                            go_wp2_with (at_builtin; refine wpList_push rfl _ _ _ rfl w1.heap.size _ _ slInt _ _ _ rfl hown _ _ rfl rfl rfl (by omega) hz2 ?_)
                            intro v' w6 hown6 hg6 _
                            have hb6 := hbr.trans (below_push hown hg6 hz2)
                            have HOW6 := hide (own_eqI hown6 (ys := ints (smoK m xs (s + (k' + 1)))) (by show _ = ints (smoK m xs (s + k' + 1)); rw [HSU.out, ints_append, HA4.out]; rfl))
                            clear hown hown6 hg6 hbr hz2
                            go_wp2
                            go_roundw
                            case rel => exact ⟨k' + 1, by omega, by go_num, HOW6.out, hb6⟩
                            case measure => simp [intOf]; omega
                          · have hkl' : t - p ≤ (k' : Int) := by omega
                            rw [if_neg hkl, Int.add_zero] at HA3
                            have HA4 := hide HA3
                            clear HA3
                            go_wp2_with (at_builtin; refine wpList_push rfl _ _ _ rfl w1.heap.size _ _ slInt _ _ _ rfl hown _ _ rfl rfl rfl (by omega) hz2 ?_)
                            intro v' w6 hown6 hg6 _
                            have hb6 := hbr.trans (below_push hown hg6 hz2)
                            have HOW6 := hide (own_eqI hown6 (ys := ints (smoK m xs (s + (k' + 1)))) (by show _ = ints (smoK m xs (s + k' + 1)); rw [HSU.out, ints_append, HA4.out]; rfl))
                            clear hown hown6 hg6 hbr hz2
                            go_wp2
                            go_roundw
                            case rel => exact ⟨k' + 1, by omega, by go_num, HOW6.out, hb6⟩
                            case measure => simp [intOf]; omega
                        · obtain rfl : m = k' := by omega
                          have HOW7 := hide hown
                          clear hown
                          go_wp2
                          go_roundw
                          case rel => exact ⟨s + m, s + m, by go_num, HNX.out.1, by omega, HNX.out.2.symm, HOW7.out, hbr⟩
                          case measure => simp [intOf]; omega
                · obtain rfl : d = g := by omega
                  have hmdi : (d : Int) < (m : Int) := by omega
                  clear hg
                  go_wp2
                  go_loopw [11, 59] (fun t i wr' => ∃ j : Nat, j ≤ d ∧ i = .int .i64 j ∧ t = .int .i64 (sumTo xs s j) ∧ wr' = wr) (fun _ i _ => d - (intOf i).toNat)
                  case atStart => exact ⟨0, by omega, rfl, rfl, rfl⟩
                  case round =>
                    obtain ⟨j, hj, rfl, rfl, rfl⟩ := hrel
                    obtain ⟨t, ht⟩ : ∃ t, sumTo xs s j = t := ⟨_, rfl⟩
                    have hb1 := HSB.out j
                    rw [ht] at hb1 ⊢
                    by_cases hlt3 : j < d
                    · have hx := HX2.out j hlt3
                      have hxb := big_at HB.out (s + j)
                      have HSS := hide (show sumTo xs s (j + 1) = t + xs.getD (s + j) 0 by rw [← ht]; rfl)
                      clear ht
                      generalize xs.getD (s + j) 0 = x at *
                      obtain ⟨hb1, hb2⟩ := hb1
                      obtain ⟨hx1, hx2⟩ := hxb
                      have hji : (j : Int) < (d : Int) := by omega
                      have ht1 : -1125899906842624 ≤ t := by omega
                      have ht2 : t ≤ 1125899906842624 := by omega
                      go_wp2
                      go_roundw
                      case rel => exact ⟨j + 1, by omega, by go_num, by rw [HSS.out], by trivial⟩
                      case measure => simp [intOf]; omega
                    · obtain rfl : d = j := by omega
                      obtain ⟨hb1, hb2⟩ := hb1
                      have ht1 : -1125899906842624 ≤ t := by omega
                      have ht2 : t ≤ 1125899906842624 := by omega
                      obtain ⟨q, hq⟩ : ∃ q, t / (d : Int) = q := ⟨_, rfl⟩
                      obtain ⟨p, hp⟩ : ∃ p, q * (d : Int) = p := ⟨_, rfl⟩
                      have hp1 : p ≤ t := by rw [← hp, ← hq]; exact Int.ediv_mul_le t (by omega)
                      have hp2 : t < p + d := by have := Int.lt_ediv_add_one_mul_self t hg0i; rw [hq, Int.add_mul, hp, Int.one_mul] at this; exact this
                      have hq1 : -1125899906842624 ≤ q ∧ q ≤ 1125899906842624 := by
                        constructor
                        · rw [← hq, Int.le_ediv_iff_mul_le hg0i]; have := Int.mul_le_mul_of_nonpos_left (a := -1125899906842624) (b := (d : Int)) (c := 1) (by omega) (by omega); omega
                        · have : q < 1125899906842625 := by rw [← hq, Int.ediv_lt_iff_lt_mul hg0i]; omega
                          omega
                      obtain ⟨hq1, hq2⟩ := hq1
                      have HAT2 := hide (fun (k : Nat) (hk : k < d) => show smoAt m xs (s + k) = q + if (k : Int) < t - p then 1 else 0 by rw [HAT.out k hk]; rw [HGL.out, ht]; unfold evenV; rw [hq, hp])
                      have HD := hide (rdown_any t (d : Int) wr ht1 ht2 hg0i hgi)
                      rw [hq] at HD
                      have hpr : q * (d : Int) = p := hp
                      clear ht hq hp HAT HSB HGL
                      go_wp2_with fail
                      refine HD.out.mono ?_
                      rintro e w5 ⟨rfl, rfl⟩
                      go_wp2
                      go_loopw [8, 71] (fun v i wr' => ∃ k' : Nat, k' ≤ d ∧ i = .int .i64 k' ∧ wr'.ownsRow w1.heap.size 3 1 v (s + k') (ints (smoK m xs (s + k'))) ∧ Below w1.heap.size w1 wr') (fun _ i _ => d - (intOf i).toNat)
                      case atStart => exact ⟨0, by omega, rfl, HOW.out, hbr⟩
                      case round =>
                        clear hbr hz2 HOW
                        obtain ⟨k', hk', rfl, hown, hbr⟩ := hrel
                        have hz2 := hbr.size
                        by_cases hlt4 : k' < d
                        · have HA3 := HAT2.out k' hlt4
                          have HSU := hide (smoK_succ m xs (s + k'))
                          have hkj : (k' : Int) < (d : Int) := by omega
                          by_cases hkl : (k' : Int) < t - p
                          · rw [if_pos hkl] at HA3
                            have HA4 := hide HA3
                            clear HA3
                            go_wp2_with (at_builtin; refine wpList_push rfl _ _ _ rfl w1.heap.size _ _ slInt _ _ _ rfl hown _ _ rfl rfl rfl (by omega) hz2 ?_)
                            intro v' w6 hown6 hg6 _
                            have hb6 := hbr.trans (below_push hown hg6 hz2)
                            have HOW6 := hide (own_eqI hown6 (ys := ints (smoK m xs (s + (k' + 1)))) (by show _ = ints (smoK m xs (s + k' + 1)); rw [HSU.out, ints_append, HA4.out]; rfl))
                            clear hown hown6 hg6 hbr hz2
                            go_wp2
                            go_roundw
                            case rel => exact ⟨k' + 1, by omega, by go_num, HOW6.out, hb6⟩
                            case measure => simp [intOf]; omega
                          · have hkl' : t - p ≤ (k' : Int) := by omega
                            rw [if_neg hkl, Int.add_zero] at HA3
                            have HA4 := hide HA3
                            clear HA3
                            go_wp2_with (at_builtin; refine wpList_push rfl _ _ _ rfl w1.heap.size _ _ slInt _ _ _ rfl hown _ _ rfl rfl rfl (by omega) hz2 ?_)
                            intro v' w6 hown6 hg6 _
                            have hb6 := hbr.trans (below_push hown hg6 hz2)
                            have HOW6 := hide (own_eqI hown6 (ys := ints (smoK m xs (s + (k' + 1)))) (by show _ = ints (smoK m xs (s + k' + 1)); rw [HSU.out, ints_append, HA4.out]; rfl))
                            clear hown hown6 hg6 hbr hz2
                            go_wp2
                            go_roundw
                            case rel => exact ⟨k' + 1, by omega, by go_num, HOW6.out, hb6⟩
                            case measure => simp [intOf]; omega
                        · obtain rfl : d = k' := by omega
                          have HOW7 := hide hown
                          clear hown
                          go_wp2
                          go_roundw
                          case rel => exact ⟨s + d, s + m, by go_num, HNX.out.1, by omega, HNX.out.2.symm, HOW7.out, hbr⟩
                          case measure => simp [intOf]; omega
              · obtain rfl : s = k := by omega
                have hqi : (s : Int) ≤ (q : Int) := by omega
                have HOW := hide hown
                clear hown hsq hq hqm
                go_wp2
                go_ret2
                exact ⟨_, by rw [HE.out]; rfl, by rw [HLL.out, smoK_length]; exact HOW.out, hbr⟩
end Go.Proofs.Ytbfflggoffmnmaa
