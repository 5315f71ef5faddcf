/-
  The contract of the reference's Check of a bundle: the same first error. Condition: the bundle can be read.
-/
import Derived.Test.YtmlpimidbgeacaaProg
import Derived.Test.YtmlpimidbgeacaaFvo
namespace Go.Proofs.Ytmlpimidbgeacaa
open Go.RowKit

theorem refin_any (n m : Int) (w : World) :
    Calls Try.prog 56 #[.int .i64 n, .int .i64 m] w fun e w' => e = .returned (.bool (wit n m)) ∧ w = w' := by
  by_cases h : 0 ≤ n
  all_goals
    go_enter Try.func56, Try.ntmps56
    go_wp2
    go_ret
    exact ⟨ret_bool (by simp [wit]; try omega), rfl⟩
theorem refIn_any (n m : Int) (w : World) :
    Calls Try.prog 43 #[.int .i64 n, .int .i64 m] w fun e w' => e = .returned (.bool (wit n m)) ∧ w = w' := by
  go_enter Try.func43, Try.ntmps43
  go_wp2_with (go_at_call 56; refine (refin_any _ _ _).mono ?_; rintro e w' ⟨rfl, rfl⟩)
  go_ret
  exact ⟨rfl, rfl⟩
theorem any_hit {fl : List Int} {p : Int → Bool} {j : Nat} (h : j < fl.length) (hp : p (fl.getD j 0) = true) : fl.any p = true := by
  rw [List.getD_eq_getElem?_getD, List.getElem?_eq_getElem h] at hp
  exact List.any_eq_true.2 ⟨_, List.getElem_mem h, hp⟩
theorem any_none {fl : List Int} {p : Int → Bool} (h : ∀ j, j < fl.length → p (fl.getD j 0) = false) : fl.any p = false := by
  rw [Bool.eq_false_iff]
  intro ha
  obtain ⟨v, hv, h2⟩ := List.any_eq_true.1 ha
  obtain ⟨j, hj, rfl⟩ := List.getElem_of_mem hv
  have := h j hj
  rw [List.getD_eq_getElem?_getD, List.getElem?_eq_getElem hj] at this
  simp only [Option.getD_some] at this
  rw [this] at h2; exact absurd h2 (by decide)
set_option maxHeartbeats 3200000 in
set_option maxRecDepth 20000 in
theorem rfcheck_any (b : Bd) (w : World) (hb : b.ok w w.heap.size) :
    Calls Try.prog 19 #[.agg b.arr] w fun e w' => e = .returned (.int .i64 b.err) ∧ Below w.heap.size w w' := by
  obtain ⟨fr, A, n, c, ss, wd⟩ := b
  have q0 := Blk.new w 27 #[.int .i64 fr, .slice A n c, .bool wd]
  have hB := bel1 (w := w) (o := .cells #[.int .i64 fr, .slice A n c, .bool wd] 27)
  have HS := hide (ScsOk.thr (show ScsOk w w.heap.size A n c ss from hb) hB)
  have HE := hide (show Bd.err ⟨fr, A, n, c, ss, wd⟩ = if wit fr 16777216 = false then 6 else if n = 0 then 3 else if 50 < n then 10 else scsErr (stepsOf ss) ss from rfl)
  have hn63 : n ≤ 9223372036854775807 := by have a1 := HS.out.1.2.1; have a2 := HS.out.1.2.2.1; unfold maxLen at a2; omega
  generalize Bd.err ⟨fr, A, n, c, ss, wd⟩ = er at *
  unfold Bd.arr
  simp only
  obtain ⟨c0, c1, c2, _⟩ := q0.facts3
  clear hb
  go_enter Try.func19, Try.ntmps19
  go_wp2_with fail
  generalize w.alloc _ = w1 at *
  refine (refIn_any _ _ _).mono ?_
  rintro e w' ⟨rfl, rfl⟩
  cases hw : wit fr 16777216
  · have HX := hide (HE.out.trans (if_pos hw))
    clear HE hw HS q0
    go_wp2
    go_ret
    exact ⟨by rw [HX.out]; first | done | rfl, hB⟩
  · have HE2 := hide (HE.out.trans (if_neg (by rw [hw]; simp)))
    clear HE hw
    by_cases h0 : n = 0
    · have HX := hide (HE2.out.trans (if_pos h0))
      have hn0 : ((n : Int) == 0) = true := by simp [h0]
      clear HE2 HS q0 h0
      go_wp2
      go_ret
      exact ⟨by rw [HX.out]; first | done | rfl, hB⟩
    · have hn0 : ((n : Int) == 0) = false := by simp; omega
      have HE3 := hide (HE2.out.trans (if_neg h0))
      clear HE2
      by_cases h50 : 50 < n
      · have HX := hide (HE3.out.trans (if_pos h50))
        have h5i : (50 : Int) < (n : Int) := by omega
        clear HE3 HS q0 h0
        go_wp2
        go_ret
        exact ⟨by rw [HX.out]; first | done | rfl, hB⟩
      · have h5i : ¬ (50 : Int) < (n : Int) := by omega
        have HE4 := hide (HE3.out.trans (if_neg h50))
        have HQ := hide q0
        have HB := hide hB
        clear HE3 q0 hB
        go_wp2
        clear c0 c1 c2
        go_loopw [22] (fun i wr => ∃ k : Nat, k ≤ n ∧ i = .int .i64 k ∧ Hid (∀ j (hj : j < k) (h : j < ss.length), scErr ss[j] (stepsOf ss) = 0) ∧ Below w1.heap.size w1 wr) (fun i _ => n - (intOf i).toNat)
        case atStart => exact ⟨0, by omega, rfl, hide (fun j hj => by omega), Below.refl _ _⟩
        case round =>
          obtain ⟨k, hk, rfl, HP, hb⟩ := hrel
          by_cases hlt : k < n
          · have hl := HS.out.len
            have HSk := HS.out.thr hb
            obtain ⟨bl, ol, rfl, _, hcl⟩ := HSk.1.at_ hlt
            rcases ek : ss[k]'(by omega) with ⟨wt, A1, n1, c1, fl⟩
            obtain ⟨e0, e1⟩ := sc_cells hcl (by omega) ek
            simp only at e0 e1
            rcases e0' : ss[0]'(by omega) with ⟨wt', A1', m, c1', fl'⟩
            obtain ⟨-, d1⟩ := sc_cells hcl (show 0 < ss.length by omega) e0'
            simp only [Nat.zero_mul, Nat.add_zero] at d1
            have hst : stepsOf ss = m := by
              cases ss with
              | nil => simp at hl; omega
              | cons a t => simp at e0'; simp [stepsOf, e0']
            have hok := HSk.2 _ (List.getElem_mem (show k < ss.length by omega))
            have hok' := HSk.2 _ (List.getElem_mem (show 0 < ss.length by omega))
            rw [ek] at hok
            rw [e0'] at hok'
            have hm63 : m ≤ 9223372036854775807 := by have a1 := hok'.2.1; have a2 := hok'.2.2.1; unfold maxLen at a2; simp only at a1 a2; omega
            have hn163 : n1 ≤ 9223372036854775807 := by have a1 := hok.2.1; have a2 := hok.2.2.1; unfold maxLen at a2; simp only at a1 a2; omega
            have HER := hide (fun (h : scErr (ss[k]'(by omega)) (stepsOf ss) ≠ 0) => scsErr_at (stepsOf ss) ss k (by omega) (fun j hj => HP.out j hj (by omega)) h)
            have HPN := hide (fun (h : scErr (ss[k]'(by omega)) (stepsOf ss) = 0) => show ∀ j (hj : j < k + 1) (h : j < ss.length), scErr ss[j] (stepsOf ss) = 0 from fun j hj h2 => by
              by_cases hjk : j = k
              · subst hjk; exact h
              · exact HP.out j (by omega) h2)
            rw [ek] at HER HPN
            have hb2 := hb.alloc hb.size (.cells #[.int .i64 wt, .slice A1 n1 c1] 32)
            have hbx := bel1 (w := wr) (o := .cells #[.int .i64 wt, .slice A1 n1 c1] 32)
            have HFO := hide (Sl.thr (show Sl wr wr.heap.size 1 A1 n1 c1 (ints fl) from hok) hbx)
            have HFL := hide (show n1 = fl.length by have := hok.1; rw [ints_length] at this; simp only at this; omega)
            rw [hst] at HER HPN
            have HSE := hide (show scErr ⟨wt, A1, n1, c1, fl⟩ m = if wt < 1 ∨ 10000 < wt then 1 else if n1 = 0 ∨ n1 ≠ m then 3 else if 1000 < m then 10 else if fl.any (fun v => !wit v 1073741824) then 1 else 0 from rfl)
            generalize scErr ⟨wt, A1, n1, c1, fl⟩ m = se at *
            have HST := hide hst
            have q1 := Blk.new wr 32 #[.int .i64 wt, .slice A1 n1 c1]
            have HQw := hide (HQ.out.below hb2 HQ.out.lt)
            have hki : (k : Int) < (n : Int) := by omega
            have hn0i : (0 : Int) < (n : Int) := by omega
            have hn0n : 0 < n := by omega
            have HB2 := hide hb2
            replace d1 := cell_thr hbx d1
            clear hcl ek e0' hok hok' hst hl HSk hb hb2 hbx
            go_upto_region 10 with fail
            clear e0 e1
            generalize wr.alloc _ = w5 at *
            generalize wr.heap.size = g5 at *
            obtain ⟨x0, x1, xf⟩ := q1.facts2
            obtain ⟨y0, y1, y2, yf⟩ := HQw.out.facts3
            clear q1
            have HBAD := hide (fun (r : Int) (h : se = r) (hr : r ≠ 0) => show er = r from by rw [← h]; exact HE4.out.trans (by rw [HST.out]; exact HER.out (by rw [h]; exact hr)))
            have HBW := hide (bthr HB.out HB2.out HB.out.size)
            by_cases ha1 : wt < 1 ∨ 10000 < wt
            · have HX := hide (HBAD.out 1 (HSE.out.trans (if_pos ha1)) (by decide))
              clear HSE HPN HER HBAD
              go_wp2
              all_goals first | (exfalso; omega) | skip
              all_goals go_ret
              all_goals exact ⟨by rw [HX.out]; first | done | rfl, HBW.out⟩
            · have HSE2 := hide (HSE.out.trans (if_neg ha1))
              have hw1 : ¬ wt < 1 := by omega
              have hw2 : ¬ 10000 < wt := by omega
              clear HSE ha1
              go_upto_region 12 with fail
              by_cases ha2 : n1 = 0 ∨ n1 ≠ m
              · have HX := hide (HBAD.out 3 (HSE2.out.trans (if_pos ha2)) (by decide))
                clear HSE2 HPN HER HBAD
                by_cases hz : n1 = 0
                · have g1 : ((n1 : Int) == 0) = true := by simp [hz]
                  clear ha2 hz
                  go_quiet (fail)
                  go_wp2
                  go_ret
                  exact ⟨by rw [HX.out]; first | done | rfl, below_drewN HBW.out _⟩
                · have g1 : ((n1 : Int) == 0) = false := by simp; omega
                  have g2 : ((n1 : Int) != (m : Int)) = true := by simp; omega
                  clear ha2 hz
                  go_quiet (fail)
                  go_wp2
                  go_ret
                  exact ⟨by rw [HX.out]; first | done | rfl, below_drewN HBW.out _⟩
              · have HSE3 := hide (HSE2.out.trans (if_neg ha2))
                have g1 : ((n1 : Int) == 0) = false := by simp; omega
                have hnm : n1 = m := by omega
                have g2 : ((n1 : Int) != (m : Int)) = false := by simp [hnm]
                have HNM := hide hnm
                clear HSE2 ha2 hnm
                go_quiet (fail)
                have HB6 := hide (below_drewN HB2.out nq)
                have hbd := below_drewN (Below.refl w5.heap.size w5) nq
                have x1d := cell_thr hbd x1
                clear x0 x1 xf y0 y1 y2 yf d1
                obtain ⟨w6, hw6⟩ : ∃ w6, w5.drewN nq = w6 := ⟨_, rfl⟩
                rw [hw6] at hbd x1d HB6
                simp only [hw6]
                have HFO6 := hide (HFO.out.thr hbd)
                have HBW6 := hide (bthr HB.out HB6.out HB.out.size)
                clear hw6 hbd
                by_cases ha3 : 1000 < m
                · have HX := hide (HBAD.out 10 (HSE3.out.trans (if_pos ha3)) (by decide))
                  have h10 : (1000 : Int) < (n1 : Int) := by have := HNM.out; omega
                  clear HSE3 HPN HER HBAD ha3
                  go_wp2
                  go_ret
                  exact ⟨by rw [HX.out]; first | done | rfl, HBW6.out⟩
                · have HSE4 := hide (HSE3.out.trans (if_neg ha3))
                  have h10 : ¬ (1000 : Int) < (n1 : Int) := by have := HNM.out; omega
                  clear HSE3 ha3
                  go_wp2
                  clear x1d
                  go_loopw [57] (fun i wx => ∃ j : Nat, j ≤ n1 ∧ i = .int .i64 j ∧ Hid (∀ q, q < j → (!wit (fl.getD q 0) 1073741824) = false) ∧ wx = w6) (fun i _ => n1 - (intOf i).toNat)
                  case atStart => exact ⟨0, by omega, rfl, hide (fun q hq => absurd hq (by omega)), rfl⟩
                  case round =>
                    obtain ⟨j, hj, rfl, HOK, rfl⟩ := hrel
                    by_cases hjl : j < n1
                    · obtain ⟨bf, of_, rfl, _, hfc⟩ := HFO6.out.at_ hjl
                      have hcj := hfc j _ (ints_get fl j (by have := HFL.out; omega))
                      have HHIT := hide (fun (h : (!wit (fl.getD j 0) 1073741824) = true) => any_hit (p := fun v => !wit v 1073741824) (show j < fl.length by have := HFL.out; omega) h)
                      have HOKN := hide (fun (h : (!wit (fl.getD j 0) 1073741824) = false) => show ∀ q, q < j + 1 → (!wit (fl.getD q 0) 1073741824) = false from fun q hq => by
                        by_cases hqj : q = j
                        · subst hqj; exact h
                        · exact HOK.out q (by omega))
                      obtain ⟨fv, hfv⟩ : ∃ fv, fl.getD j 0 = fv := ⟨_, rfl⟩
                      rw [hfv] at hcj HHIT HOKN
                      have hji : (j : Int) < (n1 : Int) := by omega
                      clear hfc hfv HOK
                      go_wp2_with fail
                      refine (refIn_any _ _ _).mono ?_
                      rintro e w' ⟨rfl, rfl⟩
                      cases hwf : wit fv 1073741824
                      · have HX := hide (HBAD.out 1 (HSE4.out.trans (if_pos (HHIT.out (by rw [hwf]; rfl)))) (by decide))
                        clear HSE4 HPN HER HBAD HHIT HOKN hwf hcj
                        go_wp2
                        go_ret
                        exact ⟨by rw [HX.out]; first | done | rfl, HBW6.out⟩
                      · have HOK2 := hide (HOKN.out (by rw [hwf]; rfl))
                        clear HHIT HOKN hwf hcj
                        go_wp2
                        go_roundw
                        case rel => exact ⟨j + 1, by omega, by go_num, HOK2, by trivial⟩
                        case measure => simp [intOf]; omega
                    · have hji : ¬ ((j : Int) < (n1 : Int)) := by omega
                      have HP2 := hide (HPN.out (HSE4.out.trans (if_neg (by rw [any_none (fun q hq => HOK.out q (by have := HFL.out; omega))]; simp))))
                      clear HSE4 HPN HER HBAD
                      go_wp2
                      go_roundw
                      case rel => exact ⟨k + 1, by omega, by go_num, by rw [HST.out]; exact HP2, HB6.out⟩
                      case measure => simp [intOf]; omega
          · have hki : ¬ ((k : Int) < (n : Int)) := by omega
            have HX := hide (HE4.out.trans ((scsErr_zero (stepsOf ss) ss).2 (fun s hs => by
              obtain ⟨j, hj, rfl⟩ := List.getElem_of_mem hs
              exact HP.out j (by have := HS.out.len; omega) hj)))
            have HBZ := hide (bthr HB.out hb HB.out.size)
            clear hb HP
            go_wp2
            go_ret
            exact ⟨by rw [HX.out]; first | done | rfl, HBZ.out⟩
end Go.Proofs.Ytmlpimidbgeacaa
