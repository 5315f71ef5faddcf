/-
  Contracts of the reference's Dead and Simple: the result, or the first error. Condition: there are 200 conditions at most.
-/
import Derived.Test.YtjbddicgegkkjaaProg
import Derived.Test.YtjbddicgegkkjaaCke
import Derived.Test.YtjbddicgegkkjaaRcv
namespace Go.Proofs.Ytjbddicgegkkjaa
open Go.RowKit

/-- The numbers of those that are dead, from one on. -/
def deadT (cs : List Cd) (k m : Nat) : List Int := ((List.range' k m).filter fun i => deadB cs i).map fun i : Nat => (i : Int)
theorem deadT_all (cs : List Cd) (n : Nat) : deadT cs 0 n = deadL cs n := by unfold deadT deadL; rw [List.range_eq_range']
theorem deadT_in {cs : List Cd} {k m : Nat} (h : deadB cs k = true) : deadT cs k (m + 1) = (k : Int) :: deadT cs (k + 1) m := by
  unfold deadT; rw [List.range'_succ, List.filter_cons, if_pos h, List.map_cons]
theorem deadT_out {cs : List Cd} {k m : Nat} (h : deadB cs k = false) : deadT cs k (m + 1) = deadT cs (k + 1) m := by
  unfold deadT; rw [List.range'_succ, List.filter_cons, if_neg (by simp [h])]
theorem deadT_ge {cs : List Cd} {k m : Nat} {x : Int} (h : x ∈ deadT cs k m) : (k : Int) ≤ x := by
  unfold deadT at h
  simp only [List.mem_map, List.mem_filter, List.mem_range'_1] at h
  obtain ⟨a, ⟨h1, _⟩, rfl⟩ := h
  omega
theorem deadT_len (cs : List Cd) (k m : Nat) : (deadT cs k m).length ≤ m := by
  unfold deadT
  have h := List.length_filter_le (fun i => deadB cs i) (List.range' k m)
  rw [List.length_range'] at h
  rw [List.length_map]; exact h
theorem prior_self (cs : List Cd) (i : Nat) : prior cs i i = false := by unfold prior; simp
set_option maxHeartbeats 3200000 in
set_option maxRecDepth 20000 in
theorem rdead_ok (A : Option Addr) (n c : Nat) (cs : List Cd) (w : World) (hn : n ≤ 200) (hg : ∀ x ∈ cs, x.err = 0) (hs : Sl w w.heap.size 7 A n c (cdCells cs)) :
    Calls Try.prog 25 #[.slice A n c] w (DeadPost w n cs) := by
  have hl := len_sl hs
  have HL := hide hl
  have HC := hide (rcheck_ok A n c cs w hn hg hs)
  clear hl
  go_enter Try.func25, Try.ntmps25
  go_wp2_with fail
  refine HC.out.mono ?_
  rintro e w1 ⟨rfl, hb1⟩
  have HS := hide (hs.thr hb1)
  have HB1 := hide hb1
  clear hs hb1 HC hg
  go_wp2
  go_loopw [5, 19] (fun v i wr => ∃ k : Nat, k ≤ n ∧ i = .int .i64 k ∧ wr.ownsRow w1.heap.size 3 1 v (deadL cs k).length (ints (deadL cs k)) ∧ Below w1.heap.size w1 wr) (fun _ i _ => n - (intOf i).toNat)
  case atStart => exact ⟨0, by omega, rfl, World.ownsRow_nil _ _ _ _, Below.refl _ _⟩
  case round =>
    obtain ⟨k, hk, rfl, hv, hb⟩ := hrel
    by_cases hlt : k < n
    · have hL := HL.out
      obtain ⟨bl, ol, rfl, _, hcl⟩ := (HS.out.below hb).at_ hlt
      rcases ek : cs[k]'(by omega) with ⟨r, kd, vv, f, t, x, y⟩
      obtain ⟨e0, e1, e2, e3, e4, e5, e6⟩ := cd_cells (B := 0) (n := 0) (c := 0) hcl (by omega) ek
      have hB0 := hb.alloc hb.size (.cells #[.int .i64 r, .int .i64 kd, .int .i64 vv, .int .i64 f, .int .i64 t, .int .i64 x, .int .i64 y] 28)
      have hV0 := hv.alloc (.cells #[.int .i64 r, .int .i64 kd, .int .i64 vv, .int .i64 f, .int .i64 t, .int .i64 x, .int .i64 y] 28)
      have hQ0 := Blk.new wr 28 #[.int .i64 r, .int .i64 kd, .int .i64 vv, .int .i64 f, .int .i64 t, .int .i64 x, .int .i64 y]
      have HEK := hide (show ∃ h : k < cs.length, cs[k] = ⟨r, kd, vv, f, t, x, y⟩ from ⟨by omega, ek⟩)
      have hki : (k : Int) < (n : Int) := by omega
      have hzr := hb.size
      clear hcl ek hL hb hv
      have hz0 : (wr.alloc (.cells #[.int .i64 r, .int .i64 kd, .int .i64 vv, .int .i64 f, .int .i64 t, .int .i64 x, .int .i64 y] 28)).heap.size = wr.heap.size + 1 := by simp
      go_wp2_with fail
      clear e0 e1 e2 e3 e4 e5 e6
      generalize wr.alloc _ = wo at *
      have hzw : w1.heap.size ≤ wo.heap.size := by omega
      have hgw : wr.heap.size < wo.heap.size := by omega
      clear hz0
      generalize wr.heap.size = g0 at *
      have HB0 := hide hB0
      have HV0 := hide hV0
      have HQ0 := hide hQ0
      clear hB0 hV0 hQ0
      go_loopw [8, 26] (fun dv j wr => ∃ m : Nat, m ≤ n ∧ j = .int .i64 m ∧ dv = .bool (deadK cs k m) ∧ Below wo.heap.size wo wr) (fun _ j _ => n - (intOf j).toNat)
      case atStart => exact ⟨0, by omega, rfl, rfl, Below.refl _ _⟩
      case round =>
        obtain ⟨m, hm, rfl, rfl, hbi⟩ := hrel
        by_cases hlt2 : m < n
        · have hL := HL.out
          obtain ⟨_, _, hee, _, hcl⟩ := ((HS.out.below HB0.out).below (hbi.mono HB0.out.size)).at_ hlt2
          injection hee with hee
          injection hee with hee1 hee2 _
          subst hee1 hee2
          rcases em : cs[m]'(by omega) with ⟨r2, kd2, vv2, f2, t2, x2, y2⟩
          obtain ⟨e0, e1, e2, e3, e4, e5, e6⟩ := cd_cells (B := 0) (n := 0) (c := 0) hcl (by omega) em
          have HNX := hide (deadK_succ cs k m)
          obtain ⟨hkl, hek⟩ := HEK.out
          rw [prior_eq (by omega) hkl em hek] at HNX
          have HCV := hide (fun W => rcovers_any r2 kd2 vv2 f2 t2 x2 y2 r kd vv f t x y W)
          unfold Cd.arr at HCV
          generalize deadK cs k m = dk at *
          generalize coverB ⟨r2, kd2, vv2, f2, t2, x2, y2⟩ ⟨r, kd, vv, f, t, x, y⟩ = cb at *
          have q0 := (HQ0.out.below hbi HQ0.out.lt).alloc (.cells #[.int .i64 r2, .int .i64 kd2, .int .i64 vv2, .int .i64 f2, .int .i64 t2, .int .i64 x2, .int .i64 y2] 28)
          have q1 := Blk.new wr 28 #[.int .i64 r2, .int .i64 kd2, .int .i64 vv2, .int .i64 f2, .int .i64 t2, .int .i64 x2, .int .i64 y2]
          have hbj := hide (hbi.alloc hbi.size (.cells #[.int .i64 r2, .int .i64 kd2, .int .i64 vv2, .int .i64 f2, .int .i64 t2, .int .i64 x2, .int .i64 y2] 28))
          obtain ⟨⟨a0, a1, a2, a3, a4, a5, a6⟩, _⟩ := Blk.facts7 q0
          obtain ⟨⟨b0, b1, b2, b3, b4, b5, b6⟩, _⟩ := Blk.facts7 q1
          have hmi : (m : Int) < (n : Int) := by omega
          have HMK := hide (show m = k → r2 = r from fun h => by subst h; rw [em] at hek; injection hek)
          clear hcl em hek hkl hL hbi q0 q1
          cases dk
          -- LOOP-BEGIN
          · clear HEK
            rcases Int.lt_trichotomy r2 r with hr | hr | hr
            · rcases Nat.lt_trichotomy m k with hmn | hme | hmn
              · have E : Hid (deadK cs k (m + 1) = cb) := hide (by rw [HNX.out, decide_eq_true hr, decide_eq_false (show ¬ r2 = r by omega), decide_eq_true hmn]; simp)
                have hqr : (r2 == r) = false := by simp; omega
                have hqm : ((m : Int) != (k : Int)) = true := by simp; omega
                clear HNX
                try clear HMK
                go_wp2_with fail
                refine (HCV.out _).mono ?_
                rintro e w5 ⟨rfl, hb5⟩
                have hB5 := hide (bthr hbj.out hb5 hbj.out.size)
                clear hb5 HCV hbj a0 a1 a2 a3 a4 a5 a6 b0 b1 b2 b3 b4 b5 b6
                go_wp2
                go_roundw
                case rel => exact ⟨m + 1, by omega, by go_num, by rw [E.out], hB5.out⟩
                case measure => simp [intOf]; omega
              · exact absurd (HMK.out hme) (by omega)
              · have E : Hid (deadK cs k (m + 1) = cb) := hide (by rw [HNX.out, decide_eq_true hr, decide_eq_false (show ¬ r2 = r by omega), decide_eq_false (show ¬ m < k by omega)]; simp)
                have hqr : (r2 == r) = false := by simp; omega
                have hqm : ((m : Int) != (k : Int)) = true := by simp; omega
                clear HNX
                try clear HMK
                go_wp2_with fail
                refine (HCV.out _).mono ?_
                rintro e w5 ⟨rfl, hb5⟩
                have hB5 := hide (bthr hbj.out hb5 hbj.out.size)
                clear hb5 HCV hbj a0 a1 a2 a3 a4 a5 a6 b0 b1 b2 b3 b4 b5 b6
                go_wp2
                go_roundw
                case rel => exact ⟨m + 1, by omega, by go_num, by rw [E.out], hB5.out⟩
                case measure => simp [intOf]; omega
            · rcases Nat.lt_trichotomy m k with hmn | hme | hmn
              · have E : Hid (deadK cs k (m + 1) = cb) := hide (by rw [HNX.out, decide_eq_false (show ¬ r2 < r by omega), decide_eq_true (show r2 = r by omega), decide_eq_true hmn]; simp)
                have hqm : ((m : Int) != (k : Int)) = true := by simp; omega
                subst hr
                clear HNX
                try clear HMK
                go_wp2_with fail
                refine (HCV.out _).mono ?_
                rintro e w5 ⟨rfl, hb5⟩
                have hB5 := hide (bthr hbj.out hb5 hbj.out.size)
                clear hb5 HCV hbj a0 a1 a2 a3 a4 a5 a6 b0 b1 b2 b3 b4 b5 b6
                go_wp2
                go_roundw
                case rel => exact ⟨m + 1, by omega, by go_num, by rw [E.out], hB5.out⟩
                case measure => simp [intOf]; omega
              · have E : Hid (deadK cs k (m + 1) = false) := hide (by rw [HNX.out, decide_eq_false (show ¬ r2 < r by omega), decide_eq_true (show r2 = r by omega), decide_eq_false (show ¬ m < k by omega)]; simp)
                have hqm : ((m : Int) != (k : Int)) = false := by simp [hme]
                clear HMK hme
                subst hr
                have hB5 := hbj
                clear HNX HCV hbj
                try clear HMK
                go_wp2
                go_roundw
                case rel => exact ⟨m + 1, by omega, by go_num, by rw [E.out], hB5.out⟩
                case measure => simp [intOf]; omega
              · have E : Hid (deadK cs k (m + 1) = false) := hide (by rw [HNX.out, decide_eq_false (show ¬ r2 < r by omega), decide_eq_true (show r2 = r by omega), decide_eq_false (show ¬ m < k by omega)]; simp)
                have hqm : ((m : Int) != (k : Int)) = true := by simp; omega
                subst hr
                have hB5 := hbj
                clear HNX HCV hbj
                try clear HMK
                go_wp2
                go_roundw
                case rel => exact ⟨m + 1, by omega, by go_num, by rw [E.out], hB5.out⟩
                case measure => simp [intOf]; omega
            · rcases Nat.lt_trichotomy m k with hmn | hme | hmn
              · have E : Hid (deadK cs k (m + 1) = false) := hide (by rw [HNX.out, decide_eq_false (show ¬ r2 < r by omega), decide_eq_false (show ¬ r2 = r by omega), decide_eq_true hmn]; simp)
                have hqr : (r2 == r) = false := by simp; omega
                have hqm : ((m : Int) != (k : Int)) = true := by simp; omega
                have hB5 := hbj
                clear HNX HCV hbj
                try clear HMK
                go_wp2
                go_roundw
                case rel => exact ⟨m + 1, by omega, by go_num, by rw [E.out], hB5.out⟩
                case measure => simp [intOf]; omega
              · exact absurd (HMK.out hme) (by omega)
              · have E : Hid (deadK cs k (m + 1) = false) := hide (by rw [HNX.out, decide_eq_false (show ¬ r2 < r by omega), decide_eq_false (show ¬ r2 = r by omega), decide_eq_false (show ¬ m < k by omega)]; simp)
                have hqr : (r2 == r) = false := by simp; omega
                have hqm : ((m : Int) != (k : Int)) = true := by simp; omega
                have hB5 := hbj
                clear HNX HCV hbj
                try clear HMK
                go_wp2
                go_roundw
                case rel => exact ⟨m + 1, by omega, by go_num, by rw [E.out], hB5.out⟩
                case measure => simp [intOf]; omega
          · clear HEK
            rcases Int.lt_trichotomy r2 r with hr | hr | hr
            · rcases Nat.lt_trichotomy m k with hmn | hme | hmn
              · have E : Hid (deadK cs k (m + 1) = true) := hide (by rw [HNX.out, decide_eq_true hr, decide_eq_false (show ¬ r2 = r by omega), decide_eq_true hmn]; simp)
                have hqr : (r2 == r) = false := by simp; omega
                have hqm : ((m : Int) != (k : Int)) = true := by simp; omega
                have hB5 := hbj
                clear HNX HCV hbj
                try clear HMK
                go_wp2
                go_roundw
                case rel => exact ⟨m + 1, by omega, by go_num, by rw [E.out], hB5.out⟩
                case measure => simp [intOf]; omega
              · exact absurd (HMK.out hme) (by omega)
              · have E : Hid (deadK cs k (m + 1) = true) := hide (by rw [HNX.out, decide_eq_true hr, decide_eq_false (show ¬ r2 = r by omega), decide_eq_false (show ¬ m < k by omega)]; simp)
                have hqr : (r2 == r) = false := by simp; omega
                have hqm : ((m : Int) != (k : Int)) = true := by simp; omega
                have hB5 := hbj
                clear HNX HCV hbj
                try clear HMK
                go_wp2
                go_roundw
                case rel => exact ⟨m + 1, by omega, by go_num, by rw [E.out], hB5.out⟩
                case measure => simp [intOf]; omega
            · rcases Nat.lt_trichotomy m k with hmn | hme | hmn
              · have E : Hid (deadK cs k (m + 1) = true) := hide (by rw [HNX.out, decide_eq_false (show ¬ r2 < r by omega), decide_eq_true (show r2 = r by omega), decide_eq_true hmn]; simp)
                have hqm : ((m : Int) != (k : Int)) = true := by simp; omega
                subst hr
                have hB5 := hbj
                clear HNX HCV hbj
                try clear HMK
                go_wp2
                go_roundw
                case rel => exact ⟨m + 1, by omega, by go_num, by rw [E.out], hB5.out⟩
                case measure => simp [intOf]; omega
              · have E : Hid (deadK cs k (m + 1) = true) := hide (by rw [HNX.out, decide_eq_false (show ¬ r2 < r by omega), decide_eq_true (show r2 = r by omega), decide_eq_false (show ¬ m < k by omega)]; simp)
                have hqm : ((m : Int) != (k : Int)) = false := by simp [hme]
                clear HMK hme
                subst hr
                have hB5 := hbj
                clear HNX HCV hbj
                try clear HMK
                go_wp2
                go_roundw
                case rel => exact ⟨m + 1, by omega, by go_num, by rw [E.out], hB5.out⟩
                case measure => simp [intOf]; omega
              · have E : Hid (deadK cs k (m + 1) = true) := hide (by rw [HNX.out, decide_eq_false (show ¬ r2 < r by omega), decide_eq_true (show r2 = r by omega), decide_eq_false (show ¬ m < k by omega)]; simp)
                have hqm : ((m : Int) != (k : Int)) = true := by simp; omega
                subst hr
                have hB5 := hbj
                clear HNX HCV hbj
                try clear HMK
                go_wp2
                go_roundw
                case rel => exact ⟨m + 1, by omega, by go_num, by rw [E.out], hB5.out⟩
                case measure => simp [intOf]; omega
            · rcases Nat.lt_trichotomy m k with hmn | hme | hmn
              · have E : Hid (deadK cs k (m + 1) = true) := hide (by rw [HNX.out, decide_eq_false (show ¬ r2 < r by omega), decide_eq_false (show ¬ r2 = r by omega), decide_eq_true hmn]; simp)
                have hqr : (r2 == r) = false := by simp; omega
                have hqm : ((m : Int) != (k : Int)) = true := by simp; omega
                have hB5 := hbj
                clear HNX HCV hbj
                try clear HMK
                go_wp2
                go_roundw
                case rel => exact ⟨m + 1, by omega, by go_num, by rw [E.out], hB5.out⟩
                case measure => simp [intOf]; omega
              · exact absurd (HMK.out hme) (by omega)
              · have E : Hid (deadK cs k (m + 1) = true) := hide (by rw [HNX.out, decide_eq_false (show ¬ r2 < r by omega), decide_eq_false (show ¬ r2 = r by omega), decide_eq_false (show ¬ m < k by omega)]; simp)
                have hqr : (r2 == r) = false := by simp; omega
                have hqm : ((m : Int) != (k : Int)) = true := by simp; omega
                have hB5 := hbj
                clear HNX HCV hbj
                try clear HMK
                go_wp2
                go_roundw
                case rel => exact ⟨m + 1, by omega, by go_num, by rw [E.out], hB5.out⟩
                case measure => simp [intOf]; omega
          -- LOOP-END
        · have hmn : m = cs.length := by have := HL.out; omega
          have hv2 := ownsRow_below HV0.out hbi
          have hB2 := bthr HB0.out hbi HB0.out.size
          have hz2 := hB2.size
          have HI := hide (fun h => deadL_in (cs := cs) (k := k) h)
          have HU := hide (fun h => deadL_out (cs := cs) (k := k) h)
          have HDK := hide (show deadB cs k = deadK cs k m by unfold deadB; rw [hmn])
          have hle := deadL_le cs k
          have hmi : ¬ ((m : Int) < (n : Int)) := by omega
          clear HEK HQ0 HV0 HB0 hbi hmn
          generalize deadK cs k m = dk at *
          cases dk
          · have A1 := hide (HU.out HDK.out)
            have HV2 := hide hv2
            have HB2 := hide hB2
            clear hv2 hB2 HI HU
            go_wp2
            go_roundw
            case rel => exact ⟨k + 1, by omega, by go_num, by rw [A1.out]; exact HV2.out, HB2.out⟩
            case measure => simp [intOf]; omega
          · have A1 := hide (HI.out HDK.out)
            clear HI HU
            go_wp2_with (at_builtin; refine wpList_push rfl _ _ _ rfl w1.heap.size _ _ slInt _ _ _ rfl hv2 _ _ rfl rfl rfl (by omega) hz2 ?_)
            intro v' w6 hv6 hg6 _
            have hB6 := hide (hB2.trans (below_push hv2 hg6 hz2))
            have hv7 := hide (own_cells hv6 (ys := ints (deadL cs (k + 1))) (by rw [A1.out, ints_append]; rfl))
            clear hv2 hv6 hg6 hB2
            go_wp2
            go_roundw
            case rel => exact ⟨k + 1, by omega, by go_num, by rw [show (deadL cs (k + 1)).length = (deadL cs k).length + 1 by rw [A1.out]; simp]; exact hv7.out, hB6.out⟩
            case measure => simp [intOf]; omega
    · obtain rfl : k = n := by omega
      have HV := hide (ownsRow_base hv HB1.out.size)
      have HB2 := hide (bthr HB1.out hb HB1.out.size)
      clear hv hb
      go_wp2
      go_ret2
      exact ⟨_, rfl, HV.out, HB2.out⟩
end Go.Proofs.Ytjbddicgegkkjaa
