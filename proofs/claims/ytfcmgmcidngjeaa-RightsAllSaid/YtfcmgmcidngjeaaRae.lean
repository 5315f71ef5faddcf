/-
  The contract of the reference's Active at valid rights and a day. Condition: 1,000 rights at most.
  The reference's Active where the rights or the day are wrong. Condition: they are.
-/
import Derived.Test.YtfcmgmcidngjeaaProg
import Derived.Test.YtfcmgmcidngjeaaRay
import Derived.Test.YtfcmgmcidngjeaaIrn
import Derived.Test.YtfcmgmcidngjeaaRga
import Derived.Test.YtfcmgmcidngjeaaRin
import Derived.Deep.DeepCutAuto
namespace Go.Proofs.Ytfcmgmcidngjeaa
open Go.RowKit

theorem wrgE_ok {rs : List Rt} {day : Int} (hck : ckR rs = 0) (hd : wit day 364 = true) : wrgE rs day = 0 := by
  unfold wrgE; simp [hck, hd]
attribute [local go_sem ↓] Go.wp_at_zero Go.wp_at_succ
set_option maxHeartbeats 3200000 in
set_option maxRecDepth 20000 in
theorem ractive_any (A : Option Addr) (n c : Nat) (rs : List Rt) (day : Int) (w : World) (hs : Sl w w.heap.size 4 A n c (rtCells rs)) (hck : ckR rs = 0) (hd : wit day 364 = true) (hn : n ≤ 1000) :
    Calls Try.prog 12 #[.slice A n c, .int .i64 day] w fun e w' => ∃ (A' : Option Addr) (c' : Nat), e = .returned (.tuple #[.slice A' (actR rs day).length c', .int .i64 0]) ∧ Sl w' w'.heap.size 1 A' (actR rs day).length c' (ints (actR rs day)) ∧ Below w.heap.size w w' := by
  have HL := hide (rlen hs)
  have HS := hide hs
  have HWR := hide (rwrong_any A n c rs day w hs)
  have HE := hide (wrgE_ok hck hd)
  clear hs hck hd
  go_enter Try.func12, Try.ntmps12
  go_wp2_with fail
  refine HWR.out.mono ?_
  rintro e w1 ⟨rfl, hb1⟩
  rw [HE.out]
  clear HWR HE
  go_wp2
  go_loopw [7, 19] (fun v i wr => ∃ (k : Nat) (os : List Int), k ≤ n ∧ i = .int .i64 k ∧ Hid (RaOf rs day k os) ∧ wr.ownsRow w.heap.size 3 1 v os.length (ints os) ∧ (os.length = 0 → v = .slice none 0 0) ∧ Below w.heap.size w wr) (fun _ i _ => n - (intOf i).toNat)
  case atStart => exact ⟨0, [], by omega, rfl, hide ra_zero, World.ownsRow_nil _ _ _ _, fun _ => rfl, hb1⟩
  case round =>
    obtain ⟨k, os, hk, rfl, ho, hv, hv0, hb⟩ := hrel
    by_cases hlt : k < n
    · obtain ⟨bl, ol, rfl, _, hc⟩ := (HS.out.thr hb).at_ hlt
      have hki : k < rs.length := by have := HL.out; omega
      rcases er : rs[k]'hki with ⟨d, q, f, t⟩
      obtain ⟨e0, e1, e2, e3⟩ := rt_cells hc hki er
      have HON := hide (show onR rs day k = inB f t day by unfold onR; rw [List.getElem?_eq_getElem hki, er])
      have HDT := hide (show dateR rs k = d by unfold dateR; simp [List.getD_eq_getElem?_getD, hki, er])
      have q7 := Blk.new wr 26 #[.int .i64 d, .int .i64 q, .int .i64 f, .int .i64 t]
      have hv2 := hv.alloc (.cells #[.int .i64 d, .int .i64 q, .int .i64 f, .int .i64 t] 26)
      have hb2 := hb.alloc hb.size (.cells #[.int .i64 d, .int .i64 q, .int .i64 f, .int .i64 t] 26)
      have hkn : (k : Int) < (n : Int) := by omega
      clear hv hb hc er
      go_upto_region 8 with fail
      clear e0 e1 e2 e3
      generalize wr.alloc _ = w3 at *
      generalize wr.heap.size = g7 at *
      obtain ⟨c0, c1, c2, c3, cf⟩ := q7.facts4
      go_wp2_with fail
      refine (rin_any f t day _).mono ?_
      rintro e w4 ⟨rfl, hb4⟩
      have HV4 := hide (ownsRow_below hv2 hb4)
      have HB4 := hide (bthr hb2 hb4 hb2.size)
      have C0 := cell_thr hb4 c0
      clear hv2 hb2 hb4 c0 c1 c2 c3 cf q7
      cases hon : inB f t day
      · have HN := hide (ra_skip ho.out (HON.out.trans hon))
        clear HON hon
        go_wp2
        go_roundw
        case rel => exact ⟨k + 1, os, by omega, by go_num, HN, HV4.out, hv0, HB4.out⟩
        case measure => simp [intOf]; omega
      · have HONT := hide (HON.out.trans hon)
        have hz4 := HB4.out.size
        have hml : os.length ≤ k := by rw [ho.out.len]; exact actF_len rs day k
        clear HON hon
        by_cases hk0 : os.length = 0
        · obtain rfl := hv0 hk0
          obtain rfl := List.eq_nil_of_length_eq_zero hk0
          have HO : Hid (RaOf rs day (k + 1) [(k : Int)]) := hide (ra_ins (k := 0) ho.out HONT.out (Nat.le_refl _) (fun h => by omega) (fun j h1 h2 => by simp at h2))
          clear HV4 hv0 ho hk0 C0
          go_wp2_with fail
          have hd0 : decide ((0 : Int) < 0) = false := rfl
          refine wp_loop_rounds 1 ?_
          rw [rounds_succ]
          go_wp2_with fail
          go_quiet (fail)
          go_wp2_with fail
          generalize hwz : w4.drewN _ = wz
          have hsz : wz.heap.size = w4.heap.size := by rw [← hwz]; rfl
          have hbz : Below w.heap.size w wz := by rw [← hwz]; exact below_drewN HB4.out _
          clear hwz
          obtain ⟨v2, w2, r1, r2, r3, r4⟩ := nil_run wz w.heap.size (k : Int) (by omega)
          have R1 := hide r1
          have R2 := hide r2
          have R3 := hide r3
          have R4 := hide (hbz.trans r4)
          clear r1 r2 r3 r4 hbz
          go_region_law (first | ((refine step_append_run rfl (.tmp 53) (.tmp 56) 27 rfl _ _ _ _ (by simp [Act.eval]) (by simp [Act.eval]) R1.out ?_)) | ((refine step_append_run rfl (.tmp 51) (.tmp 57) 27 rfl _ _ v2 w2 (by simp [Act.eval]) (by simp [Act.eval]) R2.out ?_)))
          go_wp2
          go_roundw
          case rel => exact ⟨k + 1, [(k : Int)], by omega, by go_num, HO, R3.out, fun h => by simp at h, R4.out⟩
          case measure => simp [intOf]; omega
        · obtain ⟨g, cq, rfl, g0, g1⟩ := HV4.out.form (by omega)
          have hcq := own_capR HV4.out
          have hmm := hcq.2
          unfold maxLen at hmm
          have HS4 := hide (HS.out.thr HB4.out)
          clear hv0
          generalize hm : os.length = m at *
          have HM := hide hm
          clear hm
          go_wp2_with fail
          go_loopw [10] (fun vq wq => ∃ q j : Nat, q ≤ m ∧ vq = .int .i64 q ∧ Hid (∀ j, q ≤ j → j < m → d < dateR rs (os.getD j 0)) ∧ wq = w4.drewN j) (fun vq _ => (intOf vq).toNat)
          case atStart => exact ⟨m, 0, by omega, rfl, hide (fun j h1 h2 => by omega), rfl⟩
          case round =>
            obtain ⟨q, j, hq, rfl, hh, rfl⟩ := hrel
            have hqc : q < cq ∨ q = cq := by omega
            by_cases hq0 : q = 0
            · subst hq0
              have HN := hide (ra_ins (k := 0) ho.out HONT.out (Nat.zero_le _) (fun h => by omega) (fun j h1 h2 => by rw [HDT.out]; exact hh.out j h1 (by have := HM.out; omega)))
              have hd0 : decide ((0 : Int) < ((0 : Nat) : Int)) = false := rfl
              have hcq0 : ¬ ((0 : Int) = (cq : Int)) := by omega
              go_wp2_with fail
              go_quiet (fail)
              go_wp2_with fail
              generalize hwz : w4.drewN _ = wz
              try generalize hwy : wz.drewN _ = wy
              have hsz : wy.heap.size = w4.heap.size := by rw [← hwy, ← hwz]; rfl
              have hbz : Below w.heap.size w wy := by rw [← hwy, ← hwz]; exact below_drewN (below_drewN HB4.out _) _
              have hvz : wy.ownsRow w.heap.size 3 1 (.slice (some ⟨g, 0, none⟩) m cq) m (ints os) := by rw [← hwy, ← hwz]; exact HV4.out
              clear hwy hwz
              obtain ⟨v1, w9, v2, w2, r1, r2, r3, r4⟩ := ins_run wy w.heap.size g m cq 0 0 cq (k : Int) os (by omega) (by omega) (fun _ => by first | rfl | omega) (by omega) hvz
              have R1 := hide r1
              have R2 := hide r2
              have R3 := hide (show w2.ownsRow w.heap.size 3 1 v2 (os.take 0 ++ ((k : Int) :: os.drop 0)).length (ints (os.take 0 ++ ((k : Int) :: os.drop 0))) by rw [show (os.take 0 ++ ((k : Int) :: os.drop 0)).length = m + 1 by rw [List.length_append, List.length_cons, List.length_take, List.length_drop]; have := HM.out; omega]; exact r3)
              have R4 := hide (hbz.trans r4)
              clear r1 r2 r3 r4 hbz hvz
              go_region_law (first | ((refine step_append_run rfl (.tmp 53) (.tmp 56) 27 rfl _ _ v1 w9 (by simp [Act.eval]) (by simp [Act.eval]) R1.out ?_)) | ((refine step_append_run rfl (.tmp 51) (.tmp 57) 27 rfl _ _ v2 w2 (by simp [Act.eval]) (by simp [Act.eval]) R2.out ?_)))
              go_wp2
              go_roundw
              case rel => exact ⟨k + 1, _, by omega, by go_num, HN, R3.out, fun h => by simp at h, R4.out⟩
              case measure => simp [intOf]; omega
            · obtain ⟨z, hz⟩ : ∃ z, q = z + 1 := ⟨q - 1, by omega⟩
              have hqz : (q : Int) - 1 = (z : Int) := by omega
              have HQZ := hide hz
              have hzm : z < os.length := by have := HM.out; omega
              obtain ⟨p0, p1⟩ := ho.out.in_ (getD_mem hzm)
              obtain ⟨p, hp⟩ : ∃ p : Nat, os.getD z 0 = (p : Int) := ⟨(os.getD z 0).toNat, by omega⟩
              have co := own_cellI HV4.out (j := z) (by omega)
              rw [hp] at co
              obtain ⟨b2, o2, e2, _, hc2⟩ := HS4.out.at_ (k := p) (by omega)
              obtain ⟨rfl, rfl⟩ : bl = b2 ∧ ol = o2 := by injection e2 with e; injection e with e1 e3; exact ⟨e1, e3⟩
              have hpr : p < rs.length := by have := HL.out; omega
              rcases ep : rs[p]'hpr with ⟨dp, qp, fp, tp⟩
              have d0 := (rt_cells hc2 hpr ep).1
              have hrp : dateR rs p = dp := by unfold dateR; simp [List.getD_eq_getElem?_getD, hpr, ep]
              have i0 : (0 : Int) ≤ (z : Int) := by omega
              have i1 : (z : Int) < (m : Int) := by omega
              have i2 : (0 : Int) ≤ (p : Int) := by omega
              have i3 : (p : Int) < (n : Int) := by omega
              have i4 : decide ((0 : Int) < (q : Int)) = true := decide_eq_true (by omega)
              have i5 : 0 < q := by omega
              have i6 : decide (0 < q) = true := decide_eq_true i5
              have HPC := hide (show dateR rs (os.getD z 0) = dp by rw [hp, hrp])
              clear e2 hc2 ep hrp hp p0 p1 hz hpr hzm
              by_cases hcmp : d < dp
              · have HHN := hide (fun (j : Nat) (h1 : z ≤ j) (h2 : j < m) => show d < dateR rs (os.getD j 0) by
                  by_cases e : j = z
                  · rw [e, HPC.out]; exact hcmp
                  · exact hh.out j (by have := HQZ.out; omega) h2)
                go_wp2_with fail
                go_quiet (fail)
                go_wp2
                go_roundw
                case rel => exact ⟨z, _, by omega, rfl, HHN, rfl⟩
                case measure => simp [intOf]; have := HQZ.out; omega
              · have HN := hide (ra_ins (k := q) ho.out HONT.out (by have := HM.out; omega) (fun h => by rw [HDT.out, show q - 1 = z by have := HQZ.out; omega, HPC.out]; omega) (fun j h1 h2 => by rw [HDT.out]; exact hh.out j h1 (by have := HM.out; omega)))
                have hd0 : decide (d < dp) = false := decide_eq_false hcmp
                clear hh HPC
                have hqk : (q : Int) ≤ (m : Int) := by omega
                by_cases hqc : q = cq
                · have hkq : m = q := by omega
                  subst hqc
                  subst hkq
                  go_wp2_with fail
                  go_quiet (fail)
                  go_wp2_with fail
                  generalize hwz : w4.drewN _ = wz
                  try generalize hwy : wz.drewN _ = wy
                  have hsz : wy.heap.size = w4.heap.size := by rw [← hwy, ← hwz]; rfl
                  have hbz : Below w.heap.size w wy := by rw [← hwy, ← hwz]; exact below_drewN (below_drewN HB4.out _) _
                  have hvz : wy.ownsRow w.heap.size 3 1 (.slice (some ⟨g, 0, none⟩) m m) m (ints os) := by rw [← hwy, ← hwz]; exact HV4.out
                  clear hwy hwz
                  obtain ⟨v1, w9, v2, w2, r1, r2, r3, r4⟩ := ins_run wy w.heap.size g m m m 0 0 (k : Int) os (by omega) (by omega) (fun _ => by first | rfl | omega) (by omega) hvz
                  have R1 := hide r1
                  have R2 := hide r2
                  have R3 := hide (show w2.ownsRow w.heap.size 3 1 v2 (os.take m ++ ((k : Int) :: os.drop m)).length (ints (os.take m ++ ((k : Int) :: os.drop m))) by rw [show (os.take m ++ ((k : Int) :: os.drop m)).length = m + 1 by rw [List.length_append, List.length_cons, List.length_take, List.length_drop]; have := HM.out; omega]; exact r3)
                  have R4 := hide (hbz.trans r4)
                  clear r1 r2 r3 r4 hbz hvz
                  go_region_law (first | ((refine step_append_run rfl (.tmp 53) (.tmp 56) 27 rfl _ _ v1 w9 (by simp [Act.eval]) (by simp [Act.eval]) R1.out ?_)) | ((refine step_append_run rfl (.tmp 51) (.tmp 57) 27 rfl _ _ v2 w2 (by simp [Act.eval]) (by simp [Act.eval]) R2.out ?_)))
                  go_wp2
                  go_roundw
                  case rel => exact ⟨k + 1, _, by omega, by go_num, HN, R3.out, fun h => by simp at h, R4.out⟩
                  case measure => simp [intOf]; omega
                have hne : ¬ ((q : Int) = (cq : Int)) := by omega
                have hlt2 : (q : Int) < (cq : Int) := by omega
                have n1 : ¬ (cq = q) := by omega
                have n2 : q ≤ cq := by omega
                go_wp2_with fail
                go_quiet (fail)
                go_wp2_with fail
                generalize hwz : w4.drewN _ = wz
                try generalize hwy : wz.drewN _ = wy
                have hsz : wy.heap.size = w4.heap.size := by rw [← hwy, ← hwz]; rfl
                have hbz : Below w.heap.size w wy := by rw [← hwy, ← hwz]; exact below_drewN (below_drewN HB4.out _) _
                have hvz : wy.ownsRow w.heap.size 3 1 (.slice (some ⟨g, 0, none⟩) m cq) m (ints os) := by rw [← hwy, ← hwz]; exact HV4.out
                clear hwy hwz
                obtain ⟨v1, w9, v2, w2, r1, r2, r3, r4⟩ := ins_run wy w.heap.size g m cq q q (cq - q) (k : Int) os (by omega) (by omega) (fun _ => by first | rfl | omega) (by omega) hvz
                have R1 := hide r1
                have R2 := hide r2
                have R3 := hide (show w2.ownsRow w.heap.size 3 1 v2 (os.take q ++ ((k : Int) :: os.drop q)).length (ints (os.take q ++ ((k : Int) :: os.drop q))) by rw [show (os.take q ++ ((k : Int) :: os.drop q)).length = m + 1 by rw [List.length_append, List.length_cons, List.length_take, List.length_drop]; have := HM.out; omega]; exact r3)
                have R4 := hide (hbz.trans r4)
                clear r1 r2 r3 r4 hbz hvz
                go_region_law (first | ((refine step_append_run rfl (.tmp 53) (.tmp 56) 27 rfl _ _ v1 w9 (by simp [Act.eval]) (by simp [Act.eval]) R1.out ?_)) | ((refine step_append_run rfl (.tmp 51) (.tmp 57) 27 rfl _ _ v2 w2 (by simp [Act.eval]) (by simp [Act.eval]) R2.out ?_)))
                go_wp2
                go_roundw
                case rel => exact ⟨k + 1, _, by omega, by go_num, HN, R3.out, fun h => by simp at h, R4.out⟩
                case measure => simp [intOf]; omega
    · have hkn : ¬ ((k : Int) < (n : Int)) := by omega
      have hke : k = rs.length := by have := HL.out; omega
      subst hke
      have HA := hide (ra_done ho.out)
      obtain ⟨A', c', rfl, hsl⟩ := own_sl hv
      have HSL := hide hsl
      have HB := hide hb
      clear hv hb hsl hv0
      go_wp2
      go_ret2
      rw [← HA.out]
      exact ⟨A', c', rfl, HSL.out, HB.out⟩
end Go.Proofs.Ytfcmgmcidngjeaa
namespace Go.Proofs.Ytfcmgmcidngjeaa
open Go.RowKit

set_option maxHeartbeats 1600000 in
set_option maxRecDepth 20000 in
theorem ractive_err (A : Option Addr) (n c : Nat) (rs : List Rt) (day : Int) (w : World) (hs : Sl w w.heap.size 4 A n c (rtCells rs)) (he : wrgE rs day ≠ 0) :
    Calls Try.prog 12 #[.slice A n c, .int .i64 day] w fun e w' => e = .returned (.tuple #[.slice none 0 0, .int .i64 (wrgE rs day)]) ∧ Below w.heap.size w w' := by
  have HWR := hide (rwrong_any A n c rs day w hs)
  generalize wrgE rs day = x at *
  clear hs
  go_enter Try.func12, Try.ntmps12
  go_wp2_with fail
  refine HWR.out.mono ?_
  rintro e w1 ⟨rfl, hb1⟩
  have HB := hide hb1
  clear hb1 HWR
  have hx : (x != 0) = true := by simpa using he
  go_wp2
  go_ret2
  exact ⟨rfl, HB.out⟩
end Go.Proofs.Ytfcmgmcidngjeaa
