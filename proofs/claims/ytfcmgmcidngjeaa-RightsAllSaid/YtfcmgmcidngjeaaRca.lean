/-
  The contract of the reference's Call at valid arguments (printed out of the program's by mk_rca.py). Condition: 200 in force at most.
-/
import Derived.Test.YtfcmgmcidngjeaaProg
import Derived.Test.YtfcmgmcidngjeaaRal
namespace Go.Proofs.Ytfcmgmcidngjeaa
open Go.RowKit
set_option maxHeartbeats 800000 in
set_option maxRecDepth 20000 in
theorem rCall_any (A : Option Addr) (n c : Nat) (rs : List Rt) (day a : Int) (w : World) (hs : Sl w w.heap.size 4 A n c (rtCells rs)) (hck : ckR rs = 0) (hd : wit day 364 = true) (ha : 0 ≤ a ∧ a ≤ 1073741824) (h12 : (actF rs day rs.length).length ≤ 200) :
    Calls Try.prog 16 #[.slice A n c, .int .i64 a, .int .i64 day] w fun e w' => e = .returned (.tuple #[.int .i64 ((lackF rs (allotR rs day a) (actR rs day)).getD 0), .bool (lackF rs (allotR rs day a) (actR rs day)).isSome, .int .i64 0]) ∧ Below w.heap.size w w' := by
  have HA := hide (rAllot_any A n c rs day a w hs hck hd ha h12)
  have hrl := rlen hs
  have hn : n ≤ 1000 := by have := (ck_ok hck).1; omega
  have HAL := hide (fun (W : World) (hW : Below w.heap.size w W) => ractive_any A n c rs day W (hs.thr hW) hck hd hn)
  have HM12 := hide (show (actR rs day).length ≤ 200 by rw [actR_len]; exact h12)
  have HIN := hide (show ∀ x ∈ actR rs day, 0 ≤ x ∧ x < n from fun x hx => by have := actR_in hx; omega)
  have HS := hide hs
  clear hs hd h12 hrl hck
  go_enter Try.func16, Try.ntmps16
  go_wp2_with fail
  refine HA.out.mono ?_
  rintro e w2 ⟨v, rfl, hv, hb⟩
  obtain ⟨Ag, cg, rfl, hsg⟩ := own_sl hv
  have HSG := hide hsg
  have HB := hide hb
  clear hv hsg
  generalize hgot : allotR rs day a = got at *
  have HGOT := hide hgot
  clear hgot
  go_wp2_with fail
  refine (HAL.out w2 hb).mono ?_
  rintro e w3 ⟨A', c', rfl, hv, hb3⟩
  have HV := hide hv
  have HSG3 := hide (HSG.out.thr hb3)
  have HB3 := hide (bthr HB.out hb3 HB.out.size)
  clear hv hb3 hb
  generalize hos : actR rs day = os at *
  have HOS := hide hos
  generalize hm : os.length = m at *
  have HM := hide hm
  have hm12 := HM12.out
  clear hos hm
  go_wp2
  go_loopw [33] (fun vi wr => ∃ k : Nat, k ≤ m ∧ vi = .int .i64 k ∧ Hid (lackF rs got (os.take k) = none) ∧ Below w3.heap.size w3 wr) (fun vi _ => m - (intOf vi).toNat)
  case atStart => exact ⟨0, by omega, rfl, hide rfl, Below.refl _ _⟩
  case round =>
    obtain ⟨k, hk, rfl, HLK, hb⟩ := hrel
    by_cases hlt : k < m
    · have hM := HM.out
      obtain ⟨bo, oo, rfl, _, hco⟩ := (HV.out.thr hb).at_ hlt
      have o0 := hco k _ (ints_get os k (by omega))
      obtain ⟨ik, hik, hikn⟩ := getD_nat HIN.out (k := k) (by omega)
      have HHIT := hide (lack_hit (rs := rs) (got := got) (os := os) (k := k) (by omega) HLK.out)
      have HMISS := hide (lack_miss (rs := rs) (got := got) (os := os) (k := k) (by omega) HLK.out)
      rw [hik, Int.toNat_natCast] at HHIT HMISS
      rw [hik] at o0
      obtain ⟨br, or_, rfl, _, _⟩ := HS.out.at_ hikn
      obtain ⟨-, hfk⟩ := rt_at (HS.out.thr (bthr HB3.out hb HB3.out.size)) hikn
      obtain ⟨bg, og, rfl, _, hcg⟩ := (HSG3.out.thr hb).at_ hikn
      have g0 := hcg ik _ (ints_get got ik (by have := HSG3.out.1; rw [ints_length] at this; omega))
      generalize flowR rs (ik : Int) = fk at *
      generalize got.getD ik 0 = gk at *
      have hki : (k : Int) < (m : Int) := by omega
      have hikni : (ik : Int) < (n : Int) := by omega
      have hik0 : (0 : Int) ≤ (ik : Int) := by omega
      have HBK := hide hb
      have HBZ := hide (bthr HB3.out hb HB3.out.size)
      clear hco hcg hik hb hM HLK
      by_cases hdd : gk < fk
      · have HX := hide (HHIT.out hdd)
        have hdt : decide (gk < fk) = true := by simp [hdd]
        clear HHIT HMISS
        go_wp2_with fail
        go_quiet (fail)
        go_wp2
        go_ret3
        exact ⟨by rw [HGOT.out, HOS.out, HX.out]; rfl, below_drewN HBZ.out _⟩
      · have HX := hide (HMISS.out hdd)
        have hdt : decide (gk < fk) = false := by simp [hdd]
        clear HHIT HMISS
        go_wp2_with fail
        go_quiet (fail)
        go_wp2
        go_roundw
        case rel => exact ⟨k + 1, by omega, by go_num, hide HX.out, below_drewN HBK.out _⟩
        case measure => simp [intOf]; omega
    · have hkm : k = m := by omega
      have HX := hide (show lackF rs got os = none by have := HLK.out; rwa [List.take_of_length_le (by have := HM.out; omega)] at this)
      have hki : ¬ ((k : Int) < (m : Int)) := by omega
      have HBZ := hide (bthr HB3.out hb HB3.out.size)
      clear hb HLK
      go_wp2
      go_ret3
      exact ⟨by rw [HGOT.out, HOS.out, HX.out]; rfl, HBZ.out⟩

end Go.Proofs.Ytfcmgmcidngjeaa
