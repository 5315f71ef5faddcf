/-
  The contract of the reference's Needs at valid rights and a day (printed out of the program's by mk_rnd.py). Condition: 200 in force at most.
  The contract of the reference's Before at valid rights, a date and a day (printed out of the program's by mk_rbf.py). Condition: 200 in force at most.
-/
import Derived.Test.YtfcmgmcidngjeaaProg
import Derived.Test.YtfcmgmcidngjeaaRae
import Derived.Test.YtfcmgmcidngjeaaRgw
namespace Go.Proofs.Ytfcmgmcidngjeaa
open Go.RowKit
set_option maxHeartbeats 800000 in
set_option maxRecDepth 20000 in
theorem rNeeds_any (A : Option Addr) (n c : Nat) (rs : List Rt) (day : Int) (w : World) (hs : Sl w w.heap.size 4 A n c (rtCells rs)) (hck : ckR rs = 0) (hd : wit day 364 = true) (h12 : (actF rs day rs.length).length ≤ 200) :
    Calls Try.prog 20 #[.slice A n c, .int .i64 day] w fun e w' => e = .returned (.tuple #[.int .i64 (sumFl rs (actR rs day)), .int .i64 0]) ∧ Below w.heap.size w w' := by
  have hrl := rlen hs
  have hn : n ≤ 1000 := by have := (ck_ok hck).1; omega
  have HAL := hide (ractive_any A n c rs day w hs hck hd hn)
  have HM12 := hide (show (actR rs day).length ≤ 200 by rw [actR_len]; exact h12)
  have HIN := hide (show ∀ x ∈ actR rs day, 0 ≤ x ∧ x < n from fun x hx => by have := actR_in hx; omega)
  have HS := hide hs
  have HCK := hide hck
  clear hs hd h12 hrl hck
  go_enter Try.func20, Try.ntmps20
  go_wp2_with fail
  refine HAL.out.mono ?_
  rintro e w3 ⟨A', c', rfl, hv, hb3⟩
  have HV := hide hv
  have HB3 := hide hb3
  clear hv hb3
  generalize hos : actR rs day = os at *
  have HOS := hide hos
  generalize hm : os.length = m at *
  have HM := hide hm
  have hm12 := HM12.out
  clear hos hm
  go_wp2
  go_loopw [8, 19] (fun vs vi wr => ∃ k : Nat, k ≤ m ∧ vi = .int .i64 k ∧ vs = .int .i64 (sumFl rs (os.take k)) ∧ Below w3.heap.size w3 wr) (fun _ vi _ => m - (intOf vi).toNat)
  case atStart => exact ⟨0, by omega, rfl, rfl, Below.refl _ _⟩
  case round =>
    obtain ⟨k, hk, rfl, rfl, hb⟩ := hrel
    by_cases hlt : k < m
    · have hM := HM.out
      obtain ⟨bo, oo, rfl, _, hco⟩ := (HV.out.thr hb).at_ hlt
      have o0 := hco k _ (ints_get os k (by omega))
      obtain ⟨ik, hik, hikn⟩ := getD_nat HIN.out (k := k) (by omega)
      have HSK := hide (sumFl_take (rs := rs) (os := os) (k := k) (by omega))
      rw [hik] at o0 HSK
      obtain ⟨br, or_, rfl, _, _⟩ := HS.out.at_ hikn
      obtain ⟨-, hfk⟩ := rt_at (HS.out.thr (bthr HB3.out hb HB3.out.size)) hikn
      obtain ⟨hs0, hs1⟩ := sumFl_bnd HCK.out (os := os.take k) (m := 200) (by rw [List.length_take]; omega)
      obtain ⟨hf0, hf1⟩ := flowR_in HCK.out (ik : Int)
      generalize flowR rs (ik : Int) = fk at *
      obtain ⟨sk, hsk⟩ : ∃ sk, sumFl rs (os.take k) = sk := ⟨_, rfl⟩
      rw [hsk] at hs0 hs1 HSK
      simp only [hsk]
      have hs2 : sk ≤ 2000000 := by omega
      have hki : (k : Int) < (m : Int) := by omega
      have hikni : (ik : Int) < (n : Int) := by omega
      have hik0 : (0 : Int) ≤ (ik : Int) := by omega
      have HBK := hide hb
      clear hco hik hb hsk hs1 hM
      go_wp2
      go_roundw
      case rel => exact ⟨k + 1, by omega, by go_num, by rw [HSK.out], HBK.out⟩
      case measure => simp [intOf]; omega
    · have hkm : k = m := by omega
      have HX := hide (show os.take k = os from List.take_of_length_le (by have := HM.out; omega))
      have hki : ¬ ((k : Int) < (m : Int)) := by omega
      have HBZ := hide (bthr HB3.out hb HB3.out.size)
      rw [HX.out]
      clear hb
      go_wp2
      go_ret2
      exact ⟨by rw [HOS.out]; first | done | rfl, HBZ.out⟩
end Go.Proofs.Ytfcmgmcidngjeaa
namespace Go.Proofs.Ytfcmgmcidngjeaa
open Go.RowKit
set_option maxHeartbeats 800000 in
set_option maxRecDepth 20000 in
theorem rBefore_any (A : Option Addr) (n c : Nat) (rs : List Rt) (d day : Int) (w : World) (hs : Sl w w.heap.size 4 A n c (rtCells rs)) (hck : ckR rs = 0) (hd : wit day 364 = true) (hdt : wit d 16777216 = true) (h12 : (actF rs day rs.length).length ≤ 200) :
    Calls Try.prog 18 #[.slice A n c, .int .i64 d, .int .i64 day] w fun e w' => e = .returned (.tuple #[.int .i64 (befFl rs (actR rs day) d), .int .i64 0]) ∧ Below w.heap.size w w' := by
  have HIV := hide (fun W => refIn_any d 16777216 W)
  have HDT := hide hdt
  have hrl := rlen hs
  have hn : n ≤ 1000 := by have := (ck_ok hck).1; omega
  have HAL := hide (ractive_any A n c rs day w hs hck hd hn)
  have HM12 := hide (show (actR rs day).length ≤ 200 by rw [actR_len]; exact h12)
  have HIN := hide (show ∀ x ∈ actR rs day, 0 ≤ x ∧ x < n from fun x hx => by have := actR_in hx; omega)
  have HS := hide hs
  have HCK := hide hck
  clear hs hd h12 hrl hck hdt
  go_enter Try.func18, Try.ntmps18
  go_wp2_with fail
  refine HAL.out.mono ?_
  rintro e w3 ⟨A', c', rfl, hv, hb3⟩
  have HV := hide hv
  have HB3 := hide hb3
  clear hv hb3
  go_wp2_with fail
  refine (HIV.out _).mono ?_
  rintro e w4 ⟨rfl, rfl⟩
  rw [HDT.out]
  generalize hos : actR rs day = os at *
  have HOS := hide hos
  generalize hm : os.length = m at *
  have HM := hide hm
  have hm12 := HM12.out
  clear hos hm
  go_wp2
  go_loopw [10, 27] (fun vs vi wr => ∃ k : Nat, k ≤ m ∧ vi = .int .i64 k ∧ vs = .int .i64 (befFl rs (os.take k) d) ∧ Below w3.heap.size w3 wr) (fun _ vi _ => m - (intOf vi).toNat)
  case atStart => exact ⟨0, by omega, rfl, rfl, Below.refl _ _⟩
  case round =>
    obtain ⟨k, hk, rfl, rfl, hb⟩ := hrel
    by_cases hlt : k < m
    · have hM := HM.out
      obtain ⟨bo, oo, rfl, _, hco⟩ := (HV.out.thr hb).at_ hlt
      have o0 := hco k _ (ints_get os k (by omega))
      obtain ⟨ik, hik, hikn⟩ := getD_nat HIN.out (k := k) (by omega)
      have HSK := hide (befFl_take (rs := rs) (os := os) (k := k) (d := d) (by omega))
      rw [hik] at o0 HSK
      obtain ⟨br, or_, rfl, _, _⟩ := HS.out.at_ hikn
      obtain ⟨hdk, hfk⟩ := rt_at (HS.out.thr (bthr HB3.out hb HB3.out.size)) hikn
      obtain ⟨hs0, hs1⟩ := sumFl_bnd HCK.out (os := (os.take k).filter fun x => decide (dateR rs x < d)) (m := 200) (by have := List.length_filter_le (fun x => decide (dateR rs x < d)) (os.take k); rw [List.length_take] at this; omega)
      obtain ⟨hf0, hf1⟩ := flowR_in HCK.out (ik : Int)
      generalize flowR rs (ik : Int) = fk at *
      generalize dateR rs (ik : Int) = dk at *
      obtain ⟨sk, hsk⟩ : ∃ sk, befFl rs (os.take k) d = sk := ⟨_, rfl⟩
      have hs0' : 0 ≤ sk := by rw [← hsk]; exact hs0
      have hs1' : sk ≤ 2000000 := by rw [← hsk]; unfold befFl; omega
      rw [hsk] at HSK
      simp only [hsk]
      have hki : (k : Int) < (m : Int) := by omega
      have hikni : (ik : Int) < (n : Int) := by omega
      have hik0 : (0 : Int) ≤ (ik : Int) := by omega
      have HBK := hide hb
      clear hco hik hb hsk hs1 hs0 hM
      by_cases hdd : dk < d
      · have HSK2 := hide (HSK.out.trans (by rw [if_pos hdd]))
        clear HSK
        go_wp2
        go_roundw
        case rel => exact ⟨k + 1, by omega, by go_num, by rw [HSK2.out], HBK.out⟩
        case measure => simp [intOf]; omega
      · have HSK2 := hide (HSK.out.trans (by rw [if_neg hdd, Int.add_zero]))
        clear HSK
        go_wp2
        go_roundw
        case rel => exact ⟨k + 1, by omega, by go_num, by rw [HSK2.out], HBK.out⟩
        case measure => simp [intOf]; omega
    · have hkm : k = m := by omega
      have HX := hide (show os.take k = os from List.take_of_length_le (by have := HM.out; omega))
      have hki : ¬ ((k : Int) < (m : Int)) := by omega
      have HBZ := hide (bthr HB3.out hb HB3.out.size)
      rw [HX.out]
      clear hb
      go_wp2
      go_ret2
      exact ⟨by rw [HOS.out]; first | done | rfl, HBZ.out⟩
end Go.Proofs.Ytfcmgmcidngjeaa
