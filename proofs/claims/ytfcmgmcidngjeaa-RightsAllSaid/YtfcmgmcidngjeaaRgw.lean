/-
  The contracts of rights.Active, Allot, Needs, Before and Call at valid arguments. Conditions: the list can be read, at most two hundred of its rights are active.
-/
import Derived.Test.YtfcmgmcidngjeaaProg
import Derived.Test.YtfcmgmcidngjeaaRgt
namespace Go.Proofs.Ytfcmgmcidngjeaa
open Go.RowKit

theorem ck_ok {rs : List Rt} (h : ckR rs = 0) : rs.length ≤ 200 ∧ ∀ r ∈ rs, (0 ≤ r.date ∧ r.date ≤ 16777216) ∧ 0 ≤ r.flow ∧ r.flow ≤ 10000 := by
  unfold ckR at h
  by_cases h2 : 200 < rs.length
  · rw [if_pos h2] at h; omega
  · rw [if_neg h2] at h
    refine ⟨by omega, fun r hr => ?_⟩
    have he := (rtsErr_zero rs).1 h r hr
    unfold Rt.err at he
    by_cases h3 : wit r.date 16777216 = false
    · rw [if_pos h3] at he; omega
    · rw [if_neg h3] at he
      by_cases h4 : wit r.flow 10000 = false ∨ okSpan r.f r.t = false
      · rw [if_pos h4] at he; omega
      · have h5 : wit r.flow 10000 = true := by
          cases e : wit r.flow 10000
          · exact absurd (.inl e) h4
          · rfl
        have h6 : wit r.date 16777216 = true := by simpa using h3
        exact ⟨wit_iff.1 h6, wit_iff.1 h5⟩
theorem flowR_in {rs : List Rt} (h : ckR rs = 0) (x : Int) : 0 ≤ flowR rs x ∧ flowR rs x ≤ 10000 := by
  unfold flowR
  rw [List.getD_eq_getElem?_getD]
  rcases e : rs[x.toNat]? with _ | r
  · simp [rt0]
  · exact ((ck_ok h).2 r (List.mem_of_getElem? e)).2
theorem ask_ok {rs : List Rt} {day x g : Int} (h : ckR rs = 0) (hd : wit day 364 = true) (hx : wit x g = true) : askE rs day x g = 0 := by
  unfold askE
  rw [if_neg (by simp [h]), if_neg (by simp [hd, hx])]
set_option maxRecDepth 20000 in
theorem Allot_any (A : Option Addr) (n c : Nat) (rs : List Rt) (day a : Int) (w : World) (hs : Sl w w.heap.size 4 A n c (rtCells rs)) (hck : ckR rs = 0) (hd : wit day 364 = true) (ha : 0 ≤ a ∧ a ≤ 1073741824) (h12 : (actF rs day rs.length).length ≤ 200) :
    Calls Try.prog 13 #[.slice A n c, .int .i64 a, .int .i64 day] w fun e w' => ∃ v, e = .returned (.tuple #[v, .int .i64 0]) ∧ w'.ownsRow w.heap.size 3 1 v n (ints (allotR rs day a)) ∧ Below w.heap.size w w' := by
  have HA := hide (asked_any A n c rs day a 1073741824 w hs)
  rw [ask_ok hck hd (wit_of ha.1 ha.2)] at HA
  have hn : n ≤ 4096 := by have := rlen hs; have := (ck_ok hck).1; omega
  have HAL := hide (fun (W : World) (hW : Below w.heap.size w W) => allot_any A n c rs day a W (hs.thr hW) h12 hn ha (fun r hr => ((ck_ok hck).2 r hr).2))
  clear hs hck hd h12
  go_enter Try.func13, Try.ntmps13
  go_wp2_with fail
  refine HA.out.mono ?_
  rintro e w2 ⟨rfl, hb⟩
  have HB := hide hb
  go_wp2_with fail
  refine (HAL.out w2 hb).mono ?_
  rintro e w3 ⟨v, rfl, hv, hb3⟩
  have HV := hide (ownsRow_base hv HB.out.size)
  have HB3 := hide (bthr HB.out hb3 HB.out.size)
  clear hv hb3 hb
  go_wp2
  go_ret2
  exact ⟨_, rfl, HV.out, HB3.out⟩
set_option maxRecDepth 20000 in
theorem Active_any (A : Option Addr) (n c : Nat) (rs : List Rt) (day : Int) (w : World) (hs : Sl w w.heap.size 4 A n c (rtCells rs)) (hck : ckR rs = 0) (hd : wit day 364 = true) (h12 : (actF rs day rs.length).length ≤ 200) :
    Calls Try.prog 11 #[.slice A n c, .int .i64 day] w fun e w' => ∃ (A' : Option Addr) (c' : Nat), e = .returned (.tuple #[.slice A' (actR rs day).length c', .int .i64 0]) ∧ Sl w' w'.heap.size 1 A' (actR rs day).length c' (ints (actR rs day)) ∧ Below w.heap.size w w' := by
  have HA := hide (asked_any A n c rs day 0 0 w hs)
  rw [ask_ok hck hd (by decide)] at HA
  have hn : n ≤ 4096 := by have := rlen hs; have := (ck_ok hck).1; omega
  have HAL := hide (fun (W : World) (hW : Below w.heap.size w W) => active_any A n c rs day W (hs.thr hW) h12 hn)
  clear hs hck hd h12
  go_enter Try.func11, Try.ntmps11
  go_wp2_with fail
  refine HA.out.mono ?_
  rintro e w2 ⟨rfl, hb⟩
  have HB := hide hb
  go_wp2_with fail
  refine (HAL.out w2 hb).mono ?_
  rintro e w3 ⟨A', c', rfl, hv, _, hb3⟩
  have HV := hide hv
  have HB3 := hide (bthr HB.out hb3 HB.out.size)
  clear hv hb3 hb
  go_wp2
  go_ret2
  exact ⟨_, _, rfl, HV.out, HB3.out⟩
/-- the flows of some numbers together -/
def sumFl (rs : List Rt) (os : List Int) : Int := (os.map (flowR rs)).sum
theorem sumFl_take {rs : List Rt} {os : List Int} {k : Nat} (hk : k < os.length) : sumFl rs (os.take (k + 1)) = sumFl rs (os.take k) + flowR rs (os.getD k 0) := by
  unfold sumFl
  rw [take_map_snoc hk, List.sum_append]; simp
theorem sumFl_bnd {rs : List Rt} (h : ckR rs = 0) {os : List Int} {m : Nat} (hl : os.length ≤ m) : 0 ≤ sumFl rs os ∧ sumFl rs os ≤ m * 10000 := by
  unfold sumFl
  have h2 := sum_bnd (l := os.map (flowR rs)) (fun y hy => by
    obtain ⟨z, _, rfl⟩ := List.mem_map.1 hy
    exact flowR_in h z)
  rw [List.length_map] at h2
  have := Nat.mul_le_mul_right 10000 hl
  omega
set_option maxHeartbeats 800000 in
set_option maxRecDepth 20000 in
theorem Needs_any (A : Option Addr) (n c : Nat) (rs : List Rt) (day : Int) (w : World) (hs : Sl w w.heap.size 4 A n c (rtCells rs)) (hck : ckR rs = 0) (hd : wit day 364 = true) (h12 : (actF rs day rs.length).length ≤ 200) :
    Calls Try.prog 19 #[.slice A n c, .int .i64 day] w fun e w' => e = .returned (.tuple #[.int .i64 (sumFl rs (actR rs day)), .int .i64 0]) ∧ Below w.heap.size w w' := by
  have HA := hide (asked_any A n c rs day 0 0 w hs)
  rw [ask_ok hck hd (by decide)] at HA
  have hrl := rlen hs
  have hn : n ≤ 4096 := by have := (ck_ok hck).1; omega
  have HAL := hide (fun (W : World) (hW : Below w.heap.size w W) => active_any A n c rs day W (hs.thr hW) h12 hn)
  have HM12 := hide (show (actR rs day).length ≤ 200 by rw [actR_len]; exact h12)
  have HIN := hide (show ∀ x ∈ actR rs day, 0 ≤ x ∧ x < n from fun x hx => by have := actR_in hx; omega)
  have HS := hide hs
  have HCK := hide hck
  clear hs hd h12 hrl hck
  go_enter Try.func19, Try.ntmps19
  go_wp2_with fail
  refine HA.out.mono ?_
  rintro e w2 ⟨rfl, hb⟩
  have HB := hide hb
  go_wp2_with fail
  refine (HAL.out w2 hb).mono ?_
  rintro e w3 ⟨A', c', rfl, hv, _, hb3⟩
  have HV := hide hv
  have HB3 := hide (bthr HB.out hb3 HB.out.size)
  clear hv hb3 hb
  generalize hos : actR rs day = os at *
  have HOS := hide hos
  generalize hm : os.length = m at *
  have HM := hide hm
  have hm12 := HM12.out
  clear hos hm
  go_wp2
  go_loopw [7, 20] (fun vs vi wr => ∃ k : Nat, k ≤ m ∧ vi = .int .i64 k ∧ vs = .int .i64 (sumFl rs (os.take k)) ∧ Below w3.heap.size w3 wr) (fun _ vi _ => m - (intOf vi).toNat)
  case atStart => exact ⟨0, by omega, rfl, rfl, Below.refl _ _⟩
  case round =>
    obtain ⟨k, hk, rfl, rfl, hb⟩ := hrel
    by_cases hlt : k < m
    · have hM := HM.out
      obtain ⟨bo, oo, rfl, _, hco⟩ := (HV.out.thr hb).at_ hlt
      have o0 := hco k _ (ints_get os k (by omega))
      obtain ⟨ik, hik, hikn⟩ := getD_nat HIN.out (k := k) (by omega)
      have HSK := hide (sumFl_take (rs := rs) (os := os) (k := k) (by omega))
      rw [hik] at o0 HSK
      obtain ⟨br, or_, rfl, _, _⟩ := HS.out.at_ hikn
      obtain ⟨-, hfk⟩ := rt_at (HS.out.thr (bthr HB3.out hb HB3.out.size)) hikn
      obtain ⟨hs0, hs1⟩ := sumFl_bnd HCK.out (os := os.take k) (m := 200) (by rw [List.length_take]; omega)
      obtain ⟨hf0, hf1⟩ := flowR_in HCK.out (ik : Int)
      generalize flowR rs (ik : Int) = fk at *
      obtain ⟨sk, hsk⟩ : ∃ sk, sumFl rs (os.take k) = sk := ⟨_, rfl⟩
      rw [hsk] at hs0 hs1 HSK
      simp only [hsk]
      have hs2 : sk ≤ 2000000 := by omega
      have hki : (k : Int) < (m : Int) := by omega
      have hikni : (ik : Int) < (n : Int) := by omega
      have hik0 : (0 : Int) ≤ (ik : Int) := by omega
      have HBK := hide hb
      clear hco hik hb hsk hs1 hM
      go_wp2
      go_roundw
      case rel => exact ⟨k + 1, by omega, by go_num, by rw [HSK.out], HBK.out⟩
      case measure => simp [intOf]; omega
    · have hkm : k = m := by omega
      have HX := hide (show os.take k = os from List.take_of_length_le (by have := HM.out; omega))
      have hki : ¬ ((k : Int) < (m : Int)) := by omega
      have HBZ := hide (bthr HB3.out hb HB3.out.size)
      rw [HX.out]
      clear hb
      go_wp2
      go_ret2
      exact ⟨by rw [HOS.out]; first | done | rfl, HBZ.out⟩
/-- the flows of those before a date -/
def befFl (rs : List Rt) (os : List Int) (d : Int) : Int := sumFl rs (os.filter fun x => decide (dateR rs x < d))
theorem befFl_take {rs : List Rt} {os : List Int} {d : Int} {k : Nat} (hk : k < os.length) : befFl rs (os.take (k + 1)) d = befFl rs (os.take k) d + if dateR rs (os.getD k 0) < d then flowR rs (os.getD k 0) else 0 := by
  unfold befFl sumFl
  rw [List.take_succ_eq_append_getElem hk, List.filter_append, List.map_append, List.sum_append]
  have e : os.getD k 0 = os[k] := by simp [List.getD_eq_getElem?_getD, hk]
  rw [e]
  by_cases h : dateR rs os[k] < d
  · simp [h]
  · simp [h]
set_option maxHeartbeats 800000 in
set_option maxRecDepth 20000 in
theorem Before_any (A : Option Addr) (n c : Nat) (rs : List Rt) (d day : Int) (w : World) (hs : Sl w w.heap.size 4 A n c (rtCells rs)) (hck : ckR rs = 0) (hd : wit day 364 = true) (hdt : wit d 16777216 = true) (h12 : (actF rs day rs.length).length ≤ 200) :
    Calls Try.prog 17 #[.slice A n c, .int .i64 d, .int .i64 day] w fun e w' => e = .returned (.tuple #[.int .i64 (befFl rs (actR rs day) d), .int .i64 0]) ∧ Below w.heap.size w w' := by
  have HA := hide (asked_any A n c rs day d 16777216 w hs)
  rw [ask_ok hck hd hdt] at HA
  have hrl := rlen hs
  have hn : n ≤ 4096 := by have := (ck_ok hck).1; omega
  have HAL := hide (fun (W : World) (hW : Below w.heap.size w W) => active_any A n c rs day W (hs.thr hW) h12 hn)
  have HM12 := hide (show (actR rs day).length ≤ 200 by rw [actR_len]; exact h12)
  have HIN := hide (show ∀ x ∈ actR rs day, 0 ≤ x ∧ x < n from fun x hx => by have := actR_in hx; omega)
  have HS := hide hs
  have HCK := hide hck
  clear hs hd h12 hrl hck hdt
  go_enter Try.func17, Try.ntmps17
  go_wp2_with fail
  refine HA.out.mono ?_
  rintro e w2 ⟨rfl, hb⟩
  have HB := hide hb
  go_wp2_with fail
  refine (HAL.out w2 hb).mono ?_
  rintro e w3 ⟨A', c', rfl, hv, _, hb3⟩
  have HV := hide hv
  have HB3 := hide (bthr HB.out hb3 HB.out.size)
  clear hv hb3 hb
  generalize hos : actR rs day = os at *
  have HOS := hide hos
  generalize hm : os.length = m at *
  have HM := hide hm
  have hm12 := HM12.out
  clear hos hm
  go_wp2
  go_loopw [9, 23] (fun vs vi wr => ∃ k : Nat, k ≤ m ∧ vi = .int .i64 k ∧ vs = .int .i64 (befFl rs (os.take k) d) ∧ Below w3.heap.size w3 wr) (fun _ vi _ => m - (intOf vi).toNat)
  case atStart => exact ⟨0, by omega, rfl, rfl, Below.refl _ _⟩
  case round =>
    obtain ⟨k, hk, rfl, rfl, hb⟩ := hrel
    by_cases hlt : k < m
    · have hM := HM.out
      obtain ⟨bo, oo, rfl, _, hco⟩ := (HV.out.thr hb).at_ hlt
      have o0 := hco k _ (ints_get os k (by omega))
      obtain ⟨ik, hik, hikn⟩ := getD_nat HIN.out (k := k) (by omega)
      have HSK := hide (befFl_take (rs := rs) (os := os) (k := k) (d := d) (by omega))
      rw [hik] at o0 HSK
      obtain ⟨br, or_, rfl, _, _⟩ := HS.out.at_ hikn
      obtain ⟨hdk, hfk⟩ := rt_at (HS.out.thr (bthr HB3.out hb HB3.out.size)) hikn
      obtain ⟨hs0, hs1⟩ := sumFl_bnd HCK.out (os := (os.take k).filter fun x => decide (dateR rs x < d)) (m := 200) (by have := List.length_filter_le (fun x => decide (dateR rs x < d)) (os.take k); rw [List.length_take] at this; omega)
      obtain ⟨hf0, hf1⟩ := flowR_in HCK.out (ik : Int)
      generalize flowR rs (ik : Int) = fk at *
      generalize dateR rs (ik : Int) = dk at *
      obtain ⟨sk, hsk⟩ : ∃ sk, befFl rs (os.take k) d = sk := ⟨_, rfl⟩
      have hs0' : 0 ≤ sk := by rw [← hsk]; exact hs0
      have hs1' : sk ≤ 2000000 := by rw [← hsk]; unfold befFl; omega
      rw [hsk] at HSK
      simp only [hsk]
      have hki : (k : Int) < (m : Int) := by omega
      have hikni : (ik : Int) < (n : Int) := by omega
      have hik0 : (0 : Int) ≤ (ik : Int) := by omega
      have HBK := hide hb
      clear hco hik hb hsk hs1 hs0 hM
      by_cases hdd : dk < d
      · have HSK2 := hide (HSK.out.trans (by rw [if_pos hdd]))
        clear HSK
        go_wp2
        go_roundw
        case rel => exact ⟨k + 1, by omega, by go_num, by rw [HSK2.out], HBK.out⟩
        case measure => simp [intOf]; omega
      · have HSK2 := hide (HSK.out.trans (by rw [if_neg hdd, Int.add_zero]))
        clear HSK
        go_wp2
        go_roundw
        case rel => exact ⟨k + 1, by omega, by go_num, by rw [HSK2.out], HBK.out⟩
        case measure => simp [intOf]; omega
    · have hkm : k = m := by omega
      have HX := hide (show os.take k = os from List.take_of_length_le (by have := HM.out; omega))
      have hki : ¬ ((k : Int) < (m : Int)) := by omega
      have HBZ := hide (bthr HB3.out hb HB3.out.size)
      rw [HX.out]
      clear hb
      go_wp2
      go_ret2
      exact ⟨by rw [HOS.out]; first | done | rfl, HBZ.out⟩
/-- the first that lacks some -/
def lackF (rs : List Rt) (got : List Int) (os : List Int) : Option Int := os.find? fun x => decide (got.getD x.toNat 0 < flowR rs x)
theorem lack_hit {rs : List Rt} {got os : List Int} {k : Nat} (hk : k < os.length) (hp : lackF rs got (os.take k) = none) (h : got.getD (os.getD k 0).toNat 0 < flowR rs (os.getD k 0)) : lackF rs got os = some (os.getD k 0) := by
  have e : os.getD k 0 = os[k] := by simp [List.getD_eq_getElem?_getD, hk]
  obtain ⟨y, hy⟩ : ∃ y, os[k] = y := ⟨_, rfl⟩
  have hd : os = os.take k ++ y :: os.drop (k + 1) := by
    rw [← hy]
    conv => lhs; rw [← List.take_append_drop k os, List.drop_eq_getElem_cons hk]
  rw [e, hy] at h ⊢
  unfold lackF at *
  rw [hd, List.find?_append, hp]
  rw [List.find?_cons_of_pos (by simpa using h)]
  rfl
theorem lack_miss {rs : List Rt} {got os : List Int} {k : Nat} (hk : k < os.length) (hp : lackF rs got (os.take k) = none) (h : ¬ got.getD (os.getD k 0).toNat 0 < flowR rs (os.getD k 0)) : lackF rs got (os.take (k + 1)) = none := by
  have e : os.getD k 0 = os[k] := by simp [List.getD_eq_getElem?_getD, hk]
  rw [e] at h
  unfold lackF at *
  rw [List.take_succ_eq_append_getElem hk, List.find?_append, hp, List.find?_cons_of_neg (by simpa using h)]
  rfl
set_option maxHeartbeats 800000 in
set_option maxRecDepth 20000 in
theorem Call_any (A : Option Addr) (n c : Nat) (rs : List Rt) (day a : Int) (w : World) (hs : Sl w w.heap.size 4 A n c (rtCells rs)) (hck : ckR rs = 0) (hd : wit day 364 = true) (ha : 0 ≤ a ∧ a ≤ 1073741824) (h12 : (actF rs day rs.length).length ≤ 200) :
    Calls Try.prog 15 #[.slice A n c, .int .i64 a, .int .i64 day] w fun e w' => e = .returned (.tuple #[.int .i64 ((lackF rs (allotR rs day a) (actR rs day)).getD 0), .bool (lackF rs (allotR rs day a) (actR rs day)).isSome, .int .i64 0]) ∧ Below w.heap.size w w' := by
  have HA := hide (Allot_any A n c rs day a w hs hck hd ha h12)
  have hrl := rlen hs
  have hn : n ≤ 4096 := by have := (ck_ok hck).1; omega
  have HAL := hide (fun (W : World) (hW : Below w.heap.size w W) => active_any A n c rs day W (hs.thr hW) h12 hn)
  have HM12 := hide (show (actR rs day).length ≤ 200 by rw [actR_len]; exact h12)
  have HIN := hide (show ∀ x ∈ actR rs day, 0 ≤ x ∧ x < n from fun x hx => by have := actR_in hx; omega)
  have HS := hide hs
  clear hs hd h12 hrl hck
  go_enter Try.func15, Try.ntmps15
  go_wp2_with fail
  refine HA.out.mono ?_
  rintro e w2 ⟨v, rfl, hv, hb⟩
  obtain ⟨Ag, cg, rfl, hsg⟩ := own_sl hv
  have HSG := hide hsg
  have HB := hide hb
  clear hv hsg
  generalize hgot : allotR rs day a = got at *
  have HGOT := hide hgot
  clear hgot
  go_wp2_with fail
  refine (HAL.out w2 hb).mono ?_
  rintro e w3 ⟨A', c', rfl, hv, _, hb3⟩
  have HV := hide hv
  have HSG3 := hide (HSG.out.thr hb3)
  have HB3 := hide (bthr HB.out hb3 HB.out.size)
  clear hv hb3 hb
  generalize hos : actR rs day = os at *
  have HOS := hide hos
  generalize hm : os.length = m at *
  have HM := hide hm
  have hm12 := HM12.out
  clear hos hm
  go_wp2
  go_loopw [27] (fun vi wr => ∃ k : Nat, k ≤ m ∧ vi = .int .i64 k ∧ Hid (lackF rs got (os.take k) = none) ∧ Below w3.heap.size w3 wr) (fun vi _ => m - (intOf vi).toNat)
  case atStart => exact ⟨0, by omega, rfl, hide rfl, Below.refl _ _⟩
  case round =>
    obtain ⟨k, hk, rfl, HLK, hb⟩ := hrel
    by_cases hlt : k < m
    · have hM := HM.out
      obtain ⟨bo, oo, rfl, _, hco⟩ := (HV.out.thr hb).at_ hlt
      have o0 := hco k _ (ints_get os k (by omega))
      obtain ⟨ik, hik, hikn⟩ := getD_nat HIN.out (k := k) (by omega)
      have HHIT := hide (lack_hit (rs := rs) (got := got) (os := os) (k := k) (by omega) HLK.out)
      have HMISS := hide (lack_miss (rs := rs) (got := got) (os := os) (k := k) (by omega) HLK.out)
      rw [hik, Int.toNat_natCast] at HHIT HMISS
      rw [hik] at o0
      obtain ⟨br, or_, rfl, _, _⟩ := HS.out.at_ hikn
      obtain ⟨-, hfk⟩ := rt_at (HS.out.thr (bthr HB3.out hb HB3.out.size)) hikn
      obtain ⟨bg, og, rfl, _, hcg⟩ := (HSG3.out.thr hb).at_ hikn
      have g0 := hcg ik _ (ints_get got ik (by have := HSG3.out.1; rw [ints_length] at this; omega))
      generalize flowR rs (ik : Int) = fk at *
      generalize got.getD ik 0 = gk at *
      have hki : (k : Int) < (m : Int) := by omega
      have hikni : (ik : Int) < (n : Int) := by omega
      have hik0 : (0 : Int) ≤ (ik : Int) := by omega
      have HBK := hide hb
      have HBZ := hide (bthr HB3.out hb HB3.out.size)
      clear hco hcg hik hb hM HLK
      by_cases hdd : gk < fk
      · have HX := hide (HHIT.out hdd)
        have hdt : decide (gk < fk) = true := by simp [hdd]
        clear HHIT HMISS
        go_wp2_with fail
        go_quiet (fail)
        go_wp2
        go_ret3
        exact ⟨by rw [HGOT.out, HOS.out, HX.out]; rfl, below_drewN HBZ.out _⟩
      · have HX := hide (HMISS.out hdd)
        have hdt : decide (gk < fk) = false := by simp [hdd]
        clear HHIT HMISS
        go_wp2_with fail
        go_quiet (fail)
        go_wp2
        go_roundw
        case rel => exact ⟨k + 1, by omega, by go_num, hide HX.out, below_drewN HBK.out _⟩
        case measure => simp [intOf]; omega
    · have hkm : k = m := by omega
      have HX := hide (show lackF rs got os = none by have := HLK.out; rwa [List.take_of_length_le (by have := HM.out; omega)] at this)
      have hki : ¬ ((k : Int) < (m : Int)) := by omega
      have HBZ := hide (bthr HB3.out hb HB3.out.size)
      clear hb HLK
      go_wp2
      go_ret3
      exact ⟨by rw [HGOT.out, HOS.out, HX.out]; rfl, HBZ.out⟩
end Go.Proofs.Ytfcmgmcidngjeaa
