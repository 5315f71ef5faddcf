/-
  The contract of the reference's Allot at valid arguments (printed by mk_ral.py): the same as the program's. Condition: 200 in force at most.
-/
import Derived.Test.YtfcmgmcidngjeaaProg
import Derived.Test.YtfcmgmcidngjeaaRae
import Derived.Test.YtfcmgmcidngjeaaRgw
import Derived.Test.YtfcmgmcidngjeaaRsh
namespace Go.Proofs.Ytfcmgmcidngjeaa
open Go.RowKit

theorem grpV_sumA {a : Int} {fl : List Int} (ha : 0 ≤ a) (hf : ∀ x ∈ fl, 0 ≤ x ∧ x ≤ 10000) : (grpV a fl).sum = min fl.sum a ∧ ∀ x ∈ grpV a fl, 0 ≤ x := by
  unfold grpV
  by_cases h : a < fl.sum
  · rw [if_pos h]
    unfold shV
    rw [if_neg (by omega)]
    have hS := shareL_spec (a := a) (ws := fl) (by omega)
    refine ⟨by rw [hS.sum]; omega, fun x hx => ?_⟩
    obtain ⟨j, hj, rfl⟩ := List.getElem_of_mem hx
    have hj2 : j < fl.length := by rw [← hS.len]; exact hj
    have h2 := hS.each j hj2
    have h3 : 0 ≤ a * fl.getD j 0 / fl.sum := Int.ediv_nonneg (Int.mul_nonneg ha (get_in hf hj2).1) (by omega)
    rw [List.getD_eq_getElem?_getD, List.getElem?_eq_getElem hj, Option.getD_some] at h2
    omega
  · rw [if_neg h]
    exact ⟨by omega, fun x hx => (hf x hx).1⟩
theorem part_sumA {sh : List Int} (h0 : ∀ x ∈ sh, 0 ≤ x) (j : Nat) : 0 ≤ (sh.take j).sum ∧ (sh.take j).sum ≤ sh.sum := by
  have hp : ∀ l : List Int, (∀ x ∈ l, 0 ≤ x) → 0 ≤ l.sum := by
    intro l
    induction l with
    | nil => simp
    | cons x t ih =>
      intro h
      have h1 := ih (fun y hy => h y (by simp [hy]))
      have h2 := h x (by simp)
      simp only [List.sum_cons]; omega
  have h1 : (sh.take j).sum + (sh.drop j).sum = sh.sum := by rw [← List.sum_append, List.take_append_drop]
  have h2 := hp (sh.take j) (fun x hx => h0 x (List.mem_of_mem_take hx))
  have h3 := hp (sh.drop j) (fun x hx => h0 x (List.mem_of_mem_drop hx))
  omega
theorem sum_takeS {sh : List Int} {j : Nat} (h : j < sh.length) : (sh.take (j + 1)).sum = (sh.take j).sum + sh.getD j 0 := by
  rw [List.take_succ_eq_append_getElem h, List.sum_append]
  simp [List.getD_eq_getElem?_getD, h]
set_option maxHeartbeats 6400000 in
set_option maxRecDepth 20000 in
theorem rAllot_any (A : Option Addr) (n c : Nat) (rs : List Rt) (day a : Int) (w : World) (hs : Sl w w.heap.size 4 A n c (rtCells rs)) (hck : ckR rs = 0) (hd : wit day 364 = true) (ha : 0 ≤ a ∧ a ≤ 1073741824) (h12 : (actF rs day rs.length).length ≤ 200) :
    Calls Try.prog 14 #[.slice A n c, .int .i64 a, .int .i64 day] w fun e w' => ∃ v, e = .returned (.tuple #[v, .int .i64 0]) ∧ w'.ownsRow w.heap.size 3 1 v n (ints (allotR rs day a)) ∧ Below w.heap.size w w' := by
  have HIV := hide (fun W => refIn_any a 1073741824 W)
  have HDT := hide (wit_of ha.1 ha.2)
  have hrl := rlen hs
  have hn : n ≤ 1000 := by have := (ck_ok hck).1; omega
  have HAL := hide (ractive_any A n c rs day w hs hck hd hn)
  have HM12 := hide (show (actR rs day).length ≤ 200 by rw [actR_len]; exact h12)
  have HIN := hide (show ∀ x ∈ actR rs day, 0 ≤ x ∧ x < n from fun x hx => by have := actR_in hx; omega)
  have HL := hide hrl
  have HDF := hide (show allotR rs day a = allotL rs (actR rs day).length (actR rs day) a (List.replicate rs.length 0) from rfl)
  have HF := hide (fun x : Int => flowR_in hck x)
  have HS := hide hs
  clear hs hd h12 hrl hck
  go_enter Try.func14, Try.ntmps14
  go_wp2_with fail
  refine HAL.out.mono ?_
  rintro e w1 ⟨A8, c8, rfl, hv, hb1⟩
  have HV := hide hv
  have HB1 := hide hb1
  clear hv hb1
  go_wp2_with fail
  refine (HIV.out _).mono ?_
  rintro e w4 ⟨rfl, rfl⟩
  rw [HDT.out]
  clear HIV HDT HAL
  obtain ⟨w2, hmk, hown, hg1⟩ := make_ints w1 w1.heap.size n (by omega) (Nat.le_refl _)
  have HB2 := hide ((Below.refl w1.heap.size w1).grown hg1 (Nat.le_refl _) (by simp))
  have hgo : w1.heap.size + 1 ≤ w2.heap.size := (hown.lt _ rfl).2
  have HOW := hide hown
  have HVT := hide (fun (W : World) (hW : Below w1.heap.size w1 W) => HV.out.thr hW)
  have HBT := hide (fun (W : World) (hW : Below w1.heap.size w1 W) => bthr HB1.out hW HB1.out.size)
  clear hg1
  generalize hos : actR rs day = os at *
  have HOS := hide hos
  generalize hm : os.length = m at *
  have HM := hide hm
  have hm12 := HM12.out
  clear hos hm hown
  generalize hg0 : w1.heap.size = g0 at *
  have HG0 := hide hg0
  have HGB := hide (show w.heap.size ≤ g0 by have := HB1.out.size; omega)
  clear hg0
  go_wp2
  clear hmk
  go_loopw [1, 11] (fun va vi wr => ∃ (i : Nat) (a' : Int) (out : List Int) (f : Nat), i ≤ m ∧ vi = .int .i64 i ∧ va = .int .i64 a' ∧ (0 ≤ a' ∧ a' ≤ 1073741824) ∧ m - i ≤ f ∧ out.length = n ∧ Hid (allotL rs f (os.drop i) a' out = allotR rs day a) ∧ wr.ownsRow g0 3 1 (.slice (some ⟨g0, 0, none⟩) n n) n (ints out) ∧ Below g0 w1 wr ∧ g0 + 1 ≤ wr.heap.size) (fun _ vi _ => m - (intOf vi).toNat)
  case atStart =>
    exact ⟨0, a, List.replicate n 0, m, by omega, rfl, rfl, ha, by omega, by simp, hide (by rw [HDF.out, HL.out, List.drop_zero]), HOW.out, HB2.out, hgo⟩
  case round =>
    obtain ⟨i, a', out, f, hi, rfl, rfl, ha', hmf, hlo, HR, how, hb, hz⟩ := hrel
    rename World => wr
    clear ha HOW HB2 hgo
    by_cases hlt : i < m
    · obtain ⟨l, hl⟩ : ∃ l, os.drop i = l := ⟨_, rfl⟩
      have HLD := hide hl
      have HLX := hide (fun (k : Nat) => show l.getD k 0 = os.getD (i + k) 0 by rw [← hl]; simp [List.getD_eq_getElem?_getD, List.getElem?_drop])
      have hq : l.length = m - i := by rw [← hl, List.length_drop, HM.out]
      rw [hl] at HR
      have HLII := hide (show ∀ x ∈ l, 0 ≤ x ∧ x < (n : Int) from fun x hx => HIN.out x (List.mem_of_mem_drop (by rw [hl]; exact hx)))
      clear hl
      obtain ⟨x, t, rfl⟩ : ∃ x t, l = x :: t := by
        cases l with
        | nil => simp at hq; omega
        | cons x t => exact ⟨x, t, rfl⟩
      obtain ⟨f, rfl⟩ : ∃ f', f = f' + 1 := ⟨f - 1, by omega⟩
      obtain ⟨i0, rfl⟩ : ∃ i0 : Nat, x = (i0 : Int) := ⟨x.toNat, by have := HLII.out x (by simp); omega⟩
      have hi0n : i0 < n := by have := HLII.out (i0 : Int) (by simp); omega
      obtain ⟨br, or_, rfl, _, _⟩ := HS.out.at_ hi0n
      obtain ⟨bo, oo, rfl, _, _⟩ := (HVT.out _ hb).at_ hlt
      have HRT := hide (fun (W : World) (hW : Below g0 w1 W) (i : Nat) (hi : i < n) => rt_at (HS.out.thr (HBT.out W hW)) hi)
      have HCO := hide (show ∀ (W : World), Below g0 w1 W → ∀ j, j < m → W.cell? ⟨bo, oo + j, none⟩ = some (.int .i64 (os.getD j 0)) from fun W hW j hj => by
        obtain ⟨b2, o2, e2, _, hc2⟩ := (HVT.out W hW).at_ hj
        injection e2 with e2
        injection e2 with e3 e4 _
        subst e3 e4
        exact hc2 j _ (ints_get os j (by have := HM.out; omega)))
      have HK1 := hide (runL_pos (rs := rs) (x := (i0 : Int)) (t := t))
      have HKL := hide (runL_le (rs := rs) (dateR rs i0) ((i0 : Int) :: t))
      have HKA := hide (fun (k : Nat) (h : k < runL rs (dateR rs i0) ((i0 : Int) :: t)) => runL_at h)
      have HKE := hide (fun (h : runL rs (dateR rs i0) ((i0 : Int) :: t) < ((i0 : Int) :: t).length) => runL_end h)
      have HRR := hide (show allotL rs (f + 1) ((i0 : Int) :: t) a' out = allotL rs f (((i0 : Int) :: t).drop (runL rs (dateR rs i0) ((i0 : Int) :: t))) (a' - min ((((i0 : Int) :: t).take (runL rs (dateR rs i0) ((i0 : Int) :: t))).map (flowR rs)).sum a') (putL out (((i0 : Int) :: t).take (runL rs (dateR rs i0) ((i0 : Int) :: t))) (grpV a' ((((i0 : Int) :: t).take (runL rs (dateR rs i0) ((i0 : Int) :: t))).map (flowR rs)))) from rfl)
      have hx0 := HCO.out wr hb i hlt
      have hos0 := HLX.out 0
      simp only [List.getD_cons_zero, Nat.add_zero] at hos0
      rw [← hos0] at hx0
      have HO0 := hide hos0
      clear hos0
      generalize hdv : dateR rs i0 = d at *
      have HDV := hide hdv
      clear hdv
      generalize runL rs d ((i0 : Int) :: t) = K at *
      generalize (i0 : Int) :: t = l at *
      have HLI := hide (fun (k : Nat) (hk : k < l.length) => getD_nat HLII.out hk)
      have HFL := hide (fun (k : Nat) (hk : k < l.length) => take_map_snoc (f := flowR rs) hk)
      have HSB := hide (show ∀ k, k ≤ l.length → 0 ≤ ((l.take k).map (flowR rs)).sum ∧ ((l.take k).map (flowR rs)).sum ≤ 2000000 from fun k hk => by
        have h := sum_bnd (l := (l.take k).map (flowR rs)) (fun y hy => by
          obtain ⟨z, _, rfl⟩ := List.mem_map.1 hy
          exact HF.out z)
        rw [List.length_map, List.length_take] at h
        omega)
      have HOWO := hide how
      have HBO := hide hb
      have hin : (i0 : Int) < (n : Int) := by omega
      have hi00 : (0 : Int) ≤ (i0 : Int) := by omega
      have him : (i : Int) < (m : Int) := by omega
      have hii0 : (0 : Int) ≤ (i : Int) := by omega
      generalize hqq : l.length = q at *
      have HQ := hide hqq
      have HQM := hide hq
      clear how hb hqq hq hx0
      go_wp2_with fail
      go_loopw [12, 13, 14] (fun v12 v13 v14 wx => ∃ k p : Nat, Hid (p = i + k) ∧ k ≤ K ∧ v12 = .int .i64 p ∧ v13 = .int .i64 ((l.take k).map (flowR rs)).sum ∧ wx.ownsRow wr.heap.size 3 1 v14 k (ints ((l.take k).map (flowR rs))) ∧ Below wr.heap.size wr wx) (fun v12 _ _ _ => m - (intOf v12).toNat)
      case atStart => exact ⟨0, i, hide rfl, by omega, rfl, rfl, World.ownsRow_nil _ _ _ _, Below.refl _ _⟩
      case round =>
        obtain ⟨k, p, HP, hk, rfl, rfl, hfl, hbk⟩ := hrel
        rename World => wx
        have hKq := HKL.out
        have hkq : k ≤ q := by omega
        have hpm : p ≤ m := by have := HP.out; have := HQM.out; omega
        have hii : Hid (i ≤ p) := hide (by have := HP.out; omega)
        by_cases hlt2 : k < q
        · have hpm2 : p < m := by have := HP.out; have := HQM.out; omega
          have hbx := hide (bthr HBO.out hbk (by omega))
          have ho := HCO.out wx hbx.out p hpm2
          have hoi := HCO.out wx hbx.out i hlt
          rw [← HO0.out] at hoi
          obtain ⟨ik, hik, hikn⟩ := HLI.out k hlt2
          have HLP := hide (show os.getD p 0 = l.getD k 0 by rw [HLX.out k, HP.out])
          rw [HLP.out] at ho
          have HFK := hide (HFL.out k hlt2)
          have HKAk := hide (fun h : k < K => HKA.out k h)
          have HKEk := hide (fun h : k = K => by have := HKE.out (by omega); rwa [← h] at this)
          rw [hik] at ho HFK HKAk HKEk
          obtain ⟨hdk, hfk⟩ := HRT.out wx hbx.out ik hikn
          obtain ⟨hd0, -⟩ := HRT.out wx hbx.out i0 hi0n
          rw [HDV.out] at hd0
          obtain ⟨hf0, hf1⟩ := HF.out (ik : Int)
          obtain ⟨hs0, hs1⟩ := HSB.out k (by omega)
          obtain ⟨dk, hdke⟩ : ∃ dk, dateR rs ik = dk := ⟨_, rfl⟩
          rw [hdke] at hdk HKAk HKEk
          obtain ⟨fk, hfke⟩ : ∃ fk, flowR rs (ik : Int) = fk := ⟨_, rfl⟩
          have HFKE := hide hfke
          rw [hfke] at hfk hf0 hf1 HFK
          clear hfke
          obtain ⟨sk, hsk⟩ : ∃ sk, ((l.take k).map (flowR rs)).sum = sk := ⟨_, rfl⟩
          rw [hsk] at hs0 hs1
          simp only [hsk]
          have hki : (p : Int) < (m : Int) := by omega
          have hki0 : (0 : Int) ≤ (p : Int) := by omega
          have hikni : (ik : Int) < (n : Int) := by omega
          have hik0 : (0 : Int) ≤ (ik : Int) := by omega
          by_cases hde : dk = d
          · subst hde
            have hkK : k < K := by
              rcases Nat.lt_or_ge k K with h | h
              · exact h
              · exact absurd rfl (HKEk.out (by omega))
            have HSK := hide (show ((l.take (k + 1)).map (flowR rs)).sum = sk + fk by rw [HFK.out, List.sum_append, hsk]; simp)
            have HFK2 := hide (show ints ((l.take (k + 1)).map (flowR rs)) = ints ((l.take k).map (flowR rs)) ++ [.int .i64 fk] by rw [HFK.out, ints_append]; rfl)
            have HFO := hide hfl
            have HBK := hide hbk
            have hkm : k < 549755813888 := by have := HQM.out; omega
            have hdd : (dk == dk) = true := by simp
            have HIKE := hide hik
            clear hfl hik hsk hdke hbk
            go_wp2_with fail
            go_quiet (fail)
            clear ho hoi hdk hfk hd0
            generalize hwz : wx.drewN _ = wz
            have HFOz := hide (show wz.ownsRow wr.heap.size 3 1 _ k (ints ((l.take k).map (flowR rs))) by rw [← hwz]; exact HFO.out)
            have HBKz := hide (show Below wr.heap.size wr wz by rw [← hwz]; exact below_drewN HBK.out _)
            have hbz := hide (bthr HBO.out HBKz.out (by omega))
            have ho := HCO.out wz hbz.out p hpm2
            rw [HLP.out] at ho
            have hike := HIKE.out
            rw [hike] at ho
            obtain ⟨-, hfk⟩ := HRT.out wz hbz.out ik hikn
            rw [HFKE.out] at hfk
            clear hwz hike HFO HBK hbx
            go_wp2_with (at_builtin; refine wpList_push rfl _ _ _ rfl wr.heap.size _ _ slInt _ _ _ rfl HFOz.out _ _ rfl rfl rfl hkm HBKz.out.size ?_)
            intro v' w4 hv4 hg4 _
            have HB4 := hide (HBKz.out.grown hg4 HBKz.out.size (fun g hg => (HFOz.out.lt g hg).1))
            have HV4 := hide (show w4.ownsRow wr.heap.size 3 1 v' (k + 1) (ints ((l.take (k + 1)).map (flowR rs))) by rw [HFK2.out]; first | exact hv4 | (rw [List.map_take]; exact hv4))
            clear ho hfk hv4 hg4
            go_wp2
            go_roundw
            case rel => exact ⟨k + 1, p + 1, hide (by have := HP.out; omega), by omega, by go_num, by rw [HSK.out], HV4.out, HB4.out⟩
            case measure => simp [intOf]; omega
          · -- the date ends the run
            have hkK : k = K := by
              rcases Nat.lt_or_ge k K with h | h
              · exact absurd (HKAk.out h) hde
              · omega
            subst hkK
            have hdd : (dk == d) = false := by simp [hde]
            clear HKAk HKEk HFK HFKE hdke hs0 hs1 hf0 hf1
            have HRN0 := hide (HRR.out.symm.trans HR)
            have HFLB := hide (show ∀ y ∈ (l.take k).map (flowR rs), 0 ≤ y ∧ y ≤ 10000 from fun y hy => by
              obtain ⟨z, _, rfl⟩ := List.mem_map.1 hy
              exact HF.out z)
            have hfll : ((l.take k).map (flowR rs)).length = k := by rw [List.length_map, List.length_take]; have := HQ.out; omega
            obtain ⟨hs0, hs1⟩ := HSB.out k (by omega)
            have HFO0 := hide hfl
            have HBK0 := hide hbk
            clear hfl hbk
            go_wp2_with fail
            go_quiet (fail)
            clear ho hoi hdk hfk hd0
            generalize hwz : World.drewN _ _ = wx0
            have HFO := hide (show wx0.ownsRow wr.heap.size 3 1 _ k (ints ((l.take k).map (flowR rs))) by rw [← hwz]; exact HFO0.out)
            have HBK := hide (show Below wr.heap.size wr wx0 by rw [← hwz]; exact below_drewN HBK0.out _)
            clear hwz HFO0 HBK0 hbx
            rename World => wx
            generalize hfld : (l.take k).map (flowR rs) = fl at *
            obtain ⟨S, hS⟩ : ∃ S, fl.sum = S := ⟨_, rfl⟩
            have hsS : S = sk := by rw [← hsk, hS]
            subst hsS
            rw [hS] at hs0 hs1 HRN0
            try simp only [hS]
            have hSS : 0 ≤ S := hs0
            have hk1 := HK1.out
            have HK1o := hide hk1
            have hk12 : k ≤ 200 := by have := HQM.out; omega
            have hgs := grpV_sumA ha'.1 HFLB.out
            have HGS := hide (show (grpV a' fl).sum = min S a' by rw [← hS]; exact hgs.1)
            have HG0x := hide hgs.2
            have HRN := hide (show allotL rs f (os.drop p) (a' - (grpV a' fl).sum) (putL out (l.take k) (grpV a' fl)) = allotR rs day a by rw [HGS.out]; have h := HRN0.out; rwa [show l.drop k = os.drop p by rw [← HLD.out, List.drop_drop, ← HP.out]] at h)
            clear hfld HFL HSB HKA HKE HKL HK1 HRR HRN0 hgs
            by_cases hna : a' < S
            · have HGV := hide (show grpV a' fl = shV a' fl by unfold grpV; rw [if_pos (by omega)])
              obtain ⟨A1, c1, rfl, hsf⟩ := own_sl HFO.out
              have HSE := hide (rshare_full a' fl A1 k c1 wx (by omega) hsf)
              have HSV := hide (show shFV a' fl = shV a' fl by unfold shFV; rw [if_neg (by rw [wit_of ha'.1 (by omega)]; rw [show (fl.any fun v => !wit v 10000) = false by rw [List.any_eq_false]; intro x hx; rw [wit_of (HFLB.out x hx).1 (HFLB.out x hx).2]; simp]; simp)])
              have hgl := grpV_len ha'.1 HFLB.out
              have HGL := hide (show (grpV a' fl).length = k by rw [hgl]; exact hfll)
              clear hsf hgl
              go_wp2_with fail
              refine HSE.out.mono ?_
              rintro e wz ⟨v, rfl, hv, hb5⟩
              rw [HSV.out, ← HGV.out, HGL.out] at hv
              obtain ⟨A12, c12, rfl, hsl12⟩ := own_sl hv
              have hlo12 := fun b o s (h : A12 = some ⟨b, o, s⟩) => own_from hv h
              have HSH := hide (slF_of (lo := g0 + 1) hsl12 (fun b o s h => by have := hlo12 b o s h; have := HBK.out.size; omega))
              have hbz := bthr HBK.out hb5 HBK.out.size
              clear hv hsl12 hlo12 hb5 HSE HGV HGL HSV
              -- the values are put
              have HOO := hide (ownsRow_below HOWO.out hbz)
              have HBZ := hide (bthr HBO.out hbz (by omega))
              have hzz : g0 + 1 ≤ wz.heap.size := Nat.le_trans hz hbz.size
              have HSHL := hide (show (grpV a' fl).length = k from HSH.out.1)
              have HPT := hide (fun (j : Nat) (h : j < k) => putL_take (g := l.take k) (sh := grpV a' fl) (out := out) (j := j) (by rw [List.length_take]; have := HQ.out; omega) (by have := HSHL.out; omega))
              have HTK := hide (fun (j : Nat) (h : j < k) => show (l.take k).getD j 0 = l.getD j 0 by simp [List.getD_eq_getElem?_getD, h])
              have HST := hide (fun (j : Nat) (h : j < k) => sum_takeS (sh := grpV a' fl) (j := j) (by have := HSHL.out; omega))
              have HPS := hide (fun (j : Nat) => part_sumA HG0x.out j)
              have HSA := hide (show (grpV a' fl).sum ≤ a' by rw [HGS.out]; omega)
              have HPN := hide HG0x.out
              clear hbz HFO HGS HG0x HFLB hfll HBK
              generalize grpV a' fl = sh at *
              go_wp2
              go_loopw [1, 16] (fun va v16 wy => ∃ j s : Nat, Hid (s = i + j) ∧ j ≤ k ∧ v16 = .int .i64 s ∧ va = .int .i64 (a' - (sh.take j).sum) ∧ wy.ownsRow g0 3 1 (.slice (some ⟨g0, 0, none⟩) n n) n (ints (putL out ((l.take k).take j) (sh.take j))) ∧ SlF wy (g0 + 1) A12 k c12 sh ∧ Below g0 w1 wy ∧ g0 + 1 ≤ wy.heap.size) (fun _ v16 _ => p - (intOf v16).toNat)
              case atStart => exact ⟨0, i, hide rfl, by omega, rfl, by simp, HOO.out, HSH.out, HBZ.out, hzz⟩
              case round =>
                obtain ⟨j, s, HSJ, hj, rfl, rfl, hoo, hsh, hby, hzy⟩ := hrel
                rename World => wy
                by_cases hjk : j < k
                · have hsp : s < p := by have := HSJ.out; have := HP.out; omega
                  obtain ⟨bs, os', rfl, hbs1, hbs2, hcs⟩ := hsh.2.2.2 (by omega)
                  have s0 := hcs j hjk
                  have o0 := HCO.out wy hby s (by omega)
                  obtain ⟨ij, hij, hijn⟩ := HLI.out j (by omega)
                  have HPJ := hide (HPT.out j hjk)
                  rw [HTK.out j hjk] at HPJ
                  rw [show os.getD s 0 = (ij : Int) by rw [HSJ.out, ← HLX.out j, hij]] at o0
                  rw [hij] at HPJ
                  rw [Int.toNat_natCast] at HPJ
                  have HST1 := hide (HST.out j hjk)
                  obtain ⟨p0, p1⟩ := HPS.out j
                  obtain ⟨p2, p3⟩ := HPS.out (j + 1)
                  rw [HST1.out] at p2 p3
                  obtain ⟨sj, hsj⟩ : ∃ sj, sh.getD j 0 = sj := ⟨_, rfl⟩
                  have HSJV := hide hsj
                  rw [hsj] at s0 HPJ HST1 p2 p3
                  obtain ⟨pj, hpj⟩ : ∃ pj, (sh.take j).sum = pj := ⟨_, rfl⟩
                  rw [hpj] at HST1 p0 p1 p2 p3
                  simp only [hpj]
                  have hsa := HSA.out
                  obtain ⟨av, hav⟩ : ∃ av, a' - pj = av := ⟨_, rfl⟩
                  have HAV := hide (show a' - (sh.take (j + 1)).sum = av - sj by rw [HST1.out]; omega)
                  have av0 : 0 ≤ av := by omega
                  have av1 : av ≤ 1073741824 := by omega
                  have hsj1 : sj ≤ av := by have h : (sh.take (j + 1)).sum ≤ sh.sum := (HPS.out (j + 1)).2; rw [HST1.out] at h; omega
                  have hsj0 : Hid (-1073741824 ≤ av - sj) := hide (by omega)
                  have hsjl : 0 ≤ sj := by
                    have h := HPN.out sj (by rw [← hsj]; exact getD_mem (by have := HSHL.out; omega))
                    exact h
                  simp only [hav]
                  have hpl : (putL out ((l.take k).take j) (sh.take j)).length = n := by have h := hoo.1; rw [ints_length] at h; omega
                  obtain ⟨z0, l0⟩ : ∃ u, wy.cell? ⟨g0, ij, none⟩ = some u := ⟨_, (hoo.cellAt ij (by omega)).trans (List.getElem?_eq_getElem (by rw [ints_length]; omega))⟩
                  have lf := hoo.frozenAt ij
                  obtain ⟨k1, g1⟩ := hoo.stored ij (.int .i64 sj)
                  rw [← ints_setO, ← HPJ.out] at k1
                  have HSH2 := hide (hsh.grown g1 (Nat.lt_succ_self _))
                  have HB2y := hide (hby.setCell (p := ⟨g0, ij, none⟩) (Nat.le_refl _) (.int .i64 sj))
                  have HK1y := hide k1
                  have hzy2 : g0 + 1 ≤ (wy.setCell ⟨g0, ij, none⟩ (.int .i64 sj)).heap.size := by rw [World.size_setCell]; exact hzy
                  have hsi : (s : Int) - (i : Int) = (j : Int) := by have := HSJ.out; omega
                  have hspi : (s : Int) < (p : Int) := by omega
                  have hjki : (j : Int) < (k : Int) := by omega
                  have hsmi : (s : Int) < (m : Int) := by omega
                  have hijni : (ij : Int) < (n : Int) := by omega
                  have hj0i : (0 : Int) ≤ (j : Int) := by omega
                  have hs0i : (0 : Int) ≤ (s : Int) := by omega
                  have hij0i : (0 : Int) ≤ (ij : Int) := by omega
                  clear hoo hsh hby k1 g1 hcs hpl hij hsj hpj hav p0 p1 p2 p3 hsa
                  go_wp2_with fail
                  go_region
                  have HSHv := hide (show SlF (wy.setCell ⟨g0, ij, none⟩ (.int .i64 sj)).drew (g0 + 1) (some ⟨bs, os', none⟩) k c12 sh from HSH2.out)
                  have HBv := hide (HB2y.out.drew)
                  have HKv := hide (show (wy.setCell ⟨g0, ij, none⟩ (.int .i64 sj)).drew.ownsRow g0 3 1 (.slice (some ⟨g0, 0, none⟩) n n) n (ints (putL out ((l.take k).take (j + 1)) (sh.take (j + 1)))) from HK1y.out)
                  have hzv : g0 + 1 ≤ (wy.setCell ⟨g0, ij, none⟩ (.int .i64 sj)).drew.heap.size := hzy2
                  clear HSH2 HB2y HK1y hzy2 s0 o0 l0 lf hbs2
                  generalize (wy.setCell ⟨g0, ij, none⟩ (.int .i64 sj)).drew = wv at *
                  obtain ⟨b7, o7, hA7, _, _, hcs⟩ := HSHv.out.2.2.2 (by omega)
                  injection hA7 with hA7
                  injection hA7 with eA1 eA2 _
                  subst eA1 eA2
                  have s0 := hcs j hjk
                  rw [HSJV.out] at s0
                  clear hcs
                  go_wp2
                  go_roundw
                  case rel => exact ⟨j + 1, s + 1, hide (by have := HSJ.out; omega), by omega, by go_num, by rw [HAV.out], HKv.out, HSHv.out, HBv.out, hzv⟩
                  case measure => simp [intOf]; omega
                · have hjk2 : j = k := by omega
                  rw [hjk2] at hoo
                  rw [List.take_of_length_le (show (l.take k).length ≤ k by rw [List.length_take]; omega), List.take_of_length_le (show sh.length ≤ k by have := HSHL.out; omega)] at hoo
                  have hsp : s = p := by have := HSJ.out; have := HP.out; omega
                  have HOF := hide hoo
                  have HBF := hide hby
                  have hspi : ¬ ((s : Int) < (p : Int)) := by omega
                  have HPL := hide (show (putL out (l.take k) sh).length = n by rw [putL_len]; exact hlo)
                  have HTA := hide (show (sh.take j).sum = sh.sum by rw [List.take_of_length_le (by have := HSHL.out; omega)])
                  have h9 := HPS.out k
                  have h10 := HSA.out
                  have h11 : sh.take k = sh := List.take_of_length_le (by have := HSHL.out; omega)
                  rw [h11] at h9
                  rw [HTA.out]
                  clear hoo hsh hby h11
                  obtain ⟨ss, hss⟩ : ∃ ss, sh.sum = ss := ⟨_, rfl⟩
                  rw [hss] at h9 h10 HRN
                  simp only [hss]
                  clear hss HTA
                  go_wp2
                  go_roundw
                  case rel => exact ⟨p, a' - ss, putL out (l.take k) sh, f, by omega, rfl, rfl, by omega, by have := HP.out; have := HK1o.out; omega, HPL.out, HRN, HOF.out, HBF.out, hzy⟩
                  case measure => simp [intOf]; have := HP.out; have := HK1o.out; omega
            · have HGV := hide (show grpV a' fl = fl by unfold grpV; rw [if_neg (by omega)])
              have hv := HFO.out
              rw [← HGV.out] at hv
              obtain ⟨A12, c12, rfl, hsl12⟩ := own_sl hv
              have hlo12 := fun b o s (h : A12 = some ⟨b, o, s⟩) => own_from hv h
              have HSH := hide (slF_of (lo := g0 + 1) hsl12 (fun b o s h => by have := hlo12 b o s h; omega))
              have hbz := HBK.out
              rename World => wz
              clear hv hsl12 hlo12 HGV
              -- the values are put
              have HOO := hide (ownsRow_below HOWO.out hbz)
              have HBZ := hide (bthr HBO.out hbz (by omega))
              have hzz : g0 + 1 ≤ wz.heap.size := Nat.le_trans hz hbz.size
              have HSHL := hide (show (grpV a' fl).length = k from HSH.out.1)
              have HPT := hide (fun (j : Nat) (h : j < k) => putL_take (g := l.take k) (sh := grpV a' fl) (out := out) (j := j) (by rw [List.length_take]; have := HQ.out; omega) (by have := HSHL.out; omega))
              have HTK := hide (fun (j : Nat) (h : j < k) => show (l.take k).getD j 0 = l.getD j 0 by simp [List.getD_eq_getElem?_getD, h])
              have HST := hide (fun (j : Nat) (h : j < k) => sum_takeS (sh := grpV a' fl) (j := j) (by have := HSHL.out; omega))
              have HPS := hide (fun (j : Nat) => part_sumA HG0x.out j)
              have HSA := hide (show (grpV a' fl).sum ≤ a' by rw [HGS.out]; omega)
              have HPN := hide HG0x.out
              clear hbz HFO HGS HG0x HFLB hfll HBK
              generalize grpV a' fl = sh at *
              go_wp2
              go_loopw [1, 16] (fun va v16 wy => ∃ j s : Nat, Hid (s = i + j) ∧ j ≤ k ∧ v16 = .int .i64 s ∧ va = .int .i64 (a' - (sh.take j).sum) ∧ wy.ownsRow g0 3 1 (.slice (some ⟨g0, 0, none⟩) n n) n (ints (putL out ((l.take k).take j) (sh.take j))) ∧ SlF wy (g0 + 1) A12 k c12 sh ∧ Below g0 w1 wy ∧ g0 + 1 ≤ wy.heap.size) (fun _ v16 _ => p - (intOf v16).toNat)
              case atStart => exact ⟨0, i, hide rfl, by omega, rfl, by simp, HOO.out, HSH.out, HBZ.out, hzz⟩
              case round =>
                obtain ⟨j, s, HSJ, hj, rfl, rfl, hoo, hsh, hby, hzy⟩ := hrel
                rename World => wy
                by_cases hjk : j < k
                · have hsp : s < p := by have := HSJ.out; have := HP.out; omega
                  obtain ⟨bs, os', rfl, hbs1, hbs2, hcs⟩ := hsh.2.2.2 (by omega)
                  have s0 := hcs j hjk
                  have o0 := HCO.out wy hby s (by omega)
                  obtain ⟨ij, hij, hijn⟩ := HLI.out j (by omega)
                  have HPJ := hide (HPT.out j hjk)
                  rw [HTK.out j hjk] at HPJ
                  rw [show os.getD s 0 = (ij : Int) by rw [HSJ.out, ← HLX.out j, hij]] at o0
                  rw [hij] at HPJ
                  rw [Int.toNat_natCast] at HPJ
                  have HST1 := hide (HST.out j hjk)
                  obtain ⟨p0, p1⟩ := HPS.out j
                  obtain ⟨p2, p3⟩ := HPS.out (j + 1)
                  rw [HST1.out] at p2 p3
                  obtain ⟨sj, hsj⟩ : ∃ sj, sh.getD j 0 = sj := ⟨_, rfl⟩
                  have HSJV := hide hsj
                  rw [hsj] at s0 HPJ HST1 p2 p3
                  obtain ⟨pj, hpj⟩ : ∃ pj, (sh.take j).sum = pj := ⟨_, rfl⟩
                  rw [hpj] at HST1 p0 p1 p2 p3
                  simp only [hpj]
                  have hsa := HSA.out
                  obtain ⟨av, hav⟩ : ∃ av, a' - pj = av := ⟨_, rfl⟩
                  have HAV := hide (show a' - (sh.take (j + 1)).sum = av - sj by rw [HST1.out]; omega)
                  have av0 : 0 ≤ av := by omega
                  have av1 : av ≤ 1073741824 := by omega
                  have hsj1 : sj ≤ av := by have h : (sh.take (j + 1)).sum ≤ sh.sum := (HPS.out (j + 1)).2; rw [HST1.out] at h; omega
                  have hsj0 : Hid (-1073741824 ≤ av - sj) := hide (by omega)
                  have hsjl : 0 ≤ sj := by
                    have h := HPN.out sj (by rw [← hsj]; exact getD_mem (by have := HSHL.out; omega))
                    exact h
                  simp only [hav]
                  have hpl : (putL out ((l.take k).take j) (sh.take j)).length = n := by have h := hoo.1; rw [ints_length] at h; omega
                  obtain ⟨z0, l0⟩ : ∃ u, wy.cell? ⟨g0, ij, none⟩ = some u := ⟨_, (hoo.cellAt ij (by omega)).trans (List.getElem?_eq_getElem (by rw [ints_length]; omega))⟩
                  have lf := hoo.frozenAt ij
                  obtain ⟨k1, g1⟩ := hoo.stored ij (.int .i64 sj)
                  rw [← ints_setO, ← HPJ.out] at k1
                  have HSH2 := hide (hsh.grown g1 (Nat.lt_succ_self _))
                  have HB2y := hide (hby.setCell (p := ⟨g0, ij, none⟩) (Nat.le_refl _) (.int .i64 sj))
                  have HK1y := hide k1
                  have hzy2 : g0 + 1 ≤ (wy.setCell ⟨g0, ij, none⟩ (.int .i64 sj)).heap.size := by rw [World.size_setCell]; exact hzy
                  have hsi : (s : Int) - (i : Int) = (j : Int) := by have := HSJ.out; omega
                  have hspi : (s : Int) < (p : Int) := by omega
                  have hjki : (j : Int) < (k : Int) := by omega
                  have hsmi : (s : Int) < (m : Int) := by omega
                  have hijni : (ij : Int) < (n : Int) := by omega
                  have hj0i : (0 : Int) ≤ (j : Int) := by omega
                  have hs0i : (0 : Int) ≤ (s : Int) := by omega
                  have hij0i : (0 : Int) ≤ (ij : Int) := by omega
                  clear hoo hsh hby k1 g1 hcs hpl hij hsj hpj hav p0 p1 p2 p3 hsa
                  go_wp2_with fail
                  go_region
                  have HSHv := hide (show SlF (wy.setCell ⟨g0, ij, none⟩ (.int .i64 sj)).drew (g0 + 1) (some ⟨bs, os', none⟩) k c12 sh from HSH2.out)
                  have HBv := hide (HB2y.out.drew)
                  have HKv := hide (show (wy.setCell ⟨g0, ij, none⟩ (.int .i64 sj)).drew.ownsRow g0 3 1 (.slice (some ⟨g0, 0, none⟩) n n) n (ints (putL out ((l.take k).take (j + 1)) (sh.take (j + 1)))) from HK1y.out)
                  have hzv : g0 + 1 ≤ (wy.setCell ⟨g0, ij, none⟩ (.int .i64 sj)).drew.heap.size := hzy2
                  clear HSH2 HB2y HK1y hzy2 s0 o0 l0 lf hbs2
                  generalize (wy.setCell ⟨g0, ij, none⟩ (.int .i64 sj)).drew = wv at *
                  obtain ⟨b7, o7, hA7, _, _, hcs⟩ := HSHv.out.2.2.2 (by omega)
                  injection hA7 with hA7
                  injection hA7 with eA1 eA2 _
                  subst eA1 eA2
                  have s0 := hcs j hjk
                  rw [HSJV.out] at s0
                  clear hcs
                  go_wp2
                  go_roundw
                  case rel => exact ⟨j + 1, s + 1, hide (by have := HSJ.out; omega), by omega, by go_num, by rw [HAV.out], HKv.out, HSHv.out, HBv.out, hzv⟩
                  case measure => simp [intOf]; omega
                · have hjk2 : j = k := by omega
                  rw [hjk2] at hoo
                  rw [List.take_of_length_le (show (l.take k).length ≤ k by rw [List.length_take]; omega), List.take_of_length_le (show sh.length ≤ k by have := HSHL.out; omega)] at hoo
                  have hsp : s = p := by have := HSJ.out; have := HP.out; omega
                  have HOF := hide hoo
                  have HBF := hide hby
                  have hspi : ¬ ((s : Int) < (p : Int)) := by omega
                  have HPL := hide (show (putL out (l.take k) sh).length = n by rw [putL_len]; exact hlo)
                  have HTA := hide (show (sh.take j).sum = sh.sum by rw [List.take_of_length_le (by have := HSHL.out; omega)])
                  have h9 := HPS.out k
                  have h10 := HSA.out
                  have h11 : sh.take k = sh := List.take_of_length_le (by have := HSHL.out; omega)
                  rw [h11] at h9
                  rw [HTA.out]
                  clear hoo hsh hby h11
                  obtain ⟨ss, hss⟩ : ∃ ss, sh.sum = ss := ⟨_, rfl⟩
                  rw [hss] at h9 h10 HRN
                  simp only [hss]
                  clear hss HTA
                  go_wp2
                  go_roundw
                  case rel => exact ⟨p, a' - ss, putL out (l.take k) sh, f, by omega, rfl, rfl, by omega, by have := HP.out; have := HK1o.out; omega, HPL.out, HRN, HOF.out, HBF.out, hzy⟩
                  case measure => simp [intOf]; have := HP.out; have := HK1o.out; omega
        · -- the list ends the run
          have hkK : k = K := by omega
          subst hkK
          have hpmi : ¬ ((p : Int) < (m : Int)) := by have := HP.out; have := HQM.out; omega
          have hpmd : decide ((p : Int) < (m : Int)) = false := decide_eq_false hpmi
          have hpmn : decide (p < m) = false := decide_eq_false (by omega)
          obtain ⟨sk, hsk⟩ : ∃ sk, ((l.take k).map (flowR rs)).sum = sk := ⟨_, rfl⟩
          simp only [hsk]
          have HRN0 := hide (HRR.out.symm.trans HR)
          have HFLB := hide (show ∀ y ∈ (l.take k).map (flowR rs), 0 ≤ y ∧ y ≤ 10000 from fun y hy => by
            obtain ⟨z, _, rfl⟩ := List.mem_map.1 hy
            exact HF.out z)
          have hfll : ((l.take k).map (flowR rs)).length = k := by rw [List.length_map, List.length_take]; have := HQ.out; omega
          obtain ⟨hs0, hs1⟩ := HSB.out k (by omega)
          have HFO0 := hide hfl
          have HBK0 := hide hbk
          clear hfl hbk
          go_wp2_with fail
          go_quiet (fail)
          generalize hwz : World.drewN _ _ = wx0
          have HFO := hide (show wx0.ownsRow wr.heap.size 3 1 _ k (ints ((l.take k).map (flowR rs))) by rw [← hwz]; exact HFO0.out)
          have HBK := hide (show Below wr.heap.size wr wx0 by rw [← hwz]; exact below_drewN HBK0.out _)
          clear hwz HFO0 HBK0
          rename World => wx
          generalize hfld : (l.take k).map (flowR rs) = fl at *
          obtain ⟨S, hS⟩ : ∃ S, fl.sum = S := ⟨_, rfl⟩
          have hsS : S = sk := by rw [← hsk, hS]
          subst hsS
          rw [hS] at hs0 hs1 HRN0
          try simp only [hS]
          have hSS : 0 ≤ S := hs0
          have hk1 := HK1.out
          have HK1o := hide hk1
          have hk12 : k ≤ 200 := by have := HQM.out; omega
          have hgs := grpV_sumA ha'.1 HFLB.out
          have HGS := hide (show (grpV a' fl).sum = min S a' by rw [← hS]; exact hgs.1)
          have HG0x := hide hgs.2
          have HRN := hide (show allotL rs f (os.drop p) (a' - (grpV a' fl).sum) (putL out (l.take k) (grpV a' fl)) = allotR rs day a by rw [HGS.out]; have h := HRN0.out; rwa [show l.drop k = os.drop p by rw [← HLD.out, List.drop_drop, ← HP.out]] at h)
          clear hfld HFL HSB HKA HKE HKL HK1 HRR HRN0 hgs
          by_cases hna : a' < S
          · have HGV := hide (show grpV a' fl = shV a' fl by unfold grpV; rw [if_pos (by omega)])
            obtain ⟨A1, c1, rfl, hsf⟩ := own_sl HFO.out
            have HSE := hide (rshare_full a' fl A1 k c1 wx (by omega) hsf)
            have HSV := hide (show shFV a' fl = shV a' fl by unfold shFV; rw [if_neg (by rw [wit_of ha'.1 (by omega)]; rw [show (fl.any fun v => !wit v 10000) = false by rw [List.any_eq_false]; intro x hx; rw [wit_of (HFLB.out x hx).1 (HFLB.out x hx).2]; simp]; simp)])
            have hgl := grpV_len ha'.1 HFLB.out
            have HGL := hide (show (grpV a' fl).length = k by rw [hgl]; exact hfll)
            clear hsf hgl
            go_wp2_with fail
            refine HSE.out.mono ?_
            rintro e wz ⟨v, rfl, hv, hb5⟩
            rw [HSV.out, ← HGV.out, HGL.out] at hv
            obtain ⟨A12, c12, rfl, hsl12⟩ := own_sl hv
            have hlo12 := fun b o s (h : A12 = some ⟨b, o, s⟩) => own_from hv h
            have HSH := hide (slF_of (lo := g0 + 1) hsl12 (fun b o s h => by have := hlo12 b o s h; have := HBK.out.size; omega))
            have hbz := bthr HBK.out hb5 HBK.out.size
            clear hv hsl12 hlo12 hb5 HSE HGV HGL HSV
            -- the values are put
            have HOO := hide (ownsRow_below HOWO.out hbz)
            have HBZ := hide (bthr HBO.out hbz (by omega))
            have hzz : g0 + 1 ≤ wz.heap.size := Nat.le_trans hz hbz.size
            have HSHL := hide (show (grpV a' fl).length = k from HSH.out.1)
            have HPT := hide (fun (j : Nat) (h : j < k) => putL_take (g := l.take k) (sh := grpV a' fl) (out := out) (j := j) (by rw [List.length_take]; have := HQ.out; omega) (by have := HSHL.out; omega))
            have HTK := hide (fun (j : Nat) (h : j < k) => show (l.take k).getD j 0 = l.getD j 0 by simp [List.getD_eq_getElem?_getD, h])
            have HST := hide (fun (j : Nat) (h : j < k) => sum_takeS (sh := grpV a' fl) (j := j) (by have := HSHL.out; omega))
            have HPS := hide (fun (j : Nat) => part_sumA HG0x.out j)
            have HSA := hide (show (grpV a' fl).sum ≤ a' by rw [HGS.out]; omega)
            have HPN := hide HG0x.out
            clear hbz HFO HGS HG0x HFLB hfll HBK
            generalize grpV a' fl = sh at *
            go_wp2
            go_loopw [1, 16] (fun va v16 wy => ∃ j s : Nat, Hid (s = i + j) ∧ j ≤ k ∧ v16 = .int .i64 s ∧ va = .int .i64 (a' - (sh.take j).sum) ∧ wy.ownsRow g0 3 1 (.slice (some ⟨g0, 0, none⟩) n n) n (ints (putL out ((l.take k).take j) (sh.take j))) ∧ SlF wy (g0 + 1) A12 k c12 sh ∧ Below g0 w1 wy ∧ g0 + 1 ≤ wy.heap.size) (fun _ v16 _ => p - (intOf v16).toNat)
            case atStart => exact ⟨0, i, hide rfl, by omega, rfl, by simp, HOO.out, HSH.out, HBZ.out, hzz⟩
            case round =>
              obtain ⟨j, s, HSJ, hj, rfl, rfl, hoo, hsh, hby, hzy⟩ := hrel
              rename World => wy
              by_cases hjk : j < k
              · have hsp : s < p := by have := HSJ.out; have := HP.out; omega
                obtain ⟨bs, os', rfl, hbs1, hbs2, hcs⟩ := hsh.2.2.2 (by omega)
                have s0 := hcs j hjk
                have o0 := HCO.out wy hby s (by omega)
                obtain ⟨ij, hij, hijn⟩ := HLI.out j (by omega)
                have HPJ := hide (HPT.out j hjk)
                rw [HTK.out j hjk] at HPJ
                rw [show os.getD s 0 = (ij : Int) by rw [HSJ.out, ← HLX.out j, hij]] at o0
                rw [hij] at HPJ
                rw [Int.toNat_natCast] at HPJ
                have HST1 := hide (HST.out j hjk)
                obtain ⟨p0, p1⟩ := HPS.out j
                obtain ⟨p2, p3⟩ := HPS.out (j + 1)
                rw [HST1.out] at p2 p3
                obtain ⟨sj, hsj⟩ : ∃ sj, sh.getD j 0 = sj := ⟨_, rfl⟩
                have HSJV := hide hsj
                rw [hsj] at s0 HPJ HST1 p2 p3
                obtain ⟨pj, hpj⟩ : ∃ pj, (sh.take j).sum = pj := ⟨_, rfl⟩
                rw [hpj] at HST1 p0 p1 p2 p3
                simp only [hpj]
                have hsa := HSA.out
                obtain ⟨av, hav⟩ : ∃ av, a' - pj = av := ⟨_, rfl⟩
                have HAV := hide (show a' - (sh.take (j + 1)).sum = av - sj by rw [HST1.out]; omega)
                have av0 : 0 ≤ av := by omega
                have av1 : av ≤ 1073741824 := by omega
                have hsj1 : sj ≤ av := by have h : (sh.take (j + 1)).sum ≤ sh.sum := (HPS.out (j + 1)).2; rw [HST1.out] at h; omega
                have hsj0 : Hid (-1073741824 ≤ av - sj) := hide (by omega)
                have hsjl : 0 ≤ sj := by
                  have h := HPN.out sj (by rw [← hsj]; exact getD_mem (by have := HSHL.out; omega))
                  exact h
                simp only [hav]
                have hpl : (putL out ((l.take k).take j) (sh.take j)).length = n := by have h := hoo.1; rw [ints_length] at h; omega
                obtain ⟨z0, l0⟩ : ∃ u, wy.cell? ⟨g0, ij, none⟩ = some u := ⟨_, (hoo.cellAt ij (by omega)).trans (List.getElem?_eq_getElem (by rw [ints_length]; omega))⟩
                have lf := hoo.frozenAt ij
                obtain ⟨k1, g1⟩ := hoo.stored ij (.int .i64 sj)
                rw [← ints_setO, ← HPJ.out] at k1
                have HSH2 := hide (hsh.grown g1 (Nat.lt_succ_self _))
                have HB2y := hide (hby.setCell (p := ⟨g0, ij, none⟩) (Nat.le_refl _) (.int .i64 sj))
                have HK1y := hide k1
                have hzy2 : g0 + 1 ≤ (wy.setCell ⟨g0, ij, none⟩ (.int .i64 sj)).heap.size := by rw [World.size_setCell]; exact hzy
                have hsi : (s : Int) - (i : Int) = (j : Int) := by have := HSJ.out; omega
                have hspi : (s : Int) < (p : Int) := by omega
                have hjki : (j : Int) < (k : Int) := by omega
                have hsmi : (s : Int) < (m : Int) := by omega
                have hijni : (ij : Int) < (n : Int) := by omega
                have hj0i : (0 : Int) ≤ (j : Int) := by omega
                have hs0i : (0 : Int) ≤ (s : Int) := by omega
                have hij0i : (0 : Int) ≤ (ij : Int) := by omega
                clear hoo hsh hby k1 g1 hcs hpl hij hsj hpj hav p0 p1 p2 p3 hsa
                go_wp2_with fail
                go_region
                have HSHv := hide (show SlF (wy.setCell ⟨g0, ij, none⟩ (.int .i64 sj)).drew (g0 + 1) (some ⟨bs, os', none⟩) k c12 sh from HSH2.out)
                have HBv := hide (HB2y.out.drew)
                have HKv := hide (show (wy.setCell ⟨g0, ij, none⟩ (.int .i64 sj)).drew.ownsRow g0 3 1 (.slice (some ⟨g0, 0, none⟩) n n) n (ints (putL out ((l.take k).take (j + 1)) (sh.take (j + 1)))) from HK1y.out)
                have hzv : g0 + 1 ≤ (wy.setCell ⟨g0, ij, none⟩ (.int .i64 sj)).drew.heap.size := hzy2
                clear HSH2 HB2y HK1y hzy2 s0 o0 l0 lf hbs2
                generalize (wy.setCell ⟨g0, ij, none⟩ (.int .i64 sj)).drew = wv at *
                obtain ⟨b7, o7, hA7, _, _, hcs⟩ := HSHv.out.2.2.2 (by omega)
                injection hA7 with hA7
                injection hA7 with eA1 eA2 _
                subst eA1 eA2
                have s0 := hcs j hjk
                rw [HSJV.out] at s0
                clear hcs
                go_wp2
                go_roundw
                case rel => exact ⟨j + 1, s + 1, hide (by have := HSJ.out; omega), by omega, by go_num, by rw [HAV.out], HKv.out, HSHv.out, HBv.out, hzv⟩
                case measure => simp [intOf]; omega
              · have hjk2 : j = k := by omega
                rw [hjk2] at hoo
                rw [List.take_of_length_le (show (l.take k).length ≤ k by rw [List.length_take]; omega), List.take_of_length_le (show sh.length ≤ k by have := HSHL.out; omega)] at hoo
                have hsp : s = p := by have := HSJ.out; have := HP.out; omega
                have HOF := hide hoo
                have HBF := hide hby
                have hspi : ¬ ((s : Int) < (p : Int)) := by omega
                have HPL := hide (show (putL out (l.take k) sh).length = n by rw [putL_len]; exact hlo)
                have HTA := hide (show (sh.take j).sum = sh.sum by rw [List.take_of_length_le (by have := HSHL.out; omega)])
                have h9 := HPS.out k
                have h10 := HSA.out
                have h11 : sh.take k = sh := List.take_of_length_le (by have := HSHL.out; omega)
                rw [h11] at h9
                rw [HTA.out]
                clear hoo hsh hby h11
                obtain ⟨ss, hss⟩ : ∃ ss, sh.sum = ss := ⟨_, rfl⟩
                rw [hss] at h9 h10 HRN
                simp only [hss]
                clear hss HTA
                go_wp2
                go_roundw
                case rel => exact ⟨p, a' - ss, putL out (l.take k) sh, f, by omega, rfl, rfl, by omega, by have := HP.out; have := HK1o.out; omega, HPL.out, HRN, HOF.out, HBF.out, hzy⟩
                case measure => simp [intOf]; have := HP.out; have := HK1o.out; omega
          · have HGV := hide (show grpV a' fl = fl by unfold grpV; rw [if_neg (by omega)])
            have hv := HFO.out
            rw [← HGV.out] at hv
            obtain ⟨A12, c12, rfl, hsl12⟩ := own_sl hv
            have hlo12 := fun b o s (h : A12 = some ⟨b, o, s⟩) => own_from hv h
            have HSH := hide (slF_of (lo := g0 + 1) hsl12 (fun b o s h => by have := hlo12 b o s h; omega))
            have hbz := HBK.out
            rename World => wz
            clear hv hsl12 hlo12 HGV
            -- the values are put
            have HOO := hide (ownsRow_below HOWO.out hbz)
            have HBZ := hide (bthr HBO.out hbz (by omega))
            have hzz : g0 + 1 ≤ wz.heap.size := Nat.le_trans hz hbz.size
            have HSHL := hide (show (grpV a' fl).length = k from HSH.out.1)
            have HPT := hide (fun (j : Nat) (h : j < k) => putL_take (g := l.take k) (sh := grpV a' fl) (out := out) (j := j) (by rw [List.length_take]; have := HQ.out; omega) (by have := HSHL.out; omega))
            have HTK := hide (fun (j : Nat) (h : j < k) => show (l.take k).getD j 0 = l.getD j 0 by simp [List.getD_eq_getElem?_getD, h])
            have HST := hide (fun (j : Nat) (h : j < k) => sum_takeS (sh := grpV a' fl) (j := j) (by have := HSHL.out; omega))
            have HPS := hide (fun (j : Nat) => part_sumA HG0x.out j)
            have HSA := hide (show (grpV a' fl).sum ≤ a' by rw [HGS.out]; omega)
            have HPN := hide HG0x.out
            clear hbz HFO HGS HG0x HFLB hfll HBK
            generalize grpV a' fl = sh at *
            go_wp2
            go_loopw [1, 16] (fun va v16 wy => ∃ j s : Nat, Hid (s = i + j) ∧ j ≤ k ∧ v16 = .int .i64 s ∧ va = .int .i64 (a' - (sh.take j).sum) ∧ wy.ownsRow g0 3 1 (.slice (some ⟨g0, 0, none⟩) n n) n (ints (putL out ((l.take k).take j) (sh.take j))) ∧ SlF wy (g0 + 1) A12 k c12 sh ∧ Below g0 w1 wy ∧ g0 + 1 ≤ wy.heap.size) (fun _ v16 _ => p - (intOf v16).toNat)
            case atStart => exact ⟨0, i, hide rfl, by omega, rfl, by simp, HOO.out, HSH.out, HBZ.out, hzz⟩
            case round =>
              obtain ⟨j, s, HSJ, hj, rfl, rfl, hoo, hsh, hby, hzy⟩ := hrel
              rename World => wy
              by_cases hjk : j < k
              · have hsp : s < p := by have := HSJ.out; have := HP.out; omega
                obtain ⟨bs, os', rfl, hbs1, hbs2, hcs⟩ := hsh.2.2.2 (by omega)
                have s0 := hcs j hjk
                have o0 := HCO.out wy hby s (by omega)
                obtain ⟨ij, hij, hijn⟩ := HLI.out j (by omega)
                have HPJ := hide (HPT.out j hjk)
                rw [HTK.out j hjk] at HPJ
                rw [show os.getD s 0 = (ij : Int) by rw [HSJ.out, ← HLX.out j, hij]] at o0
                rw [hij] at HPJ
                rw [Int.toNat_natCast] at HPJ
                have HST1 := hide (HST.out j hjk)
                obtain ⟨p0, p1⟩ := HPS.out j
                obtain ⟨p2, p3⟩ := HPS.out (j + 1)
                rw [HST1.out] at p2 p3
                obtain ⟨sj, hsj⟩ : ∃ sj, sh.getD j 0 = sj := ⟨_, rfl⟩
                have HSJV := hide hsj
                rw [hsj] at s0 HPJ HST1 p2 p3
                obtain ⟨pj, hpj⟩ : ∃ pj, (sh.take j).sum = pj := ⟨_, rfl⟩
                rw [hpj] at HST1 p0 p1 p2 p3
                simp only [hpj]
                have hsa := HSA.out
                obtain ⟨av, hav⟩ : ∃ av, a' - pj = av := ⟨_, rfl⟩
                have HAV := hide (show a' - (sh.take (j + 1)).sum = av - sj by rw [HST1.out]; omega)
                have av0 : 0 ≤ av := by omega
                have av1 : av ≤ 1073741824 := by omega
                have hsj1 : sj ≤ av := by have h : (sh.take (j + 1)).sum ≤ sh.sum := (HPS.out (j + 1)).2; rw [HST1.out] at h; omega
                have hsj0 : Hid (-1073741824 ≤ av - sj) := hide (by omega)
                have hsjl : 0 ≤ sj := by
                  have h := HPN.out sj (by rw [← hsj]; exact getD_mem (by have := HSHL.out; omega))
                  exact h
                simp only [hav]
                have hpl : (putL out ((l.take k).take j) (sh.take j)).length = n := by have h := hoo.1; rw [ints_length] at h; omega
                obtain ⟨z0, l0⟩ : ∃ u, wy.cell? ⟨g0, ij, none⟩ = some u := ⟨_, (hoo.cellAt ij (by omega)).trans (List.getElem?_eq_getElem (by rw [ints_length]; omega))⟩
                have lf := hoo.frozenAt ij
                obtain ⟨k1, g1⟩ := hoo.stored ij (.int .i64 sj)
                rw [← ints_setO, ← HPJ.out] at k1
                have HSH2 := hide (hsh.grown g1 (Nat.lt_succ_self _))
                have HB2y := hide (hby.setCell (p := ⟨g0, ij, none⟩) (Nat.le_refl _) (.int .i64 sj))
                have HK1y := hide k1
                have hzy2 : g0 + 1 ≤ (wy.setCell ⟨g0, ij, none⟩ (.int .i64 sj)).heap.size := by rw [World.size_setCell]; exact hzy
                have hsi : (s : Int) - (i : Int) = (j : Int) := by have := HSJ.out; omega
                have hspi : (s : Int) < (p : Int) := by omega
                have hjki : (j : Int) < (k : Int) := by omega
                have hsmi : (s : Int) < (m : Int) := by omega
                have hijni : (ij : Int) < (n : Int) := by omega
                have hj0i : (0 : Int) ≤ (j : Int) := by omega
                have hs0i : (0 : Int) ≤ (s : Int) := by omega
                have hij0i : (0 : Int) ≤ (ij : Int) := by omega
                clear hoo hsh hby k1 g1 hcs hpl hij hsj hpj hav p0 p1 p2 p3 hsa
                go_wp2_with fail
                go_region
                have HSHv := hide (show SlF (wy.setCell ⟨g0, ij, none⟩ (.int .i64 sj)).drew (g0 + 1) (some ⟨bs, os', none⟩) k c12 sh from HSH2.out)
                have HBv := hide (HB2y.out.drew)
                have HKv := hide (show (wy.setCell ⟨g0, ij, none⟩ (.int .i64 sj)).drew.ownsRow g0 3 1 (.slice (some ⟨g0, 0, none⟩) n n) n (ints (putL out ((l.take k).take (j + 1)) (sh.take (j + 1)))) from HK1y.out)
                have hzv : g0 + 1 ≤ (wy.setCell ⟨g0, ij, none⟩ (.int .i64 sj)).drew.heap.size := hzy2
                clear HSH2 HB2y HK1y hzy2 s0 o0 l0 lf hbs2
                generalize (wy.setCell ⟨g0, ij, none⟩ (.int .i64 sj)).drew = wv at *
                obtain ⟨b7, o7, hA7, _, _, hcs⟩ := HSHv.out.2.2.2 (by omega)
                injection hA7 with hA7
                injection hA7 with eA1 eA2 _
                subst eA1 eA2
                have s0 := hcs j hjk
                rw [HSJV.out] at s0
                clear hcs
                go_wp2
                go_roundw
                case rel => exact ⟨j + 1, s + 1, hide (by have := HSJ.out; omega), by omega, by go_num, by rw [HAV.out], HKv.out, HSHv.out, HBv.out, hzv⟩
                case measure => simp [intOf]; omega
              · have hjk2 : j = k := by omega
                rw [hjk2] at hoo
                rw [List.take_of_length_le (show (l.take k).length ≤ k by rw [List.length_take]; omega), List.take_of_length_le (show sh.length ≤ k by have := HSHL.out; omega)] at hoo
                have hsp : s = p := by have := HSJ.out; have := HP.out; omega
                have HOF := hide hoo
                have HBF := hide hby
                have hspi : ¬ ((s : Int) < (p : Int)) := by omega
                have HPL := hide (show (putL out (l.take k) sh).length = n by rw [putL_len]; exact hlo)
                have HTA := hide (show (sh.take j).sum = sh.sum by rw [List.take_of_length_le (by have := HSHL.out; omega)])
                have h9 := HPS.out k
                have h10 := HSA.out
                have h11 : sh.take k = sh := List.take_of_length_le (by have := HSHL.out; omega)
                rw [h11] at h9
                rw [HTA.out]
                clear hoo hsh hby h11
                obtain ⟨ss, hss⟩ : ∃ ss, sh.sum = ss := ⟨_, rfl⟩
                rw [hss] at h9 h10 HRN
                simp only [hss]
                clear hss HTA
                go_wp2
                go_roundw
                case rel => exact ⟨p, a' - ss, putL out (l.take k) sh, f, by omega, rfl, rfl, by omega, by have := HP.out; have := HK1o.out; omega, HPL.out, HRN, HOF.out, HBF.out, hzy⟩
                case measure => simp [intOf]; have := HP.out; have := HK1o.out; omega
    · have hie : i = m := by omega
      subst hie
      have hnil : os.drop i = [] := by rw [List.drop_eq_nil_iff]; have := HM.out; omega
      have hR := HR.out
      rw [hnil] at hR
      have HX := hide (allotL_nil.symm.trans hR)
      have HOF := hide (ownsRow_base how HGB.out)
      have HBF := hide (HBT.out _ hb)
      have hii : ¬ ((i : Int) < (i : Int)) := by omega
      clear how hb HR hR hnil
      go_wp2
      go_ret2
      exact ⟨_, rfl, by rw [← HX.out]; exact HOF.out, HBF.out⟩
end Go.Proofs.Ytfcmgmcidngjeaa
