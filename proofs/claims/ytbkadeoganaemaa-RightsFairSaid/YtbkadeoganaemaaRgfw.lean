/-
  The walk of RightsFair: it answers true. Condition: its list can be read.
-/
import Derived.Test.YtbkadeoganaemaaProg
import Derived.Test.YtbkadeoganaemaaRgj
namespace Go.Proofs.Ytbkadeoganaemaa
open Go.RowKit

/-- a part of a slice of rights: one of them -/
theorem sl_one {w : World} {B n c br or_ : Nat} {rs : List Rt} (hs : Sl w B 4 (some ⟨br, or_, none⟩) n c (rtCells rs)) {i : Nat} (hi : i < n) : Sl w B 4 (some ⟨br, or_ + i * 4, none⟩) 1 (c - i) (rtCells [getR rs (i : Int)]) := by
  have hl := rlen hs
  have h1 := hs.2.1
  have h2 := hs.2.2.1
  obtain ⟨b, o, hA, hb, hc⟩ := hs.at_ hi
  injection hA with hA
  injection hA with e1 e2 _
  subst e1 e2
  have hi2 : i < rs.length := by omega
  have hg : getR rs (i : Int) = rs[i] := by unfold getR; simp [List.getD_eq_getElem?_getD, hi2]
  rw [hg]
  rcases er : rs[i]'hi2 with ⟨d, q, f, t⟩
  obtain ⟨c0, c1, c2, c3⟩ := rt_cells hc hi2 er
  refine ⟨rfl, by omega, by omega, fun _ => ⟨br, or_ + i * 4, rfl, hb, fun j u hu => ?_⟩⟩
  have hj : j < 4 := by have := (List.getElem?_eq_some_iff.1 hu).1; simpa [rtCells, Rt.arr] using this
  match j, hj with
  | 0, _ => simp [rtCells, Rt.arr] at hu; rw [← hu]; exact c0
  | 1, _ => simp [rtCells, Rt.arr] at hu; rw [← hu]; exact c1
  | 2, _ => simp [rtCells, Rt.arr] at hu; rw [← hu]; exact c2
  | 3, _ => simp [rtCells, Rt.arr] at hu; rw [← hu]; exact c3
theorem one_ck {rs : List Rt} (h : ckR rs = 0) {i : Nat} (hi : i < rs.length) : ckR [getR rs (i : Int)] = 0 := by
  have hg : getR rs (i : Int) = rs[i] := by unfold getR; simp [List.getD_eq_getElem?_getD, hi]
  unfold ckR at *
  by_cases h2 : 200 < rs.length
  · rw [if_pos h2] at h; omega
  · rw [if_neg h2] at h
    rw [if_neg (by simp), rtsErr_zero]
    intro r hr
    rw [List.mem_singleton, hg] at hr
    subst hr
    exact (rtsErr_zero rs).1 h _ (List.getElem_mem hi)
theorem one_tot (rs : List Rt) (day : Int) (i : Nat) : totT [getR rs (i : Int)] day = inV rs day i := by
  unfold totT inV flowR
  cases h : onT day (getR rs (i : Int))
  · simp [h]
  · simp [h]; rfl
set_option maxHeartbeats 1600000 in
set_option maxRecDepth 20000 in
theorem rfair_walk {A : Option Addr} {n c : Nat} {zs : List Int} {w : World} (hs : Sl w w.heap.size 1 A n c (ints zs)) (av dy : Int) : Calls Try.prog 6 #[.slice A n c, .int .i64 av, .int .i64 dy] w fun e w' => e = .returned (.bool true) ∧ Below w.heap.size w w' := by
  go_enter Try.func6, Try.ntmps6
  go_wp2_with fail
  refine (new_any _ _ _ _ _ hs).mono ?_
  rintro e w1 ⟨rfl, hD1, hb1⟩
  have HB1 := hide hb1
  clear hs hb1
  go_wp2_with fail
  refine (rights_any _ _ hD1).mono ?_
  rintro e w2 ⟨Ar, cr, rs, rfl, hl6, hgd, hor, _, hg2⟩
  obtain ⟨m, hm⟩ : ∃ m, rs.length = m := ⟨_, rfl⟩
  rw [hm] at hor hl6
  have hck := good_ck hgd (by omega)
  have hsr := sl_ownv hor
  have HB2 := hide (below_grown HB1.out hg2 HB1.out.size (Nat.le_refl _))
  have HM := hide hm
  try simp only [hm]
  clear hD1 hg2 HB1 hgd hor
  obtain ⟨a, ha⟩ : ∃ a, av % 60 = a := ⟨_, rfl⟩
  obtain ⟨d, hd⟩ : ∃ d, dy % 365 = d := ⟨_, rfl⟩
  have ha0 : 0 ≤ a ∧ a < 60 := by omega
  have hd0 : 0 ≤ d ∧ d < 365 := by omega
  have HA := hide ha
  have HD := hide hd
  clear ha hd
  go_wp2_with (go_at_call 11; refine (mod_any _ _ (by omega) (by omega) _).mono ?_; rintro e w' ⟨rfl, rfl⟩; first | rw [HA.out] | rw [HD.out])
  have hwd : wit d 364 = true := wit_of (by omega) (by omega)
  have h12 : (actF rs d rs.length).length ≤ 12 := by have := actF_len rs d rs.length; have := HM.out; omega
  have HAL := hide (Allot_any Ar m cr rs d a w2 hsr hck hwd ⟨ha0.1, by omega⟩ h12)
  have HNE := hide (fun (W : World) (hW : Below w2.heap.size w2 W) => Needs_any Ar m cr rs d W (hsr.thr hW) hck hwd h12)
  have HN1 := hide (fun (br or_ : Nat) (i : Nat) (hi : i < m) (W : World) (hW : Sl W W.heap.size 4 (some ⟨br, or_, none⟩) m cr (rtCells rs)) => Needs_any _ 1 (cr - i) [getR rs (i : Int)] d W (sl_one hW hi) (one_ck hck (by omega)) hwd (by have := actF_len [getR rs (i : Int)] d 1; simp only [List.length_singleton]; omega))
  have HLN := hide (alloc_len (day := d) (flowR_in hck) ha0.1)
  have HSUM := hide (alloc_sum (day := d) (flowR_in hck) ha0.1)
  have HIN := hide (fun (i : Nat) (hi : i < m) => got_in (day := d) hck ha0.1 (i := i) (by omega))
  have HFI := hide (fun (i k : Nat) (hi : i < m) (hk : k < m) => got_first (day := d) hck ha0.1 (i := i) (k := k) (by omega) (by omega))
  have HIV := hide (show ∀ i, 0 ≤ inV rs d i ∧ inV rs d i ≤ flowR rs i ∧ flowR rs i ≤ 10000 from fun i => by
    unfold inV
    have := flowR_in hck (i : Int)
    split <;> omega)
  have htot := sumFl_bnd hck (os := actR rs d) (m := 12) (by rw [actR_len]; exact h12)
  rw [tot_eq] at htot
  have HS := hide hsr
  rw [tot_eq] at HNE
  generalize totT rs d = tot at *
  clear hck h12 hsr hwd
  go_wp2_with fail
  refine HAL.out.mono ?_
  rintro e w3 ⟨v, rfl, hv, hb3⟩
  obtain ⟨Ag, cg, rfl, hsg⟩ := own_sl hv
  have HSG := hide hsg
  have HB3 := hide hb3
  clear hb3 HAL hv hsg
  go_wp2_with fail
  refine (HNE.out w3 HB3.out).mono ?_
  rintro e w4 ⟨rfl, hb4⟩
  have HB4 := hide (bthr HB3.out hb4 HB3.out.size)
  have HSG4 := hide (HSG.out.thr hb4)
  have HS4 := hide (HS.out.thr HB4.out)
  have hmm : ((m : Int) != (m : Int)) = false := by simp
  generalize hgot : allotR rs d a = got at *
  have HGB := hide (show ∀ x ∈ got, 0 ≤ x ∧ x ≤ 10000 from fun x hx => by
    obtain ⟨j, hj, rfl⟩ := List.getElem_of_mem hx
    have h1 := HIN.out j (by have := HLN.out; have := HM.out; omega)
    have h2 := HIV.out j
    rw [List.getD_eq_getElem?_getD, List.getElem?_eq_getElem hj, Option.getD_some] at h1
    omega)
  clear hb4 HNE HSG hgot
  go_wp2_with fail
  go_loopw [14, 54] (fun vs vi wr => ∃ i : Nat, i ≤ m ∧ vi = .int .i64 i ∧ vs = .int .i64 (got.take i).sum ∧ Below w4.heap.size w4 wr) (fun _ vi _ => m - (intOf vi).toNat)
  case atStart => exact ⟨0, by omega, rfl, rfl, Below.refl _ _⟩
  case round =>
    obtain ⟨i, hi, rfl, rfl, hb⟩ := hrel
    by_cases hlt : i < m
    · have hM := HM.out
      have hLN := HLN.out
      have HSU := hide (sum_snoc got i (by omega))
      obtain ⟨bg, og, rfl, _, hcg⟩ := (HSG4.out.thr hb).at_ hlt
      have g0 := hcg i _ (ints_get got i (by omega))
      obtain ⟨br, or_, rfl, _, _⟩ := HS4.out.at_ hlt
      obtain ⟨r0, r1⟩ := rt_at (HS4.out.thr hb) hlt
      have HN1i := hide (fun (W : World) (hW : Below w4.heap.size w4 W) => by have h := HN1.out br or_ i hlt W (HS4.out.thr hW); rw [tot_eq, one_tot] at h; exact h)
      obtain ⟨gi0, gi1⟩ := HIN.out i hlt
      obtain ⟨iv0, iv1, iv2⟩ := HIV.out i
      have HFIi := hide (fun (k : Nat) (hk : k < m) => HFI.out i k hlt hk)
      have hsb : 0 ≤ (got.take i).sum ∧ (got.take i).sum ≤ 60000 := by
        have := sum_takeM (M := 10000) (by omega) HGB.out i
        omega
      obtain ⟨sk, hsk⟩ : ∃ sk, (got.take i).sum = sk := ⟨_, rfl⟩
      rw [hsk] at hsb HSU
      simp only [hsk]
      generalize inV rs d i = iv at *
      generalize flowR rs (i : Int) = fk at *
      obtain ⟨gk, hgk⟩ : ∃ gk, got.getD i 0 = gk := ⟨_, rfl⟩
      rw [hgk] at g0 gi0 gi1 HSU HFIi
      have HGK := hide hgk
      have q1 : decide (gk < 0) = false := by simp; omega
      have q2 : decide (fk < gk) = false := by simp; omega
      have hii : (i : Int) < (m : Int) := by omega
      obtain ⟨hs0, hs1⟩ := hsb
      have HBB := hide hb
      clear hcg hb hsk hgk hM hLN
      have hcr := HS4.out.2.1
      have hcr2 := HS4.out.2.2.1
      have hcri : (m : Int) ≤ (cr : Int) := by omega
      have hcr3 : (cr : Int) ≤ 9223372036854775807 := by unfold maxLen at hcr2; omega
      have hin1 : i + 1 ≤ cr := by omega
      have hi1i : (i : Int) + 1 ≤ (cr : Int) := by omega
      have hi1m : (i : Int) + 1 ≤ (m : Int) := by omega
      have hic : ¬ cr ≤ i := by omega
      go_wp2_with fail
      go_quiet (fail)
      clear q1 q2
      go_wp2_with fail
      refine (HN1i.out _ (below_drewN HBB.out _)).mono ?_
      rintro e w6 ⟨rfl, hb6⟩
      have HB6 := hide (bthr (below_drewN HBB.out _) hb6 HBB.out.size)
      clear hb6 HN1i g0 r0 r1
      obtain ⟨bg2, og2, hAg, _, hcg⟩ := (HSG4.out.thr HB6.out).at_ hlt
      injection hAg with hAg
      injection hAg with eA1 eA2 _
      subst eA1 eA2
      have g0 := hcg i _ (ints_get got i (by have := HLN.out; have := HM.out; omega))
      rw [HGK.out] at g0
      clear hcg
      have hway : (iv == 0) = true ∧ ¬ 0 < gk ∨ (iv == 0) = false := by
        by_cases h : iv = 0
        · exact .inl ⟨by simp [h], by omega⟩
        · exact .inr (by simp [h])
      rcases hway with ⟨hq, hgz⟩ | hq
      all_goals
        go_wp2_with fail
        clear g0
        go_loopw [101] (fun v wq => ∃ k : Nat, k ≤ m ∧ v = .int .i64 k ∧ Below w4.heap.size w4 wq) (fun v _ => m - (intOf v).toNat)
        case atStart => exact ⟨0, by omega, rfl, HB6.out⟩
        case round =>
          obtain ⟨k, hk, rfl, hbq⟩ := hrel
          rename World => wq
          by_cases hkm : k < m
          · obtain ⟨bg2, og2, hAg, _, hcg⟩ := (HSG4.out.thr hbq).at_ hlt
            injection hAg with hAg
            injection hAg with eA1 eA2 _
            subst eA1 eA2
            have g0 := hcg i _ (ints_get got i (by have := HLN.out; have := HM.out; omega))
            have g1 := hcg k _ (ints_get got k (by have := HLN.out; have := HM.out; omega))
            rw [HGK.out] at g0
            obtain ⟨ri, -⟩ := rt_at (HS4.out.thr hbq) hlt
            obtain ⟨rk, -⟩ := rt_at (HS4.out.thr hbq) hkm
            have HFk := hide (HFIi.out k hkm)
            generalize dateR rs (i : Int) = di at *
            generalize dateR rs (k : Int) = dk at *
            generalize got.getD k 0 = gkk at *
            have hki : (k : Int) < (m : Int) := by omega
            have hk0 : (0 : Int) ≤ (k : Int) := by omega
            have HBQ := hide hbq
            have hways : decide (gk < iv) = false ∨ (decide (gk < iv) = true ∧ decide (di < dk) = false) ∨ (decide (gk < iv) = true ∧ decide (di < dk) = true ∧ decide (0 < gkk) = false) := by
              by_cases h1 : gk < iv
              · by_cases h2 : di < dk
                · have := HFk.out h1 h2
                  exact .inr (.inr ⟨by simp [h1], by simp [h2], by simp; omega⟩)
                · exact .inr (.inl ⟨by simp [h1], by simp [h2]⟩)
              · exact .inl (by simp [h1])
            clear hcg hbq HFk
            rcases hways with q1 | ⟨q1, q2⟩ | ⟨q1, q2, q3⟩
            all_goals
              go_wp2_with fail
              go_quiet (fail)
              go_wp2
              go_roundw
              case rel => exact ⟨k + 1, by omega, by go_num, below_drewN HBQ.out _⟩
              case measure => simp [intOf]; omega
          · have hkm2 : ¬ ((k : Int) < (m : Int)) := by omega
            have HBQ := hide hbq
            clear hbq
            go_wp2
            go_roundw
            case rel => exact ⟨i + 1, by omega, by go_num, by rw [HSU.out], HBQ.out⟩
            case measure => simp [intOf]; omega
    · have him : i = m := by omega
      have HX := hide (show (got.take i).sum = min a tot by rw [List.take_of_length_le (by have := HLN.out; have := HM.out; omega)]; exact HSUM.out)
      have hii : ¬ ((i : Int) < (m : Int)) := by omega
      have HBZ := hide (bthr HB2.out (bthr HB4.out hb HB4.out.size) HB2.out.size)
      obtain ⟨ms, hms⟩ : ∃ ms, min a tot = ms := ⟨_, rfl⟩
      rw [HX.out, hms]
      clear hb HX
      have hmq : (ms == ms) = true := by simp
      go_wp2_with fail
      refine (awake_any _).mono ?_
      rintro e wz ⟨rfl, hbz⟩
      have HBY := hide (bthr HBZ.out hbz HBZ.out.size)
      clear hbz
      go_wp2
      go_ret
      exact ⟨rfl, HBY.out⟩
end Go.Proofs.Ytbkadeoganaemaa
