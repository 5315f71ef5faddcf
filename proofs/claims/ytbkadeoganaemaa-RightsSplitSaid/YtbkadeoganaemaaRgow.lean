/-
  The walk of RightsOlder: it answers true. Condition: its list can be read.
-/
import Derived.Test.YtbkadeoganaemaaProg
import Derived.Test.YtbkadeoganaemaaRgq
import Derived.Lib.OwnKind
namespace Go.Proofs.Ytbkadeoganaemaa
open Go.RowKit

theorem kinds_ne {w : World} {b1 b2 s1 s2 n1 n2 : Nat} {e1 e2 : TypeId} {v1 v2 : Value} {x1 x2 : List Value} (h1 : w.ownsRow b1 e1 s1 v1 n1 x1) (h2 : w.ownsRow b2 e2 s2 v2 n2 x2) (he : e1 ≠ e2) : v2.ownBlock = none ∨ v2.ownBlock ≠ v1.ownBlock := by
  cases hv : v2.ownBlock with
  | none => exact .inl rfl
  | some g =>
    right
    intro e
    obtain ⟨c, f, hc⟩ := Lib.ownsRow_kind h1 g e.symm
    obtain ⟨c', f', hc'⟩ := Lib.ownsRow_kind h2 g hv
    rw [hc] at hc'
    injection hc' with hc'
    injection hc' with _ h _
    exact he h
/-- is none of the first k but i of its date -/
def alK (rs : List Rt) (i : Nat) : Nat → Bool
  | 0 => true
  | k + 1 => alK rs i k && (decide (k = i) || decide (dateR rs (k : Int) ≠ dateR rs (i : Int)))
theorem alK_all {rs : List Rt} {i : Nat} : ∀ {m : Nat}, alK rs i m = true → ∀ k, k < m → k ≠ i → dateR rs (k : Int) ≠ dateR rs (i : Int)
  | 0, _, k, h, _ => absurd h (Nat.not_lt_zero _)
  | m + 1, ha, k, h, hne => by
    unfold alK at ha
    rw [Bool.and_eq_true] at ha
    by_cases e : k = m
    · subst e
      have := ha.2
      simp [hne] at this
      exact this
    · exact alK_all ha.1 k (by omega) hne
/-- a part of the rights under way, and its numbers -/
def PartP (w2 : World) (rs : List Rt) (p : Rt → Bool) (k : Nat) (v13 v14 : Value) (wr : World) : Prop := ∃ q : Nat, ((rs.take k).filter p).length = q ∧ wr.ownsRow w2.heap.size 31 4 v13 q (rtCells ((rs.take k).filter p)) ∧ wr.ownsRow w2.heap.size 3 1 v14 q (ints (atI rs p k)) ∧ Below w2.heap.size w2 wr
set_option maxHeartbeats 1600000 in
set_option maxRecDepth 20000 in
theorem rolder_walk {A : Option Addr} {n c : Nat} {zs : List Int} {w : World} (hs : Sl w w.heap.size 1 A n c (ints zs)) (av dy dt : Int) : Calls Try.prog 3 #[.slice A n c, .int .i64 av, .int .i64 dy, .int .i64 dt] w fun e w' => e = .returned (.bool true) ∧ Below w.heap.size w w' := by
  go_enter Try.func3, Try.ntmps3
  go_wp2_with fail
  refine (new_any _ _ _ _ _ hs).mono ?_
  rintro e w1 ⟨rfl, hD1, hb1⟩
  have HB1 := hide hb1
  clear hs hb1
  go_wp2_with fail
  refine (rights_any _ _ hD1).mono ?_
  rintro e w2 ⟨Ar, cr, rs, rfl, hl6, hgd, hor, _, hg2⟩
  obtain ⟨m, hm⟩ : ∃ m, rs.length = m := ⟨_, rfl⟩
  rw [hm] at hor hl6
  have hck := good_ck hgd (by omega)
  have hsr := sl_ownv hor
  have HB2 := hide (below_grown HB1.out hg2 HB1.out.size (Nat.le_refl _))
  have HM := hide hm
  try simp only [hm]
  clear hD1 hg2 HB1 hgd hor
  obtain ⟨a, ha⟩ : ∃ a, av % 60 = a := ⟨_, rfl⟩
  obtain ⟨d, hd⟩ : ∃ d, dy % 365 = d := ⟨_, rfl⟩
  obtain ⟨t, ht⟩ : ∃ t, dt % 4 = t := ⟨_, rfl⟩
  have ha0 : 0 ≤ a ∧ a < 60 := by omega
  have hd0 : 0 ≤ d ∧ d < 365 := by omega
  have ht0 : 0 ≤ t ∧ t < 4 := by omega
  have HA := hide ha
  have HD := hide hd
  have HT := hide ht
  clear ha hd ht
  go_wp2_with (go_at_call 11; refine (mod_any _ _ (by omega) (by omega) _).mono ?_; rintro e w' ⟨rfl, rfl⟩; first | rw [HA.out] | rw [HD.out] | rw [HT.out])
  obtain ⟨T, hT⟩ : ∃ T, t * 100 = T := ⟨_, rfl⟩
  obtain ⟨pp, hpp⟩ : ∃ pp : Rt → Bool, pp = fun r => decide (r.date ≤ T) := ⟨_, rfl⟩
  have HPP := hide hpp
  try simp only [hT]
  have HS := hide hsr
  have HCK := hide hck
  clear hpp hT hck hsr
  go_loopw [13, 14, 40] (fun v13 v14 v40 wr => ∃ k : Nat, k ≤ m ∧ v40 = .int .i64 k ∧ PartP w2 rs pp k v13 v14 wr) (fun _ _ v40 _ => m - (intOf v40).toNat)
  case atStart => exact ⟨0, by omega, rfl, 0, rfl, World.ownsRow_nil _ _ _ _, World.ownsRow_nil _ _ _ _, Below.refl _ _⟩
  case round =>
    obtain ⟨k, hk, rfl, q, hq, ho1, ho2, hb⟩ := hrel
    by_cases hlt : k < m
    · have hM := HM.out
      obtain ⟨br, or_, rfl, _, hc⟩ := (HS.out.thr hb).at_ hlt
      have hki : k < rs.length := by omega
      have hgk := getR_at (rs := rs) hki
      rcases er : rs[k]'hki with ⟨rd, rq, rf, rt⟩
      rw [er] at hgk
      obtain ⟨e0, e1, e2, e3⟩ := rt_cells hc hki er
      have HY1 := hide (fun h => sub_yes (p := pp) hki h)
      have HY2 := hide (fun h => atI_yes (rs := rs) (p := pp) (k := k) h)
      have HN1 := hide (fun h => sub_no (p := pp) hki h)
      have HN2 := hide (fun h => atI_no (rs := rs) (p := pp) (k := k) h)
      rw [hgk] at HY1 HY2 HN1 HN2
      have hpk : pp ⟨rd, rq, rf, rt⟩ = decide (rd ≤ T) := by rw [HPP.out]
      have hq6 : q ≤ 6 := by
        have := List.length_filter_le pp (rs.take k)
        rw [List.length_take] at this
        omega
      have q7 := Blk.new wr 31 #[.int .i64 rd, .int .i64 rq, .int .i64 rf, .int .i64 rt]
      have hb2 := hb.alloc hb.size (.cells #[.int .i64 rd, .int .i64 rq, .int .i64 rf, .int .i64 rt] 31)
      have o1 := ho1.alloc (.cells #[.int .i64 rd, .int .i64 rq, .int .i64 rf, .int .i64 rt] 31)
      have o2 := ho2.alloc (.cells #[.int .i64 rd, .int .i64 rq, .int .i64 rf, .int .i64 rt] 31)
      have hkmi : (k : Int) < (m : Int) := by omega
      have hql : q < 549755813888 := by omega
      have HQ := hide hq
      clear ho1 ho2 hb hc er hgk hM hq
      go_upto_region 8 with fail
      clear e0 e1 e2 e3
      generalize wr.alloc _ = w3 at *
      generalize wr.heap.size = g7 at *
      obtain ⟨c0, c1, c2, c3, cf⟩ := q7.facts4
      by_cases hp : rd ≤ T
      · have hpt : pp ⟨rd, rq, rf, rt⟩ = true := by rw [hpk]; simp [hp]
        have HS1 := hide (HY1.out hpt)
        have HS2 := hide (HY2.out hpt)
        clear HY1 HY2 HN1 HN2 hpk hpt
        go_wp2_with (at_builtin; refine wpList_push rfl _ _ _ rfl w2.heap.size _ _ slRt _ _ _ rfl o1 _ _ rfl rfl rfl hql hb2.size ?_)
        intro v' w4 hv4 hg4 _
        have p2 := World.ownsRow.kept o2 hg4 (kinds_ne o1 o2 (by decide))
        have hb4 := hb2.grown hg4 hb2.size (fun g hg => (o1.lt g hg).1)
        clear c0 c1 c2 c3 cf
        go_wp2_with (at_builtin; refine wpList_push rfl _ _ _ rfl w2.heap.size _ _ slInt _ _ _ rfl p2 _ _ rfl rfl rfl hql hb4.size ?_)
        intro v5 w5 hv5 hg5 _
        have HP1 := hide (World.ownsRow.kept hv4 hg5 (kinds_ne p2 hv4 (by decide)))
        have HB5 := hide (hb4.grown hg5 hb4.size (fun g hg => (p2.lt g hg).1))
        have HR := hide (show PartP w2 rs pp (k + 1) v' v5 w5 from ⟨q + 1, by rw [HS1.out, List.length_append, HQ.out]; rfl, by rw [HS1.out, rtCells_append]; exact HP1.out, by rw [HS2.out, ints_append]; exact hv5, HB5.out⟩)
        clear hv4 hg4 hv5 hg5 p2 hb4 o1 o2 hb2 q7
        go_wp2
        go_roundw
        case rel => exact ⟨k + 1, by omega, by go_num, HR.out⟩
        case measure => simp [intOf]; omega
      · have hpt : pp ⟨rd, rq, rf, rt⟩ = false := by rw [hpk]; simp; omega
        have HR := hide (show PartP w2 rs pp (k + 1) _ _ w3 from ⟨q, by rw [HN1.out hpt]; exact HQ.out, by rw [HN1.out hpt]; exact o1, by rw [HN2.out hpt]; exact o2, hb2⟩)
        clear HY1 HY2 HN1 HN2 hpk hpt o1 o2 hb2 q7
        go_wp2
        go_roundw
        case rel => exact ⟨k + 1, by omega, by go_num, HR.out⟩
        case measure => simp [intOf]; omega
    · have hkm : k = m := by omega
      have hkr : k = rs.length := by have := HM.out; omega
      have HTK := hide (show (rs.take k).filter pp = rs.filter pp by rw [List.take_of_length_le (by omega)])
      rw [HTK.out] at ho1 hq
      obtain ⟨A13, c13, rfl, hs13⟩ := own_sl ho1
      obtain ⟨A14, c14, rfl, hs14⟩ := own_sl ho2
      rw [hkr] at hs14
      have h12 : (actF rs d rs.length).length ≤ 12 := by have := actF_len rs d rs.length; have := HM.out; omega
      have hql : q ≤ 6 := by have := List.length_filter_le pp rs; have := HM.out; omega
      have h12b : (actF (rs.filter pp) d (rs.filter pp).length).length ≤ 12 := by have := actF_len (rs.filter pp) d (rs.filter pp).length; omega
      have hwd : wit d 364 = true := wit_of (by omega) (by omega)
      have hck2 := sub_ck HCK.out pp
      have HSw := hide (HS.out.thr hb)
      have HS13 := hide hs13
      have HS14 := hide hs14
      have HB3 := hide (bthr HB2.out hb HB2.out.size)
      have HAL := hide (fun (W : World) (hW : Below wr.heap.size wr W) => Allot_any Ar m cr rs d a W (HSw.out.thr hW) HCK.out hwd ⟨ha0.1, by omega⟩ h12)
      have HAL2 := hide (fun (W : World) (hW : Below wr.heap.size wr W) => Allot_any A13 q c13 (rs.filter pp) d a W (HS13.out.thr hW) hck2 hwd ⟨ha0.1, by omega⟩ h12b)
      have HAL3 := hide (fun (W : World) (hW : Below wr.heap.size wr W) => Allot_any Ar m cr rs d (a + 1) W (HSw.out.thr hW) HCK.out hwd ⟨by omega, by omega⟩ h12)
      have HL1 := hide (alloc_len (day := d) (flowR_in HCK.out) ha0.1)
      have HL2 := hide ((alloc_len (day := d) (flowR_in hck2) ha0.1).trans hq)
      have HL3 := hide (alloc_len (day := d) (a := a + 1) (flowR_in HCK.out) (by omega))
      have HATL := hide (show (atI rs pp rs.length).length = q by rw [at_len _ (Nat.le_refl _), List.take_length]; exact hq)
      have HATG := hide (fun (j : Nat) (hj : j < q) => show ∃ i : Nat, i < m ∧ (atI rs pp rs.length).getD j 0 = (i : Int) ∧ (allotR (rs.filter pp) d a).getD j 0 = (allotR rs d a).getD i 0 from by
        obtain ⟨i, h1, h2, h3, h4⟩ := at_get (p := pp) rs.length (Nat.le_refl _) j (by rw [HATL.out]; exact hj)
        refine ⟨i, by have := HM.out; omega, h2, ?_⟩
        have h5 := sub_law (p := pp) (day := d) (a := a) HCK.out ha0.1 h1 h3 (fun r hr _ hd => by
          rw [HPP.out] at h3 ⊢
          simp only [decide_eq_true_eq] at h3 ⊢
          rw [dateR_get] at hd
          omega)
        rw [h4] at h5
        exact h5)
      have HMO := hide (fun (i : Nat) (hi : i < m) (hal : alK rs i m = true) => more_law (day := d) (a := a) HCK.out ha0.1 (i := i) (by have := HM.out; omega) (fun k hk hne => alK_all hal k (by have := HM.out; omega) hne))
      have hkmi : ¬ ((k : Int) < (m : Int)) := by omega
      clear ho1 ho2 hs13 hs14 h12 h12b hck2 hb hq hwd
      go_wp2_with fail
      refine (HAL.out wr (Below.refl _ _)).mono ?_
      rintro e w5 ⟨v, rfl, hv, hb5⟩
      obtain ⟨Aa, ca, rfl, hsa⟩ := own_sl hv
      have HB5 := hide hb5
      clear hv hb5 HAL
      go_wp2_with fail
      refine (HAL2.out w5 HB5.out).mono ?_
      rintro e w6 ⟨v, rfl, hv, hb6⟩
      obtain ⟨Ab, cb, rfl, hsb⟩ := own_sl hv
      have HB6 := hide (bthr HB5.out hb6 HB5.out.size)
      have hsa6 := hsa.thr hb6
      clear hv hb6 HAL2 hsa
      have ha1w : a + 1 ≤ 60 := by omega
      go_wp2_with fail
      refine (HAL3.out w6 HB6.out).mono ?_
      rintro e w7 ⟨v, rfl, hv, hb7⟩
      obtain ⟨Ac, cc, rfl, hsc⟩ := own_sl hv
      have HB7 := hide (bthr HB6.out hb7 HB6.out.size)
      have HSA := hide (hsa6.thr hb7)
      have HSB := hide (hsb.thr hb7)
      have HSC := hide hsc
      have HSI := hide (HS14.out.thr HB7.out)
      have HSR := hide (HSw.out.thr HB7.out)
      clear hv hb7 HAL3 hsa6 hsb hsc
      have hmm : ((m : Int) != (m : Int)) = false := by simp
      have hqq : ((q : Int) != (q : Int)) = false := by simp
      generalize allotR rs d a = ga at *
      generalize allotR (rs.filter pp) d a = gb at *
      generalize allotR rs d (a + 1) = gc at *
      generalize atI rs pp rs.length = ai at *
      go_wp2_with fail
      go_loopw [109] (fun v wq => ∃ j : Nat, j ≤ q ∧ v = .int .i64 j ∧ Below w7.heap.size w7 wq) (fun v _ => q - (intOf v).toNat)
      case atStart => exact ⟨0, by omega, rfl, Below.refl _ _⟩
      case round =>
        obtain ⟨j, hj, rfl, hbq⟩ := hrel
        rename World => wq
        by_cases hjq : j < q
        · obtain ⟨i, him, hij, hgg⟩ := HATG.out j hjq
          obtain ⟨ba, oa, rfl, _, hca⟩ := (HSA.out.thr hbq).at_ him
          obtain ⟨bb, ob, rfl, _, hcb⟩ := (HSB.out.thr hbq).at_ hjq
          obtain ⟨bi, oi, rfl, _, hci⟩ := (HSI.out.thr hbq).at_ hjq
          have xa := hca i _ (ints_get ga i (by have := HL1.out; have := HM.out; omega))
          have xb := hcb j _ (ints_get gb j (by have := HL2.out; omega))
          have xi := hci j _ (ints_get ai j (by have := HATL.out; omega))
          rw [hij] at xi
          rw [hgg] at xb
          generalize ga.getD i 0 = x at *
          have hxx : (x != x) = false := by simp
          have hjqi : (j : Int) < (q : Int) := by omega
          have himi : (i : Int) < (m : Int) := by omega
          have hi0i : (0 : Int) ≤ (i : Int) := by omega
          have hj0i : (0 : Int) ≤ (j : Int) := by omega
          have HBQ := hide hbq
          clear hca hcb hci hij hgg hbq
          go_wp2_with fail
          go_quiet (fail)
          go_wp2
          go_roundw
          case rel => exact ⟨j + 1, by omega, by go_num, below_drewN HBQ.out _⟩
          case measure => simp [intOf]; omega
        · have hjqi : ¬ ((j : Int) < (q : Int)) := by omega
          have HBQ := hide hbq
          clear hbq HATG HSB HSI HL2 HATL
          go_wp2_with fail
          go_loopw [126] (fun v wq => ∃ i : Nat, i ≤ m ∧ v = .int .i64 i ∧ Below w7.heap.size w7 wq) (fun v _ => m - (intOf v).toNat)
          case atStart => exact ⟨0, by omega, rfl, HBQ.out⟩
          case round =>
            obtain ⟨i, hi, rfl, hbi⟩ := hrel
            rename World => wi
            by_cases him : i < m
            · have himi : (i : Int) < (m : Int) := by omega
              have hi0i : (0 : Int) ≤ (i : Int) := by omega
              have HBI := hide hbi
              obtain ⟨br, or_, rfl, _, _⟩ := HSR.out.at_ him
              obtain ⟨ba, oa, rfl, _, _⟩ := HSA.out.at_ him
              obtain ⟨bc, oc, rfl, _, _⟩ := HSC.out.at_ him
              clear hbi
              go_wp2_with fail
              go_loopw [26, 131] (fun va v wk => ∃ k : Nat, k ≤ m ∧ v = .int .i64 k ∧ va = .bool (alK rs i k) ∧ Below w7.heap.size w7 wk) (fun _ v _ => m - (intOf v).toNat)
              case atStart => exact ⟨0, by omega, rfl, rfl, HBI.out⟩
              case round =>
                obtain ⟨k, hk, rfl, rfl, hbk⟩ := hrel
                rename World => wk
                by_cases hkm2 : k < m
                · obtain ⟨ri, -⟩ := rt_at (HSR.out.thr hbk) him
                  obtain ⟨rk, -⟩ := rt_at (HSR.out.thr hbk) hkm2
                  have HAK := hide (show alK rs i (k + 1) = (alK rs i k && (decide (k = i) || decide (dateR rs (k : Int) ≠ dateR rs (i : Int)))) from rfl)
                  obtain ⟨ak1, hak1⟩ : ∃ z, alK rs i (k + 1) = z := ⟨_, rfl⟩
                  have HAK1 := hide hak1
                  rw [hak1] at HAK
                  clear hak1
                  generalize alK rs i k = ak at *
                  generalize hdi : dateR rs (i : Int) = di at *
                  generalize hdk : dateR rs (k : Int) = dk at *
                  have hki : (k : Int) < (m : Int) := by omega
                  have hk0 : (0 : Int) ≤ (k : Int) := by omega
                  have HBK := hide hbk
                  have hways : (ak = false ∧ ak1 = false) ∨ (ak = true ∧ ((k : Int) == (i : Int)) = true ∧ ak1 = true) ∨ (ak = true ∧ ((k : Int) == (i : Int)) = false ∧ ((dk != di) = true ∧ ak1 = true ∨ (dk != di) = false ∧ ak1 = false)) := by
                    have h := HAK.out
                    cases ak with
                    | false => exact .inl ⟨rfl, by simpa using h⟩
                    | true =>
                      by_cases hki2 : k = i
                      · exact .inr (.inl ⟨rfl, by simp [hki2], by simpa [hki2] using h⟩)
                      · refine .inr (.inr ⟨rfl, by simp; omega, ?_⟩)
                        by_cases hd2 : dk = di
                        · exact .inr ⟨by simp [hd2], by simpa [hki2, hd2] using h⟩
                        · exact .inl ⟨by simp [hd2], by simpa [hki2, hd2] using h⟩
                  clear hbk HAK hdi hdk
                  rcases hways with ⟨rfl, rfl⟩ | ⟨rfl, q1, rfl⟩ | ⟨rfl, q1, ⟨q2, rfl⟩ | ⟨q2, rfl⟩⟩
                  all_goals
                    go_wp2_with fail
                    go_quiet (fail)
                    go_wp2
                    go_roundw
                    case rel => exact ⟨k + 1, by omega, by go_num, by rw [HAK1.out], below_drewN HBK.out _⟩
                    case measure => simp [intOf]; omega
                · have hkk : k = m := by omega
                  have hkm3 : ¬ ((k : Int) < (m : Int)) := by omega
                  have HMI := hide (fun (h : alK rs i k = true) => HMO.out i him (by rw [← hkk]; exact h))
                  obtain ⟨_, _, hAa, _, hca⟩ := (HSA.out.thr hbk).at_ him
                  injection hAa with hAa
                  injection hAa with eA1 eA2 _
                  subst eA1 eA2
                  obtain ⟨_, _, hAc, _, hcc⟩ := (HSC.out.thr hbk).at_ him
                  injection hAc with hAc
                  injection hAc with eA1 eA2 _
                  subst eA1 eA2
                  have xa := hca i _ (ints_get ga i (by have := HL1.out; have := HM.out; omega))
                  have xc := hcc i _ (ints_get gc i (by have := HL3.out; have := HM.out; omega))
                  generalize ga.getD i 0 = x at *
                  generalize gc.getD i 0 = y at *
                  have HBK := hide hbk
                  clear hca hcc hbk
                  cases hal : alK rs i k
                  · go_wp2_with fail
                    go_quiet (fail)
                    go_wp2
                    go_roundw
                    case rel => exact ⟨i + 1, by omega, by go_num, below_drewN HBK.out _⟩
                    case measure => simp [intOf]; omega
                  · have hxy := HMI.out hal
                    have q1 : decide (y < x) = false := by simp; omega
                    go_wp2_with fail
                    go_quiet (fail)
                    go_wp2
                    go_roundw
                    case rel => exact ⟨i + 1, by omega, by go_num, below_drewN HBK.out _⟩
                    case measure => simp [intOf]; omega
            · have himi : ¬ ((i : Int) < (m : Int)) := by omega
              have HBZ := hide (bthr HB3.out (bthr HB7.out hbi HB7.out.size) HB3.out.size)
              clear hbi
              go_wp2_with fail
              refine (awake_any _).mono ?_
              rintro e wz ⟨rfl, hbz⟩
              have HBY := hide (bthr HBZ.out hbz HBZ.out.size)
              clear hbz
              go_wp2
              go_ret
              exact ⟨rfl, HBY.out⟩
end Go.Proofs.Ytbkadeoganaemaa
