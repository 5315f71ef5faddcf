/-
  The walk of RightsCalls: it answers true. Condition: its list can be read.
-/
import Derived.Test.YtbkadeoganaemaaProg
import Derived.Test.YtbkadeoganaemaaRgj
namespace Go.Proofs.Ytbkadeoganaemaa
open Go.RowKit

set_option maxHeartbeats 1600000 in
set_option maxRecDepth 20000 in
theorem rcalls_walk {A : Option Addr} {n c : Nat} {zs : List Int} {w : World} (hs : Sl w w.heap.size 1 A n c (ints zs)) (av dy : Int) : Calls Try.prog 7 #[.slice A n c, .int .i64 av, .int .i64 dy] w fun e w' => e = .returned (.bool true) ∧ Below w.heap.size w w' := by
  go_enter Try.func7, Try.ntmps7
  go_wp2_with fail
  refine (new_any _ _ _ _ _ hs).mono ?_
  rintro e w1 ⟨rfl, hD1, hb1⟩
  have HB1 := hide hb1
  clear hs hb1
  go_wp2_with fail
  refine (rights_any _ _ hD1).mono ?_
  rintro e w2 ⟨Ar, cr, rs, rfl, hl6, hgd, hor, _, hg2⟩
  obtain ⟨m, hm⟩ : ∃ m, rs.length = m := ⟨_, rfl⟩
  rw [hm] at hor hl6
  have hck := good_ck hgd (by omega)
  have hsr := sl_ownv hor
  have HB2 := hide (below_grown HB1.out hg2 HB1.out.size (Nat.le_refl _))
  have HM := hide hm
  try simp only [hm]
  clear hD1 hg2 HB1 hgd hor
  obtain ⟨a, ha⟩ : ∃ a, av % 60 = a := ⟨_, rfl⟩
  obtain ⟨d, hd⟩ : ∃ d, dy % 365 = d := ⟨_, rfl⟩
  have ha0 : 0 ≤ a ∧ a < 60 := by omega
  have hd0 : 0 ≤ d ∧ d < 365 := by omega
  have HA := hide ha
  have HD := hide hd
  clear ha hd
  go_wp2_with (go_at_call 11; refine (mod_any _ _ (by omega) (by omega) _).mono ?_; rintro e w' ⟨rfl, rfl⟩; first | rw [HA.out] | rw [HD.out])
  have hwd : wit d 364 = true := wit_of (by omega) (by omega)
  have h12 : (actF rs d rs.length).length ≤ 12 := by have := actF_len rs d rs.length; have := HM.out; omega
  have HCA := hide (Call_any Ar m cr rs d a w2 hsr hck hwd ⟨ha0.1, by omega⟩ h12)
  have HNE := hide (fun (W : World) (hW : Below w2.heap.size w2 W) => Needs_any Ar m cr rs d W (hsr.thr hW) hck hwd h12)
  have HAL := hide (fun (W : World) (hW : Below w2.heap.size w2 W) => Allot_any Ar m cr rs d a W (hsr.thr hW) hck hwd ⟨ha0.1, by omega⟩ h12)
  have HBF := hide (fun (x : Int) (hx : wit x 16777216 = true) (W : World) (hW : Below w2.heap.size w2 W) => Before_any Ar m cr rs x d W (hsr.thr hW) hck hwd hx h12)
  obtain ⟨hc1, hc2⟩ := calls_law (day := d) hck ha0.1
  have HC2 := hide hc2
  have HLN := hide (alloc_len (day := d) (flowR_in hck) ha0.1)
  have HS := hide hsr
  have HCK := hide hck
  rw [tot_eq] at HNE
  have htot := sumFl_bnd hck (os := actR rs d) (m := 12) (by rw [actR_len]; exact h12)
  rw [tot_eq] at htot
  have HC1 := hide hc1
  rw [hc1] at HCA
  generalize totT rs d = tot at *
  clear hc1 hc2 hck h12 hsr
  go_wp2_with fail
  refine HCA.out.mono ?_
  rintro e w3 ⟨rfl, hb3⟩
  have HB3 := hide hb3
  clear hb3 HCA
  go_wp2_with fail
  refine (HNE.out w3 HB3.out).mono ?_
  rintro e w4 ⟨rfl, hb4⟩
  have HB4 := hide (bthr HB3.out hb4 HB3.out.size)
  clear hb4 HNE
  go_wp2_with fail
  refine (HAL.out w4 HB4.out).mono ?_
  rintro e w5 ⟨v, rfl, hv, hb5⟩
  have HB5 := hide (bthr HB4.out hb5 HB4.out.size)
  obtain ⟨Ag, cg, rfl, hsg⟩ := own_sl hv
  have HSG := hide hsg
  have hmm : ((m : Int) != (m : Int)) = false := by simp
  clear hb5 HAL hv hsg
  by_cases hat : a < tot
  · have hdt : decide (a < tot) = true := by simp [hat]
    simp only [hdt]
    cases hL : lackF rs (allotR rs d a) (actR rs d) with
    | none =>
      have := HC1.out
      rw [hL, hdt] at this
      simp at this
    | some x =>
      obtain ⟨⟨hx0, hx1⟩, hx2, hx3⟩ := HC2.out x hL
      obtain ⟨i, rfl⟩ : ∃ i : Nat, x = (i : Int) := ⟨x.toNat, by omega⟩
      simp only [Option.getD_some]
      rw [Int.toNat_natCast] at hx2
      have him : i < m := by have := HM.out; omega
      have HWD := hide (show wit (dateR rs (i : Int)) 16777216 = true from wit_of (dateR_in HCK.out _).1 (dateR_in HCK.out _).2)
      obtain ⟨br, or_, rfl, _, _⟩ := HS.out.at_ him
      obtain ⟨r0, r1⟩ := rt_at (HS.out.thr HB5.out) him
      obtain ⟨bg, og, rfl, _, hcg⟩ := HSG.out.at_ him
      have g0 := hcg i _ (ints_get _ i (by have := HLN.out; have := HM.out; omega))
      have HBFI := hide (fun W hW => HBF.out (dateR rs (i : Int)) HWD.out W hW)
      generalize dateR rs (i : Int) = dk at *
      generalize flowR rs (i : Int) = fk at *
      generalize (allotR rs d a).getD i 0 = gk at *
      generalize befFl rs (actR rs d) dk = bf at *
      have q1 : decide ((i : Int) < 0) = false := by first | (simp; done) | (simp; omega)
      have q2 : decide (m ≤ i) = false := by first | (simp; done) | (simp; omega)
      have q3 : decide ((m : Int) ≤ (i : Int)) = false := by first | (simp; done) | (simp; omega)
      have q4 : decide (fk ≤ gk) = false := by first | (simp; done) | (simp; omega)
      have him2 : (i : Int) < (m : Int) := by omega
      clear hcg HC2 HCK HWD HS HBF
      go_wp2_with fail
      go_quiet (fail)
      go_wp2_with fail
      refine (HBFI.out _ (below_drewN HB5.out _)).mono ?_
      rintro e w6 ⟨rfl, hb6⟩
      have HB6 := hide (bthr (below_drewN (bthr HB2.out HB5.out HB2.out.size) _) hb6 (bthr HB2.out HB5.out HB2.out.size).size)
      clear hb6 HBFI r0 r1 g0
      go_wp2_with fail
      refine (awake_any _).mono ?_
      rintro e wz ⟨rfl, hbz⟩
      have HBY := hide (bthr HB6.out hbz HB6.out.size)
      clear hbz
      go_wp2
      go_ret
      exact ⟨rfl, HBY.out⟩
  · have hdt : decide (a < tot) = false := by simp [hat]
    simp only [hdt]
    cases hL : lackF rs (allotR rs d a) (actR rs d) with
    | some x =>
      have := HC1.out
      rw [hL, hdt] at this
      simp at this
    | none =>
      simp only [Option.getD_none]
      clear HC1 HC2 HBF
      go_wp2_with fail
      refine (awake_any _).mono ?_
      rintro e wz ⟨rfl, hbz⟩
      have HBY := hide (bthr (bthr HB2.out HB5.out HB2.out.size) hbz (bthr HB2.out HB5.out HB2.out.size).size)
      clear hbz
      go_wp2
      go_ret
      exact ⟨rfl, HBY.out⟩
end Go.Proofs.Ytbkadeoganaemaa
