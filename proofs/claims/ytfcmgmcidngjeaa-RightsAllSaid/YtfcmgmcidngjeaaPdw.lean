/-
  Contract of the library's pdqsort and of slices.SortFunc by a method value, at 200 elements or fewer. Condition: the comparing method puts different elements in one order and writes nothing that was there.
-/
import Derived.Test.YtfcmgmcidngjeaaProg
import Derived.Test.YtfcmgmcidngjeaaPds
import Derived.Test.YtfcmgmcidngjeaaPda
import Derived.Test.YtfcmgmcidngjeaaPdb
import Derived.Test.YtfcmgmcidngjeaaPdc
import Derived.Test.YtfcmgmcidngjeaaPdq
import Derived.Test.YtfcmgmcidngjeaaPdi
import Derived.Test.YtfcmgmcidngjeaaPdj
import Derived.Test.YtfcmgmcidngjeaaInsM
import Derived.Deep.DeepCutAuto
namespace Go.Proofs.Ytfcmgmcidngjeaa
open Go.RowKit
set_option maxHeartbeats 32000000 in
set_option maxRecDepth 20000 in
theorem pdq_any (w0 : World) (g : Nat) (kc : FuncId) (rv : Value) (f : Int → Int → Int) (ok : Int → Prop) (hf : CmpSaysM w0 g kc rv f ok) (n c : Nat) (hn2 : n ≤ 200) : ∀ (N a b lim : Nat) (xs : List Int) (w : World), b - a < N → a ≤ b → b ≤ n → lim ≤ 4096 → RowG f ok n xs → LowS f a b xs → w0.grownBy w (some g) → IRow w g xs →
    Calls Try.prog 40 #[.slice (some ⟨g, 0, none⟩) n c, .int .i64 (a : Int), .int .i64 (b : Int), .int .i64 (lim : Int), .func (.func kc) #[rv] #[]] w fun e w' => ∃ ys, e = .returned (.tuple #[]) ∧ StS w g a b xs ys w' ∧ SortS f a b ys := by
  intro N
  induction N with
  | zero => intro a b lim xs w h; exact absurd h (Nat.not_lt_zero _)
  | succ N ih =>
    intro a b lim0 xs w hN hab hb hlim0 hG hlow hw hx
    have IH := hide ih
    have HFF := hide hf
    have HF := hide hf.2
    have hcf := hf.1
    have hn := hG.le
    have HL := hide hG.len
    have HG0 := hide hG
    have HW := hide hw
    have HLow := hide hlow
    have HS0 := hide (StS.start (a := a) (b := b) hx)
    clear hf hx hG hw hlow ih
    go_enter Try.func40, Try.ntmps40
    go_wp2
    go_loopw [1, 2, 3, 10, 11] (fun va vb vl v10 v11 wr => ∃ (a' b' lim : Nat) (wb wp : Bool) (ys : List Int), va = .int .i64 (a' : Int) ∧ vb = .int .i64 (b' : Int) ∧ vl = .int .i64 (lim : Int) ∧ v10 = .bool wb ∧ v11 = .bool wp ∧ a ≤ a' ∧ a' ≤ b' ∧ b' ≤ b ∧ lim ≤ 4096 ∧ Hid (LowS f a' b' ys) ∧ Hid (Cont f a b a' b' ys) ∧ Hid (StS w g a b xs ys wr)) (fun va vb _ _ _ _ => (intOf vb - intOf va).toNat)
    case atStart => exact ⟨a, b, lim0, true, true, xs, rfl, rfl, rfl, rfl, rfl, Nat.le_refl _, hab, Nat.le_refl _, hlim0, HLow, hide Cont.refl, HS0⟩
    case round =>
      clear HS0 HLow
      obtain ⟨a', b', lim, wb, wp, ys, rfl, rfl, rfl, rfl, rfl, haa, hab', hbb, hlim, HLow, HC, HS⟩ := hrel
      have HG := hide (HG0.out.seg HS.out.seg)
      by_cases h12 : b' ≤ a' + 12
      · have h12z : (b' : Int) - (a' : Int) ≤ 12 := by omega
        have HI := hide (ins_seg (a := a') (b := b') HG.out hab' (by omega))
        have hc := insM_any w0 g kc rv f ok HFF.out n c a' b' (by omega) (by omega) (by omega) ys HG.out.len HG.out.oks wr (grown_trans HW.out HS.out.grown) HS.out.row
        generalize insK f a' (b' - (a' + 1)) ys = zs at HI hc
        go_wp2_with fail
        refine hc.mono ?_
        rintro e w1 ⟨rfl, h1, h2⟩
        have H1 := hide (show StS wr g a' b' ys zs w1 from ⟨HI.out.1, h1, h2⟩)
        clear hc h1 h2
        go_wp2
        (try simp only [Exit.inBlock, Exit.then])
        refine bodyPost_ret (results_none rfl _ _ _) rfl ?_
        exact ⟨zs, rfl, HS.out.sub H1.out haa hbb, HC.out zs HI.out.1 HI.out.2⟩
      · have h12z : ¬ (b' : Int) - (a' : Int) ≤ 12 := by omega
        by_cases hl0 : lim = 0
        · have hlz : ((lim : Int) == 0) = true := by simp; omega
          have hc := heap_any w0 g kc rv f ok HFF.out n c a' b' (by omega) (by omega) ys HG.out wr (grown_trans HW.out HS.out.grown) HS.out.row
          clear hl0
          go_wp2_with fail
          refine hc.mono ?_
          rintro e w1 ⟨zs, rfl, h1, h2⟩
          have H1 := hide h1
          have H2 := hide h2
          clear hc h1 h2
          go_wp2
          (try simp only [Exit.inBlock, Exit.then])
          refine bodyPost_ret (results_none rfl _ _ _) rfl ?_
          exact ⟨zs, rfl, HS.out.sub H1.out haa hbb, HC.out zs H1.out.seg H2.out⟩
        · have hlz : ((lim : Int) == 0) = false := by simp; omega
          have hn12 : a' + 12 < b' := by omega
          have hbn : b' ≤ n := by omega
          go_upto_if 39 with fail
          go_cut [3] (fun v3 wx => ∃ (l2 : Nat) (zs : List Int), v3 = .int .i64 (l2 : Int) ∧ l2 ≤ 4096 ∧ Hid (Seg a' b' ys zs) ∧ Hid (StS w g a b xs zs wx))
          case first =>
            cases wb
            case false =>
              have hc := brk_any g kc rv f ok n c a' b' hn12 hbn hn2 ys HG.out wr HS.out.row
              go_wp2_with fail
              refine hc.mono ?_
              rintro e w1 ⟨zs, rfl, h1⟩
              have H1 := hide h1
              clear hc h1
              go_wp2_with fail
              go_meet
              exact ⟨lim - 1, zs, by congr 1; omega, by omega, hide H1.out.seg, hide (HS.out.sub H1.out haa hbb)⟩
            case true =>
              go_wp2_with fail
              go_meet
              exact ⟨lim, ys, rfl, hlim, hide (Seg.refl _ _ _), HS⟩
          case rest =>
            obtain ⟨l2, zs, rfl, hl2, HSeg, HS2⟩ := hcut
            have hbl : b' ≤ ys.length := by rw [HG.out.len]; exact hbn
            have HLow2 := hide (HLow.out.seg HSeg.out HG.out.nod hbl (Nat.le_refl _) (Nat.le_refl _))
            have HC2 := hide (HC.out.seg HSeg.out)
            have HG2 := hide (HG.out.seg HSeg.out)
            clear HLow HC HG HSeg HS hbl hlz hl0 hlim
            have hc := pivot_any w0 g kc rv f ok HFF.out n c a' b' hn12 hbn hn zs HG2.out.len HG2.out.oks wc (grown_trans HW.out HS2.out.grown) HS2.out.row
            go_wp2_with fail
            refine hc.mono ?_
            rintro e w2 ⟨p, h, rfl, hp1, hp2, hh, hb2⟩
            have HS3 := hide (HS2.out.below hb2)
            clear hc hb2 HS2
            go_upto_if 56 with fail
            go_cut [13, 14] (fun v13 v14 wx => ∃ (p h : Nat) (us : List Int), v13 = .int .i64 (p : Int) ∧ v14 = .int .i64 (h : Int) ∧ a' ≤ p ∧ p < b' ∧ Hid (Seg a' b' zs us) ∧ Hid (StS w g a b xs us wx))
            case first =>
              by_cases hh2 : h = 2
              · have hhz : ((h : Int) == 2) = true := by simp; omega
                have hc := rev_any g kc rv f ok n c a' b' (by omega) hbn zs HG2.out w2 HS3.out.row
                obtain ⟨p2, ep2⟩ : ∃ p2 : Nat, (b' : Int) - 1 - ((p : Int) - (a' : Int)) = (p2 : Int) := ⟨b' - 1 - (p - a'), by omega⟩
                have hp2 : a' ≤ p2 ∧ p2 < b' := by omega
                clear hh2
                go_wp2_with fail
                refine hc.mono ?_
                rintro e w3 ⟨us, rfl, h1⟩
                have H1 := hide h1
                clear hc h1
                go_wp2_with fail
                go_meet
                exact ⟨p2, 1, us, rfl, rfl, hp2.1, hp2.2, hide H1.out.seg, hide (HS3.out.sub H1.out haa hbb)⟩
              · have hhz : ((h : Int) == 2) = false := by simp; omega
                go_wp2_with fail
                go_meet
                exact ⟨p, h, zs, rfl, rfl, hp1, hp2, hide (Seg.refl _ _ _), HS3⟩
            case rest =>
              clear hp1 hp2 hh HS3
              obtain ⟨q, hq, us, rfl, rfl, hq1, hq2, HSeg, HS4⟩ := hcut
              have hbl : b' ≤ zs.length := by rw [HG2.out.len]; exact hbn
              have HLow4 := hide (HLow2.out.seg HSeg.out HG2.out.nod hbl (Nat.le_refl _) (Nat.le_refl _))
              have HC4 := hide (HC2.out.seg HSeg.out)
              have HG4 := hide (HG2.out.seg HSeg.out)
              clear HLow2 HC2 HG2 HSeg hbl
              obtain ⟨we, hwe⟩ : ∃ we, we = wc := ⟨_, rfl⟩
              go_upto_region 15 with fail
              go_cut [75] (fun v75 wx => ∃ z : Bool, v75 = .bool z ∧ Hid (StS w g a b xs us wx))
              case first =>
                cases wb <;> cases wp <;> by_cases hh1 : hq = 1
                all_goals
                  have hhz : ((hq : Int) == 1) = decide (hq = 1) := by by_cases h : hq = 1 <;> simp [h]; omega
                  go_wp2_with fail
                  go_meet
                  exact ⟨_, rfl, HS4⟩
              case rest =>
                obtain ⟨z, rfl, HS5⟩ := hcut
                clear HS4
                go_upto_if 75 with fail
                go_cut [] (fun wx => ∃ ts : List Int, Hid (Seg a' b' us ts) ∧ Hid (StS w g a b xs ts wx))
                case first =>
                  cases z
                  case false =>
                    go_wp2_with fail
                    go_meet
                    exact ⟨us, hide (Seg.refl _ _ _), HS5⟩
                  case true =>
                    have hc := pis_any w0 g kc rv f ok HFF.out n c a' b' (by omega) hbn us HG4.out HLow4.out wc (grown_trans HW.out HS5.out.grown) HS5.out.row
                    go_wp2_with fail
                    refine hc.mono ?_
                    rintro e w4 ⟨ts, r, rfl, h1, h2⟩
                    have H1 := hide h1
                    have H2 := hide h2
                    clear hc h1 h2
                    cases r
                    case false =>
                      go_wp2_with fail
                      go_meet
                      exact ⟨ts, hide H1.out.seg, hide (HS5.out.sub H1.out haa hbb)⟩
                    case true =>
                      go_wp2
                      (try simp only [Exit.inBlock, Exit.then])
                      refine bodyPost_ret (results_none rfl _ _ _) rfl ?_
                      exact ⟨ts, rfl, HS5.out.sub H1.out haa hbb, HC4.out ts H1.out.seg (by first | exact H2.out rfl | exact H2.out trivial)⟩
                case rest =>
                  obtain ⟨ts, HSeg, HS6⟩ := hcut
                  have hbl : b' ≤ us.length := by rw [HG4.out.len]; exact hbn
                  have HLow6 := hide (HLow4.out.seg HSeg.out HG4.out.nod hbl (Nat.le_refl _) (Nat.le_refl _))
                  have HC6 := hide (HC4.out.seg HSeg.out)
                  have HG6 := hide (HG4.out.seg HSeg.out)
                  clear HLow4 HC4 HG4 HSeg hbl HS5
                  go_upto_region 17 with fail
                  go_cut [97] (fun v wx => v = .bool false ∧ Hid (StS w g a b xs ts wx))
                  case first =>
                    by_cases ha0 : 0 < a'
                    · have ha0z : (0 : Int) < (a' : Int) := by omega
                      obtain ⟨l, el⟩ : ∃ l : Nat, (a' : Int) - 1 = (l : Int) := ⟨a' - 1, by omega⟩
                      have hl1 : l < a' ∧ a' ≤ l + 1 := by omega
                      have i0 : (0 : Int) ≤ (l : Int) := by omega
                      have i1 : (l : Int) < (n : Int) := by omega
                      have i2 : (0 : Int) ≤ (q : Int) := by omega
                      have i3 : (q : Int) < (n : Int) := by omega
                      have hcmp : f (ts.getD l 0) (ts.getD q 0) < 0 := HLow6.out l q (by omega) hq1 hq2
                      have cS := HS6.out.row.cell (j := l) (by rw [HG6.out.len]; omega)
                      have cT := HS6.out.row.cell (j := q) (by rw [HG6.out.len]; omega)
                      have HC := hide (fun (W : World) (hW : Below wc.heap.size wc W) => HF.out (ts.getD (l) 0) (ts.getD (q) 0) W (HG6.out.at_ (by omega)) (HG6.out.at_ (by omega)) (grown_trans HW.out (grown_of_below HS6.out.grown hW)))
                      generalize ts.getD (l) 0 = xv at cS HC hcmp
                      generalize ts.getD (q) 0 = yv at cT HC hcmp
                      generalize f xv yv = rr at HC hcmp
                      have hrd : decide (rr < 0) = true := decide_eq_true hcmp
                      have hne : Nonempty (InW fun W => Below wc.heap.size wc W) := ⟨⟨wc, Below.refl _ _⟩⟩
                      replace cS := inv_cell cS
                      replace cT := inv_cell cT
                      go_wp2_with fail
                      refine wp_region_inv (I := fun W => Below wc.heap.size wc W) (by kernel_rfl) (by kernel_rfl) (Below.refl _ _).drew ?_
                      repeat (go_big_quiet_step ((refine inv_call (inv_closed wc) (HC.out _ (InW.ok (I := fun W => Below wc.heap.size wc W) _)))))
                      refine wpQuiet_nil ?_
                      rintro _ ⟨⟨w9, h9⟩, rfl⟩
                      rename World => w9
                      have H9 := hide h9
                      clear h9 cS cT hne HC
                      go_wp2_with fail
                      go_meet
                      exact ⟨rfl, hide (HS6.out.below H9.out)⟩
                    · have ha0z : decide ((0 : Int) < (a' : Int)) = false := by simpa using ha0
                      go_wp2_with fail
                      go_quiet (fail)
                      go_wp2_with fail
                      go_meet
                      exact ⟨rfl, hide (HS6.out.drewN _)⟩
                  case rest =>
                    obtain ⟨rfl, HS7⟩ := hcut
                    clear HS6
                    have hc := part_any w0 g kc rv f ok HFF.out n c a' b' q (by omega) ⟨hq1, hq2⟩ hbn ts HG6.out wc (grown_trans HW.out HS7.out.grown) HS7.out.row
                    go_wp2_with fail
                    refine hc.mono ?_
                    rintro e w7 ⟨vs, m, r, rfl, h1, ⟨hm1, hm2⟩, h3⟩
                    have hbl : b' ≤ ts.length := by rw [HG6.out.len]; exact hbn
                    have HP := hide h3
                    have HS8 := hide (HS7.out.sub h1 haa hbb)
                    have HLow8 := hide (HLow6.out.seg h1.seg HG6.out.nod hbl (Nat.le_refl _) (Nat.le_refl _))
                    have HC8 := hide (HC6.out.seg h1.seg)
                    have HG8 := hide (HG6.out.seg h1.seg)
                    clear hc h1 h3 HLow6 HC6 HG6 HS7 hbl
                    have hbl : b' ≤ vs.length := by rw [HG8.out.len]; exact hbn
                    by_cases h4 : m - a' < b' - m
                    · have h4z : (m : Int) - (a' : Int) < (b' : Int) - (m : Int) := by omega
                      have hih := IH.out a' m l2 vs w7 (by omega) hm1 (by omega) hl2 HG8.out (low_left HLow8.out (by omega)) (grown_trans HW.out HS8.out.grown) HS8.out.row
                      go_wp2_with fail
                      refine hih.mono ?_
                      rintro e w8 ⟨rs, rfl, k1, k2⟩
                      have K1 := hide k1
                      have K2 := hide k2
                      clear hih k1 k2
                      have HPr := hide (part_left HG8.out.nod hbl ⟨hm1, hm2⟩ HP.out K1.out.seg)
                      have hmo := K1.out.seg.more (Nat.le_refl a') (show m ≤ b' by omega)
                      have HGr := hide (HG8.out.seg hmo)
                      have HLr := hide (low_right HGr.out.cmp HGr.out.oks (by rw [HGr.out.len]; exact hbn) (HLow8.out.seg hmo HG8.out.nod hbl (Nat.le_refl _) (Nat.le_refl _)) ⟨hm1, hm2⟩ HPr.out)
                      have HCr := hide (Cont.left HGr.out hbn ⟨hm1, hm2⟩ (HC8.out.seg hmo) HPr.out K2.out)
                      clear hmo
                      go_wp2
                      go_roundw
                      case rel => exact ⟨m + 1, b', l2, _, r, rs, by go_num, rfl, rfl, rfl, rfl, by omega, by omega, hbb, hl2, HLr, HCr, hide (HS8.out.sub K1.out haa (by omega))⟩
                      case measure => simp [intOf]; omega
                    · have h4z : ¬ (m : Int) - (a' : Int) < (b' : Int) - (m : Int) := by omega
                      have hih := IH.out (m + 1) b' l2 vs w7 (by omega) (by omega) (by omega) hl2 HG8.out (low_right HG8.out.cmp HG8.out.oks hbl HLow8.out ⟨hm1, hm2⟩ HP.out) (grown_trans HW.out HS8.out.grown) HS8.out.row
                      rw [show ((m + 1 : Nat) : Int) = (m : Int) + 1 by omega] at hih
                      go_wp2_with fail
                      refine hih.mono ?_
                      rintro e w8 ⟨rs, rfl, k1, k2⟩
                      have K1 := hide k1
                      have K2 := hide k2
                      clear hih k1 k2
                      have HPr := hide (part_right HG8.out.nod hbl ⟨hm1, hm2⟩ HP.out K1.out.seg)
                      have hmo := K1.out.seg.more (show a' ≤ m + 1 by omega) (Nat.le_refl b')
                      have HGr := hide (HG8.out.seg hmo)
                      have HLr := hide (low_left (HLow8.out.seg hmo HG8.out.nod hbl (Nat.le_refl _) (Nat.le_refl _)) (show m ≤ b' by omega))
                      have HCr := hide (Cont.right HGr.out hbn ⟨hm1, hm2⟩ (HC8.out.seg hmo) HPr.out K2.out)
                      clear hmo
                      go_wp2
                      go_roundw
                      case rel => exact ⟨a', m, l2, _, r, rs, rfl, rfl, rfl, rfl, rfl, haa, hm1, by omega, hl2, HLr, HCr, hide (HS8.out.sub K1.out (by omega) hbb)⟩
                      case measure => simp [intOf]; omega
set_option maxHeartbeats 6400000 in
set_option maxRecDepth 20000 in
theorem sort_any (w0 : World) (g : Nat) (kc : FuncId) (rv : Value) (f : Int → Int → Int) (ok : Int → Prop) (hf : CmpSaysM w0 g kc rv f ok) (n c : Nat) (hn0 : 0 < n) (hn2 : n ≤ 200) (xs : List Int) (hG : RowG f ok n xs) (w : World) (hw : w0.grownBy w (some g)) (hx : IRow w g xs) :
    Calls Try.prog 37 #[.slice (some ⟨g, 0, none⟩) n c, .func (.func kc) #[rv] #[]] w fun e w' => ∃ ys, e = .returned (.tuple #[]) ∧ StS w g 0 n xs ys w' ∧ SortS f 0 n ys := by
  have HP := hide (fun (l : Nat) (hl : l ≤ 4096) => pdq_any w0 g kc rv f ok hf n c hn2 (n + 1) 0 n l xs w (by omega) (Nat.zero_le _) (Nat.le_refl _) hl hG (fun s t h => absurd h (Nat.not_lt_zero _)) hw hx)
  have hnn : (n : Int) ≤ 200 := by omega
  have wr : IntKind.u64.wrap (n : Int) = n := by rw [IntKind.wrap_u64]; omega
  clear hf hG hw hx
  go_enter Try.func37, Try.ntmps37
  go_wp2_with fail
  refine (len_nat n _ hn0 hn2).mono ?_
  rintro e w' ⟨l, rfl, hl, _, _, rfl⟩
  go_wp2_with fail
  refine (HP.out l (by omega)).mono ?_
  rintro e w' ⟨ys, rfl, h1, h2⟩
  have H1 := hide h1
  have H2 := hide h2
  clear h1 h2
  go_wp2
  go_end0
  exact ⟨ys, rfl, H1.out, H2.out⟩
end Go.Proofs.Ytfcmgmcidngjeaa
