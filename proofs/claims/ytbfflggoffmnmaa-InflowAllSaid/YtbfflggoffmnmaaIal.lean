/-
  All results of chapter 9 are the reference's: the walk of InflowAll. Condition: its lists can be read.
-/
import Derived.Test.YtbfflggoffmnmaaProg
import Derived.Test.YtbfflggoffmnmaaLng
import Derived.Test.YtbfflggoffmnmaaShl
namespace Go.Proofs.Ytbfflggoffmnmaa
open Go.RowKit

/-- two cells that hold a pair of lists, each time in memory -/
def PairL (w : World) (g k : Nat) : Prop := ∃ (A B : Option Addr) (n c n' c' : Nat) (vs os : List Int), w.cell? ⟨g, k, none⟩ = some (.slice A n c) ∧ w.cell? ⟨g, k + 1, none⟩ = some (.slice B n' c') ∧ Sl w w.heap.size 1 A n c (ints vs) ∧ Sl w w.heap.size 1 B n' c' (ints os)
def HoldsI (w : World) (g k : Nat) : Prop := ∃ x : Int, w.cell? ⟨g, k, none⟩ = some (.int .i64 x)
theorem PairL.thr {w w' : World} {g k : Nat} (h : PairL w g k) (hb : Below w.heap.size w w') : PairL w' g k := by
  obtain ⟨A, B, n, c, n', c', vs, os, h1, h2, h3, h4⟩ := h
  exact ⟨A, B, n, c, n', c', vs, os, cell_thr hb h1, cell_thr hb h2, h3.thr hb, h4.thr hb⟩
set_option maxHeartbeats 600000 in
set_option maxRecDepth 20000 in
theorem iall_walk {A1 A2 A3 : Option Addr} {n1 c1 n2 c2 n3 c3 : Nat} {rv ro ls : List Int} {w : World} (h1 : Sl w w.heap.size 1 A1 n1 c1 (ints rv)) (h2 : Sl w w.heap.size 1 A2 n2 c2 (ints ro)) (h3 : Sl w w.heap.size 1 A3 n3 c3 (ints ls)) (off width : Int) : Calls Try.prog 6 #[.slice A1 n1 c1, .slice A2 n2 c2, .slice A3 n3 c3, .int .i64 off, .int .i64 width] w fun e w' => e = .returned (.bool true) ∧ Below w.heap.size w w' := by
  have HN := hide (new_any A3 n3 c3 ls w h3)
  have H1 := hide h1
  have H2 := hide h2
  obtain ⟨z, hz⟩ : ∃ z, decide (300 < wrap64 ((n1 : Int) + (n2 : Int))) = z := ⟨_, rfl⟩
  clear h1 h2 h3
  cases z
  · go_enter Try.func6, Try.ntmps6
    go_wp2_with fail
    refine HN.out.mono ?_
    rintro e w1 ⟨rfl, hD, hb1⟩
    have hz1 := hD.lt
    clear HN
    go_wp2_with fail
    refine (run_any _ _ hD).mono ?_
    rintro e w2 ⟨Av, Ao, cv, co, m, vs, os, rfl, hm, hvl, hol, hvs, hos, hv, ho, hne, -, hg⟩
    have hb2 := below_grown hb1 hg hb1.size (Nat.le_refl _)
    have hz2 := hb2.size
    obtain ⟨_, _, hgg, hsv⟩ := own_sl hv
    injection hgg with e1 e2 e3
    subst e1 e3
    obtain ⟨_, _, hgg, hso⟩ := own_sl ho
    injection hgg with e1 e2 e3
    subst e1 e3
    have hr1 := H1.out.thr hb2
    have hr2 := H2.out.thr hb2
    have hk := Blk.new w2 42 #[.slice Av (m + 1) cv, .slice Ao m co, .slice A1 n1 c1, .slice A2 n2 c2, .slice Av (m + 1) cv, .slice A2 n2 c2, .slice A1 n1 c1, .slice Ao m co]
    have hb3 := bel1 (w := w2) (o := .cells #[.slice Av (m + 1) cv, .slice Ao m co, .slice A1 n1 c1, .slice A2 n2 c2, .slice Av (m + 1) cv, .slice A2 n2 c2, .slice A1 n1 c1, .slice Ao m co] 42)
    have hc := hk.facts.1
    have HEL : Hid (∀ j, j < 4 → PairL (w2.alloc (.cells #[.slice Av (m + 1) cv, .slice Ao m co, .slice A1 n1 c1, .slice A2 n2 c2, .slice Av (m + 1) cv, .slice A2 n2 c2, .slice A1 n1 c1, .slice Ao m co] 42)) w2.heap.size (j * 2)) := hide (fun j hj => by
      match j, hj with
      | 0, _ => exact ⟨Av, Ao, m + 1, cv, m, co, vs, os, hc 0, hc 1, hsv.thr hb3, hso.thr hb3⟩
      | 1, _ => exact ⟨A1, A2, n1, c1, n2, c2, rv, ro, hc 2, hc 3, hr1.thr hb3, hr2.thr hb3⟩
      | 2, _ => exact ⟨Av, A2, m + 1, cv, n2, c2, vs, ro, hc 4, hc 5, hsv.thr hb3, hr2.thr hb3⟩
      | 3, _ => exact ⟨A1, Ao, n1, c1, m, co, rv, os, hc 6, hc 7, hr1.thr hb3, hso.thr hb3⟩)
    have HB := hide (bthr hb2 hb3 hb2.size)
    clear hD hb1 hg hv ho hne hsv hso hr1 hr2 hk hb3 hc hb2 hvl hol hvs hos
    go_wp2
    generalize (w2.alloc _) = w3 at *
    generalize w2.heap.size = gB at *
    go_loopw [64] (fun i wr => ∃ j : Nat, j ≤ 4 ∧ i = .int .i64 j ∧ Below w3.heap.size w3 wr) (fun i _ => 4 - (intOf i).toNat)
    case atStart => exact ⟨0, by omega, rfl, Below.refl _ _⟩
    case round =>
      obtain ⟨j, hj, rfl, hbr⟩ := hrel
      by_cases hj4 : j < 4
      · obtain ⟨A, B, n, c, n', c', us, ps, x0, x1, s0, s1⟩ := (HEL.out j hj4).thr hbr
        have hji : (j : Int) < 4 := by omega
        have S0 := hide s0
        have S1 := hide s1
        have HBR := hide (bthr HB.out hbr HB.out.size)
        clear s0 s1
        go_wp2
        -- BEGIN PRINTED
        have c0 := (Blk.new wr 42 #[.slice A n c, .slice B n' c']).facts.1
        have hb4 := bel1 (w := wr) (o := .cells #[.slice A n c, .slice B n' c'] 42)
        have C0 := hide (c0 0)
        have C1 := hide (c0 1)
        have T0 := hide (S0.out.thr hb4)
        have T1 := hide (S1.out.thr hb4)
        have HR4 := hide (bthr hbr hb4 hbr.size)
        clear c0 hb4 x0 x1 hbr S0 S1 HBR
        generalize wr.alloc _ = w4 at *
        generalize wr.heap.size = gp at *
        have HC1 := hide (fun (W : World) (hW : Below w4.heap.size w4 W) => icheck_full A B n c n' c' us ps W (T0.out.thr hW) (T1.out.thr hW))
        have HC2 := hide (fun (W : World) (hW : Below w4.heap.size w4 W) => rcheck_full A B n c n' c' us ps W (T0.out.thr hW) (T1.out.thr hW))
        obtain ⟨E, hE⟩ : ∃ E, chkI us ps = E := ⟨_, rfl⟩
        rw [hE] at HC1 HC2
        have hee : (E != E) = false := by simp
        have z0 := inv_cell C0.out
        have z1 := inv_cell C1.out
        have hne : Nonempty (InW fun W => Below w4.heap.size w4 W) := ⟨⟨w4, Below.refl _ _⟩⟩
        refine wp_region_inv (I := fun W => Below w4.heap.size w4 W) (by kernel_rfl) (by kernel_rfl) (Below.refl _ _).drew ?_
        repeat (go_big_quiet_step (first | (go_at_call 17; refine inv_call (inv_closed w4) (HC1.out _ (InW.ok _))) | (go_at_call 18; refine inv_call (inv_closed w4) (HC2.out _ (InW.ok _)))))
        refine wpQuiet_nil ?_
        rintro _ ⟨⟨w5, h5⟩, rfl⟩
        have K := hide h5
        clear z0 z1 hne h5 hE HC1 HC2
        clear hee
        have xA := cell_thr K.out C0.out
        have xB := cell_thr K.out C1.out
        go_wp2_with fail
        refine (bal_full _ _ _ _ _ _ us ps _ (T0.out.thr K.out) (T1.out.thr K.out)).mono ?_
        rintro e wa ⟨va, rfl, ha, hba⟩
        replace K := hide (bthr K.out hba K.out.size)
        obtain ⟨Aa, ca, rfl, -⟩ := own_sl ha
        have HA := hide ha
        clear ha hba xA xB
        have xA := cell_thr K.out C0.out
        have xB := cell_thr K.out C1.out
        go_wp2_with fail
        refine (rbal_full _ _ _ _ _ _ us ps _ (T0.out.thr K.out) (T1.out.thr K.out)).mono ?_
        rintro e wb ⟨vb, rfl, hb, hbb⟩
        replace K := hide (bthr K.out hbb K.out.size)
        have ha2 := ownsRow_below HA.out hbb
        obtain ⟨Ab, cb, rfl, hsb⟩ := own_sl hb
        obtain ⟨_, _, hgg, hsa⟩ := own_sl ha2
        injection hgg with e1 e2 e3
        subst e1 e3
        have HSA := hide hsa
        have HSB := hide hsb
        clear hb hbb ha2 hsa hsb HA xA xB
        obtain ⟨E, hE⟩ : ∃ E, uncE us ps 0 = E := ⟨_, rfl⟩
        simp only [hE]
        have hee : (E != E) = false := by simp
        clear hE
        go_wp2_with fail
        refine (same_any _ _ _ _ _ _ _ _ _ HSA.out HSB.out).mono ?_
        rw [show sameB (balL us ps) (balL us ps) = true by simp [sameB]]
        rintro e wc ⟨rfl, hbc⟩
        replace K := hide (bthr K.out hbc K.out.size)
        clear hbc hee HSA HSB
        go_wp2_with fail
        refine (mod_any _ 40 (by omega) (by omega) _).mono ?_
        rintro e w' ⟨rfl, rfl⟩
        obtain ⟨o2, ho2⟩ : ∃ o2, off % 40 = o2 := ⟨_, rfl⟩
        rw [ho2]
        clear ho2
        have hk5 := (Blk.new wc 3 #[.int .i64 off, .int .i64 o2]).facts.1
        have HEI : Hid (∀ l, l < 2 → HoldsI (wc.alloc (.cells #[.int .i64 off, .int .i64 o2] 3)) wc.heap.size l) := hide (fun l hl => by
          match l, hl with
          | 0, _ => exact ⟨off, hk5 0⟩
          | 1, _ => exact ⟨o2, hk5 1⟩)
        have hb5 := bel1 (w := wc) (o := .cells #[.int .i64 off, .int .i64 o2] 3)
        replace K := hide (bthr K.out hb5 K.out.size)
        clear hk5 hb5
        go_wp2
        generalize wc.alloc _ = w7 at *
        generalize wc.heap.size = g7 at *
        have K7 := hide K.out
        go_loopw [109] (fun i wl => ∃ l : Nat, l ≤ 2 ∧ i = .int .i64 l ∧ Below w7.heap.size w7 wl) (fun i _ => 2 - (intOf i).toNat)
        case atStart => exact ⟨0, by omega, rfl, Below.refl _ _⟩
        case round =>
          rename World => wc
          obtain ⟨l, hl, rfl, hbl⟩ := hrel
          replace K := hide (bthr K7.out hbl K7.out.size)
          by_cases hl3 : l < 2
          · obtain ⟨x, hx⟩ := HEI.out l hl3
            have cx := cell_thr hbl hx
            have hl3i : (l : Int) < 2 := by omega
            have KL := hide hbl
            clear hx hbl
            have xA := cell_thr K.out C0.out
            have xB := cell_thr K.out C1.out
            go_wp2_with fail
            refine (unc_full _ _ _ _ _ _ us ps _ (T0.out.thr K.out) (T1.out.thr K.out) x).mono ?_
            rintro e wa ⟨va, rfl, ha, hba⟩
            replace K := hide (bthr K.out hba K.out.size)
            replace KL := hide (bthr KL.out hba KL.out.size)
            obtain ⟨Aa, ca, rfl, -⟩ := own_sl ha
            have HA := hide ha
            clear ha hba xA xB
            have xA := cell_thr K.out C0.out
            have xB := cell_thr K.out C1.out
            go_wp2_with fail
            refine (runc_full _ _ _ _ _ _ us ps _ (T0.out.thr K.out) (T1.out.thr K.out) x).mono ?_
            rintro e wb ⟨vb, rfl, hb, hbb⟩
            replace K := hide (bthr K.out hbb K.out.size)
            replace KL := hide (bthr KL.out hbb KL.out.size)
            have ha2 := ownsRow_below HA.out hbb
            obtain ⟨Ab, cb, rfl, hsb⟩ := own_sl hb
            obtain ⟨_, _, hgg, hsa⟩ := own_sl ha2
            injection hgg with e1 e2 e3
            subst e1 e3
            have HSA := hide hsa
            have HSB := hide hsb
            clear hb hbb ha2 hsa hsb HA xA xB
            obtain ⟨E, hE⟩ : ∃ E, uncE us ps x = E := ⟨_, rfl⟩
            simp only [hE]
            have hee : (E != E) = false := by simp
            clear hE
            go_wp2_with fail
            refine (sameb_any _ _ _ _ _ _ _ HSA.out HSB.out).mono ?_
            rintro e wc ⟨rfl, hbc⟩
            replace K := hide (bthr K.out hbc K.out.size)
            replace KL := hide (bthr KL.out hbc KL.out.size)
            clear hbc hee HSA HSB
            clear cx
            go_wp2
            go_roundw
            case rel => exact ⟨l + 1, by omega, by go_num, KL.out⟩
            case measure => simp [intOf]; omega
          · obtain rfl : l = 2 := by omega
            clear hbl HEI
            go_wp2_with fail
            refine (mod_any _ 9 (by omega) (by omega) _).mono ?_
            rintro e w' ⟨rfl, rfl⟩
            obtain ⟨y2, hy2⟩ : ∃ y2, width % 9 = y2 := ⟨_, rfl⟩
            have hy3 : 0 ≤ y2 ∧ y2 < 9 := by omega
            obtain ⟨hy3, hy4⟩ := hy3
            rw [hy2]
            clear hy2
            have hk5 := (Blk.new wc 3 #[.int .i64 width, .int .i64 (1 + y2)]).facts.1
            have HEI : Hid (∀ l, l < 2 → HoldsI (wc.alloc (.cells #[.int .i64 width, .int .i64 (1 + y2)] 3)) wc.heap.size l) := hide (fun l hl => by
              match l, hl with
              | 0, _ => exact ⟨width, hk5 0⟩
              | 1, _ => exact ⟨(1 + y2), hk5 1⟩)
            have hb5 := bel1 (w := wc) (o := .cells #[.int .i64 width, .int .i64 (1 + y2)] 3)
            replace K := hide (bthr K.out hb5 K.out.size)
            clear hk5 hb5
            go_wp2
            generalize wc.alloc _ = w8 at *
            generalize wc.heap.size = g8 at *
            have K7 := hide K.out
            go_loopw [147] (fun i wl => ∃ l : Nat, l ≤ 2 ∧ i = .int .i64 l ∧ Below w8.heap.size w8 wl) (fun i _ => 2 - (intOf i).toNat)
            case atStart => exact ⟨0, by omega, rfl, Below.refl _ _⟩
            case round =>
              rename World => wc
              obtain ⟨l, hl, rfl, hbl⟩ := hrel
              replace K := hide (bthr K7.out hbl K7.out.size)
              by_cases hl3 : l < 2
              · obtain ⟨x, hx⟩ := HEI.out l hl3
                have cx := cell_thr hbl hx
                have hl3i : (l : Int) < 2 := by omega
                have KL := hide hbl
                clear hx hbl
                have xA := cell_thr K.out C0.out
                go_wp2_with fail
                refine (smooth_any _ _ _ us x _ (T0.out.thr K.out)).mono ?_
                rintro e wa ⟨va, rfl, ha, hba⟩
                replace K := hide (bthr K.out hba K.out.size)
                replace KL := hide (bthr KL.out hba KL.out.size)
                obtain ⟨Aa, ca, rfl, -⟩ := own_sl ha
                have HA := hide ha
                clear ha hba xA
                have xA := cell_thr K.out C0.out
                go_wp2_with fail
                refine (rsmooth_any _ _ _ us x _ (T0.out.thr K.out)).mono ?_
                rintro e wb ⟨vb, rfl, hb, hbb⟩
                replace K := hide (bthr K.out hbb K.out.size)
                replace KL := hide (bthr KL.out hbb KL.out.size)
                have ha2 := ownsRow_below HA.out hbb
                obtain ⟨Ab, cb, rfl, hsb⟩ := own_sl hb
                obtain ⟨_, _, hgg, hsa⟩ := own_sl ha2
                injection hgg with e1 e2 e3
                subst e1 e3
                have HSA := hide hsa
                have HSB := hide hsb
                clear hb hbb ha2 hsa hsb HA xA
                obtain ⟨E, hE⟩ : ∃ E, smoE x us = E := ⟨_, rfl⟩
                simp only [hE]
                have hee : (E != E) = false := by simp
                clear hE
                go_wp2_with fail
                refine (same_any _ _ _ _ _ _ _ _ _ HSA.out HSB.out).mono ?_
                rw [show sameB (smoL x us) (smoL x us) = true by simp [sameB]]
                rintro e wc ⟨rfl, hbc⟩
                replace K := hide (bthr K.out hbc K.out.size)
                replace KL := hide (bthr KL.out hbc KL.out.size)
                clear hbc hee HSA HSB
                clear cx
                go_wp2
                go_roundw
                case rel => exact ⟨l + 1, by omega, by go_num, KL.out⟩
                case measure => simp [intOf]; omega
              · obtain rfl : l = 2 := by omega
                clear hbl HEI
                have xB := cell_thr K.out C1.out
                go_wp2_with fail
                refine (spread_all off ps _ _ _ _ (T1.out.thr K.out)).mono ?_
                rintro e wa ⟨va, rfl, ha, hba⟩
                replace K := hide (bthr K.out hba K.out.size)
                obtain ⟨Aa, ca, rfl, -⟩ := own_sl ha
                have HA := hide ha
                clear ha hba xB
                have xB := cell_thr K.out C1.out
                go_wp2_with fail
                refine (rspread_all off ps _ _ _ _ (T1.out.thr K.out)).mono ?_
                rintro e wb ⟨vb, rfl, hb, hbb⟩
                replace K := hide (bthr K.out hbb K.out.size)
                have ha2 := ownsRow_below HA.out hbb
                obtain ⟨Ab, cb, rfl, hsb⟩ := own_sl hb
                obtain ⟨_, _, hgg, hsa⟩ := own_sl ha2
                injection hgg with e1 e2 e3
                subst e1 e3
                have HSA := hide hsa
                have HSB := hide hsb
                clear hb hbb ha2 hsa hsb HA xB
                obtain ⟨E, hE⟩ : ∃ E, shGE off ps = E := ⟨_, rfl⟩
                simp only [hE]
                have hee : (E != E) = false := by simp
                clear hE
                go_wp2_with fail
                refine (same_any _ _ _ _ _ _ _ _ _ HSA.out HSB.out).mono ?_
                rw [show sameB (shGV off ps) (shGV off ps) = true by simp [sameB]]
                rintro e wc ⟨rfl, hbc⟩
                replace K := hide (bthr K.out hbc K.out.size)
                clear hbc hee HSA HSB
                have HE9 := hide (bthr HR4.out K.out HR4.out.size)
                go_wp2
                go_roundw
                case rel => exact ⟨j + 1, by omega, by go_num, HE9.out⟩
                case measure => simp [intOf]; omega
        -- END PRINTED
      · obtain rfl : j = 4 := by omega
        have hb9 := bthr HB.out hbr HB.out.size
        go_wp2_with (go_at_call 13; refine (awake_any _).mono ?_; rintro e w9 ⟨rfl, hb9'⟩)
        go_ret
        exact ⟨rfl, bthr hb9 hb9' hb9.size⟩
  · go_enter Try.func6, Try.ntmps6
    go_wp2_with (go_at_call 13; refine (awake_any _).mono ?_; rintro e w9 ⟨rfl, hb9'⟩)
    go_ret
    exact ⟨rfl, hb9'⟩
end Go.Proofs.Ytbfflggoffmnmaa
