/-
  Contract of the partition in the library's pdqsort by a method value. Condition: the comparing method puts different elements in one order and writes nothing that was there.
-/
import Derived.Test.YtfcmgmcidngjeaaProg
import Derived.Test.YtfcmgmcidngjeaaPds
import Derived.Deep.DeepCutAuto
namespace Go.Proofs.Ytfcmgmcidngjeaa
open Go.RowKit
set_option maxHeartbeats 16000000 in
set_option maxRecDepth 20000 in
theorem part_any (w0 : World) (g : Nat) (kc : FuncId) (rv : Value) (f : Int → Int → Int) (ok : Int → Prop) (hf : CmpSaysM w0 g kc rv f ok) (n c a b p : Nat) (hab : a + 1 < b) (hp : a ≤ p ∧ p < b) (hb : b ≤ n) (xs : List Int) (hG : RowG f ok n xs) (w : World) (hw : w0.grownBy w (some g)) (hx : IRow w g xs) :
    Calls Try.prog 55 #[.slice (some ⟨g, 0, none⟩) n c, .int .i64 (a : Int), .int .i64 (b : Int), .int .i64 (p : Int), .func (.func kc) #[rv] #[]] w fun e w' => ∃ (ys : List Int) (m : Nat) (r : Bool), e = .returned (.tuple #[.int .i64 (m : Int), .bool r]) ∧ StS w g a b xs ys w' ∧ (a ≤ m ∧ m < b) ∧ PartS f a b m ys := by
  have HF := hide hf.2
  have hcf := hf.1
  have hn := hG.le
  have HL := hide hG.len
  have HG0 := hide hG
  have HW := hide hw
  have HS0 := hide (StS.start (a := a) (b := b) hx)
  have han : a < n := by omega
  have hpn : p < n := by omega
  have i0 : (0 : Int) ≤ (a : Int) := by omega
  have i1 : (a : Int) < (n : Int) := by omega
  have i2 : (0 : Int) ≤ (p : Int) := by omega
  have i3 : (p : Int) < (n : Int) := by omega
  clear hf hx hG hw
  have dI := HS0.out.row.cell (j := a) (by rw [HG0.out.len]; omega)
  have dJ := HS0.out.row.cell (j := p) (by rw [HG0.out.len]; omega)
  have fI := HS0.out.row.frozen (a)
  have fJ := HS0.out.row.frozen (p)
  obtain ⟨uJ, dU⟩ : ∃ u, (World.setCell _ _ _).cell? ⟨g, p, none⟩ = some u := ⟨_, (HS0.out.row.set_ (a) (xs.getD (p) 0)).cell (j := p) (by rw [List.length_set, HG0.out.len]; omega)⟩
  have HK := hide ((HS0.out.swap HL.out hb (i := a) (j := p) ⟨Nat.le_refl _, by omega⟩ hp).drew)
  generalize xs.getD (a) 0 = xi at dI dU HK
  generalize xs.getD (p) 0 = xj at dJ dU HK
  obtain ⟨j0, eb⟩ : ∃ j0 : Nat, (b : Int) - 1 = (j0 : Int) := ⟨b - 1, by omega⟩
  have hj : b - 1 = j0 := by omega
  obtain ⟨i0', ei⟩ : ∃ i0' : Nat, i0' = a + 1 := ⟨_, rfl⟩
  clear ei i0'
  have HG := hide (HG0.out.seg HK.out.seg)
  have HE0 : Hid (PInv f a b (a + 1) j0 (swap2 xs a p)) := hide (hj ▸ pinv_start hab)
  go_enter Try.func55, Try.ntmps55
  go_wp2
  go_region
  generalize hys : swap2 xs a p = ys at HK HG HE0
  generalize World.drew _ = w1 at HK ⊢
  clear dI dJ dU fI fJ hys hj HS0
  have HE := HE0
  have HS := HK
  clear HE0 HK
  go_wp2
  go_loopw [12] (fun v wr => ∃ i : Nat, v = .int .i64 (i : Int) ∧ a + 1 ≤ i ∧ Hid (PInv f a b i j0 ys) ∧ Hid (StS w g a b xs ys wr)) (fun v _ => b - (intOf v).toNat)
  case atStart => exact ⟨a + 1, by go_num, Nat.le_refl _, HE, HS⟩
  case round =>
    clear HE HS
    obtain ⟨i, rfl, hi0, HE, HS⟩ := hrel
    go_upto_region 3 with fail
    go_cut [47] (fun v wx => ∃ z : Bool, v = .bool z ∧ (z = true → i ≤ j0 ∧ f (ys.getD i 0) (ys.getD a 0) < 0) ∧ (z = false → i ≤ j0 → ¬ f (ys.getD i 0) (ys.getD a 0) < 0) ∧ Below wr.heap.size wr wx)
    case first =>
      by_cases hij : i ≤ j0
      · have hijz : (i : Int) ≤ (j0 : Int) := by omega
        have hjb := HE.out.jb
        have hai := HE.out.ai
        have i0 : (0 : Int) ≤ (i : Int) := by omega
        have i1 : (i : Int) < (n : Int) := by omega
        have i2 : (0 : Int) ≤ (a : Int) := by omega
        have i3 : (a : Int) < (n : Int) := by omega
        have cS := HS.out.row.cell (j := i) (by rw [HG.out.len]; omega)
        have cT := HS.out.row.cell (j := a) (by rw [HG.out.len]; omega)
        have HC := hide (fun (W : World) (hW : Below wr.heap.size wr W) => HF.out (ys.getD (i) 0) (ys.getD (a) 0) W (HG.out.at_ (by omega)) (HG.out.at_ (by omega)) (grown_trans HW.out (grown_of_below HS.out.grown hW)))
        by_cases hcmp : f (ys.getD i 0) (ys.getD a 0) < 0
        · have HCM := hide hcmp
          generalize ys.getD (i) 0 = xv at cS HC hcmp
          generalize ys.getD (a) 0 = yv at cT HC hcmp
          generalize f xv yv = rr at HC hcmp
          have hrd : decide (rr < 0) = true := decide_eq_true hcmp
          have hne : Nonempty (InW fun W => Below wr.heap.size wr W) := ⟨⟨wr, Below.refl _ _⟩⟩
          replace cS := inv_cell cS
          replace cT := inv_cell cT
          go_wp2_with fail
          refine wp_region_inv (I := fun W => Below wr.heap.size wr W) (by kernel_rfl) (by kernel_rfl) (Below.refl _ _).drew ?_
          repeat (go_big_quiet_step ((refine inv_call (inv_closed wr) (HC.out _ (InW.ok (I := fun W => Below wr.heap.size wr W) _)))))
          refine wpQuiet_nil ?_
          rintro _ ⟨⟨w9, h9⟩, rfl⟩
          rename World => w9
          have H9 := hide h9
          clear h9 cS cT hne HC
          go_wp2_with fail
          go_meet
          exact ⟨true, rfl, (fun _ => ⟨hij, (by have := HCM.out; omega)⟩), (fun h => absurd h (by decide)), H9.out⟩
        · have HCM := hide hcmp
          generalize ys.getD (i) 0 = xv at cS HC hcmp
          generalize ys.getD (a) 0 = yv at cT HC hcmp
          generalize f xv yv = rr at HC hcmp
          have hrd : decide (rr < 0) = false := decide_eq_false hcmp
          have hne : Nonempty (InW fun W => Below wr.heap.size wr W) := ⟨⟨wr, Below.refl _ _⟩⟩
          replace cS := inv_cell cS
          replace cT := inv_cell cT
          go_wp2_with fail
          refine wp_region_inv (I := fun W => Below wr.heap.size wr W) (by kernel_rfl) (by kernel_rfl) (Below.refl _ _).drew ?_
          repeat (go_big_quiet_step ((refine inv_call (inv_closed wr) (HC.out _ (InW.ok (I := fun W => Below wr.heap.size wr W) _)))))
          refine wpQuiet_nil ?_
          rintro _ ⟨⟨w9, h9⟩, rfl⟩
          rename World => w9
          have H9 := hide h9
          clear h9 cS cT hne HC
          go_wp2_with fail
          go_meet
          exact ⟨false, rfl, (fun h => absurd h (by decide)), (fun _ _ => (by have := HCM.out; omega)), H9.out⟩
      · have hijd : decide ((i : Int) ≤ (j0 : Int)) = false := by simpa using hij
        go_wp2_with fail
        go_quiet (fail)
        go_wp2_with fail
        go_meet
        exact ⟨false, rfl, (fun h => absurd h (by decide)), (fun _ h => absurd h hij), below_drewN (Below.refl _ _) _⟩
    case rest =>
      obtain ⟨z, rfl, hz1, hz0, hb9⟩ := hcut
      replace HS := hide (HS.out.below hb9)
      clear hb9
      cases z
      case true =>
        obtain ⟨hij, hc⟩ := hz1 rfl
        have HE2 := hide (pinv_up HE.out hij hc)
        have hjb := HE.out.jb
        clear hz1 hz0 hc
        go_wp2
        go_roundw
        case rel => exact ⟨i + 1, by go_num, by omega, HE2, HS⟩
        case measure => simp [intOf]; omega
      case false =>
        have HZ := hide (hz0 rfl)
        clear hz1 hz0
        go_wp2
        go_loopw [13] (fun v wr => ∃ j : Nat, v = .int .i64 (j : Int) ∧ j ≤ j0 ∧ Hid (PInv f a b i j ys) ∧ Hid (StS w g a b xs ys wr)) (fun v _ => (intOf v).toNat)
        case atStart => exact ⟨j0, rfl, Nat.le_refl _, HE, HS⟩
        case round =>
          clear HE HS
          obtain ⟨j, rfl, hjj, HE, HS⟩ := hrel
          go_upto_region 5 with fail
          go_cut [66] (fun v wx => ∃ z : Bool, v = .bool z ∧ (z = true → i ≤ j ∧ ¬ f (ys.getD j 0) (ys.getD a 0) < 0) ∧ (z = false → i ≤ j → f (ys.getD j 0) (ys.getD a 0) < 0) ∧ Below wr.heap.size wr wx)
          case first =>
            by_cases hij : i ≤ j
            · have hijz : (i : Int) ≤ (j : Int) := by omega
              have hjb := HE.out.jb
              have hai := HE.out.ai
              have i0 : (0 : Int) ≤ (j : Int) := by omega
              have i1 : (j : Int) < (n : Int) := by omega
              have i2 : (0 : Int) ≤ (a : Int) := by omega
              have i3 : (a : Int) < (n : Int) := by omega
              have cS := HS.out.row.cell (j := j) (by rw [HG.out.len]; omega)
              have cT := HS.out.row.cell (j := a) (by rw [HG.out.len]; omega)
              have HC := hide (fun (W : World) (hW : Below wr.heap.size wr W) => HF.out (ys.getD (j) 0) (ys.getD (a) 0) W (HG.out.at_ (by omega)) (HG.out.at_ (by omega)) (grown_trans HW.out (grown_of_below HS.out.grown hW)))
              by_cases hcmp : f (ys.getD j 0) (ys.getD a 0) < 0
              · have HCM := hide hcmp
                generalize ys.getD (j) 0 = xv at cS HC hcmp
                generalize ys.getD (a) 0 = yv at cT HC hcmp
                generalize f xv yv = rr at HC hcmp
                have hrd : decide (rr < 0) = true := decide_eq_true hcmp
                have hne : Nonempty (InW fun W => Below wr.heap.size wr W) := ⟨⟨wr, Below.refl _ _⟩⟩
                replace cS := inv_cell cS
                replace cT := inv_cell cT
                go_wp2_with fail
                refine wp_region_inv (I := fun W => Below wr.heap.size wr W) (by kernel_rfl) (by kernel_rfl) (Below.refl _ _).drew ?_
                repeat (go_big_quiet_step ((refine inv_call (inv_closed wr) (HC.out _ (InW.ok (I := fun W => Below wr.heap.size wr W) _)))))
                refine wpQuiet_nil ?_
                rintro _ ⟨⟨w9, h9⟩, rfl⟩
                rename World => w9
                have H9 := hide h9
                clear h9 cS cT hne HC
                go_wp2_with fail
                go_meet
                exact ⟨false, rfl, (fun h => absurd h (by decide)), (fun _ _ => (by have := HCM.out; omega)), H9.out⟩
              · have HCM := hide hcmp
                generalize ys.getD (j) 0 = xv at cS HC hcmp
                generalize ys.getD (a) 0 = yv at cT HC hcmp
                generalize f xv yv = rr at HC hcmp
                have hrd : decide (rr < 0) = false := decide_eq_false hcmp
                have hne : Nonempty (InW fun W => Below wr.heap.size wr W) := ⟨⟨wr, Below.refl _ _⟩⟩
                replace cS := inv_cell cS
                replace cT := inv_cell cT
                go_wp2_with fail
                refine wp_region_inv (I := fun W => Below wr.heap.size wr W) (by kernel_rfl) (by kernel_rfl) (Below.refl _ _).drew ?_
                repeat (go_big_quiet_step ((refine inv_call (inv_closed wr) (HC.out _ (InW.ok (I := fun W => Below wr.heap.size wr W) _)))))
                refine wpQuiet_nil ?_
                rintro _ ⟨⟨w9, h9⟩, rfl⟩
                rename World => w9
                have H9 := hide h9
                clear h9 cS cT hne HC
                go_wp2_with fail
                go_meet
                exact ⟨true, rfl, (fun _ => ⟨hij, (by have := HCM.out; omega)⟩), (fun h => absurd h (by decide)), H9.out⟩
            · have hijd : decide ((i : Int) ≤ (j : Int)) = false := by simpa using hij
              go_wp2_with fail
              go_quiet (fail)
              go_wp2_with fail
              go_meet
              exact ⟨false, rfl, (fun h => absurd h (by decide)), (fun _ h => absurd h hij), below_drewN (Below.refl _ _) _⟩
          case rest =>
            obtain ⟨z, rfl, hz1, hz0, hb9⟩ := hcut
            replace HS := hide (HS.out.below hb9)
            clear hb9
            cases z
            case true =>
              obtain ⟨hij, hc⟩ := hz1 rfl
              have HE2 := hide (pinv_down HG.out.cmp HG.out.oks HG.out.nod (by rw [HG.out.len]; exact hb) HE.out hij (by omega))
              have hai := HE.out.ai
              have hjb := HE.out.jb
              clear hz1 hz0 hc
              go_wp2
              go_roundw
              case rel => exact ⟨j - 1, by rw [show (j : Int) - 1 = ((j - 1 : Nat) : Int) by omega], by omega, HE2, HS⟩
              case measure => simp [intOf]; omega
            case false =>
              have HY := hide (hz0 rfl)
              clear hz1 hz0
              by_cases hij : i ≤ j
              · have hijz : ¬ (j : Int) < (i : Int) := by omega
                have hb1 := HE.out.jb
                have hb2 := HE.out.ij
                have hb3 := HE.out.ai
                have hci := HZ.out (by omega)
                have hcj := HY.out hij
                obtain ⟨hlt, hpi⟩ := pinv_swap (by rw [HG.out.len]; exact hb) HE.out hij (by omega) hcj (cmp_not HG.out.cmp HG.out.oks HG.out.nod (by rw [HG.out.len]; omega) (by rw [HG.out.len]; omega) (by omega) (by omega))
                have HP := hide hpi
                have i0 : (0 : Int) ≤ (i : Int) := by omega
                have i1 : (i : Int) < (n : Int) := by omega
                have i2 : (0 : Int) ≤ (j : Int) := by omega
                have i3 : (j : Int) < (n : Int) := by omega
                have hin : i < n := by omega
                have hjn : j < n := by omega
                have hne1 : i ≠ j := by omega
                have hne2 : j ≠ i := by omega
                clear hci hcj hpi
                have dI := HS.out.row.cell (j := i) (by rw [HG.out.len]; omega)
                have dJ := HS.out.row.cell (j := j) (by rw [HG.out.len]; omega)
                have fI := HS.out.row.frozen (i)
                have fJ := HS.out.row.frozen (j)
                obtain ⟨uJ, dU⟩ : ∃ u, (World.setCell _ _ _).cell? ⟨g, j, none⟩ = some u := ⟨_, (HS.out.row.set_ (i) (ys.getD (j) 0)).cell (j := j) (by rw [List.length_set, HG.out.len]; omega)⟩
                have HK := hide ((HS.out.swap HL.out hb (i := i) (j := j) ⟨by omega, by omega⟩ ⟨by omega, hb1⟩).drewN 1)
                generalize ys.getD (i) 0 = xi at dI dU HK
                generalize ys.getD (j) 0 = xj at dJ dU HK
                clear HZ HY HE HS
                go_wp2
                go_region
                go_wp2
                go_loopw [12, 13] (fun vi vj wr => ∃ (i j : Nat) (ys : List Int), vi = .int .i64 (i : Int) ∧ vj = .int .i64 (j : Int) ∧ Hid (PInv f a b i j ys) ∧ Hid (StS w g a b xs ys wr)) (fun vi vj _ => (intOf vj + 1 - intOf vi).toNat)
                case atStart => exact ⟨i + 1, j - 1, swap2 ys i j, by go_num, by rw [show (j : Int) - 1 = ((j - 1 : Nat) : Int) by omega], HP, HK⟩
                case round =>
                  clear HP HK HG hne1 hne2 hlt hb1 hb2 hb3 hijz hij
                  obtain ⟨i1, j1, ys, rfl, rfl, HE, HS⟩ := hrel
                  have HG := hide (HG0.out.seg HS.out.seg)
                  go_wp2
                  go_loopw [12] (fun v wr => ∃ i : Nat, v = .int .i64 (i : Int) ∧ i1 ≤ i ∧ Hid (PInv f a b i j1 ys) ∧ Hid (StS w g a b xs ys wr)) (fun v _ => b - (intOf v).toNat)
                  case atStart => exact ⟨i1, by go_num, Nat.le_refl _, HE, HS⟩
                  case round =>
                    clear HE HS
                    obtain ⟨i, rfl, hi0, HE, HS⟩ := hrel
                    go_upto_region 13 with fail
                    go_cut [120] (fun v wx => ∃ z : Bool, v = .bool z ∧ (z = true → i ≤ j1 ∧ f (ys.getD i 0) (ys.getD a 0) < 0) ∧ (z = false → i ≤ j1 → ¬ f (ys.getD i 0) (ys.getD a 0) < 0) ∧ Below wr.heap.size wr wx)
                    case first =>
                      by_cases hij : i ≤ j1
                      · have hijz : (i : Int) ≤ (j1 : Int) := by omega
                        have hjb := HE.out.jb
                        have hai := HE.out.ai
                        have i0 : (0 : Int) ≤ (i : Int) := by omega
                        have i1 : (i : Int) < (n : Int) := by omega
                        have i2 : (0 : Int) ≤ (a : Int) := by omega
                        have i3 : (a : Int) < (n : Int) := by omega
                        have cS := HS.out.row.cell (j := i) (by rw [HG.out.len]; omega)
                        have cT := HS.out.row.cell (j := a) (by rw [HG.out.len]; omega)
                        have HC := hide (fun (W : World) (hW : Below wr.heap.size wr W) => HF.out (ys.getD (i) 0) (ys.getD (a) 0) W (HG.out.at_ (by omega)) (HG.out.at_ (by omega)) (grown_trans HW.out (grown_of_below HS.out.grown hW)))
                        by_cases hcmp : f (ys.getD i 0) (ys.getD a 0) < 0
                        · have HCM := hide hcmp
                          generalize ys.getD (i) 0 = xv at cS HC hcmp
                          generalize ys.getD (a) 0 = yv at cT HC hcmp
                          generalize f xv yv = rr at HC hcmp
                          have hrd : decide (rr < 0) = true := decide_eq_true hcmp
                          have hne : Nonempty (InW fun W => Below wr.heap.size wr W) := ⟨⟨wr, Below.refl _ _⟩⟩
                          replace cS := inv_cell cS
                          replace cT := inv_cell cT
                          go_wp2_with fail
                          refine wp_region_inv (I := fun W => Below wr.heap.size wr W) (by kernel_rfl) (by kernel_rfl) (Below.refl _ _).drew ?_
                          repeat (go_big_quiet_step ((refine inv_call (inv_closed wr) (HC.out _ (InW.ok (I := fun W => Below wr.heap.size wr W) _)))))
                          refine wpQuiet_nil ?_
                          rintro _ ⟨⟨w9, h9⟩, rfl⟩
                          rename World => w9
                          have H9 := hide h9
                          clear h9 cS cT hne HC
                          go_wp2_with fail
                          go_meet
                          exact ⟨true, rfl, (fun _ => ⟨hij, (by have := HCM.out; omega)⟩), (fun h => absurd h (by decide)), H9.out⟩
                        · have HCM := hide hcmp
                          generalize ys.getD (i) 0 = xv at cS HC hcmp
                          generalize ys.getD (a) 0 = yv at cT HC hcmp
                          generalize f xv yv = rr at HC hcmp
                          have hrd : decide (rr < 0) = false := decide_eq_false hcmp
                          have hne : Nonempty (InW fun W => Below wr.heap.size wr W) := ⟨⟨wr, Below.refl _ _⟩⟩
                          replace cS := inv_cell cS
                          replace cT := inv_cell cT
                          go_wp2_with fail
                          refine wp_region_inv (I := fun W => Below wr.heap.size wr W) (by kernel_rfl) (by kernel_rfl) (Below.refl _ _).drew ?_
                          repeat (go_big_quiet_step ((refine inv_call (inv_closed wr) (HC.out _ (InW.ok (I := fun W => Below wr.heap.size wr W) _)))))
                          refine wpQuiet_nil ?_
                          rintro _ ⟨⟨w9, h9⟩, rfl⟩
                          rename World => w9
                          have H9 := hide h9
                          clear h9 cS cT hne HC
                          go_wp2_with fail
                          go_meet
                          exact ⟨false, rfl, (fun h => absurd h (by decide)), (fun _ _ => (by have := HCM.out; omega)), H9.out⟩
                      · have hijd : decide ((i : Int) ≤ (j1 : Int)) = false := by simpa using hij
                        go_wp2_with fail
                        go_quiet (fail)
                        go_wp2_with fail
                        go_meet
                        exact ⟨false, rfl, (fun h => absurd h (by decide)), (fun _ h => absurd h hij), below_drewN (Below.refl _ _) _⟩
                    case rest =>
                      obtain ⟨z, rfl, hz1, hz0, hb9⟩ := hcut
                      replace HS := hide (HS.out.below hb9)
                      clear hb9
                      cases z
                      case true =>
                        obtain ⟨hij, hc⟩ := hz1 rfl
                        have HE2 := hide (pinv_up HE.out hij hc)
                        have hjb := HE.out.jb
                        clear hz1 hz0 hc
                        go_wp2
                        go_roundw
                        case rel => exact ⟨i + 1, by go_num, by omega, HE2, HS⟩
                        case measure => simp [intOf]; omega
                      case false =>
                        have HZ := hide (hz0 rfl)
                        clear hz1 hz0
                        go_wp2
                        go_loopw [13] (fun v wr => ∃ j : Nat, v = .int .i64 (j : Int) ∧ j ≤ j1 ∧ Hid (PInv f a b i j ys) ∧ Hid (StS w g a b xs ys wr)) (fun v _ => (intOf v).toNat)
                        case atStart => exact ⟨j1, rfl, Nat.le_refl _, HE, HS⟩
                        case round =>
                          clear HE HS
                          obtain ⟨j, rfl, hjj, HE, HS⟩ := hrel
                          go_upto_region 15 with fail
                          go_cut [139] (fun v wx => ∃ z : Bool, v = .bool z ∧ (z = true → i ≤ j ∧ ¬ f (ys.getD j 0) (ys.getD a 0) < 0) ∧ (z = false → i ≤ j → f (ys.getD j 0) (ys.getD a 0) < 0) ∧ Below wr.heap.size wr wx)
                          case first =>
                            by_cases hij : i ≤ j
                            · have hijz : (i : Int) ≤ (j : Int) := by omega
                              have hjb := HE.out.jb
                              have hai := HE.out.ai
                              have i0 : (0 : Int) ≤ (j : Int) := by omega
                              have i1 : (j : Int) < (n : Int) := by omega
                              have i2 : (0 : Int) ≤ (a : Int) := by omega
                              have i3 : (a : Int) < (n : Int) := by omega
                              have cS := HS.out.row.cell (j := j) (by rw [HG.out.len]; omega)
                              have cT := HS.out.row.cell (j := a) (by rw [HG.out.len]; omega)
                              have HC := hide (fun (W : World) (hW : Below wr.heap.size wr W) => HF.out (ys.getD (j) 0) (ys.getD (a) 0) W (HG.out.at_ (by omega)) (HG.out.at_ (by omega)) (grown_trans HW.out (grown_of_below HS.out.grown hW)))
                              by_cases hcmp : f (ys.getD j 0) (ys.getD a 0) < 0
                              · have HCM := hide hcmp
                                generalize ys.getD (j) 0 = xv at cS HC hcmp
                                generalize ys.getD (a) 0 = yv at cT HC hcmp
                                generalize f xv yv = rr at HC hcmp
                                have hrd : decide (rr < 0) = true := decide_eq_true hcmp
                                have hne : Nonempty (InW fun W => Below wr.heap.size wr W) := ⟨⟨wr, Below.refl _ _⟩⟩
                                replace cS := inv_cell cS
                                replace cT := inv_cell cT
                                go_wp2_with fail
                                refine wp_region_inv (I := fun W => Below wr.heap.size wr W) (by kernel_rfl) (by kernel_rfl) (Below.refl _ _).drew ?_
                                repeat (go_big_quiet_step ((refine inv_call (inv_closed wr) (HC.out _ (InW.ok (I := fun W => Below wr.heap.size wr W) _)))))
                                refine wpQuiet_nil ?_
                                rintro _ ⟨⟨w9, h9⟩, rfl⟩
                                rename World => w9
                                have H9 := hide h9
                                clear h9 cS cT hne HC
                                go_wp2_with fail
                                go_meet
                                exact ⟨false, rfl, (fun h => absurd h (by decide)), (fun _ _ => (by have := HCM.out; omega)), H9.out⟩
                              · have HCM := hide hcmp
                                generalize ys.getD (j) 0 = xv at cS HC hcmp
                                generalize ys.getD (a) 0 = yv at cT HC hcmp
                                generalize f xv yv = rr at HC hcmp
                                have hrd : decide (rr < 0) = false := decide_eq_false hcmp
                                have hne : Nonempty (InW fun W => Below wr.heap.size wr W) := ⟨⟨wr, Below.refl _ _⟩⟩
                                replace cS := inv_cell cS
                                replace cT := inv_cell cT
                                go_wp2_with fail
                                refine wp_region_inv (I := fun W => Below wr.heap.size wr W) (by kernel_rfl) (by kernel_rfl) (Below.refl _ _).drew ?_
                                repeat (go_big_quiet_step ((refine inv_call (inv_closed wr) (HC.out _ (InW.ok (I := fun W => Below wr.heap.size wr W) _)))))
                                refine wpQuiet_nil ?_
                                rintro _ ⟨⟨w9, h9⟩, rfl⟩
                                rename World => w9
                                have H9 := hide h9
                                clear h9 cS cT hne HC
                                go_wp2_with fail
                                go_meet
                                exact ⟨true, rfl, (fun _ => ⟨hij, (by have := HCM.out; omega)⟩), (fun h => absurd h (by decide)), H9.out⟩
                            · have hijd : decide ((i : Int) ≤ (j : Int)) = false := by simpa using hij
                              go_wp2_with fail
                              go_quiet (fail)
                              go_wp2_with fail
                              go_meet
                              exact ⟨false, rfl, (fun h => absurd h (by decide)), (fun _ h => absurd h hij), below_drewN (Below.refl _ _) _⟩
                          case rest =>
                            obtain ⟨z, rfl, hz1, hz0, hb9⟩ := hcut
                            replace HS := hide (HS.out.below hb9)
                            clear hb9
                            cases z
                            case true =>
                              obtain ⟨hij, hc⟩ := hz1 rfl
                              have HE2 := hide (pinv_down HG.out.cmp HG.out.oks HG.out.nod (by rw [HG.out.len]; exact hb) HE.out hij (by omega))
                              have hai := HE.out.ai
                              have hjb := HE.out.jb
                              clear hz1 hz0 hc
                              go_wp2
                              go_roundw
                              case rel => exact ⟨j - 1, by rw [show (j : Int) - 1 = ((j - 1 : Nat) : Int) by omega], by omega, HE2, HS⟩
                              case measure => simp [intOf]; omega
                            case false =>
                              have HY := hide (hz0 rfl)
                              clear hz1 hz0
                              by_cases hij : i ≤ j
                              · have hijz : ¬ (j : Int) < (i : Int) := by omega
                                have hb1 := HE.out.jb
                                have hb2 := HE.out.ij
                                have hb3 := HE.out.ai
                                have hci := HZ.out (by omega)
                                have hcj := HY.out hij
                                obtain ⟨hlt, hpi⟩ := pinv_swap (by rw [HG.out.len]; exact hb) HE.out hij (by omega) hcj (cmp_not HG.out.cmp HG.out.oks HG.out.nod (by rw [HG.out.len]; omega) (by rw [HG.out.len]; omega) (by omega) (by omega))
                                have HP := hide hpi
                                have i0 : (0 : Int) ≤ (i : Int) := by omega
                                have i1 : (i : Int) < (n : Int) := by omega
                                have i2 : (0 : Int) ≤ (j : Int) := by omega
                                have i3 : (j : Int) < (n : Int) := by omega
                                have hin : i < n := by omega
                                have hjn : j < n := by omega
                                have hne1 : i ≠ j := by omega
                                have hne2 : j ≠ i := by omega
                                clear hci hcj hpi
                                have dI := HS.out.row.cell (j := i) (by rw [HG.out.len]; omega)
                                have dJ := HS.out.row.cell (j := j) (by rw [HG.out.len]; omega)
                                have fI := HS.out.row.frozen (i)
                                have fJ := HS.out.row.frozen (j)
                                obtain ⟨uJ, dU⟩ : ∃ u, (World.setCell _ _ _).cell? ⟨g, j, none⟩ = some u := ⟨_, (HS.out.row.set_ (i) (ys.getD (j) 0)).cell (j := j) (by rw [List.length_set, HG.out.len]; omega)⟩
                                have HK := hide ((HS.out.swap HL.out hb (i := i) (j := j) ⟨by omega, by omega⟩ ⟨by omega, hb1⟩).drewN 1)
                                generalize ys.getD (i) 0 = xi at dI dU HK
                                generalize ys.getD (j) 0 = xj at dJ dU HK
                                clear HZ HY HE HS
                                go_wp2
                                go_region
                                go_wp2
                                go_roundw
                                case rel => exact ⟨i + 1, j - 1, swap2 ys i j, by go_num, by rw [show (j : Int) - 1 = ((j - 1 : Nat) : Int) by omega], HP, HK⟩
                                case measure => simp [intOf]; omega
                              · have hijz : (j : Int) < (i : Int) := by omega
                                have hb1 := HE.out.jb
                                have hb2 := HE.out.ij
                                have hb3 := HE.out.ai
                                have i0 : (0 : Int) ≤ (j : Int) := by omega
                                have i1 : (j : Int) < (n : Int) := by omega
                                have i2 : (0 : Int) ≤ (a : Int) := by omega
                                have i3 : (a : Int) < (n : Int) := by omega
                                have hjn : j < n := by omega
                                have han : a < n := by omega
                                have HP := hide (pinv_end (by rw [HG.out.len]; exact hb) HE.out (by omega : j < i))
                                have dI := HS.out.row.cell (j := j) (by rw [HG.out.len]; omega)
                                have dJ := HS.out.row.cell (j := a) (by rw [HG.out.len]; omega)
                                have fI := HS.out.row.frozen (j)
                                have fJ := HS.out.row.frozen (a)
                                obtain ⟨uJ, dU⟩ : ∃ u, (World.setCell _ _ _).cell? ⟨g, a, none⟩ = some u := ⟨_, (HS.out.row.set_ (j) (ys.getD (a) 0)).cell (j := a) (by rw [List.length_set, HG.out.len]; omega)⟩
                                have HK := hide ((HS.out.swap HL.out hb (i := j) (j := a) ⟨by omega, hb1⟩ ⟨Nat.le_refl _, by omega⟩).drewN 1)
                                generalize ys.getD (j) 0 = xi at dI dU HK
                                generalize ys.getD (a) 0 = xj at dJ dU HK
                                clear HZ HY HE
                                go_wp2
                                go_region
                                go_wp2
                                go_ret2
                                exact ⟨swap2 ys j a, j, false, rfl, HK.out, ⟨HP.out.1, HP.out.2.1⟩, HP.out.2.2⟩
              · have hijz : (j : Int) < (i : Int) := by omega
                have hb1 := HE.out.jb
                have hb2 := HE.out.ij
                have hb3 := HE.out.ai
                have i0 : (0 : Int) ≤ (j : Int) := by omega
                have i1 : (j : Int) < (n : Int) := by omega
                have i2 : (0 : Int) ≤ (a : Int) := by omega
                have i3 : (a : Int) < (n : Int) := by omega
                have hjn : j < n := by omega
                have han : a < n := by omega
                have HP := hide (pinv_end (by rw [HG.out.len]; exact hb) HE.out (by omega : j < i))
                have dI := HS.out.row.cell (j := j) (by rw [HG.out.len]; omega)
                have dJ := HS.out.row.cell (j := a) (by rw [HG.out.len]; omega)
                have fI := HS.out.row.frozen (j)
                have fJ := HS.out.row.frozen (a)
                obtain ⟨uJ, dU⟩ : ∃ u, (World.setCell _ _ _).cell? ⟨g, a, none⟩ = some u := ⟨_, (HS.out.row.set_ (j) (ys.getD (a) 0)).cell (j := a) (by rw [List.length_set, HG.out.len]; omega)⟩
                have HK := hide ((HS.out.swap HL.out hb (i := j) (j := a) ⟨by omega, hb1⟩ ⟨Nat.le_refl _, by omega⟩).drewN 1)
                generalize ys.getD (j) 0 = xi at dI dU HK
                generalize ys.getD (a) 0 = xj at dJ dU HK
                clear HZ HY HE
                go_wp2
                go_region
                go_wp2
                go_ret2
                exact ⟨swap2 ys j a, j, true, rfl, HK.out, ⟨HP.out.1, HP.out.2.1⟩, HP.out.2.2⟩
end Go.Proofs.Ytfcmgmcidngjeaa
