/-
  Contract of the partial insertion sort in the library's pdqsort by a method value. Condition: the comparing method puts different elements in one order and writes nothing that was there; all ahead of the segment comes before it.
-/
import Derived.Test.YtfcmgmcidngjeaaProg
import Derived.Test.YtfcmgmcidngjeaaPds
import Derived.Deep.DeepCutAuto
namespace Go.Proofs.Ytfcmgmcidngjeaa
open Go.RowKit
set_option maxHeartbeats 16000000 in
set_option maxRecDepth 20000 in
theorem pis_any (w0 : World) (g : Nat) (kc : FuncId) (rv : Value) (f : Int → Int → Int) (ok : Int → Prop) (hf : CmpSaysM w0 g kc rv f ok) (n c a b : Nat) (hab : a + 1 < b) (hb : b ≤ n) (xs : List Int) (hG : RowG f ok n xs) (hlow : LowS f a b xs) (w : World) (hw : w0.grownBy w (some g)) (hx : IRow w g xs) :
    Calls Try.prog 53 #[.slice (some ⟨g, 0, none⟩) n c, .int .i64 (a : Int), .int .i64 (b : Int), .func (.func kc) #[rv] #[]] w fun e w' => ∃ (ys : List Int) (r : Bool), e = .returned (.bool r) ∧ StS w g a b xs ys w' ∧ (r = true → SortS f a b ys) := by
  have HF := hide hf.2
  have hcf := hf.1
  have hn := hG.le
  have HL := hide hG.len
  have HG0 := hide hG
  have HW := hide hw
  have HLow := hide hlow
  have HS0 := hide (StS.start (a := a) (b := b) hx)
  clear hf hx hG hw hlow
  go_enter Try.func53, Try.ntmps53
  go_wp2
  go_loopw [9, 10] (fun vi vs wr => ∃ (i s : Nat) (ys : List Int), vi = .int .i64 (i : Int) ∧ vs = .int .i64 (s : Int) ∧ s ≤ 5 ∧ a < i ∧ i ≤ b ∧ Hid (SortS f a i ys) ∧ Hid (StS w g a b xs ys wr)) (fun _ vs _ => 5 - (intOf vs).toNat)
  case atStart => exact ⟨a + 1, 0, xs, by go_num, rfl, by omega, by omega, by omega, hide sort_one, HS0⟩
  case round =>
    clear HS0
    obtain ⟨i0, s, ys, rfl, rfl, hs, hai0, hib0, HE, HS⟩ := hrel
    have HG := hide (HG0.out.seg HS.out.seg)
    by_cases hs5 : s < 5
    · have hs5z : (s : Int) < 5 := by omega
      go_wp2
      go_loopw [9] (fun v wr => ∃ i : Nat, v = .int .i64 (i : Int) ∧ i0 ≤ i ∧ i ≤ b ∧ Hid (SortS f a i ys) ∧ Hid (StS w g a b xs ys wr)) (fun v _ => b - (intOf v).toNat)
      case atStart => exact ⟨i0, rfl, Nat.le_refl _, hib0, HE, HS⟩
      case round =>
        clear HE HS
        obtain ⟨i, rfl, hii, hib, HE, HS⟩ := hrel
        obtain ⟨k, ek⟩ : ∃ k : Nat, (i : Int) - 1 = (k : Int) := ⟨i - 1, by omega⟩
        have hk : k < i ∧ i ≤ k + 1 := by omega
        go_upto_region 5 with fail
        go_cut [36] (fun v wx => ∃ z : Bool, v = .bool z ∧ (z = true → i < b ∧ ¬ f (ys.getD i 0) (ys.getD k 0) < 0) ∧ (z = false → i < b → f (ys.getD i 0) (ys.getD k 0) < 0) ∧ Below wr.heap.size wr wx)
        case first =>
          by_cases hij : i < b
          · have hijz : (i : Int) < (b : Int) := by omega
            have i0 : (0 : Int) ≤ (i : Int) := by omega
            have i1 : (i : Int) < (n : Int) := by omega
            have i2 : (0 : Int) ≤ (k : Int) := by omega
            have i3 : (k : Int) < (n : Int) := by omega
            have cS := HS.out.row.cell (j := i) (by rw [HG.out.len]; omega)
            have cT := HS.out.row.cell (j := k) (by rw [HG.out.len]; omega)
            have HC := hide (fun (W : World) (hW : Below wr.heap.size wr W) => HF.out (ys.getD (i) 0) (ys.getD (k) 0) W (HG.out.at_ (by omega)) (HG.out.at_ (by omega)) (grown_trans HW.out (grown_of_below HS.out.grown hW)))
            by_cases hcmp : f (ys.getD i 0) (ys.getD k 0) < 0
            · have HCM := hide hcmp
              generalize ys.getD (i) 0 = xv at cS HC hcmp
              generalize ys.getD (k) 0 = yv at cT HC hcmp
              generalize f xv yv = rr at HC hcmp
              have hrd : decide (rr < 0) = true := decide_eq_true hcmp
              have hne : Nonempty (InW fun W => Below wr.heap.size wr W) := ⟨⟨wr, Below.refl _ _⟩⟩
              replace cS := inv_cell cS
              replace cT := inv_cell cT
              go_wp2_with fail
              refine wp_region_inv (I := fun W => Below wr.heap.size wr W) (by kernel_rfl) (by kernel_rfl) (Below.refl _ _).drew ?_
              repeat (go_big_quiet_step ((refine inv_call (inv_closed wr) (HC.out _ (InW.ok (I := fun W => Below wr.heap.size wr W) _)))))
              refine wpQuiet_nil ?_
              rintro _ ⟨⟨w9, h9⟩, rfl⟩
              rename World => w9
              have H9 := hide h9
              clear h9 cS cT hne HC
              go_wp2_with fail
              go_meet
              exact ⟨false, rfl, (fun h => absurd h (by decide)), (fun _ _ => (by have := HCM.out; omega)), H9.out⟩
            · have HCM := hide hcmp
              generalize ys.getD (i) 0 = xv at cS HC hcmp
              generalize ys.getD (k) 0 = yv at cT HC hcmp
              generalize f xv yv = rr at HC hcmp
              have hrd : decide (rr < 0) = false := decide_eq_false hcmp
              have hne : Nonempty (InW fun W => Below wr.heap.size wr W) := ⟨⟨wr, Below.refl _ _⟩⟩
              replace cS := inv_cell cS
              replace cT := inv_cell cT
              go_wp2_with fail
              refine wp_region_inv (I := fun W => Below wr.heap.size wr W) (by kernel_rfl) (by kernel_rfl) (Below.refl _ _).drew ?_
              repeat (go_big_quiet_step ((refine inv_call (inv_closed wr) (HC.out _ (InW.ok (I := fun W => Below wr.heap.size wr W) _)))))
              refine wpQuiet_nil ?_
              rintro _ ⟨⟨w9, h9⟩, rfl⟩
              rename World => w9
              have H9 := hide h9
              clear h9 cS cT hne HC
              go_wp2_with fail
              go_meet
              exact ⟨true, rfl, (fun _ => ⟨hij, (by have := HCM.out; omega)⟩), (fun h => absurd h (by decide)), H9.out⟩
          · have hijd : decide ((i : Int) < (b : Int)) = false := by simpa using hij
            go_wp2_with fail
            go_quiet (fail)
            go_wp2_with fail
            go_meet
            exact ⟨false, rfl, (fun h => absurd h (by decide)), (fun _ h => absurd h hij), below_drewN (Below.refl _ _) _⟩
        case rest =>
          obtain ⟨z, rfl, hz1, hz0, hb9⟩ := hcut
          replace HS := hide (HS.out.below hb9)
          clear hb9
          cases z
          case true =>
            obtain ⟨hij, hc⟩ := hz1 rfl
            have HE2 : Hid (SortS f a (i + 1) ys) := hide (sort_more HG.out.cmp HG.out.oks (by omega) (by rw [HG.out.len]; omega) HE.out (by rw [show i - 1 = k by omega]; exact cmp_not HG.out.cmp HG.out.oks HG.out.nod (by rw [HG.out.len]; omega) (by rw [HG.out.len]; omega) (by omega) (by omega)))
            clear hz1 hz0 hc
            go_wp2
            go_roundw
            case rel => exact ⟨i + 1, by go_num, by omega, by omega, HE2, HS⟩
            case measure => simp [intOf]; omega
          case false =>
            have HZ := hide (hz0 rfl)
            clear hz1 hz0
            by_cases hibe : i = b
            · have hbe : ((i : Int) == (b : Int)) = true := by simp; omega
              have HE2 : Hid (SortS f a b ys) := hide (by have h := HE.out; rwa [hibe] at h)
              clear hibe
              go_wp2
              go_ret
              first | exact ⟨ys, true, rfl, HS.out, fun _ => HE2.out⟩ | exact ⟨ys, .inr ⟨rfl, HS.out, HE2.out⟩⟩
            · have hbe : ((i : Int) == (b : Int)) = false := by simp; omega
              by_cases h50 : b < a + 50
              · have h50z : (b : Int) - (a : Int) < 50 := by omega
                go_wp2
                go_ret
                first | exact ⟨ys, false, rfl, HS.out, fun h => absurd h (by decide)⟩ | exact ⟨ys, .inl ⟨rfl, HS.out⟩⟩
              · have h50z : ¬ (b : Int) - (a : Int) < 50 := by omega
                have hib2 : i < b := by omega
                have i0 : (0 : Int) ≤ (i : Int) := by omega
                have i1 : (i : Int) < (n : Int) := by omega
                have i2 : (0 : Int) ≤ (k : Int) := by omega
                have i3 : (k : Int) < (n : Int) := by omega
                have hne1 : i ≠ k := by omega
                have hne2 : k ≠ i := by omega
                have hIn : i < n := by omega
                have hKn : k < n := by omega
                have dI := HS.out.row.cell (j := i) (by rw [HG.out.len]; omega)
                have dJ := HS.out.row.cell (j := k) (by rw [HG.out.len]; omega)
                have fI := HS.out.row.frozen (i)
                have fJ := HS.out.row.frozen (k)
                obtain ⟨uJ, dU⟩ : ∃ u, (World.setCell _ _ _).cell? ⟨g, k, none⟩ = some u := ⟨_, (HS.out.row.set_ (i) (ys.getD (k) 0)).cell (j := k) (by rw [List.length_set, HG.out.len]; omega)⟩
                have HK := hide ((HS.out.swap HL.out hb (i := i) (j := k) ⟨by omega, by omega⟩ ⟨by omega, by omega⟩).drewN 1)
                generalize ys.getD (i) 0 = xi at dI dU HK
                generalize ys.getD (k) 0 = xj at dJ dU HK
                have HLI : Hid (a + 1 < i → LInv f a i k (swap2 ys i k)) := hide (fun h => by have h2 := linv_start h (by rw [HG.out.len]; omega) HE.out; rwa [show i - 1 = k by omega] at h2)
                have HKG := hide (HG0.out.seg HK.out.seg)
                have HSO : Hid (i = a + 1 → SortS f a i (swap2 ys i k)) := hide (fun h => by rw [h]; exact sort_one)
                clear HE HZ HS
                go_wp2
                go_region
                generalize hys : swap2 ys i k = zs at HK HKG HLI HSO
                clear hys dI dJ dU fI fJ hbe
                go_upto_if 65 with fail
                go_cut [] (fun wx => ∃ us : List Int, Hid (SortS f a i us) ∧ Hid (StS w g a b xs us wx))
                case first =>
                  by_cases h2 : a + 2 ≤ i
                  · have h2z : (2 : Int) ≤ (i : Int) - (a : Int) := by omega
                    have HLI2 := hide (HLI.out (by omega))
                    clear HLI HSO
                    go_wp2
                    go_loopw [11] (fun v wr => ∃ (j : Nat) (ts : List Int), v = .int .i64 (j : Int) ∧ a ≤ j ∧ j < i ∧ Hid (LInv f a i j ts) ∧ Hid (StS w g a b xs ts wr)) (fun v _ => (intOf v).toNat)
                    case atStart => exact ⟨k, zs, by first | rfl | (congr 1; omega), by omega, by omega, HLI2, HK⟩
                    case round =>
                      clear HLI2 HK HKG
                      obtain ⟨j, ts, rfl, haj, hji, HE, HS⟩ := hrel
                      have HG := hide (HG0.out.seg HS.out.seg)
                      by_cases hj1 : 1 ≤ j
                      · have hj1z : (1 : Int) ≤ (j : Int) := by omega
                        obtain ⟨l, el⟩ : ∃ l : Nat, (j : Int) - 1 = (l : Int) := ⟨j - 1, by omega⟩
                        have hl : l < j ∧ j ≤ l + 1 := by omega
                        have i0 : (0 : Int) ≤ (j : Int) := by omega
                        have i1 : (j : Int) < (n : Int) := by omega
                        have i2 : (0 : Int) ≤ (l : Int) := by omega
                        have i3 : (l : Int) < (n : Int) := by omega
                        have cS := HS.out.row.cell (j := j) (by rw [HG.out.len]; omega)
                        have cT := HS.out.row.cell (j := l) (by rw [HG.out.len]; omega)
                        have HC := hide (fun (W : World) (hW : Below wr.heap.size wr W) => HF.out (ts.getD (j) 0) (ts.getD (l) 0) W (HG.out.at_ (by omega)) (HG.out.at_ (by omega)) (grown_trans HW.out (grown_of_below HS.out.grown hW)))
                        by_cases hcmp : f (ts.getD j 0) (ts.getD l 0) < 0
                        · have haj2 : a < j := by
                            rcases Nat.lt_or_ge a j with h | h
                            · exact h
                            · exact absurd hcmp (HG.out.cmp.asy _ _ (HG.out.at_ (by omega)) (HG.out.at_ (by omega)) ((HLow.out.seg HS.out.seg HG0.out.nod (by rw [HL.out]; exact hb) (Nat.le_refl _) (Nat.le_refl _)) l j (by omega) (by omega) (by omega)))
                          have HN : Hid (LInv f a i l (swap2 ts j l)) := hide (by have h := linv_step (by rw [HG.out.len]; omega) haj2 hji HE.out (by rw [show j - 1 = l by omega]; exact hcmp); rwa [show j - 1 = l by omega] at h)
                          generalize ts.getD (j) 0 = xv at cS HC hcmp
                          generalize ts.getD (l) 0 = yv at cT HC hcmp
                          generalize f xv yv = rr at HC hcmp
                          have hrd : decide (rr < 0) = true := decide_eq_true hcmp
                          have hne : Nonempty (InW fun W => Below wr.heap.size wr W) := ⟨⟨wr, Below.refl _ _⟩⟩
                          replace cS := inv_cell cS
                          replace cT := inv_cell cT
                          go_wp2_with fail
                          refine wp_region_inv (I := fun W => Below wr.heap.size wr W) (by kernel_rfl) (by kernel_rfl) (Below.refl _ _).drew ?_
                          repeat (go_big_quiet_step ((refine inv_call (inv_closed wr) (HC.out _ (InW.ok (I := fun W => Below wr.heap.size wr W) _)))))
                          refine wpQuiet_nil ?_
                          rintro _ ⟨⟨w9, h9⟩, rfl⟩
                          rename World => w9
                          have H9 := hide h9
                          clear h9 cS cT hne HC
                          have S9 := hide (HS.out.below H9.out)
                          clear HE HS
                          have hne1 : j ≠ l := by omega
                          have hne2 : l ≠ j := by omega
                          have hIn : j < n := by omega
                          have hKn : l < n := by omega
                          have dI := S9.out.row.cell (j := j) (by rw [HG.out.len]; omega)
                          have dJ := S9.out.row.cell (j := l) (by rw [HG.out.len]; omega)
                          have fI := S9.out.row.frozen (j)
                          have fJ := S9.out.row.frozen (l)
                          obtain ⟨uJ, dU⟩ : ∃ u, (World.setCell _ _ _).cell? ⟨g, l, none⟩ = some u := ⟨_, (S9.out.row.set_ (j) (ts.getD (l) 0)).cell (j := l) (by rw [List.length_set, HG.out.len]; omega)⟩
                          have HK := hide ((S9.out.swap HL.out hb (i := j) (j := l) ⟨by omega, by omega⟩ ⟨by omega, by omega⟩).drewN 1)
                          generalize ts.getD (j) 0 = xi at dI dU HK
                          generalize ts.getD (l) 0 = xj at dJ dU HK
                          go_wp2
                          go_region
                          go_wp2
                          go_roundw
                          case rel => exact ⟨l, swap2 ts j l, by first | rfl | (congr 1; omega), by omega, by omega, HN, HK⟩
                          case measure => simp [intOf]; omega
                        · have HN : Hid (SortS f a i ts) := hide (linv_stop HG.out.cmp HG.out.oks (by rw [HG.out.len]; omega) hji HE.out (fun h => by rw [show j - 1 = l by omega]; exact cmp_not HG.out.cmp HG.out.oks HG.out.nod (by rw [HG.out.len]; omega) (by rw [HG.out.len]; omega) (by omega) hcmp))
                          generalize ts.getD (j) 0 = xv at cS HC hcmp
                          generalize ts.getD (l) 0 = yv at cT HC hcmp
                          generalize f xv yv = rr at HC hcmp
                          have hrd : decide (rr < 0) = false := decide_eq_false hcmp
                          have hne : Nonempty (InW fun W => Below wr.heap.size wr W) := ⟨⟨wr, Below.refl _ _⟩⟩
                          replace cS := inv_cell cS
                          replace cT := inv_cell cT
                          go_wp2_with fail
                          refine wp_region_inv (I := fun W => Below wr.heap.size wr W) (by kernel_rfl) (by kernel_rfl) (Below.refl _ _).drew ?_
                          repeat (go_big_quiet_step ((refine inv_call (inv_closed wr) (HC.out _ (InW.ok (I := fun W => Below wr.heap.size wr W) _)))))
                          refine wpQuiet_nil ?_
                          rintro _ ⟨⟨w9, h9⟩, rfl⟩
                          rename World => w9
                          have H9 := hide h9
                          clear h9 cS cT hne HC
                          have S9 := hide (HS.out.below H9.out)
                          go_wp2_with fail
                          go_meet
                          exact ⟨ts, HN, S9⟩
                      · have hj1z : ¬ (1 : Int) ≤ (j : Int) := by omega
                        have HN : Hid (SortS f a i ts) := hide (linv_stop HG.out.cmp HG.out.oks (by rw [HG.out.len]; omega) hji HE.out (fun h => by omega))
                        go_wp2_with fail
                        go_meet
                        exact ⟨ts, HN, HS⟩
                  · have h2z : ¬ (2 : Int) ≤ (i : Int) - (a : Int) := by omega
                    go_wp2_with fail
                    go_meet
                    exact ⟨zs, hide (HSO.out (by omega)), HK⟩
                case rest =>
                  obtain ⟨us, HE3, HS3⟩ := hcut
                  clear HLI HSO HK HKG
                  by_cases h3 : i + 2 ≤ b
                  · have h3z : (2 : Int) ≤ (b : Int) - (i : Int) := by omega
                    go_wp2
                    go_loopw [12] (fun v wr => ∃ (j : Nat) (ts : List Int), v = .int .i64 (j : Int) ∧ i < j ∧ j ≤ b ∧ Hid (SortS f a i ts) ∧ Hid (StS w g a b xs ts wr)) (fun v _ => b - (intOf v).toNat)
                    case atStart => exact ⟨i + 1, us, by go_num, by omega, by omega, HE3, HS3⟩
                    case round =>
                      clear HE3 HS3
                      obtain ⟨j, ts, rfl, hij, hjb, HE, HS⟩ := hrel
                      have HG := hide (HG0.out.seg HS.out.seg)
                      by_cases hj1 : j < b
                      · have hj1z : (j : Int) < (b : Int) := by omega
                        obtain ⟨l, el⟩ : ∃ l : Nat, (j : Int) - 1 = (l : Int) := ⟨j - 1, by omega⟩
                        have hl : l < j ∧ j ≤ l + 1 := by omega
                        have i0 : (0 : Int) ≤ (j : Int) := by omega
                        have i1 : (j : Int) < (n : Int) := by omega
                        have i2 : (0 : Int) ≤ (l : Int) := by omega
                        have i3 : (l : Int) < (n : Int) := by omega
                        have cS := HS.out.row.cell (j := j) (by rw [HG.out.len]; omega)
                        have cT := HS.out.row.cell (j := l) (by rw [HG.out.len]; omega)
                        have HC := hide (fun (W : World) (hW : Below wr.heap.size wr W) => HF.out (ts.getD (j) 0) (ts.getD (l) 0) W (HG.out.at_ (by omega)) (HG.out.at_ (by omega)) (grown_trans HW.out (grown_of_below HS.out.grown hW)))
                        by_cases hcmp : f (ts.getD j 0) (ts.getD l 0) < 0
                        · have HN : Hid (SortS f a i (swap2 ts j l)) := hide (sort_out HE.out (seg_swap (a := i) (b := b) (by rw [HG.out.len]; exact hb) ⟨by omega, by omega⟩ ⟨by omega, by omega⟩) (.inl (Nat.le_refl _)))
                          generalize ts.getD (j) 0 = xv at cS HC hcmp
                          generalize ts.getD (l) 0 = yv at cT HC hcmp
                          generalize f xv yv = rr at HC hcmp
                          have hrd : decide (rr < 0) = true := decide_eq_true hcmp
                          have hne : Nonempty (InW fun W => Below wr.heap.size wr W) := ⟨⟨wr, Below.refl _ _⟩⟩
                          replace cS := inv_cell cS
                          replace cT := inv_cell cT
                          go_wp2_with fail
                          refine wp_region_inv (I := fun W => Below wr.heap.size wr W) (by kernel_rfl) (by kernel_rfl) (Below.refl _ _).drew ?_
                          repeat (go_big_quiet_step ((refine inv_call (inv_closed wr) (HC.out _ (InW.ok (I := fun W => Below wr.heap.size wr W) _)))))
                          refine wpQuiet_nil ?_
                          rintro _ ⟨⟨w9, h9⟩, rfl⟩
                          rename World => w9
                          have H9 := hide h9
                          clear h9 cS cT hne HC
                          have S9 := hide (HS.out.below H9.out)
                          clear HE HS
                          have hne1 : j ≠ l := by omega
                          have hne2 : l ≠ j := by omega
                          have hIn : j < n := by omega
                          have hKn : l < n := by omega
                          have dI := S9.out.row.cell (j := j) (by rw [HG.out.len]; omega)
                          have dJ := S9.out.row.cell (j := l) (by rw [HG.out.len]; omega)
                          have fI := S9.out.row.frozen (j)
                          have fJ := S9.out.row.frozen (l)
                          obtain ⟨uJ, dU⟩ : ∃ u, (World.setCell _ _ _).cell? ⟨g, l, none⟩ = some u := ⟨_, (S9.out.row.set_ (j) (ts.getD (l) 0)).cell (j := l) (by rw [List.length_set, HG.out.len]; omega)⟩
                          have HK := hide ((S9.out.swap HL.out hb (i := j) (j := l) ⟨by omega, by omega⟩ ⟨by omega, by omega⟩).drewN 1)
                          generalize ts.getD (j) 0 = xi at dI dU HK
                          generalize ts.getD (l) 0 = xj at dJ dU HK
                          go_wp2
                          go_region
                          go_wp2
                          go_roundw
                          case rel => exact ⟨j + 1, swap2 ts j l, by go_num, by omega, by omega, HN, HK⟩
                          case measure => simp [intOf]; omega
                        · generalize ts.getD (j) 0 = xv at cS HC hcmp
                          generalize ts.getD (l) 0 = yv at cT HC hcmp
                          generalize f xv yv = rr at HC hcmp
                          have hrd : decide (rr < 0) = false := decide_eq_false hcmp
                          have hne : Nonempty (InW fun W => Below wr.heap.size wr W) := ⟨⟨wr, Below.refl _ _⟩⟩
                          replace cS := inv_cell cS
                          replace cT := inv_cell cT
                          go_wp2_with fail
                          refine wp_region_inv (I := fun W => Below wr.heap.size wr W) (by kernel_rfl) (by kernel_rfl) (Below.refl _ _).drew ?_
                          repeat (go_big_quiet_step ((refine inv_call (inv_closed wr) (HC.out _ (InW.ok (I := fun W => Below wr.heap.size wr W) _)))))
                          refine wpQuiet_nil ?_
                          rintro _ ⟨⟨w9, h9⟩, rfl⟩
                          rename World => w9
                          have H9 := hide h9
                          clear h9 cS cT hne HC
                          have S9 := hide (HS.out.below H9.out)
                          go_wp2
                          go_roundw
                          case rel => exact ⟨i, s + 1, ts, rfl, by go_num, by omega, by omega, by omega, HE, S9⟩
                          case measure => simp [intOf]; omega
                      · have hj1z : ¬ (j : Int) < (b : Int) := by omega
                        go_wp2
                        go_roundw
                        case rel => exact ⟨i, s + 1, ts, rfl, by go_num, by omega, by omega, by omega, HE, HS⟩
                        case measure => simp [intOf]; omega
                  · have h3z : ¬ (2 : Int) ≤ (b : Int) - (i : Int) := by omega
                    go_wp2
                    go_roundw
                    case rel => exact ⟨i, s + 1, us, rfl, by go_num, by omega, by omega, by omega, HE3, HS3⟩
                    case measure => simp [intOf]; omega
    · have hs5z : ¬ (s : Int) < 5 := by omega
      go_wp2
      go_ret
      first | exact ⟨ys, false, rfl, HS.out, fun h => absurd h (by decide)⟩ | exact ⟨ys, .inl ⟨rfl, HS.out⟩⟩
end Go.Proofs.Ytfcmgmcidngjeaa
