/-
  Contracts of sinking in a heap and of heap sort in the library's pdqsort by a method value. Condition: the comparing method puts different elements in one order and writes nothing that was there.
-/
import Derived.Test.YtfcmgmcidngjeaaProg
import Derived.Test.YtfcmgmcidngjeaaPds
namespace Go.Proofs.Ytfcmgmcidngjeaa
open Go.RowKit
set_option maxHeartbeats 6400000 in
set_option maxRecDepth 20000 in
theorem sift_any (w0 : World) (g : Nat) (kc : FuncId) (rv : Value) (f : Int → Int → Int) (ok : Int → Prop) (hf : CmpSaysM w0 g kc rv f ok) (n c a lo hi : Nat) (hlo : lo ≤ hi) (hb : a + hi ≤ n) (xs : List Int) (hG : RowG f ok n xs) (hh : HeapS f a (lo + 1) hi xs) (w : World) (hw : w0.grownBy w (some g)) (hx : IRow w g xs) :
    Calls Try.prog 61 #[.slice (some ⟨g, 0, none⟩) n c, .int .i64 (lo : Int), .int .i64 (hi : Int), .int .i64 (a : Int), .func (.func kc) #[rv] #[]] w fun e w' => ∃ ys, e = .returned (.tuple #[]) ∧ StS w g a (a + hi) xs ys w' ∧ HeapS f a lo hi ys := by
  have HF := hide hf.2
  have hcf := hf.1
  have hn := hG.le
  have HL := hide hG.len
  have HX0 := hide hx
  have HG0 := hide hG
  have HH := hide hh
  have HW := hide hw
  clear hf hx hG hh hw
  go_enter Try.func61, Try.ntmps61
  go_wp2
  go_loopw [10] (fun s wr => ∃ (r : Nat) (ys : List Int), s = .int .i64 (r : Int) ∧ r ≤ hi ∧ Hid (HeapX f a lo hi r ys) ∧ Hid (StS w g a (a + hi) xs ys wr)) (fun s _ => hi - (intOf s).toNat)
  case atStart => exact ⟨lo, xs, rfl, hlo, hide (heapX_start HH.out), hide (StS.start HX0.out)⟩
  case round =>
    obtain ⟨r, ys, rfl, hr, HE, HS⟩ := hrel
    have HG := hide (HG0.out.seg HS.out.seg)
    by_cases h0 : 2 * r + 1 < hi
    · have h0z : ¬ ((hi : Int) ≤ 2 * (r : Int) + 1) := by omega
      by_cases h1 : 2 * r + 2 < hi
      · have h1z : 2 * (r : Int) + 1 + 1 < (hi : Int) := by omega
        obtain ⟨p, ep⟩ : ∃ p : Nat, (a : Int) + (2 * (r : Int) + 1) = (p : Int) := ⟨a + (2 * r + 1), by omega⟩
        have HP : Hid (a + (2 * r + 1) = p ∧ a + (2 * r + 2) = p + 1) := hide (by omega)
        have i0 : (0 : Int) ≤ (p : Int) := by omega
        have i1 : (p : Int) < (n : Int) := by omega
        have i2 : (0 : Int) ≤ (p : Int) + 1 := by omega
        have i3 : (p : Int) + 1 < (n : Int) := by omega
        have cS := HS.out.row.cell (j := p) (by rw [HG.out.len]; omega)
        have cT := HS.out.row.cell (j := p + 1) (by rw [HG.out.len]; omega)
        have HC := hide (fun (W : World) (hW : Below wr.heap.size wr W) => HF.out (ys.getD (p) 0) (ys.getD (p + 1) 0) W (HG.out.at_ (by omega)) (HG.out.at_ (by omega)) (grown_trans HW.out (grown_of_below HS.out.grown hW)))
        by_cases hcmp : f (ys.getD p 0) (ys.getD (p + 1) 0) < 0
        · have HT : Hid (TopKid f a hi r (2 * r + 2) ys) := hide (topKid_two h1 (by rw [HP.out.1, HP.out.2]; exact hcmp))
          generalize ys.getD (p) 0 = xv at cS HC hcmp
          generalize ys.getD (p + 1) 0 = yv at cT HC hcmp
          generalize f xv yv = rr at HC hcmp
          have hne : Nonempty (InW fun W => Below wr.heap.size wr W) := ⟨⟨wr, Below.refl _ _⟩⟩
          replace cS := inv_cell cS
          replace cT := inv_cell cT
          go_wp2_with fail
          refine wp_region_inv (I := fun W => Below wr.heap.size wr W) (by kernel_rfl) (by kernel_rfl) (Below.refl _ _).drew ?_
          repeat (go_big_quiet_step ((refine inv_call (inv_closed wr) (HC.out _ (InW.ok (I := fun W => Below wr.heap.size wr W) _)))))
          refine wpQuiet_nil ?_
          rintro _ ⟨⟨w9, h9⟩, rfl⟩
          rename World => w9
          have H9 := hide h9
          clear h9 cS cT hne HC
          have S9 := hide (HS.out.below H9.out)
          clear HS i0 i1 i2 i3 ep
          go_wp2_with fail
          obtain ⟨q, eq⟩ : ∃ q : Nat, (a : Int) + (r : Int) = (q : Int) := ⟨a + r, by omega⟩
          have hq : a + r = q := by omega
          obtain ⟨p2, ep2⟩ : ∃ p2 : Nat, (a : Int) + (2 * (r : Int) + 1 + 1) = (p2 : Int) := ⟨a + (2 * r + 2), by omega⟩
          have hp2 : a + (2 * r + 2) = p2 := by omega
          have j0 : (0 : Int) ≤ (q : Int) := by omega
          have j1 : (q : Int) < (n : Int) := by omega
          have j2 : (0 : Int) ≤ (p2 : Int) := by omega
          have j3 : (p2 : Int) < (n : Int) := by omega
          have hqp : q < p2 := by omega
          have cS := S9.out.row.cell (j := q) (by rw [HG.out.len]; omega)
          have cT := S9.out.row.cell (j := p2) (by rw [HG.out.len]; omega)
          have HC := hide (fun (W : World) (hW : Below w9.heap.size w9 W) => HF.out (ys.getD (q) 0) (ys.getD (p2) 0) W (HG.out.at_ (by omega)) (HG.out.at_ (by omega)) (grown_trans HW.out (grown_of_below S9.out.grown hW)))
          have HQ := hide hq
          have HP2 := hide hp2
          clear hq hp2
          by_cases hcmp : f (ys.getD q 0) (ys.getD p2 0) < 0
          · have HX : Hid (HeapX f a lo hi (2 * r + 2) (swap2 ys q p2)) := hide (by have h := heapX_sink (by rw [HG.out.len]; omega) HE.out HT.out (by rw [HQ.out, HP2.out]; exact hcmp); rw [HQ.out, HP2.out] at h; exact h)
            generalize ys.getD (q) 0 = xv at cS HC hcmp
            generalize ys.getD (p2) 0 = yv at cT HC hcmp
            generalize f xv yv = rr at HC hcmp
            have hne : Nonempty (InW fun W => Below w9.heap.size w9 W) := ⟨⟨w9, Below.refl _ _⟩⟩
            replace cS := inv_cell cS
            replace cT := inv_cell cT
            go_wp2_with fail
            refine wp_region_inv (I := fun W => Below w9.heap.size w9 W) (by kernel_rfl) (by kernel_rfl) (Below.refl _ _).drew ?_
            repeat (go_big_quiet_step ((refine inv_call (inv_closed w9) (HC.out _ (InW.ok (I := fun W => Below w9.heap.size w9 W) _)))))
            refine wpQuiet_nil ?_
            rintro _ ⟨⟨w7, h9⟩, rfl⟩
            rename World => w7
            have H7 := hide h9
            clear h9 cS cT hne HC
            have S7 := hide (S9.out.below H7.out)
            have dI := S7.out.row.cell (j := q) (by rw [HG.out.len]; omega)
            have dJ := S7.out.row.cell (j := p2) (by rw [HG.out.len]; omega)
            have fI := S7.out.row.frozen (q)
            have fJ := S7.out.row.frozen (p2)
            obtain ⟨uJ, dU⟩ : ∃ u, (World.setCell _ _ _).cell? ⟨g, p2, none⟩ = some u := ⟨_, (S7.out.row.set_ (q) (ys.getD (p2) 0)).cell (j := p2) (by rw [List.length_set, HG.out.len]; omega)⟩
            have HK := hide ((S7.out.swap HL.out (by omega) (i := q) (j := p2) ⟨by have := HQ.out; omega, by have := HP2.out; have := HT.out.2.1; omega⟩ ⟨by have := HP2.out; omega, by have := HP2.out; have := HT.out.2.1; omega⟩).drewN 1)
            generalize ys.getD (q) 0 = xi at dI dU HK
            generalize ys.getD (p2) 0 = xj at dJ dU HK
            have hqp1 : q ≠ p2 := by omega
            have hqp2 : p2 ≠ q := by omega
            go_wp2
            go_region
            go_wp2
            go_roundw
            case rel => exact ⟨2 * r + 2, swap2 ys q p2, by go_num, by have := HT.out.2.1; omega, HX, HK⟩
            case measure => have := HT.out.2.1; simp [intOf]; omega
          · have HX : Hid (HeapS f a lo hi ys) := hide (heapX_stop HG.out.cmp HG.out.oks (by rw [HG.out.len]; omega) HE.out HT.out (by rw [HQ.out, HP2.out]; exact cmp_not HG.out.cmp HG.out.oks HG.out.nod (by rw [HG.out.len]; omega) (by rw [HG.out.len]; omega) (by omega) hcmp))
            generalize ys.getD (q) 0 = xv at cS HC hcmp
            generalize ys.getD (p2) 0 = yv at cT HC hcmp
            generalize f xv yv = rr at HC hcmp
            have hrd : decide (rr < 0) = false := decide_eq_false hcmp
            have hne : Nonempty (InW fun W => Below w9.heap.size w9 W) := ⟨⟨w9, Below.refl _ _⟩⟩
            replace cS := inv_cell cS
            replace cT := inv_cell cT
            go_wp2_with fail
            refine wp_region_inv (I := fun W => Below w9.heap.size w9 W) (by kernel_rfl) (by kernel_rfl) (Below.refl _ _).drew ?_
            repeat (go_big_quiet_step ((refine inv_call (inv_closed w9) (HC.out _ (InW.ok (I := fun W => Below w9.heap.size w9 W) _)))))
            refine wpQuiet_nil ?_
            rintro _ ⟨⟨w7, h9⟩, rfl⟩
            rename World => w7
            have H7 := hide h9
            clear h9 cS cT hne HC
            have S7 := hide (S9.out.below H7.out)
            go_wp2
            (try simp only [Exit.inBlock, Exit.then])
            refine bodyPost_ret (results_none rfl _ _ _) rfl ?_
            exact ⟨ys, rfl, S7.out, HX.out⟩
        · have HT : Hid (TopKid f a hi r (2 * r + 1) ys) := hide (topKid_fst h1 (by rw [HP.out.1, HP.out.2]; exact cmp_not HG.out.cmp HG.out.oks HG.out.nod (by rw [HG.out.len]; omega) (by rw [HG.out.len]; omega) (by omega) hcmp))
          generalize ys.getD (p) 0 = xv at cS HC hcmp
          generalize ys.getD (p + 1) 0 = yv at cT HC hcmp
          generalize f xv yv = rr at HC hcmp
          have hne : Nonempty (InW fun W => Below wr.heap.size wr W) := ⟨⟨wr, Below.refl _ _⟩⟩
          replace cS := inv_cell cS
          replace cT := inv_cell cT
          go_wp2_with fail
          refine wp_region_inv (I := fun W => Below wr.heap.size wr W) (by kernel_rfl) (by kernel_rfl) (Below.refl _ _).drew ?_
          repeat (go_big_quiet_step ((refine inv_call (inv_closed wr) (HC.out _ (InW.ok (I := fun W => Below wr.heap.size wr W) _)))))
          refine wpQuiet_nil ?_
          rintro _ ⟨⟨w9, h9⟩, rfl⟩
          rename World => w9
          have H9 := hide h9
          clear h9 cS cT hne HC
          have S9 := hide (HS.out.below H9.out)
          clear HS i0 i1 i2 i3 ep
          go_wp2_with fail
          obtain ⟨q, eq⟩ : ∃ q : Nat, (a : Int) + (r : Int) = (q : Int) := ⟨a + r, by omega⟩
          have hq : a + r = q := by omega
          obtain ⟨p2, ep2⟩ : ∃ p2 : Nat, (a : Int) + (2 * (r : Int) + 1) = (p2 : Int) := ⟨a + (2 * r + 1), by omega⟩
          have hp2 : a + (2 * r + 1) = p2 := by omega
          have j0 : (0 : Int) ≤ (q : Int) := by omega
          have j1 : (q : Int) < (n : Int) := by omega
          have j2 : (0 : Int) ≤ (p2 : Int) := by omega
          have j3 : (p2 : Int) < (n : Int) := by omega
          have hqp : q < p2 := by omega
          have cS := S9.out.row.cell (j := q) (by rw [HG.out.len]; omega)
          have cT := S9.out.row.cell (j := p2) (by rw [HG.out.len]; omega)
          have HC := hide (fun (W : World) (hW : Below w9.heap.size w9 W) => HF.out (ys.getD (q) 0) (ys.getD (p2) 0) W (HG.out.at_ (by omega)) (HG.out.at_ (by omega)) (grown_trans HW.out (grown_of_below S9.out.grown hW)))
          have HQ := hide hq
          have HP2 := hide hp2
          clear hq hp2
          by_cases hcmp : f (ys.getD q 0) (ys.getD p2 0) < 0
          · have HX : Hid (HeapX f a lo hi (2 * r + 1) (swap2 ys q p2)) := hide (by have h := heapX_sink (by rw [HG.out.len]; omega) HE.out HT.out (by rw [HQ.out, HP2.out]; exact hcmp); rw [HQ.out, HP2.out] at h; exact h)
            generalize ys.getD (q) 0 = xv at cS HC hcmp
            generalize ys.getD (p2) 0 = yv at cT HC hcmp
            generalize f xv yv = rr at HC hcmp
            have hne : Nonempty (InW fun W => Below w9.heap.size w9 W) := ⟨⟨w9, Below.refl _ _⟩⟩
            replace cS := inv_cell cS
            replace cT := inv_cell cT
            go_wp2_with fail
            refine wp_region_inv (I := fun W => Below w9.heap.size w9 W) (by kernel_rfl) (by kernel_rfl) (Below.refl _ _).drew ?_
            repeat (go_big_quiet_step ((refine inv_call (inv_closed w9) (HC.out _ (InW.ok (I := fun W => Below w9.heap.size w9 W) _)))))
            refine wpQuiet_nil ?_
            rintro _ ⟨⟨w7, h9⟩, rfl⟩
            rename World => w7
            have H7 := hide h9
            clear h9 cS cT hne HC
            have S7 := hide (S9.out.below H7.out)
            have dI := S7.out.row.cell (j := q) (by rw [HG.out.len]; omega)
            have dJ := S7.out.row.cell (j := p2) (by rw [HG.out.len]; omega)
            have fI := S7.out.row.frozen (q)
            have fJ := S7.out.row.frozen (p2)
            obtain ⟨uJ, dU⟩ : ∃ u, (World.setCell _ _ _).cell? ⟨g, p2, none⟩ = some u := ⟨_, (S7.out.row.set_ (q) (ys.getD (p2) 0)).cell (j := p2) (by rw [List.length_set, HG.out.len]; omega)⟩
            have HK := hide ((S7.out.swap HL.out (by omega) (i := q) (j := p2) ⟨by have := HQ.out; omega, by have := HP2.out; have := HT.out.2.1; omega⟩ ⟨by have := HP2.out; omega, by have := HP2.out; have := HT.out.2.1; omega⟩).drewN 1)
            generalize ys.getD (q) 0 = xi at dI dU HK
            generalize ys.getD (p2) 0 = xj at dJ dU HK
            have hqp1 : q ≠ p2 := by omega
            have hqp2 : p2 ≠ q := by omega
            go_wp2
            go_region
            go_wp2
            go_roundw
            case rel => exact ⟨2 * r + 1, swap2 ys q p2, by go_num, by have := HT.out.2.1; omega, HX, HK⟩
            case measure => have := HT.out.2.1; simp [intOf]; omega
          · have HX : Hid (HeapS f a lo hi ys) := hide (heapX_stop HG.out.cmp HG.out.oks (by rw [HG.out.len]; omega) HE.out HT.out (by rw [HQ.out, HP2.out]; exact cmp_not HG.out.cmp HG.out.oks HG.out.nod (by rw [HG.out.len]; omega) (by rw [HG.out.len]; omega) (by omega) hcmp))
            generalize ys.getD (q) 0 = xv at cS HC hcmp
            generalize ys.getD (p2) 0 = yv at cT HC hcmp
            generalize f xv yv = rr at HC hcmp
            have hrd : decide (rr < 0) = false := decide_eq_false hcmp
            have hne : Nonempty (InW fun W => Below w9.heap.size w9 W) := ⟨⟨w9, Below.refl _ _⟩⟩
            replace cS := inv_cell cS
            replace cT := inv_cell cT
            go_wp2_with fail
            refine wp_region_inv (I := fun W => Below w9.heap.size w9 W) (by kernel_rfl) (by kernel_rfl) (Below.refl _ _).drew ?_
            repeat (go_big_quiet_step ((refine inv_call (inv_closed w9) (HC.out _ (InW.ok (I := fun W => Below w9.heap.size w9 W) _)))))
            refine wpQuiet_nil ?_
            rintro _ ⟨⟨w7, h9⟩, rfl⟩
            rename World => w7
            have H7 := hide h9
            clear h9 cS cT hne HC
            have S7 := hide (S9.out.below H7.out)
            go_wp2
            (try simp only [Exit.inBlock, Exit.then])
            refine bodyPost_ret (results_none rfl _ _ _) rfl ?_
            exact ⟨ys, rfl, S7.out, HX.out⟩
      · have h1z : ¬ 2 * (r : Int) + 1 + 1 < (hi : Int) := by omega
        have h1d : decide (2 * (r : Int) + 1 + 1 < (hi : Int)) = false := by simpa using h1z
        have HT : Hid (TopKid f a hi r (2 * r + 1) ys) := hide (topKid_one h0 h1)
        go_wp2_with fail
        go_quiet (fail)
        have S9 := hide (HS.out.drewN nq)
        generalize World.drewN wr nq = w9 at S9 ⊢
        clear HS
        go_wp2_with fail
        obtain ⟨q, eq⟩ : ∃ q : Nat, (a : Int) + (r : Int) = (q : Int) := ⟨a + r, by omega⟩
        have hq : a + r = q := by omega
        obtain ⟨p2, ep2⟩ : ∃ p2 : Nat, (a : Int) + (2 * (r : Int) + 1) = (p2 : Int) := ⟨a + (2 * r + 1), by omega⟩
        have hp2 : a + (2 * r + 1) = p2 := by omega
        have j0 : (0 : Int) ≤ (q : Int) := by omega
        have j1 : (q : Int) < (n : Int) := by omega
        have j2 : (0 : Int) ≤ (p2 : Int) := by omega
        have j3 : (p2 : Int) < (n : Int) := by omega
        have hqp : q < p2 := by omega
        have cS := S9.out.row.cell (j := q) (by rw [HG.out.len]; omega)
        have cT := S9.out.row.cell (j := p2) (by rw [HG.out.len]; omega)
        have HC := hide (fun (W : World) (hW : Below w9.heap.size w9 W) => HF.out (ys.getD (q) 0) (ys.getD (p2) 0) W (HG.out.at_ (by omega)) (HG.out.at_ (by omega)) (grown_trans HW.out (grown_of_below S9.out.grown hW)))
        have HQ := hide hq
        have HP2 := hide hp2
        clear hq hp2
        by_cases hcmp : f (ys.getD q 0) (ys.getD p2 0) < 0
        · have HX : Hid (HeapX f a lo hi (2 * r + 1) (swap2 ys q p2)) := hide (by have h := heapX_sink (by rw [HG.out.len]; omega) HE.out HT.out (by rw [HQ.out, HP2.out]; exact hcmp); rw [HQ.out, HP2.out] at h; exact h)
          generalize ys.getD (q) 0 = xv at cS HC hcmp
          generalize ys.getD (p2) 0 = yv at cT HC hcmp
          generalize f xv yv = rr at HC hcmp
          have hne : Nonempty (InW fun W => Below w9.heap.size w9 W) := ⟨⟨w9, Below.refl _ _⟩⟩
          replace cS := inv_cell cS
          replace cT := inv_cell cT
          go_wp2_with fail
          refine wp_region_inv (I := fun W => Below w9.heap.size w9 W) (by kernel_rfl) (by kernel_rfl) (Below.refl _ _).drew ?_
          repeat (go_big_quiet_step ((refine inv_call (inv_closed w9) (HC.out _ (InW.ok (I := fun W => Below w9.heap.size w9 W) _)))))
          refine wpQuiet_nil ?_
          rintro _ ⟨⟨w7, h9⟩, rfl⟩
          rename World => w7
          have H7 := hide h9
          clear h9 cS cT hne HC
          have S7 := hide (S9.out.below H7.out)
          have dI := S7.out.row.cell (j := q) (by rw [HG.out.len]; omega)
          have dJ := S7.out.row.cell (j := p2) (by rw [HG.out.len]; omega)
          have fI := S7.out.row.frozen (q)
          have fJ := S7.out.row.frozen (p2)
          obtain ⟨uJ, dU⟩ : ∃ u, (World.setCell _ _ _).cell? ⟨g, p2, none⟩ = some u := ⟨_, (S7.out.row.set_ (q) (ys.getD (p2) 0)).cell (j := p2) (by rw [List.length_set, HG.out.len]; omega)⟩
          have HK := hide ((S7.out.swap HL.out (by omega) (i := q) (j := p2) ⟨by have := HQ.out; omega, by have := HP2.out; have := HT.out.2.1; omega⟩ ⟨by have := HP2.out; omega, by have := HP2.out; have := HT.out.2.1; omega⟩).drewN 1)
          generalize ys.getD (q) 0 = xi at dI dU HK
          generalize ys.getD (p2) 0 = xj at dJ dU HK
          have hqp1 : q ≠ p2 := by omega
          have hqp2 : p2 ≠ q := by omega
          go_wp2
          go_region
          go_wp2
          go_roundw
          case rel => exact ⟨2 * r + 1, swap2 ys q p2, by go_num, by have := HT.out.2.1; omega, HX, HK⟩
          case measure => have := HT.out.2.1; simp [intOf]; omega
        · have HX : Hid (HeapS f a lo hi ys) := hide (heapX_stop HG.out.cmp HG.out.oks (by rw [HG.out.len]; omega) HE.out HT.out (by rw [HQ.out, HP2.out]; exact cmp_not HG.out.cmp HG.out.oks HG.out.nod (by rw [HG.out.len]; omega) (by rw [HG.out.len]; omega) (by omega) hcmp))
          generalize ys.getD (q) 0 = xv at cS HC hcmp
          generalize ys.getD (p2) 0 = yv at cT HC hcmp
          generalize f xv yv = rr at HC hcmp
          have hrd : decide (rr < 0) = false := decide_eq_false hcmp
          have hne : Nonempty (InW fun W => Below w9.heap.size w9 W) := ⟨⟨w9, Below.refl _ _⟩⟩
          replace cS := inv_cell cS
          replace cT := inv_cell cT
          go_wp2_with fail
          refine wp_region_inv (I := fun W => Below w9.heap.size w9 W) (by kernel_rfl) (by kernel_rfl) (Below.refl _ _).drew ?_
          repeat (go_big_quiet_step ((refine inv_call (inv_closed w9) (HC.out _ (InW.ok (I := fun W => Below w9.heap.size w9 W) _)))))
          refine wpQuiet_nil ?_
          rintro _ ⟨⟨w7, h9⟩, rfl⟩
          rename World => w7
          have H7 := hide h9
          clear h9 cS cT hne HC
          have S7 := hide (S9.out.below H7.out)
          go_wp2
          (try simp only [Exit.inBlock, Exit.then])
          refine bodyPost_ret (results_none rfl _ _ _) rfl ?_
          exact ⟨ys, rfl, S7.out, HX.out⟩
    · have h0z : (hi : Int) ≤ 2 * (r : Int) + 1 := by omega
      go_wp2
      go_end0
      exact ⟨ys, rfl, HS.out, heapX_leaf HE.out h0⟩
set_option maxHeartbeats 6400000 in
set_option maxRecDepth 20000 in
theorem heap_any (w0 : World) (g : Nat) (kc : FuncId) (rv : Value) (f : Int → Int → Int) (ok : Int → Prop) (hf : CmpSaysM w0 g kc rv f ok) (n c a b : Nat) (hab : a + 1 < b) (hb : b ≤ n) (xs : List Int) (hG : RowG f ok n xs) (w : World) (hw : w0.grownBy w (some g)) (hx : IRow w g xs) :
    Calls Try.prog 49 #[.slice (some ⟨g, 0, none⟩) n c, .int .i64 (a : Int), .int .i64 (b : Int), .func (.func kc) #[rv] #[]] w fun e w' => ∃ ys, e = .returned (.tuple #[]) ∧ StS w g a b xs ys w' ∧ SortS f a b ys := by
  obtain ⟨m, hm⟩ : ∃ m, m = b - a := ⟨_, rfl⟩
  have em : (b : Int) - (a : Int) = (m : Int) := by omega
  have SI := hide (fun (lo hi : Nat) (hlo : lo ≤ hi) (hh : a + hi ≤ n) (ys : List Int) (hG : RowG f ok n ys) (hp : HeapS f a (lo + 1) hi ys) (W : World) (hw : w0.grownBy W (some g)) (hx : IRow W g ys) => sift_any w0 g kc rv f ok hf n c a lo hi hlo hh ys hG hp W hw hx)
  have hn := hG.le
  have HL := hide hG.len
  have HX0 := hide hx
  have HG0 := hide hG
  have HW := hide hw
  have HM := hide (show a + m = b by omega)
  have hm1 : 1 < m := by omega
  have hmn : m ≤ n := by omega
  clear hf hx hG hw hm
  go_enter Try.func49, Try.ntmps49
  go_wp2
  go_loopw [11] (fun s wr => ∃ (k : Nat) (ys : List Int), s = .int .i64 ((k : Int) - 1) ∧ k ≤ m ∧ Hid (HeapS f a k m ys) ∧ Hid (StS w g a b xs ys wr)) (fun s _ => (intOf s + 1).toNat)
  case atStart => exact ⟨(m - 1) / 2 + 1, xs, by go_num, by omega, hide (fun i c h1 h2 h3 => by rcases h2 with h2 | h2 <;> omega), hide (StS.start HX0.out)⟩
  case round =>
    obtain ⟨k, ys, rfl, hk, HE, HS⟩ := hrel
    have HG := hide (HG0.out.seg HS.out.seg)
    by_cases h0 : 0 < k
    · obtain ⟨k, rfl⟩ : ∃ k', k = k' + 1 := ⟨k - 1, by omega⟩
      have e0 : ((k + 1 : Nat) : Int) - 1 = (k : Int) := by omega
      rw [e0]
      clear e0
      have hC := SI.out k m (by omega) (by have := HM.out; omega) ys HG.out HE.out _ (grown_trans HW.out HS.out.grown) HS.out.row
      go_wp2_with (refine hC.mono ?_; rintro e w1 ⟨zs, rfl, h1, h2⟩)
      go_roundw
      case rel => exact ⟨k, zs, by go_num, by omega, hide h2, hide (HS.out.sub h1 (Nat.le_refl _) (by have := HM.out; omega))⟩
      case measure => simp [intOf]
    · obtain ⟨z, hz⟩ : ∃ z : Int, (k : Int) - 1 = z := ⟨_, rfl⟩
      have hz0 : ¬ (0 : Int) ≤ z := by omega
      have HP0 : Hid (PopS f a m b ys) := hide (pop_start HM.out (by have h := HE.out; rwa [show k = 0 by omega] at h))
      rw [hz]
      clear HE hk h0 hz
      obtain ⟨y0, hy0⟩ : ∃ y, y = ys := ⟨_, rfl⟩
      go_wp2
      go_loopw [12] (fun s wq => ∃ (k : Nat) (zs : List Int), s = .int .i64 ((k : Int) - 1) ∧ k ≤ m ∧ Hid (PopS f a k b zs) ∧ Hid (StS w g a b xs zs wq)) (fun s _ => (intOf s + 1).toNat)
      case atStart => exact ⟨m, ys, by go_num, Nat.le_refl _, HP0, HS⟩
      case round =>
        obtain ⟨k, zs, rfl, hk, HE, HS⟩ := hrel
        have HG := hide (HG0.out.seg HS.out.seg)
        by_cases h0 : 0 < k
        · obtain ⟨k, rfl⟩ : ∃ k', k = k' + 1 := ⟨k - 1, by omega⟩
          have e0 : ((k + 1 : Nat) : Int) - 1 = (k : Int) := by omega
          rw [e0]
          clear e0
          obtain ⟨q1, q2, q3⟩ := pop_swap HG.out.cmp HG.out.oks (by rw [HG.out.len]; exact hb) (by have := HM.out; omega) HE.out
          obtain ⟨p, ep⟩ : ∃ p : Nat, (a : Int) + (k : Int) = (p : Int) := ⟨a + k, by omega⟩
          have hp : a + k = p := by omega
          rw [hp] at q1 q2 q3
          have Q1 := hide q1
          have Q2 := hide q2
          have Q3 := hide q3
          have HPP := hide hp
          have i0 : (0 : Int) ≤ (p : Int) := by omega
          have i1 : (p : Int) < (n : Int) := by have := HM.out; omega
          have i2 : (0 : Int) ≤ (a : Int) := by omega
          have i3 : (a : Int) < (n : Int) := by omega
          have hpn : p < n := by omega
          have han : a < n := by omega
          clear q1 q2 q3 hp
          have dI := HS.out.row.cell (j := a) (by rw [HG.out.len]; omega)
          have dJ := HS.out.row.cell (j := p) (by rw [HG.out.len]; omega)
          have fI := HS.out.row.frozen (a)
          have fJ := HS.out.row.frozen (p)
          obtain ⟨uJ, dU⟩ : ∃ u, (World.setCell _ _ _).cell? ⟨g, p, none⟩ = some u := ⟨_, (HS.out.row.set_ (a) (zs.getD (p) 0)).cell (j := p) (by rw [List.length_set, HG.out.len]; omega)⟩
          have HK := hide ((HS.out.swap HL.out hb (i := a) (j := p) ⟨Nat.le_refl _, by have := HM.out; omega⟩ ⟨by have := HPP.out; omega, by have := HM.out; have := HPP.out; omega⟩).drewN 1)
          generalize zs.getD (a) 0 = xi at dI dU HK
          generalize zs.getD (p) 0 = xj at dJ dU HK
          go_wp2
          go_region
          have HG2 := hide (HG0.out.seg HK.out.seg)
          have hC := SI.out 0 k (Nat.zero_le _) (by have := HPP.out; omega) (swap2 zs a p) HG2.out Q1.out _ (grown_trans HW.out HK.out.grown) HK.out.row
          go_wp2_with fail
          refine hC.mono ?_
          rintro e w1 ⟨us, rfl, h1, h2⟩
          have H1 := hide (show StS _ g a (a + k) _ us w1 from h1)
          have H2 := hide h2
          clear h1 h2 hC
          go_wp2
          go_roundw
          case rel => exact ⟨k, us, by go_num, by omega, hide (pop_next HG2.out.nod (by rw [HG2.out.len]; exact hb) (by have := HM.out; omega) (by rw [HPP.out]; exact Q2.out) (by rw [HPP.out]; exact Q3.out) H1.out.seg H2.out), hide (HK.out.sub H1.out (Nat.le_refl _) (by have := HM.out; omega))⟩
          case measure => simp [intOf]
        · obtain rfl : k = 0 := by omega
          have hd : decide ((0 : Int) ≤ ((0 : Nat) : Int) - 1) = false := by simp
          go_wp2
          go_end0
          exact ⟨zs, rfl, HS.out, pop_done HE.out⟩
end Go.Proofs.Ytfcmgmcidngjeaa
