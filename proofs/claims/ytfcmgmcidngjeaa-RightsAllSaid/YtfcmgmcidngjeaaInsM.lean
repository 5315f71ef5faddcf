/-
  The contract of the library's insertion sort by a method value (a bound receiver), over an own row of integers. Condition: the comparing method answers f and writes nothing that was there.
-/
import Derived.Test.YtfcmgmcidngjeaaProg
import Derived.Test.YtfcmgmcidngjeaaIns
namespace Go.Proofs.Ytfcmgmcidngjeaa
open Go.RowKit

/-- In whatever world that differs from w0 in block g alone, the comparing method with the receiver rv answers f at what is ok, and writes nothing that was there. -/
def CmpSaysM (w0 : World) (g : Nat) (kc : FuncId) (rv : Value) (f : Int → Int → Int) (ok : Int → Prop) : Prop :=
  (∀ (a : Array Value) (W : World), (callFunc kc a).run Try.prog W = .ok (.enter kc a) W) ∧
  ∀ (x y : Int) (W : World), ok x → ok y → w0.grownBy W (some g) → Calls Try.prog kc #[rv, .int .i64 x, .int .i64 y] W fun e w' => e = .returned (.int .i64 (f x y)) ∧ Below W.heap.size W w'
set_option maxHeartbeats 3200000 in
set_option maxRecDepth 20000 in
theorem insM_any (w0 : World) (g : Nat) (kc : FuncId) (rv : Value) (f : Int → Int → Int) (ok : Int → Prop) (hf : CmpSaysM w0 g kc rv f ok) (n c a b : Nat) (hab : b ≤ n) (han : a ≤ n) (hn : n ≤ 1048576) (xs : List Int) (hl : xs.length = n) (hok : ∀ x ∈ xs, ok x) (w : World) (hw : w0.grownBy w (some g)) (hx : IRow w g xs) :
    Calls Try.prog 48 #[.slice (some ⟨g, 0, none⟩) n c, .int .i64 a, .int .i64 b, .func (.func kc) #[rv] #[]] w fun e w' => e = .returned (.tuple #[]) ∧ IRow w' g (insK f a (b - (a + 1)) xs) ∧ w.grownBy w' (some g) := by
  have HF := hide hf.2
  have hcf := hf.1
  have HOK := hide hok
  have HX := hide hx
  have HL := hide hl
  clear hf hok hx hl
  go_enter Try.func48, Try.ntmps48
  go_wp2
  go_loopw [8] (fun i wr => ∃ k : Nat, k ≤ b - (a + 1) ∧ i = .int .i64 ((a + 1 + k : Nat) : Int) ∧ (∀ x ∈ insK f a k xs, ok x) ∧ IRow wr g (insK f a k xs) ∧ w.grownBy wr (some g)) (fun i _ => b - (intOf i).toNat)
  case atStart => exact ⟨0, by omega, by go_num, HOK.out, HX.out, grown_refl _ _⟩
  case round =>
    obtain ⟨k, hk, rfl, hok, hx, hg⟩ := hrel
    by_cases hlt : a + 1 + k < b
    · have HK := hide (show insK f a (k + 1) xs = insIn f a (a + 1 + k) (insK f a k xs) by rw [show a + 1 + k = a + k + 1 by omega]; rfl)
      have hlk := (insK_length f a k xs).trans HL.out
      have H1 := hide hok
      have H2 := hide hx
      have H3 := hide hlk
      generalize insK f a k xs = ys0 at *
      clear hok hx hlk
      obtain ⟨wo, rfl⟩ : ∃ wo : World, wo = wr := ⟨_, rfl⟩
      go_wp2
      go_loopw [9] (fun j wq => ∃ (m : Nat) (ys : List Int), m ≤ a + 1 + k ∧ j = .int .i64 (m : Int) ∧ ys.length = n ∧ (∀ x ∈ ys, ok x) ∧ Hid (insIn f a m ys = insIn f a (a + 1 + k) ys0) ∧ IRow wq g ys ∧ w.grownBy wq (some g)) (fun j _ => (intOf j).toNat)
      case atStart => exact ⟨a + 1 + k, ys0, by omega, rfl, H3.out, H1.out, hide rfl, H2.out, hg⟩
      case round =>
        obtain ⟨m, ys, hm, rfl, hly, hoky, hi, hxy, hgy⟩ := hrel
        by_cases hma : a < m
        · obtain ⟨m, rfl⟩ : ∃ m', m = m' + 1 := ⟨m - 1, by omega⟩
          have x1 := hxy.cell (j := m + 1) (by omega)
          have x0 := hxy.cell (j := m) (by omega)
          have p1 : ok (ys.getD (m + 1) 0) := by
            rw [List.getD_eq_getElem?_getD, List.getElem?_eq_getElem (by omega)]; exact hoky _ (List.getElem_mem _)
          have p0 : ok (ys.getD m 0) := by
            rw [List.getD_eq_getElem?_getD, List.getElem?_eq_getElem (by omega)]; exact hoky _ (List.getElem_mem _)
          have HX2 := hide hxy
          have HO2 := hide hoky
          have HC := hide (fun (W : World) (hW : Below wr.heap.size wr W) => HF.out (ys.getD (m + 1) 0) (ys.getD m 0) W p1 p0 (grown_trans hw (grown_of_below hgy hW)))
          have hma2 : (a : Int) < (m : Int) + 1 := by omega
          have i0 : (0 : Int) ≤ (m : Int) + 1 := by omega
          have i1 : (m : Int) + 1 < (n : Int) := by omega
          have i2 : (0 : Int) ≤ (m : Int) := by omega
          have i3 : (m : Int) < (n : Int) := by omega
          clear p0 p1 hxy hoky
          by_cases hcmp : f (ys.getD (m + 1) 0) (ys.getD m 0) < 0
          · have HS := hide (insIn_go (a := a) (m := m) (ys := ys) (f := f) (by omega) hcmp)
            have HW := hide (show swapAt ys m = (ys.set (m + 1) (ys.getD m 0)).set m (ys.getD (m + 1) 0) from rfl)
            have f1 := HX2.out.frozen (m + 1)
            have f0 := HX2.out.frozen m
            have hlg := HX2.out.lt
            generalize ys.getD (m + 1) 0 = x at *
            generalize ys.getD m 0 = y at *
            generalize f x y = r at *
            have hne : Nonempty (InW fun W => Below wr.heap.size wr W) := ⟨⟨wr, Below.refl _ _⟩⟩
            have X0 := hide x0
            have X1 := hide x1
            replace x0 := inv_cell x0
            replace x1 := inv_cell x1
            go_wp2_with fail
            refine wp_region_inv (I := fun W => Below wr.heap.size wr W) (by kernel_rfl) (by kernel_rfl) (Below.refl _ _).drew ?_
            repeat (go_big_quiet_step ((refine inv_call (inv_closed wr) (HC.out _ (InW.ok _)))))
            refine wpQuiet_nil ?_
            rintro _ ⟨⟨w9, h9⟩, rfl⟩
            clear x0 x1 hne
            have c1 := cell_thr h9 X1.out
            have c0 := cell_thr h9 X0.out
            have F1 := frozen_thr h9 hlg f1
            have F0 := frozen_thr h9 hlg f0
            have H9 := hide h9
            clear h9 f1 f0
            go_wp2
            go_region
            go_wp2
            go_roundw
            case rel => exact ⟨m, swapAt ys m, by omega, by go_num, by rw [swapAt_length]; exact hly, ok_swap HO2.out (by omega), hide (HS.out.symm.trans hi.out), by rw [HW.out]; exact ((HX2.out.below H9.out).set_ (m + 1) y).set_ m x, grown_drewN (grown_set (grown_set (grown_of_below hgy H9.out) (.inl rfl) _) (.inl rfl) _) 1⟩
            case measure => simp [intOf]
          · have HS := hide (insIn_stop (a := a) (m := m) (ys := ys) (fun h => hcmp h.2))
            generalize ys.getD (m + 1) 0 = x at *
            generalize ys.getD m 0 = y at *
            generalize f x y = r at *
            have hne : Nonempty (InW fun W => Below wr.heap.size wr W) := ⟨⟨wr, Below.refl _ _⟩⟩
            replace x0 := inv_cell x0
            replace x1 := inv_cell x1
            go_wp2_with fail
            refine wp_region_inv (I := fun W => Below wr.heap.size wr W) (by kernel_rfl) (by kernel_rfl) (Below.refl _ _).drew ?_
            repeat (go_big_quiet_step ((refine inv_call (inv_closed wr) (HC.out _ (InW.ok _)))))
            refine wpQuiet_nil ?_
            rintro _ ⟨⟨w9, h9⟩, rfl⟩
            have HE := hide (HK.out.trans (hi.out.symm.trans HS.out))
            have H9 := hide h9
            have hr : ¬ r < 0 := (by omega)
            clear h9 hcmp
            go_wp2
            go_roundw
            case rel => exact ⟨k + 1, by omega, by go_num, by rw [HE.out]; exact HO2.out, by rw [HE.out]; exact HX2.out.below H9.out, grown_of_below hgy H9.out⟩
            case measure => simp [intOf]; omega
        · have HS := hide (insIn_low (f := f) (a := a) (j := m) (ys := ys) (by omega))
          have HE := hide (HK.out.trans (hi.out.symm.trans HS.out))
          have HX2 := hide hxy
          have HO2 := hide hoky
          have hd : decide ((a : Int) < (m : Int)) = false := by simpa using hma
          clear hxy hoky
          go_wp2_with fail
          go_quiet (fail)
          go_wp2
          go_roundw
          case rel => exact ⟨k + 1, by omega, by go_num, by rw [HE.out]; exact HO2.out, by rw [HE.out]; exact HX2.out.below (below_drewN (Below.refl _ _) _), grown_drewN hgy _⟩
          case measure => simp [intOf]; omega
    · obtain rfl : k = b - (a + 1) := by omega
      have HX2 := hide hx
      clear hx hok
      go_wp2
      go_end0
      exact ⟨rfl, HX2.out, hg⟩
end Go.Proofs.Ytfcmgmcidngjeaa
