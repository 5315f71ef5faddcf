/-
  The contract of the library's insertion sort by a comparing function, over an own row of integers. Condition: the comparing function answers f and writes nothing that was there.
-/
import Derived.Test.YtfcmgmcidngjeaaProg
import Derived.Test.YtfcmgmcidngjeaaMem
import Derived.Test.YtfcmgmcidngjeaaReg
namespace Go.Proofs.Ytfcmgmcidngjeaa
open Go.RowKit

/-- Block g holds the integers xs from its head on. -/
def IRow (w : World) (g : Nat) (xs : List Int) : Prop := ∃ cur : Array Value, w.heap[g]? = some (.cells cur 3 (0, 0)) ∧ cur.toList.take xs.length = ints xs
section
variable {w w' : World} {g : Nat} {xs : List Int}
theorem IRow.lt (h : IRow w g xs) : g < w.heap.size := by
  obtain ⟨cur, h, _⟩ := h
  rcases Nat.lt_or_ge g w.heap.size with hlt | hge
  · exact hlt
  · rw [Array.getElem?_eq_none hge] at h; cases h
theorem IRow.cell (h : IRow w g xs) {j : Nat} (hj : j < xs.length) : w.cell? ⟨g, j, none⟩ = some (.int .i64 (xs.getD j 0)) := by
  obtain ⟨cur, h, ht⟩ := h
  have h2 := ints_get xs j hj
  rw [← ht, List.getElem?_take, if_pos hj] at h2
  simp [World.cell?, h]
  simpa using h2
theorem IRow.frozen (h : IRow w g xs) (j : Nat) : w.frozen? ⟨g, j, none⟩ = false := by
  obtain ⟨cur, h, _⟩ := h
  simp [World.frozen?, h]
theorem IRow.keep (h : IRow w g xs) (hk : w'.heap[g]? = w.heap[g]?) : IRow w' g xs := by
  obtain ⟨cur, h, ht⟩ := h
  exact ⟨cur, hk.trans h, ht⟩
theorem IRow.below (h : IRow w g xs) (hb : Below w.heap.size w w') : IRow w' g xs := h.keep (hb.block g h.lt)
theorem IRow.set_ (h : IRow w g xs) (j : Nat) (v : Int) : IRow (w.setCell ⟨g, j, none⟩ (.int .i64 v)) g (xs.set j v) := by
  obtain ⟨cur, h, ht⟩ := h
  refine ⟨cur.setIfInBounds j (.int .i64 v), by simp [World.setCell, Array.getElem?_modify, h], ?_⟩
  rw [List.length_set]
  simp only [Array.toList_setIfInBounds, ints, List.map_set, List.take_set]
  rw [ht]; rfl
theorem IRow.of_own {base n c : Nat} (h : w.ownsRow base 3 1 (.slice (some ⟨g, 0, none⟩) n c) n (ints xs)) : IRow w g xs := by
  have hl : n = xs.length := by have := h.1; rw [ints_length] at this; omega
  rcases h.2 with ⟨h2, _⟩ | ⟨g', cap, cur, hv, _, hh, _, _, _, ht⟩
  · simp at h2
  · have e : g = g' := by injection hv with e1; injection e1 with e2; injection e2
    subst e
    exact ⟨cur, hh, by rw [← ht, hl, Nat.mul_one]⟩
theorem IRow.own {base n c : Nat} {ys : List Int} (h : w.ownsRow base 3 1 (.slice (some ⟨g, 0, none⟩) n c) n (ints ys)) (hg : w.grownBy w' (some g)) (hc : ∀ cur cur' : Array Value, w.heap[g]? = some (.cells cur 3 (0, 0)) → w'.heap[g]? = some (.cells cur' 3 (0, 0)) → cur'.size = cur.size) (hx : IRow w' g xs) (hl : xs.length = ys.length) : w'.ownsRow base 3 1 (.slice (some ⟨g, 0, none⟩) n c) n (ints xs) := by
  have hl2 : n = ys.length := by have := h.1; rw [ints_length] at this; omega
  refine ⟨by rw [ints_length]; omega, ?_⟩
  rcases h.2 with ⟨h2, _⟩ | ⟨g', cap, cur, hv, hb, hh, h3, h4, h5, _⟩
  · simp at h2
  · have e : g = g' := by injection hv with e1; injection e1 with e2; injection e2
    subst e
    obtain ⟨cur', h6, h7⟩ := hx
    exact Or.inr ⟨g, cap, cur', hv, hb, h6, h3, h4, by rw [hc _ _ hh h6, h5], by rw [Nat.mul_one, hl2, ← hl]; exact h7⟩
end
def swapAt (xs : List Int) (j : Nat) : List Int := (xs.set (j + 1) (xs.getD j 0)).set j (xs.getD (j + 1) 0)
def insIn (f : Int → Int → Int) (a : Nat) : Nat → List Int → List Int
  | 0, xs => xs
  | j + 1, xs => if a < j + 1 ∧ f (xs.getD (j + 1) 0) (xs.getD j 0) < 0 then insIn f a j (swapAt xs j) else xs
def insK (f : Int → Int → Int) (a : Nat) : Nat → List Int → List Int
  | 0, xs => xs
  | k + 1, xs => insIn f a (a + k + 1) (insK f a k xs)
theorem swapAt_length (xs : List Int) (j : Nat) : (swapAt xs j).length = xs.length := by simp [swapAt]
theorem insIn_length (f : Int → Int → Int) (a : Nat) : ∀ (j : Nat) (xs : List Int), (insIn f a j xs).length = xs.length
  | 0, _ => rfl
  | j + 1, xs => by
    unfold insIn
    split
    · rw [insIn_length, swapAt_length]
    · rfl
theorem insK_length (f : Int → Int → Int) (a : Nat) : ∀ (k : Nat) (xs : List Int), (insK f a k xs).length = xs.length
  | 0, _ => rfl
  | k + 1, xs => by unfold insK; rw [insIn_length, insK_length]
/-- In whatever world that differs from w0 in block g alone, the comparing function answers f at what is ok, and writes nothing that was there. -/
def CmpSays (w0 : World) (g : Nat) (kc : FuncId) (cap : Array Value) (f : Int → Int → Int) (ok : Int → Prop) : Prop :=
  (∀ (a : Array Value) (W : World), (callFunc kc a).run Try.prog W = .ok (.enter kc a) W) ∧
  ∀ (x y : Int) (W : World), ok x → ok y → w0.grownBy W (some g) → Calls Try.prog kc (#[.int .i64 x, .int .i64 y] ++ cap) W fun e w' => e = .returned (.int .i64 (f x y)) ∧ Below W.heap.size W w'
theorem grown_of_below {w0 w w' : World} {g : Nat} (h : w0.grownBy w (some g)) (hb : Below w.heap.size w w') : w0.grownBy w' (some g) := grown_trans h (grown_below hb _)
theorem ok_swap {ok : Int → Prop} {ys : List Int} {m : Nat} (h : ∀ x ∈ ys, ok x) (hm : m + 1 < ys.length) : ∀ x ∈ swapAt ys m, ok x := by
  intro x hx
  have g0 : ok (ys.getD m 0) := by
    rw [List.getD_eq_getElem?_getD, List.getElem?_eq_getElem (by omega)]; exact h _ (List.getElem_mem _)
  have g1 : ok (ys.getD (m + 1) 0) := by
    rw [List.getD_eq_getElem?_getD, List.getElem?_eq_getElem hm]; exact h _ (List.getElem_mem _)
  unfold swapAt at hx
  rcases List.mem_or_eq_of_mem_set hx with hx | rfl
  · rcases List.mem_or_eq_of_mem_set hx with hx | rfl
    · exact h _ hx
    · exact g0
  · exact g1
theorem insIn_stop {f : Int → Int → Int} {a m : Nat} {ys : List Int} (h : ¬ (a < m + 1 ∧ f (ys.getD (m + 1) 0) (ys.getD m 0) < 0)) : insIn f a (m + 1) ys = ys := by unfold insIn; rw [if_neg h]
theorem insIn_go {f : Int → Int → Int} {a m : Nat} {ys : List Int} (h1 : a < m + 1) (h2 : f (ys.getD (m + 1) 0) (ys.getD m 0) < 0) : insIn f a (m + 1) ys = insIn f a m (swapAt ys m) := by rw [insIn, if_pos ⟨h1, h2⟩]
theorem insIn_low {f : Int → Int → Int} {a j : Nat} {ys : List Int} (h : j ≤ a) : insIn f a j ys = ys := by
  cases j with
  | zero => rfl
  | succ m => exact insIn_stop (fun h2 => by omega)
set_option maxHeartbeats 3200000 in
set_option maxRecDepth 20000 in
theorem ins_any (w0 : World) (g : Nat) (kc : FuncId) (cap : Array Value) (f : Int → Int → Int) (ok : Int → Prop) (hf : CmpSays w0 g kc cap f ok) (n c a b : Nat) (hab : b ≤ n) (han : a ≤ n) (hn : n ≤ 1048576) (xs : List Int) (hl : xs.length = n) (hok : ∀ x ∈ xs, ok x) (w : World) (hw : w0.grownBy w (some g)) (hx : IRow w g xs) :
    Calls Try.prog 48 #[.slice (some ⟨g, 0, none⟩) n c, .int .i64 a, .int .i64 b, .func (.func kc) #[] cap] w fun e w' => e = .returned (.tuple #[]) ∧ IRow w' g (insK f a (b - (a + 1)) xs) ∧ w.grownBy w' (some g) := by
  have HF := hide hf.2
  have hcf := hf.1
  have HOK := hide hok
  have HX := hide hx
  have HL := hide hl
  clear hf hok hx hl
  go_enter Try.func48, Try.ntmps48
  go_wp2
  go_loopw [8] (fun i wr => ∃ k : Nat, k ≤ b - (a + 1) ∧ i = .int .i64 ((a + 1 + k : Nat) : Int) ∧ (∀ x ∈ insK f a k xs, ok x) ∧ IRow wr g (insK f a k xs) ∧ w.grownBy wr (some g)) (fun i _ => b - (intOf i).toNat)
  case atStart => exact ⟨0, by omega, by go_num, HOK.out, HX.out, grown_refl _ _⟩
  case round =>
    obtain ⟨k, hk, rfl, hok, hx, hg⟩ := hrel
    by_cases hlt : a + 1 + k < b
    · have HK := hide (show insK f a (k + 1) xs = insIn f a (a + 1 + k) (insK f a k xs) by rw [show a + 1 + k = a + k + 1 by omega]; rfl)
      have hlk := (insK_length f a k xs).trans HL.out
      have H1 := hide hok
      have H2 := hide hx
      have H3 := hide hlk
      generalize insK f a k xs = ys0 at *
      clear hok hx hlk
      obtain ⟨wo, rfl⟩ : ∃ wo : World, wo = wr := ⟨_, rfl⟩
      go_wp2
      go_loopw [9] (fun j wq => ∃ (m : Nat) (ys : List Int), m ≤ a + 1 + k ∧ j = .int .i64 (m : Int) ∧ ys.length = n ∧ (∀ x ∈ ys, ok x) ∧ Hid (insIn f a m ys = insIn f a (a + 1 + k) ys0) ∧ IRow wq g ys ∧ w.grownBy wq (some g)) (fun j _ => (intOf j).toNat)
      case atStart => exact ⟨a + 1 + k, ys0, by omega, rfl, H3.out, H1.out, hide rfl, H2.out, hg⟩
      case round =>
        obtain ⟨m, ys, hm, rfl, hly, hoky, hi, hxy, hgy⟩ := hrel
        by_cases hma : a < m
        · obtain ⟨m, rfl⟩ : ∃ m', m = m' + 1 := ⟨m - 1, by omega⟩
          have x1 := hxy.cell (j := m + 1) (by omega)
          have x0 := hxy.cell (j := m) (by omega)
          have p1 : ok (ys.getD (m + 1) 0) := by
            rw [List.getD_eq_getElem?_getD, List.getElem?_eq_getElem (by omega)]; exact hoky _ (List.getElem_mem _)
          have p0 : ok (ys.getD m 0) := by
            rw [List.getD_eq_getElem?_getD, List.getElem?_eq_getElem (by omega)]; exact hoky _ (List.getElem_mem _)
          have HX2 := hide hxy
          have HO2 := hide hoky
          have HC := hide (fun (W : World) (hW : Below wr.heap.size wr W) => HF.out (ys.getD (m + 1) 0) (ys.getD m 0) W p1 p0 (grown_trans hw (grown_of_below hgy hW)))
          have hma2 : (a : Int) < (m : Int) + 1 := by omega
          have i0 : (0 : Int) ≤ (m : Int) + 1 := by omega
          have i1 : (m : Int) + 1 < (n : Int) := by omega
          have i2 : (0 : Int) ≤ (m : Int) := by omega
          have i3 : (m : Int) < (n : Int) := by omega
          clear p0 p1 hxy hoky
          by_cases hcmp : f (ys.getD (m + 1) 0) (ys.getD m 0) < 0
          · have HS := hide (insIn_go (a := a) (m := m) (ys := ys) (f := f) (by omega) hcmp)
            have HW := hide (show swapAt ys m = (ys.set (m + 1) (ys.getD m 0)).set m (ys.getD (m + 1) 0) from rfl)
            have f1 := HX2.out.frozen (m + 1)
            have f0 := HX2.out.frozen m
            have hlg := HX2.out.lt
            generalize ys.getD (m + 1) 0 = x at *
            generalize ys.getD m 0 = y at *
            generalize f x y = r at *
            have hne : Nonempty (InW fun W => Below wr.heap.size wr W) := ⟨⟨wr, Below.refl _ _⟩⟩
            have X0 := hide x0
            have X1 := hide x1
            replace x0 := inv_cell x0
            replace x1 := inv_cell x1
            go_wp2_with fail
            refine wp_region_inv (I := fun W => Below wr.heap.size wr W) (by kernel_rfl) (by kernel_rfl) (Below.refl _ _).drew ?_
            repeat (go_big_quiet_step ((refine inv_call (inv_closed wr) (HC.out _ (InW.ok _)))))
            refine wpQuiet_nil ?_
            rintro _ ⟨⟨w9, h9⟩, rfl⟩
            clear x0 x1 hne
            have c1 := cell_thr h9 X1.out
            have c0 := cell_thr h9 X0.out
            have F1 := frozen_thr h9 hlg f1
            have F0 := frozen_thr h9 hlg f0
            have H9 := hide h9
            clear h9 f1 f0
            go_wp2
            go_region
            go_wp2
            go_roundw
            case rel => exact ⟨m, swapAt ys m, by omega, by go_num, by rw [swapAt_length]; exact hly, ok_swap HO2.out (by omega), hide (HS.out.symm.trans hi.out), by rw [HW.out]; exact ((HX2.out.below H9.out).set_ (m + 1) y).set_ m x, grown_drewN (grown_set (grown_set (grown_of_below hgy H9.out) (.inl rfl) _) (.inl rfl) _) 1⟩
            case measure => simp [intOf]
          · have HS := hide (insIn_stop (a := a) (m := m) (ys := ys) (fun h => hcmp h.2))
            generalize ys.getD (m + 1) 0 = x at *
            generalize ys.getD m 0 = y at *
            generalize f x y = r at *
            have hne : Nonempty (InW fun W => Below wr.heap.size wr W) := ⟨⟨wr, Below.refl _ _⟩⟩
            replace x0 := inv_cell x0
            replace x1 := inv_cell x1
            go_wp2_with fail
            refine wp_region_inv (I := fun W => Below wr.heap.size wr W) (by kernel_rfl) (by kernel_rfl) (Below.refl _ _).drew ?_
            repeat (go_big_quiet_step ((refine inv_call (inv_closed wr) (HC.out _ (InW.ok _)))))
            refine wpQuiet_nil ?_
            rintro _ ⟨⟨w9, h9⟩, rfl⟩
            have HE := hide (HK.out.trans (hi.out.symm.trans HS.out))
            have H9 := hide h9
            have hr : ¬ r < 0 := (by omega)
            clear h9 hcmp
            go_wp2
            go_roundw
            case rel => exact ⟨k + 1, by omega, by go_num, by rw [HE.out]; exact HO2.out, by rw [HE.out]; exact HX2.out.below H9.out, grown_of_below hgy H9.out⟩
            case measure => simp [intOf]; omega
        · have HS := hide (insIn_low (f := f) (a := a) (j := m) (ys := ys) (by omega))
          have HE := hide (HK.out.trans (hi.out.symm.trans HS.out))
          have HX2 := hide hxy
          have HO2 := hide hoky
          have hd : decide ((a : Int) < (m : Int)) = false := by simpa using hma
          clear hxy hoky
          go_wp2_with fail
          go_quiet (fail)
          go_wp2
          go_roundw
          case rel => exact ⟨k + 1, by omega, by go_num, by rw [HE.out]; exact HO2.out, by rw [HE.out]; exact HX2.out.below (below_drewN (Below.refl _ _) _), grown_drewN hgy _⟩
          case measure => simp [intOf]; omega
    · obtain rfl : k = b - (a + 1) := by omega
      have HX2 := hide hx
      clear hx hok
      go_wp2
      go_end0
      exact ⟨rfl, HX2.out, hg⟩
end Go.Proofs.Ytfcmgmcidngjeaa
