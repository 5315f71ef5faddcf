/-
  The words for blocks, in a seat that has the deck's and the condition's texts. No condition.
  The contract of the library's insertion sort by a comparing function, over an own row of integers. Condition: the comparing function answers f and writes nothing that was there.
  The contract of slices.SortStableFunc over an own row of at most 20 integers: the insertion sort. Condition: the comparing function answers f and writes nothing that was there.
  The plain law of sorting by insertion: the result is sorted and made of the same elements. Condition: the comparing function fits a transitive relation.
-/
import Derived.Test.YtodamjjlnagpjaaGreatDoorDeck
import Derived.Test.YtodamjjlnagpjaaGreatDoorOne
import Derived.Test.YtodamjjlnagpjaaGreatDoorProg
import Derived.Test.YtodamjjlnagpjaaGreatDoorPushN
namespace Go.Proofs.YtodamjjlnagpjaaGreatDoor
end Go.Proofs.YtodamjjlnagpjaaGreatDoor
namespace Go.Proofs.YtodamjjlnagpjaaGreatDoor
open Go.RowKit

/-- Block g holds the integers xs from its head on. -/
def IRow (w : World) (g : Nat) (xs : List Int) : Prop := ∃ cur : Array Value, w.heap[g]? = some (.cells cur 3 (0, 0)) ∧ cur.toList.take xs.length = ints xs
section
variable {w w' : World} {g : Nat} {xs : List Int}
theorem IRow.lt (h : IRow w g xs) : g < w.heap.size := by
  obtain ⟨cur, h, _⟩ := h
  rcases Nat.lt_or_ge g w.heap.size with hlt | hge
  · exact hlt
  · rw [Array.getElem?_eq_none hge] at h; cases h
theorem IRow.cell (h : IRow w g xs) {j : Nat} (hj : j < xs.length) : w.cell? ⟨g, j, none⟩ = some (.int .i64 (xs.getD j 0)) := by
  obtain ⟨cur, h, ht⟩ := h
  have h2 := ints_get xs j hj
  rw [← ht, List.getElem?_take, if_pos hj] at h2
  simp [World.cell?, h]
  simpa using h2
theorem IRow.frozen (h : IRow w g xs) (j : Nat) : w.frozen? ⟨g, j, none⟩ = false := by
  obtain ⟨cur, h, _⟩ := h
  simp [World.frozen?, h]
theorem IRow.keep (h : IRow w g xs) (hk : w'.heap[g]? = w.heap[g]?) : IRow w' g xs := by
  obtain ⟨cur, h, ht⟩ := h
  exact ⟨cur, hk.trans h, ht⟩
theorem IRow.below (h : IRow w g xs) (hb : Below w.heap.size w w') : IRow w' g xs := h.keep (hb.block g h.lt)
theorem IRow.set_ (h : IRow w g xs) (j : Nat) (v : Int) : IRow (w.setCell ⟨g, j, none⟩ (.int .i64 v)) g (xs.set j v) := by
  obtain ⟨cur, h, ht⟩ := h
  refine ⟨cur.setIfInBounds j (.int .i64 v), by simp [World.setCell, Array.getElem?_modify, h], ?_⟩
  rw [List.length_set]
  simp only [Array.toList_setIfInBounds, ints, List.map_set, List.take_set]
  rw [ht]; rfl
theorem IRow.of_own {base n c : Nat} (h : w.ownsRow base 3 1 (.slice (some ⟨g, 0, none⟩) n c) n (ints xs)) : IRow w g xs := by
  have hl : n = xs.length := by have := h.1; rw [ints_length] at this; omega
  rcases h.2 with ⟨h2, _⟩ | ⟨g', cap, cur, hv, _, hh, _, _, _, ht⟩
  · simp at h2
  · have e : g = g' := by injection hv with e1; injection e1 with e2; injection e2
    subst e
    exact ⟨cur, hh, by rw [← ht, hl, Nat.mul_one]⟩
theorem IRow.own {base n c : Nat} {ys : List Int} (h : w.ownsRow base 3 1 (.slice (some ⟨g, 0, none⟩) n c) n (ints ys)) (_ : w.grownBy w' (some g)) (hc : ∀ cur cur' : Array Value, w.heap[g]? = some (.cells cur 3 (0, 0)) → w'.heap[g]? = some (.cells cur' 3 (0, 0)) → cur'.size = cur.size) (hx : IRow w' g xs) (hl : xs.length = ys.length) : w'.ownsRow base 3 1 (.slice (some ⟨g, 0, none⟩) n c) n (ints xs) := by
  have hl2 : n = ys.length := by have := h.1; rw [ints_length] at this; omega
  refine ⟨by rw [ints_length]; omega, ?_⟩
  rcases h.2 with ⟨h2, _⟩ | ⟨g', cap, cur, hv, hb, hh, h3, h4, h5, _⟩
  · simp at h2
  · have e : g = g' := by injection hv with e1; injection e1 with e2; injection e2
    subst e
    obtain ⟨cur', h6, h7⟩ := hx
    exact Or.inr ⟨g, cap, cur', hv, hb, h6, h3, h4, by rw [hc _ _ hh h6, h5], by rw [Nat.mul_one, hl2, ← hl]; exact h7⟩
end
def swapAt (xs : List Int) (j : Nat) : List Int := (xs.set (j + 1) (xs.getD j 0)).set j (xs.getD (j + 1) 0)
def insIn (f : Int → Int → Int) (a : Nat) : Nat → List Int → List Int
  | 0, xs => xs
  | j + 1, xs => if a < j + 1 ∧ f (xs.getD (j + 1) 0) (xs.getD j 0) < 0 then insIn f a j (swapAt xs j) else xs
def insK (f : Int → Int → Int) (a : Nat) : Nat → List Int → List Int
  | 0, xs => xs
  | k + 1, xs => insIn f a (a + k + 1) (insK f a k xs)
theorem swapAt_length (xs : List Int) (j : Nat) : (swapAt xs j).length = xs.length := by simp [swapAt]
theorem insIn_length (f : Int → Int → Int) (a : Nat) : ∀ (j : Nat) (xs : List Int), (insIn f a j xs).length = xs.length
  | 0, _ => rfl
  | j + 1, xs => by
    unfold insIn
    split
    · rw [insIn_length, swapAt_length]
    · rfl
theorem insK_length (f : Int → Int → Int) (a : Nat) : ∀ (k : Nat) (xs : List Int), (insK f a k xs).length = xs.length
  | 0, _ => rfl
  | k + 1, xs => by unfold insK; rw [insIn_length, insK_length]
/-- In whatever world that differs from w0 in block g alone, the comparing function answers f at what is ok, and writes nothing that was there. -/
def CmpSays (w0 : World) (g : Nat) (kc : FuncId) (cap : Array Value) (f : Int → Int → Int) (ok : Int → Prop) : Prop :=
  (∀ (a : Array Value) (W : World), (callFunc kc a).run Tryz.prog W = .ok (.enter kc a) W) ∧
  ∀ (x y : Int) (W : World), ok x → ok y → w0.grownBy W (some g) → Calls Tryz.prog kc (#[.int .i64 x, .int .i64 y] ++ cap) W fun e w' => e = .returned (.int .i64 (f x y)) ∧ Below W.heap.size W w'
theorem grown_of_below {w0 w w' : World} {g : Nat} (h : w0.grownBy w (some g)) (hb : Below w.heap.size w w') : w0.grownBy w' (some g) := grown_trans h (grown_below hb _)
theorem ok_swap {ok : Int → Prop} {ys : List Int} {m : Nat} (h : ∀ x ∈ ys, ok x) (hm : m + 1 < ys.length) : ∀ x ∈ swapAt ys m, ok x := by
  intro x hx
  have g0 : ok (ys.getD m 0) := by
    rw [List.getD_eq_getElem?_getD, List.getElem?_eq_getElem (by omega)]; exact h _ (List.getElem_mem _)
  have g1 : ok (ys.getD (m + 1) 0) := by
    rw [List.getD_eq_getElem?_getD, List.getElem?_eq_getElem hm]; exact h _ (List.getElem_mem _)
  unfold swapAt at hx
  rcases List.mem_or_eq_of_mem_set hx with hx | rfl
  · rcases List.mem_or_eq_of_mem_set hx with hx | rfl
    · exact h _ hx
    · exact g0
  · exact g1
theorem insIn_stop {f : Int → Int → Int} {a m : Nat} {ys : List Int} (h : ¬ (a < m + 1 ∧ f (ys.getD (m + 1) 0) (ys.getD m 0) < 0)) : insIn f a (m + 1) ys = ys := by unfold insIn; rw [if_neg h]
theorem insIn_go {f : Int → Int → Int} {a m : Nat} {ys : List Int} (h1 : a < m + 1) (h2 : f (ys.getD (m + 1) 0) (ys.getD m 0) < 0) : insIn f a (m + 1) ys = insIn f a m (swapAt ys m) := by rw [insIn, if_pos ⟨h1, h2⟩]
theorem insIn_low {f : Int → Int → Int} {a j : Nat} {ys : List Int} (h : j ≤ a) : insIn f a j ys = ys := by
  cases j with
  | zero => rfl
  | succ m => exact insIn_stop (fun h2 => by omega)
set_option maxHeartbeats 3200000 in
set_option maxRecDepth 20000 in
theorem ins_any (w0 : World) (g : Nat) (kc : FuncId) (cap : Array Value) (f : Int → Int → Int) (ok : Int → Prop) (hf : CmpSays w0 g kc cap f ok) (n c a b : Nat) (hab : b ≤ n) (han : a ≤ n) (hn : n ≤ 1048576) (xs : List Int) (hl : xs.length = n) (hok : ∀ x ∈ xs, ok x) (w : World) (hw : w0.grownBy w (some g)) (hx : IRow w g xs) :
    Calls Tryz.prog 141 #[.slice (some ⟨g, 0, none⟩) n c, .int .i64 a, .int .i64 b, .func (.func kc) #[] cap] w fun e w' => e = .returned (.tuple #[]) ∧ IRow w' g (insK f a (b - (a + 1)) xs) ∧ w.grownBy w' (some g) := by
  have HF := hide hf.2
  have hcf := hf.1
  have HOK := hide hok
  have HX := hide hx
  have HL := hide hl
  clear hf hok hx hl
  go_enter Tryz.func141, Tryz.ntmps141
  go_wp2
  go_loopw [8] (fun i wr => ∃ k : Nat, k ≤ b - (a + 1) ∧ i = .int .i64 ((a + 1 + k : Nat) : Int) ∧ (∀ x ∈ insK f a k xs, ok x) ∧ IRow wr g (insK f a k xs) ∧ w.grownBy wr (some g)) (fun i _ => b - (intOf i).toNat)
  case atStart => exact ⟨0, by omega, by go_num, HOK.out, HX.out, grown_refl _ _⟩
  case round =>
    obtain ⟨k, hk, rfl, hok, hx, hg⟩ := hrel
    by_cases hlt : a + 1 + k < b
    · have HK := hide (show insK f a (k + 1) xs = insIn f a (a + 1 + k) (insK f a k xs) by rw [show a + 1 + k = a + k + 1 by omega]; rfl)
      have hlk := (insK_length f a k xs).trans HL.out
      have H1 := hide hok
      have H2 := hide hx
      have H3 := hide hlk
      generalize insK f a k xs = ys0 at *
      clear hok hx hlk
      obtain ⟨wo, rfl⟩ : ∃ wo : World, wo = wr := ⟨_, rfl⟩
      go_wp2
      go_loopw [9] (fun j wq => ∃ (m : Nat) (ys : List Int), m ≤ a + 1 + k ∧ j = .int .i64 (m : Int) ∧ ys.length = n ∧ (∀ x ∈ ys, ok x) ∧ Hid (insIn f a m ys = insIn f a (a + 1 + k) ys0) ∧ IRow wq g ys ∧ w.grownBy wq (some g)) (fun j _ => (intOf j).toNat)
      case atStart => exact ⟨a + 1 + k, ys0, by omega, rfl, H3.out, H1.out, hide rfl, H2.out, hg⟩
      case round =>
        obtain ⟨m, ys, hm, rfl, hly, hoky, hi, hxy, hgy⟩ := hrel
        by_cases hma : a < m
        · obtain ⟨m, rfl⟩ : ∃ m', m = m' + 1 := ⟨m - 1, by omega⟩
          have x1 := hxy.cell (j := m + 1) (by omega)
          have x0 := hxy.cell (j := m) (by omega)
          have p1 : ok (ys.getD (m + 1) 0) := by
            rw [List.getD_eq_getElem?_getD, List.getElem?_eq_getElem (by omega)]; exact hoky _ (List.getElem_mem _)
          have p0 : ok (ys.getD m 0) := by
            rw [List.getD_eq_getElem?_getD, List.getElem?_eq_getElem (by omega)]; exact hoky _ (List.getElem_mem _)
          have HX2 := hide hxy
          have HO2 := hide hoky
          have HC := hide (fun (W : World) (hW : Below wr.heap.size wr W) => HF.out (ys.getD (m + 1) 0) (ys.getD m 0) W p1 p0 (grown_trans hw (grown_of_below hgy hW)))
          have hma2 : (a : Int) < (m : Int) + 1 := by omega
          have i0 : (0 : Int) ≤ (m : Int) + 1 := by omega
          have i1 : (m : Int) + 1 < (n : Int) := by omega
          have i2 : (0 : Int) ≤ (m : Int) := by omega
          have i3 : (m : Int) < (n : Int) := by omega
          clear p0 p1 hxy hoky
          by_cases hcmp : f (ys.getD (m + 1) 0) (ys.getD m 0) < 0
          · have HS := hide (insIn_go (a := a) (m := m) (ys := ys) (f := f) (by omega) hcmp)
            have HW := hide (show swapAt ys m = (ys.set (m + 1) (ys.getD m 0)).set m (ys.getD (m + 1) 0) from rfl)
            have f1 := HX2.out.frozen (m + 1)
            have f0 := HX2.out.frozen m
            have hlg := HX2.out.lt
            generalize ys.getD (m + 1) 0 = x at *
            generalize ys.getD m 0 = y at *
            generalize f x y = r at *
            have hne : Nonempty (InW fun W => Below wr.heap.size wr W) := ⟨⟨wr, Below.refl _ _⟩⟩
            have X0 := hide x0
            have X1 := hide x1
            replace x0 := inv_cell x0
            replace x1 := inv_cell x1
            go_wp2_with fail
            refine wp_region_inv (I := fun W => Below wr.heap.size wr W) (by kernel_rfl) (by kernel_rfl) (Below.refl _ _).drew ?_
            repeat (go_big_quiet_step ((refine inv_call (inv_closed wr) (HC.out _ (InW.ok _)))))
            refine wpQuiet_nil ?_
            rintro _ ⟨⟨w9, h9⟩, rfl⟩
            clear x0 x1 hne
            have c1 := cell_thr h9 X1.out
            have c0 := cell_thr h9 X0.out
            have F1 := frozen_thr h9 hlg f1
            have F0 := frozen_thr h9 hlg f0
            have H9 := hide h9
            clear h9 f1 f0
            go_wp2
            go_region
            go_wp2
            go_roundw
            case rel => exact ⟨m, swapAt ys m, by omega, by go_num, by rw [swapAt_length]; exact hly, ok_swap HO2.out (by omega), hide (HS.out.symm.trans hi.out), by rw [HW.out]; exact ((HX2.out.below H9.out).set_ (m + 1) y).set_ m x, grown_drewN (grown_set (grown_set (grown_of_below hgy H9.out) (.inl rfl) _) (.inl rfl) _) 1⟩
            case measure => simp [intOf]
          · have HS := hide (insIn_stop (a := a) (m := m) (ys := ys) (fun h => hcmp h.2))
            generalize ys.getD (m + 1) 0 = x at *
            generalize ys.getD m 0 = y at *
            generalize f x y = r at *
            have hne : Nonempty (InW fun W => Below wr.heap.size wr W) := ⟨⟨wr, Below.refl _ _⟩⟩
            replace x0 := inv_cell x0
            replace x1 := inv_cell x1
            go_wp2_with fail
            refine wp_region_inv (I := fun W => Below wr.heap.size wr W) (by kernel_rfl) (by kernel_rfl) (Below.refl _ _).drew ?_
            repeat (go_big_quiet_step ((refine inv_call (inv_closed wr) (HC.out _ (InW.ok _)))))
            refine wpQuiet_nil ?_
            rintro _ ⟨⟨w9, h9⟩, rfl⟩
            have HE := hide (HK.out.trans (hi.out.symm.trans HS.out))
            have H9 := hide h9
            have hr : ¬ r < 0 := (by omega)
            clear h9 hcmp
            go_wp2
            go_roundw
            case rel => exact ⟨k + 1, by omega, by go_num, by rw [HE.out]; exact HO2.out, by rw [HE.out]; exact HX2.out.below H9.out, grown_of_below hgy H9.out⟩
            case measure => simp [intOf]; omega
        · have HS := hide (insIn_low (f := f) (a := a) (j := m) (ys := ys) (by omega))
          have HE := hide (HK.out.trans (hi.out.symm.trans HS.out))
          have HX2 := hide hxy
          have HO2 := hide hoky
          have hd : decide ((a : Int) < (m : Int)) = false := by simpa using hma
          clear hxy hoky
          go_wp2_with fail
          go_quiet (fail)
          go_wp2
          go_roundw
          case rel => exact ⟨k + 1, by omega, by go_num, by rw [HE.out]; exact HO2.out, by rw [HE.out]; exact HX2.out.below (below_drewN (Below.refl _ _) _), grown_drewN hgy _⟩
          case measure => simp [intOf]; omega
    · obtain rfl : k = b - (a + 1) := by omega
      have HX2 := hide hx
      clear hx hok
      go_wp2
      go_end0
      exact ⟨rfl, HX2.out, hg⟩
end Go.Proofs.YtodamjjlnagpjaaGreatDoor
namespace Go.Proofs.YtodamjjlnagpjaaGreatDoor
open Go.RowKit
def sortK (f : Int → Int → Int) (xs : List Int) : List Int := insK f 0 (xs.length - 1) xs
theorem insIn_ok {f : Int → Int → Int} {a : Nat} {ok : Int → Prop} : ∀ (j : Nat) {ys : List Int}, (∀ x ∈ ys, ok x) → j < ys.length → ∀ x ∈ insIn f a j ys, ok x
  | 0, _, h, _ => h
  | j + 1, ys, h, hj => by
    unfold insIn
    split
    · exact insIn_ok j (ok_swap h hj) (by rw [swapAt_length]; omega)
    · exact h
theorem insK_ok {f : Int → Int → Int} {a k : Nat} {ok : Int → Prop} {xs : List Int} (h : ∀ x ∈ xs, ok x) (hk : a + k < xs.length) : ∀ x ∈ insK f a k xs, ok x := by
  induction k with
  | zero => exact h
  | succ k ih => exact insIn_ok _ (ih (by omega)) (by rw [insK_length]; omega)
set_option maxHeartbeats 1600000 in
set_option maxRecDepth 20000 in
theorem stb_any (w0 : World) (g : Nat) (kc : FuncId) (cap : Array Value) (f : Int → Int → Int) (ok : Int → Prop) (hf : CmpSays w0 g kc cap f ok) (n c : Nat) (hn : n ≤ 20) (xs : List Int) (hl : xs.length = n) (hok : ∀ x ∈ xs, ok x) (w : World) (hw : w0.grownBy w (some g)) (hx : IRow w g xs) :
    Calls Tryz.prog 121 #[.slice (some ⟨g, 0, none⟩) n c, .int .i64 n, .func (.func kc) #[] cap] w fun e w' => e = .returned (.tuple #[]) ∧ IRow w' g (sortK f xs) ∧ w.grownBy w' (some g) := by
  have H1 := hide (fun (a b : Nat) (hab : b ≤ n) (han : a ≤ n) (ys : List Int) (hly : ys.length = n) (hoky : ∀ x ∈ ys, ok x) (W : World) (hW : w0.grownBy W (some g)) (hX : IRow W g ys) => ins_any w0 g kc cap f ok hf n c a b hab han (by omega) ys hly hoky W hW hX)
  have HE := hide (show sortK f xs = insK f 0 (n - 1) xs by rw [sortK, hl])
  have HX := hide hx
  have HL := hide hl
  have HOK := hide hok
  clear hx hl hok hf
  by_cases h20 : n = 20
  · subst h20
    go_enter Tryz.func121, Tryz.ntmps121
    go_wp2
    refine wp_loop_rounds 2 ?_
    rw [rounds_succ]
    go_wp2_with fail
    refine (H1.out 0 20 (by omega) (by omega) xs HL.out HOK.out w hw HX.out).mono ?_
    rintro e w1 ⟨rfl, hx1, hg1⟩
    have HX1 := hide hx1
    have HO1 := hide (insK_ok (f := f) (a := 0) (k := 19) (ok := ok) HOK.out (by rw [HL.out]; omega))
    clear hx1
    go_wp2
    rw [rounds_succ]
    go_wp2_with fail
    refine (H1.out 20 20 (by omega) (by omega) (insK f 0 19 xs) (by rw [insK_length]; exact HL.out) HO1.out w1 (grown_trans hw hg1) HX1.out).mono ?_
    rintro e w2 ⟨rfl, hx2, hg2⟩
    have HX2 := hide hx2
    clear hx2
    go_wp2
    refine wp_loop_rounds 1 ?_
    rw [rounds_succ]
    go_wp2
    go_end0
    exact ⟨rfl, by rw [HE.out]; exact HX2.out, grown_trans hg1 hg2⟩
  · have hlt : n < 20 := by omega
    go_enter Tryz.func121, Tryz.ntmps121
    go_wp2
    refine wp_loop_rounds 1 ?_
    rw [rounds_succ]
    go_wp2_with fail
    refine (H1.out 0 n (by omega) (by omega) xs HL.out HOK.out w hw HX.out).mono ?_
    rintro e w1 ⟨rfl, hx1, hg1⟩
    have HX1 := hide hx1
    clear hx1
    go_wp2
    refine wp_loop_rounds 1 ?_
    rw [rounds_succ]
    go_wp2
    go_end0
    exact ⟨rfl, by rw [HE.out]; exact HX1.out, hg1⟩
end Go.Proofs.YtodamjjlnagpjaaGreatDoor
namespace Go.Proofs.YtodamjjlnagpjaaGreatDoor
theorem getD_at (p : List Int) (y : Int) (t : List Int) {j : Nat} (h : p.length = j) : (p ++ y :: t).getD j 0 = y := by
  rw [List.getD_eq_getElem?_getD, List.getElem?_append_right (by omega), h, Nat.sub_self]; rfl
theorem getD_at1 (p : List Int) (y z : Int) (t : List Int) {j : Nat} (h : p.length = j) : (p ++ y :: z :: t).getD (j + 1) 0 = z := by
  rw [List.getD_eq_getElem?_getD, List.getElem?_append_right (by omega), h, Nat.add_sub_cancel_left]; rfl
theorem swapAt_at (p : List Int) (y z : Int) (t : List Int) {j : Nat} (h : p.length = j) : swapAt (p ++ y :: z :: t) j = p ++ z :: y :: t := by
  unfold swapAt
  rw [getD_at p y (z :: t) h, getD_at1 p y z t h, List.set_append_right _ _ (by omega), List.set_append_right _ _ (by omega), h, Nat.add_sub_cancel_left, Nat.sub_self]; rfl
/-- One element is pushed down into the sorted part: what comes out is sorted, and is made of the same elements. -/
theorem insIn_sorted {f : Int → Int → Int} {R : Int → Int → Prop} {z : Int} {s : List Int} : ∀ (j : Nat) (p q : List Int), p.length = j → (p ++ q).Pairwise R → (∀ x y, x ∈ p → y ∈ p → R x y → R y z → R x z) → (∀ x ∈ p, (f z x < 0 → R z x) ∧ (¬ f z x < 0 → R x z)) → (∀ x ∈ q, R z x) →
    ∃ r, insIn f 0 j (p ++ z :: (q ++ s)) = r ++ s ∧ r.Pairwise R ∧ r.Perm (p ++ z :: q)
  | 0, p, q, hp, hw, _, _, hq => by
    obtain rfl := List.eq_nil_of_length_eq_zero hp
    exact ⟨z :: q, rfl, List.pairwise_cons.2 ⟨hq, hw⟩, List.Perm.refl _⟩
  | j + 1, p, q, hp, hw, ht, hz, hq => by
    obtain ⟨p', y, rfl⟩ : ∃ p' y, p = p' ++ [y] := ⟨p.dropLast, p.getLast (by intro e; simp [e] at hp), (List.dropLast_concat_getLast _).symm⟩
    have hp' : p'.length = j := by simpa using hp
    have e0 : p' ++ [y] ++ z :: (q ++ s) = p' ++ y :: z :: (q ++ s) := by simp
    have hy := hz y (by simp)
    rw [e0, insIn, getD_at _ _ _ hp', getD_at1 _ _ _ _ hp']
    by_cases hlt : f z y < 0
    · rw [if_pos ⟨by omega, hlt⟩, swapAt_at _ _ _ _ hp']
      obtain ⟨r, h1, h2, h3⟩ := insIn_sorted (s := s) j p' (y :: q) hp' (by simpa using hw) (fun a b ha hb => ht a b (by simp [ha]) (by simp [hb])) (fun x hx => hz x (by simp [hx])) (fun x hx => by
        rcases List.mem_cons.1 hx with rfl | hx
        · exact hy.1 hlt
        · exact hq x hx)
      refine ⟨r, h1, h2, h3.trans ?_⟩
      rw [List.append_assoc]
      exact List.Perm.append_left _ (List.Perm.swap _ _ _)
    · rw [if_neg (fun h => hlt h.2)]
      refine ⟨p' ++ [y] ++ z :: q, by simp, ?_, List.Perm.refl _⟩
      rw [List.pairwise_append] at hw ⊢
      refine ⟨hw.1, List.pairwise_cons.2 ⟨hq, hw.2.1⟩, fun a ha b hb => ?_⟩
      rcases List.mem_cons.1 hb with rfl | hb
      · rcases List.mem_append.1 ha with ha2 | ha2
        · exact ht a y ha (by simp) ((List.pairwise_append.1 hw.1).2.2 a ha2 y (by simp)) (hy.2 hlt)
        · rw [List.mem_singleton] at ha2; subst ha2; exact hy.2 hlt
      · exact hw.2.2 a ha b hb
theorem insK_sorted {f : Int → Int → Int} {R : Int → Int → Prop} {xs : List Int} (hR : ∀ x y z, x ∈ xs → y ∈ xs → z ∈ xs → R x y → R y z → R x z) (hS : xs.Pairwise fun x z => (f z x < 0 → R z x) ∧ (¬ f z x < 0 → R x z)) : ∀ (k : Nat), k < xs.length →
    ∃ r, insK f 0 k xs = r ++ xs.drop (k + 1) ∧ r.Pairwise R ∧ r.Perm (xs.take (k + 1))
  | 0, hk => by
    match xs, hk with
    | x :: t, _ => exact ⟨[x], rfl, List.pairwise_singleton _ _, List.Perm.refl _⟩
  | k + 1, hk => by
    obtain ⟨r, h1, h2, h3⟩ := insK_sorted hR hS k (by omega)
    have hl : r.length = k + 1 := by rw [h3.length_eq, List.length_take]; omega
    have hd : xs.drop (k + 1) = xs[k + 1] :: xs.drop (k + 2) := List.drop_eq_getElem_cons hk
    have hm : ∀ x ∈ r, x ∈ xs := fun x hx => List.mem_of_mem_take (h3.mem_iff.1 hx)
    have hz : ∀ x ∈ r, (f xs[k + 1] x < 0 → R xs[k + 1] x) ∧ (¬ f xs[k + 1] x < 0 → R x xs[k + 1]) := fun x hx => by
      have h4 : (xs.take (k + 1) ++ xs.drop (k + 1)).Pairwise (fun x z => (f z x < 0 → R z x) ∧ (¬ f z x < 0 → R x z)) := by rw [List.take_append_drop]; exact hS
      rw [List.pairwise_append] at h4
      exact h4.2.2 x (h3.mem_iff.1 hx) xs[k + 1] (by rw [hd]; exact List.mem_cons_self)
    obtain ⟨r', g1, g2, g3⟩ := insIn_sorted (f := f) (R := R) (z := xs[k + 1]) (s := xs.drop (k + 2)) (k + 1) r [] hl (by simpa using h2) (fun x y hx hy => hR x y _ (hm x hx) (hm y hy) (List.getElem_mem _)) hz (by simp)
    refine ⟨r', ?_, g2, g3.trans ?_⟩
    · rw [insK, h1, hd, Nat.zero_add]; exact g1
    · rw [List.take_succ_eq_append_getElem hk]; exact h3.append_right _
/-- A list that is sorted by insertion is sorted, and is made of the same elements. -/
theorem sortK_sorted {f : Int → Int → Int} {R : Int → Int → Prop} {xs : List Int} (hR : ∀ x y z, x ∈ xs → y ∈ xs → z ∈ xs → R x y → R y z → R x z) (hS : xs.Pairwise fun x z => (f z x < 0 → R z x) ∧ (¬ f z x < 0 → R x z)) : (sortK f xs).Pairwise R ∧ (sortK f xs).Perm xs := by
  unfold sortK
  by_cases h0 : xs.length = 0
  · obtain rfl := List.eq_nil_of_length_eq_zero h0
    exact ⟨List.Pairwise.nil, List.Perm.refl _⟩
  · obtain ⟨r, h1, h2, h3⟩ := insK_sorted hR hS (xs.length - 1) (by omega)
    rw [h1, List.drop_of_length_le (by omega), List.append_nil]
    rw [List.take_of_length_le (by omega)] at h3
    exact ⟨h2, h3⟩
end Go.Proofs.YtodamjjlnagpjaaGreatDoor
