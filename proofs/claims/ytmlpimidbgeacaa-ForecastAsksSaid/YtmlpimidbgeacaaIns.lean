/-
  The contract of the library's insertion sort by a comparing function, over an own row of scenarios that are named by integers. Condition: the comparing function answers f and writes nothing that was there.
-/
import Derived.Test.YtmlpimidbgeacaaProg
import Derived.Test.YtmlpimidbgeacaaMem
import Derived.Test.YtmlpimidbgeacaaReg
import Derived.Test.YtmlpimidbgeacaaFsc
namespace Go.Proofs.Ytmlpimidbgeacaa
open Go.RowKit

theorem scCells_set : ∀ (ss : List Sc) (j : Nat) (s : Sc), ((scCells ss).set (j * 2) (.int .i64 s.wt)).set (j * 2 + 1) (.slice s.A s.n s.c) = scCells (ss.set j s)
  | [], j, s => by simp [scCells]
  | a :: t, 0, s => by simp [scCells, Sc.arr]
  | a :: t, j + 1, s => by
    have e : scCells (a :: t) = .int .i64 a.wt :: .slice a.A a.n a.c :: scCells t := by simp [scCells, Sc.arr]
    have e2 : scCells ((a :: t).set (j + 1) s) = .int .i64 a.wt :: .slice a.A a.n a.c :: scCells (t.set j s) := by simp [scCells, Sc.arr]
    rw [e, e2, ← scCells_set t j s, show (j + 1) * 2 = j * 2 + 1 + 1 by omega]
    rfl
/-- Block g holds the scenarios that the integers xs name, from its head on. -/
def IRow (enc : Int → Sc) (w : World) (g : Nat) (xs : List Int) : Prop := ∃ cur : Array Value, w.heap[g]? = some (.cells cur 32 (0, 0)) ∧ cur.toList.take (xs.length * 2) = scCells (xs.map enc)
section
variable {w w' : World} {g : Nat} {xs : List Int} {enc : Int → Sc}
theorem IRow.lt (h : IRow enc w g xs) : g < w.heap.size := by
  obtain ⟨cur, h, _⟩ := h
  rcases Nat.lt_or_ge g w.heap.size with hlt | hge
  · exact hlt
  · rw [Array.getElem?_eq_none hge] at h; cases h
theorem IRow.cell (h : IRow enc w g xs) {j : Nat} (hj : j < xs.length) {s : Sc} (hs : enc (xs.getD j 0) = s) : w.cell? ⟨g, j * 2, none⟩ = some (.int .i64 s.wt) ∧ w.cell? ⟨g, j * 2 + 1, none⟩ = some (.slice s.A s.n s.c) := by
  obtain ⟨cur, h, ht⟩ := h
  have hl : j < (xs.map enc).length := by simpa using hj
  have h2 := scCells_get (xs.map enc) j hl
  rw [show (xs.map enc)[j] = s by simp only [List.getElem_map]; rw [← hs, List.getD_eq_getElem?_getD, List.getElem?_eq_getElem hj]; rfl, ← ht, List.getElem?_take, List.getElem?_take, if_pos (by omega), if_pos (by omega)] at h2
  simp only [World.cell?, h]
  simpa using h2
theorem IRow.frozen (h : IRow enc w g xs) (j : Nat) : w.frozen? ⟨g, j, none⟩ = false := by
  obtain ⟨cur, h, _⟩ := h
  simp [World.frozen?, h]
theorem IRow.keep (h : IRow enc w g xs) (hk : w'.heap[g]? = w.heap[g]?) : IRow enc w' g xs := by
  obtain ⟨cur, h, ht⟩ := h
  exact ⟨cur, hk.trans h, ht⟩
theorem IRow.below (h : IRow enc w g xs) (hb : Below w.heap.size w w') : IRow enc w' g xs := h.keep (hb.block g h.lt)
theorem IRow.drew (h : IRow enc w g xs) : IRow enc w.drew g xs := h
theorem IRow.set_ (h : IRow enc w g xs) (j : Nat) (v : Int) {s : Sc} (hs : enc v = s) : IRow enc ((w.setCell ⟨g, j * 2, none⟩ (.int .i64 s.wt)).setCell ⟨g, j * 2 + 1, none⟩ (.slice s.A s.n s.c)) g (xs.set j v) := by
  obtain ⟨cur, h, ht⟩ := h
  refine ⟨(cur.setIfInBounds (j * 2) (.int .i64 s.wt)).setIfInBounds (j * 2 + 1) (.slice s.A s.n s.c), by simp [World.setCell, Array.getElem?_modify, h], ?_⟩
  rw [List.length_set, List.map_set, hs, ← scCells_set, ← ht]
  simp only [Array.toList_setIfInBounds, List.take_set]
theorem IRow.of_own {base n c : Nat} (h : w.ownsRow base 32 2 (.slice (some ⟨g, 0, none⟩) n c) n (scCells (xs.map enc))) : IRow enc w g xs := by
  have hl : n = xs.length := by have := h.1; rw [scCells_len, List.length_map] at this; omega
  rcases h.2 with ⟨h2, _⟩ | ⟨g', cap, cur, hv, _, hh, _, _, _, ht⟩
  · simp at h2
  · have e : g = g' := by injection hv with e1; injection e1 with e2; injection e2
    subst e
    exact ⟨cur, hh, by rw [← ht, hl]⟩
end
def swapAt (xs : List Int) (j : Nat) : List Int := (xs.set (j + 1) (xs.getD j 0)).set j (xs.getD (j + 1) 0)
def insIn (f : Int → Int → Int) (a : Nat) : Nat → List Int → List Int
  | 0, xs => xs
  | j + 1, xs => if a < j + 1 ∧ f (xs.getD (j + 1) 0) (xs.getD j 0) < 0 then insIn f a j (swapAt xs j) else xs
def insK (f : Int → Int → Int) (a : Nat) : Nat → List Int → List Int
  | 0, xs => xs
  | k + 1, xs => insIn f a (a + k + 1) (insK f a k xs)
theorem swapAt_length (xs : List Int) (j : Nat) : (swapAt xs j).length = xs.length := by simp [swapAt]
theorem insIn_length (f : Int → Int → Int) (a : Nat) : ∀ (j : Nat) (xs : List Int), (insIn f a j xs).length = xs.length
  | 0, _ => rfl
  | j + 1, xs => by
    unfold insIn
    split
    · rw [insIn_length, swapAt_length]
    · rfl
theorem insK_length (f : Int → Int → Int) (a : Nat) : ∀ (k : Nat) (xs : List Int), (insK f a k xs).length = xs.length
  | 0, _ => rfl
  | k + 1, xs => by unfold insK; rw [insIn_length, insK_length]
/-- In whatever world that differs from w0 in block g alone, the comparing function answers f at what is ok, and writes nothing that was there. -/
def CmpSays (enc : Int → Sc) (w0 : World) (g : Nat) (kc : FuncId) (cap : Array Value) (f : Int → Int → Int) (ok : Int → Prop) : Prop :=
  (∀ (a : Array Value) (W : World), (callFunc kc a).run Try.prog W = .ok (.enter kc a) W) ∧
  ∀ (x y : Int) (W : World), ok x → ok y → w0.grownBy W (some g) → Calls Try.prog kc (#[.agg (enc x).arr, .agg (enc y).arr] ++ cap) W fun e w' => e = .returned (.int .i64 (f x y)) ∧ Below W.heap.size W w'
theorem grown_drew1 {a w : World} {row : Option Nat} (h : a.grownBy w row) : a.grownBy w.drew row := ⟨h.os, h.tape, h.output, h.size, h.block⟩
theorem grown_set2 {a w : World} {g : Nat} (h : a.grownBy w (some g)) (o1 o2 : Nat) (u1 u2 : Value) : a.grownBy ((w.setCell ⟨g, o1, none⟩ u1).setCell ⟨g, o2, none⟩ u2) (some g) := grown_set (p := ⟨g, o2, none⟩) (grown_set (p := ⟨g, o1, none⟩) h (.inl rfl) _) (.inl rfl) _
theorem grown_of_below {w0 w w' : World} {g : Nat} (h : w0.grownBy w (some g)) (hb : Below w.heap.size w w') : w0.grownBy w' (some g) := grown_trans h (grown_below hb _)
theorem ok_swap {ok : Int → Prop} {ys : List Int} {m : Nat} (h : ∀ x ∈ ys, ok x) (hm : m + 1 < ys.length) : ∀ x ∈ swapAt ys m, ok x := by
  intro x hx
  have g0 : ok (ys.getD m 0) := by
    rw [List.getD_eq_getElem?_getD, List.getElem?_eq_getElem (by omega)]; exact h _ (List.getElem_mem _)
  have g1 : ok (ys.getD (m + 1) 0) := by
    rw [List.getD_eq_getElem?_getD, List.getElem?_eq_getElem hm]; exact h _ (List.getElem_mem _)
  unfold swapAt at hx
  rcases List.mem_or_eq_of_mem_set hx with hx | rfl
  · rcases List.mem_or_eq_of_mem_set hx with hx | rfl
    · exact h _ hx
    · exact g0
  · exact g1
theorem insIn_stop {f : Int → Int → Int} {a m : Nat} {ys : List Int} (h : ¬ (a < m + 1 ∧ f (ys.getD (m + 1) 0) (ys.getD m 0) < 0)) : insIn f a (m + 1) ys = ys := by unfold insIn; rw [if_neg h]
theorem insIn_go {f : Int → Int → Int} {a m : Nat} {ys : List Int} (h1 : a < m + 1) (h2 : f (ys.getD (m + 1) 0) (ys.getD m 0) < 0) : insIn f a (m + 1) ys = insIn f a m (swapAt ys m) := by rw [insIn, if_pos ⟨h1, h2⟩]
theorem insIn_low {f : Int → Int → Int} {a j : Nat} {ys : List Int} (h : j ≤ a) : insIn f a j ys = ys := by
  cases j with
  | zero => rfl
  | succ m => exact insIn_stop (fun h2 => by omega)
set_option maxHeartbeats 3200000 in
set_option maxRecDepth 20000 in
theorem ins_any (enc : Int → Sc) (w0 : World) (g : Nat) (kc : FuncId) (cap : Array Value) (f : Int → Int → Int) (ok : Int → Prop) (hf : CmpSays enc w0 g kc cap f ok) (n c a b : Nat) (hab : b ≤ n) (han : a ≤ n) (hn : n ≤ 1048576) (xs : List Int) (hl : xs.length = n) (hok : ∀ x ∈ xs, ok x) (w : World) (hw : w0.grownBy w (some g)) (hx : IRow enc w g xs) :
    Calls Try.prog 62 #[.slice (some ⟨g, 0, none⟩) n c, .int .i64 a, .int .i64 b, .func (.func kc) #[] cap] w fun e w' => e = .returned (.tuple #[]) ∧ IRow enc w' g (insK f a (b - (a + 1)) xs) ∧ w.grownBy w' (some g) := by
  have HF := hide hf.2
  have hcf := hf.1
  have HOK := hide hok
  have HX := hide hx
  have HL := hide hl
  clear hf hok hx hl
  go_enter Try.func62, Try.ntmps62
  go_wp2
  go_loopw [8] (fun i wr => ∃ k : Nat, k ≤ b - (a + 1) ∧ i = .int .i64 ((a + 1 + k : Nat) : Int) ∧ (∀ x ∈ insK f a k xs, ok x) ∧ IRow enc wr g (insK f a k xs) ∧ w.grownBy wr (some g)) (fun i _ => b - (intOf i).toNat)
  case atStart => exact ⟨0, by omega, by go_num, HOK.out, HX.out, grown_refl _ _⟩
  case round =>
    obtain ⟨k, hk, rfl, hok, hx, hg⟩ := hrel
    by_cases hlt : a + 1 + k < b
    · have HK := hide (show insK f a (k + 1) xs = insIn f a (a + 1 + k) (insK f a k xs) by rw [show a + 1 + k = a + k + 1 by omega]; rfl)
      have hlk := (insK_length f a k xs).trans HL.out
      have H1 := hide hok
      have H2 := hide hx
      have H3 := hide hlk
      generalize insK f a k xs = ys0 at *
      clear hok hx hlk
      obtain ⟨wo, rfl⟩ : ∃ wo : World, wo = wr := ⟨_, rfl⟩
      go_wp2
      go_loopw [9] (fun j wq => ∃ (m : Nat) (ys : List Int), m ≤ a + 1 + k ∧ j = .int .i64 (m : Int) ∧ ys.length = n ∧ (∀ x ∈ ys, ok x) ∧ Hid (insIn f a m ys = insIn f a (a + 1 + k) ys0) ∧ IRow enc wq g ys ∧ w.grownBy wq (some g)) (fun j _ => (intOf j).toNat)
      case atStart => exact ⟨a + 1 + k, ys0, by omega, rfl, H3.out, H1.out, hide rfl, H2.out, hg⟩
      case round =>
        obtain ⟨m, ys, hm, rfl, hly, hoky, hi, hxy, hgy⟩ := hrel
        by_cases hma : a < m
        · obtain ⟨m, rfl⟩ : ∃ m', m = m' + 1 := ⟨m - 1, by omega⟩
          rcases ex1 : enc (ys.getD (m + 1) 0) with ⟨wx, Ax, nx, cx, lx⟩
          rcases ex0 : enc (ys.getD m 0) with ⟨wy, Ay, ny, cy, ly⟩
          obtain ⟨x1, x3⟩ := hxy.cell (j := m + 1) (by omega) ex1
          obtain ⟨x0, x2⟩ := hxy.cell (j := m) (by omega) ex0
          simp only at x0 x1 x2 x3
          have p1 : ok (ys.getD (m + 1) 0) := by
            rw [List.getD_eq_getElem?_getD, List.getElem?_eq_getElem (by omega)]; exact hoky _ (List.getElem_mem _)
          have p0 : ok (ys.getD m 0) := by
            rw [List.getD_eq_getElem?_getD, List.getElem?_eq_getElem (by omega)]; exact hoky _ (List.getElem_mem _)
          have HX2 := hide hxy
          have HO2 := hide hoky
          have HC := hide (fun (W : World) (hW : Below wr.heap.size wr W) => HF.out (ys.getD (m + 1) 0) (ys.getD m 0) W p1 p0 (grown_trans hw (grown_of_below hgy hW)))
          have hma2 : (a : Int) < (m : Int) + 1 := by omega
          have i0 : (0 : Int) ≤ (m : Int) + 1 := by omega
          have i1 : (m : Int) + 1 < (n : Int) := by omega
          have i2 : (0 : Int) ≤ (m : Int) := by omega
          have i3 : (m : Int) < (n : Int) := by omega
          rw [ex1, ex0] at HC
          unfold Sc.arr at HC
          simp only at HC
          clear p0 p1 hxy hoky
          by_cases hcmp : f (ys.getD (m + 1) 0) (ys.getD m 0) < 0
          · have HS := hide (insIn_go (a := a) (m := m) (ys := ys) (f := f) (by omega) hcmp)
            have HW := hide (show swapAt ys m = (ys.set (m + 1) (ys.getD m 0)).set m (ys.getD (m + 1) 0) from rfl)
            have f1 := HX2.out.frozen ((m + 1) * 2)
            have f3 := HX2.out.frozen ((m + 1) * 2 + 1)
            have f0 := HX2.out.frozen (m * 2)
            have f2 := HX2.out.frozen (m * 2 + 1)
            have HE1 := hide ex1
            have HE0 := hide ex0
            clear ex0 ex1
            have hlg := HX2.out.lt
            generalize ys.getD (m + 1) 0 = x at *
            generalize ys.getD m 0 = y at *
            generalize f x y = r at *
            have hne : Nonempty (InW fun W => Below wr.heap.size wr W) := ⟨⟨wr, Below.refl _ _⟩⟩
            have X0 := hide x0
            have X1 := hide x1
            have X2 := hide x2
            have X3 := hide x3
            replace x0 := inv_cell x0
            replace x1 := inv_cell x1
            replace x2 := inv_cell x2
            replace x3 := inv_cell x3
            go_wp2_with fail
            refine wp_region_inv (I := fun W => Below wr.heap.size wr W) (by kernel_rfl) (by kernel_rfl) (Below.refl _ _).drew ?_
            repeat (go_big_quiet_step ((refine inv_call (inv_closed wr) (HC.out _ (InW.ok _)))))
            refine wpQuiet_nil ?_
            rintro _ ⟨⟨w9, h9⟩, rfl⟩
            clear x0 x1 x2 x3 hne
            have c1 := cell_thr h9 X1.out
            have c0 := cell_thr h9 X0.out
            have c3 := cell_thr h9 X3.out
            have c2 := cell_thr h9 X2.out
            have F1 := frozen_thr h9 hlg f1
            have F0 := frozen_thr h9 hlg f0
            have F3 := frozen_thr h9 hlg f3
            have F2 := frozen_thr h9 hlg f2
            have H9 := hide h9
            clear h9 f1 f0 f2 f3 X0 X1 X2 X3
            go_wp2
            go_region
            go_wp2
            go_roundw
            case rel =>
              refine ⟨m, swapAt ys m, by omega, by go_num, by rw [swapAt_length]; exact hly, ok_swap HO2.out (by omega), hide (HS.out.symm.trans hi.out), ?_, ?_⟩
              · have r1 := (HX2.out.below H9.out).set_ (m + 1) y HE0.out
                simp only at r1
                have r2 := r1.set_ m x HE1.out
                simp only at r2
                rw [HW.out]
                with_reducible exact r2.drew
              · with_reducible refine grown_drew1 ?_
                with_reducible refine grown_set2 ?_ _ _ _ _
                with_reducible refine grown_set2 ?_ _ _ _ _
                exact grown_of_below hgy H9.out
            case measure => simp [intOf]
          · have HS := hide (insIn_stop (a := a) (m := m) (ys := ys) (fun h => hcmp h.2))
            generalize ys.getD (m + 1) 0 = x at *
            generalize ys.getD m 0 = y at *
            generalize f x y = r at *
            clear ex0 ex1
            have hne : Nonempty (InW fun W => Below wr.heap.size wr W) := ⟨⟨wr, Below.refl _ _⟩⟩
            replace x0 := inv_cell x0
            replace x1 := inv_cell x1
            replace x2 := inv_cell x2
            replace x3 := inv_cell x3
            go_wp2_with fail
            refine wp_region_inv (I := fun W => Below wr.heap.size wr W) (by kernel_rfl) (by kernel_rfl) (Below.refl _ _).drew ?_
            repeat (go_big_quiet_step ((refine inv_call (inv_closed wr) (HC.out _ (InW.ok _)))))
            refine wpQuiet_nil ?_
            rintro _ ⟨⟨w9, h9⟩, rfl⟩
            have HE := hide (HK.out.trans (hi.out.symm.trans HS.out))
            have H9 := hide h9
            have hr : ¬ r < 0 := (by omega)
            clear h9 hcmp
            go_wp2
            go_roundw
            case rel => exact ⟨k + 1, by omega, by go_num, by rw [HE.out]; exact HO2.out, by rw [HE.out]; exact HX2.out.below H9.out, grown_of_below hgy H9.out⟩
            case measure => simp [intOf]; omega
        · have HS := hide (insIn_low (f := f) (a := a) (j := m) (ys := ys) (by omega))
          have HE := hide (HK.out.trans (hi.out.symm.trans HS.out))
          have HX2 := hide hxy
          have HO2 := hide hoky
          have hd : decide ((a : Int) < (m : Int)) = false := by simpa using hma
          clear hxy hoky
          go_wp2_with fail
          go_quiet (fail)
          go_wp2
          go_roundw
          case rel => exact ⟨k + 1, by omega, by go_num, by rw [HE.out]; exact HO2.out, by rw [HE.out]; exact HX2.out.below (below_drewN (Below.refl _ _) _), grown_drewN hgy _⟩
          case measure => simp [intOf]; omega
    · obtain rfl : k = b - (a + 1) := by omega
      have HX2 := hide hx
      clear hx hok
      go_wp2
      go_end0
      exact ⟨rfl, HX2.out, hg⟩
end Go.Proofs.Ytmlpimidbgeacaa
