/-
  Contracts of the choice of a pivot in the library's pdqsort by a method value: order2, median, medianAdjacent, choosePivot. Condition: the comparing method answers something at what is ok and writes nothing that was there.
-/
import Derived.Test.YtfcmgmcidngjeaaProg
import Derived.Test.YtfcmgmcidngjeaaPds
namespace Go.Proofs.Ytfcmgmcidngjeaa
open Go.RowKit

/-- A box laid behind w that counts. -/
structure Bx (w : World) (gs s : Nat) (W : World) : Prop where
  below : Below w.heap.size w W
  ge : w.heap.size ≤ gs
  cnt : W.cell? ⟨gs, 0, none⟩ = some (.int .i64 (s : Int))
  frz : W.frozen? ⟨gs, 0, none⟩ = false
theorem Bx.thr {w W W' : World} {gs s : Nat} (h : Bx w gs s W) (hb : Below W.heap.size W W') : Bx w gs s W' :=
  ⟨bthr h.below hb h.below.size, h.ge, cell_thr hb h.cnt, frozen_thr hb (World.block_lt_of_cell? W _ h.cnt) h.frz⟩
theorem Bx.bump {w W : World} {gs s : Nat} (h : Bx w gs s W) (t : Nat) : Bx w gs t (W.setCell ⟨gs, 0, none⟩ (.int .i64 (t : Int))) :=
  ⟨below_grown h.below (grown_set (grown_refl W _) (.inl rfl) _) h.below.size h.ge, h.ge, World.cell?_setCell_same' _ _ _ (by rw [h.cnt]; rfl), by rw [World.frozen?_setCell]; exact h.frz⟩
theorem Bx.drewN {w W : World} {gs s : Nat} (h : Bx w gs s W) (k : Nat) : Bx w gs s (W.drewN k) := h.thr (below_drewN (Below.refl _ _) k)
set_option maxHeartbeats 3200000 in
set_option maxRecDepth 20000 in
theorem order2_any (w0 : World) (g : Nat) (kc : FuncId) (rv : Value) (f : Int → Int → Int) (ok : Int → Prop) (hf : CmpSaysM w0 g kc rv f ok) (n c a b gs s : Nat) (ha : a < n) (hb : b < n) (hn : n ≤ 4096) (hs : s ≤ 4096) (xs : List Int) (hl : xs.length = n) (hok : ∀ x ∈ xs, ok x) (w : World) (hw : w0.grownBy w (some g)) (hx : IRow w g xs) (W : World) (hB : Bx w gs s W) :
    Calls Try.prog 67 #[.slice (some ⟨g, 0, none⟩) n c, .int .i64 (a : Int), .int .i64 (b : Int), .pointer (some ⟨gs, 0, none⟩), .func (.func kc) #[rv] #[]] W fun e w' => ∃ x y t : Nat, e = .returned (.tuple #[.int .i64 (x : Int), .int .i64 (y : Int)]) ∧ (x = a ∧ y = b ∨ x = b ∧ y = a) ∧ t ≤ s + 1 ∧ Bx w gs t w' := by
  have HF := hide hf.2
  have hcf := hf.1
  have hx2 := hx.below hB.below
  have ca := hx2.cell (j := a) (by omega)
  have cb := hx2.cell (j := b) (by omega)
  have pa : ok (xs.getD a 0) := hok _ (getD_mem (by omega))
  have pb : ok (xs.getD b 0) := hok _ (getD_mem (by omega))
  have HC := hide (fun (W' : World) (hW : Below W.heap.size W W') => HF.out (xs.getD b 0) (xs.getD a 0) W' pb pa (grown_of_below (grown_of_below hw hB.below) hW))
  have HB := hide hB
  have i0 : (0 : Int) ≤ (a : Int) := by omega
  have i1 : (a : Int) < (n : Int) := by omega
  have i2 : (0 : Int) ≤ (b : Int) := by omega
  have i3 : (b : Int) < (n : Int) := by omega
  clear hf hx hx2 pa pb hok hw hB
  go_enter Try.func67, Try.ntmps67
  by_cases hcmp : f (xs.getD b 0) (xs.getD a 0) < 0
  all_goals
    generalize xs.getD b 0 = xv at *
    generalize xs.getD a 0 = yv at *
    generalize f xv yv = rr at *
    have hne : Nonempty (InW fun W' => Below W.heap.size W W') := ⟨⟨W, Below.refl _ _⟩⟩
    replace ca := inv_cell ca
    replace cb := inv_cell cb
    go_wp2_with fail
    refine wp_region_inv (I := fun W' => Below W.heap.size W W') (by kernel_rfl) (by kernel_rfl) (Below.refl _ _).drew ?_
    repeat (go_big_quiet_step ((refine inv_call (inv_closed W) (HC.out _ (InW.ok (I := fun W' => Below W.heap.size W W') _)))))
    refine wpQuiet_nil ?_
    rintro _ ⟨⟨w9, h9⟩, rfl⟩
    have B9 := hide (HB.out.thr h9)
    have c9 := B9.out.cnt
    have z9 := B9.out.frz
    clear h9 ca cb hne HC
  · go_wp2
    go_ret2
    exact ⟨b, a, s + 1, rfl, .inr ⟨rfl, rfl⟩, by omega, by have := B9.out.bump (s + 1); simpa using this⟩
  · go_wp2
    go_ret2
    exact ⟨a, b, s, rfl, .inl ⟨rfl, rfl⟩, by omega, B9.out⟩
set_option maxHeartbeats 3200000 in
set_option maxRecDepth 20000 in
theorem median_any (w0 : World) (g : Nat) (kc : FuncId) (rv : Value) (f : Int → Int → Int) (ok : Int → Prop) (hf : CmpSaysM w0 g kc rv f ok) (n c a b d gs s : Nat) (ha : a < n) (hb : b < n) (hd : d < n) (hn : n ≤ 4096) (hs : s ≤ 1024) (xs : List Int) (hl : xs.length = n) (hok : ∀ x ∈ xs, ok x) (w : World) (hw : w0.grownBy w (some g)) (hx : IRow w g xs) (W : World) (hB : Bx w gs s W) :
    Calls Try.prog 65 #[.slice (some ⟨g, 0, none⟩) n c, .int .i64 (a : Int), .int .i64 (b : Int), .int .i64 (d : Int), .pointer (some ⟨gs, 0, none⟩), .func (.func kc) #[rv] #[]] W fun e w' => ∃ x t : Nat, e = .returned (.int .i64 (x : Int)) ∧ (x = a ∨ x = b ∨ x = d) ∧ t ≤ s + 3 ∧ Bx w gs t w' := by
  have ST := hide (fun (a b s : Nat) (ha : a < n) (hb : b < n) (hs : s ≤ 4096) (W : World) (hB : Bx w gs s W) => order2_any w0 g kc rv f ok hf n c a b gs s ha hb hn hs xs hl hok w hw hx W hB)
  clear hf hw hx hok
  go_enter Try.func65, Try.ntmps65
  go_wp2_with fail
  refine (ST.out a b s ha hb (by omega) _ hB).mono ?_
  rintro e w1 ⟨x1, y1, t1, rfl, h1, k1, B1⟩
  have hx1 : x1 < n := by omega
  have hy1 : y1 < n := by omega
  go_wp2_with fail
  refine (ST.out y1 d t1 hy1 hd (by omega) _ B1).mono ?_
  rintro e w2 ⟨x2, y2, t2, rfl, h2, k2, B2⟩
  have hx2 : x2 < n := by omega
  go_wp2_with fail
  refine (ST.out x1 x2 t2 hx1 hx2 (by omega) _ B2).mono ?_
  rintro e w3 ⟨x3, y3, t3, rfl, h3, k3, B3⟩
  go_wp2
  go_ret
  exact ⟨y3, t3, rfl, by omega, by omega, B3⟩
set_option maxHeartbeats 3200000 in
set_option maxRecDepth 20000 in
theorem medAdj_any (w0 : World) (g : Nat) (kc : FuncId) (rv : Value) (f : Int → Int → Int) (ok : Int → Prop) (hf : CmpSaysM w0 g kc rv f ok) (n c a gs s : Nat) (ha : 1 ≤ a) (hb : a + 1 < n) (hn : n ≤ 4096) (hs : s ≤ 1024) (xs : List Int) (hl : xs.length = n) (hok : ∀ x ∈ xs, ok x) (w : World) (hw : w0.grownBy w (some g)) (hx : IRow w g xs) (W : World) (hB : Bx w gs s W) :
    Calls Try.prog 64 #[.slice (some ⟨g, 0, none⟩) n c, .int .i64 (a : Int), .pointer (some ⟨gs, 0, none⟩), .func (.func kc) #[rv] #[]] W fun e w' => ∃ x t : Nat, e = .returned (.int .i64 (x : Int)) ∧ (a ≤ x + 1 ∧ x ≤ a + 1) ∧ t ≤ s + 3 ∧ Bx w gs t w' := by
  have h := median_any w0 g kc rv f ok hf n c (a - 1) a (a + 1) gs s (by omega) (by omega) hb hn hs xs hl hok w hw hx W hB
  rw [show ((a - 1 : Nat) : Int) = (a : Int) - 1 by omega, show ((a + 1 : Nat) : Int) = (a : Int) + 1 by omega] at h
  have HM := hide h
  clear h hf hw hx hok
  go_enter Try.func64, Try.ntmps64
  go_wp2_with fail
  refine HM.out.mono ?_
  rintro e w1 ⟨x1, t1, rfl, h1, k1, B1⟩
  go_wp2
  go_ret
  exact ⟨x1, t1, rfl, by omega, k1, B1⟩
set_option maxHeartbeats 6400000 in
set_option maxRecDepth 20000 in
theorem pivot_any (w0 : World) (g : Nat) (kc : FuncId) (rv : Value) (f : Int → Int → Int) (ok : Int → Prop) (hf : CmpSaysM w0 g kc rv f ok) (n c a b : Nat) (hab : a + 12 < b) (hb : b ≤ n) (hn : n ≤ 4096) (xs : List Int) (hl : xs.length = n) (hok : ∀ x ∈ xs, ok x) (w : World) (hw : w0.grownBy w (some g)) (hx : IRow w g xs) :
    Calls Try.prog 51 #[.slice (some ⟨g, 0, none⟩) n c, .int .i64 (a : Int), .int .i64 (b : Int), .func (.func kc) #[rv] #[]] w fun e w' => ∃ p h : Nat, e = .returned (.tuple #[.int .i64 (p : Int), .int .i64 (h : Int)]) ∧ a ≤ p ∧ p < b ∧ h ≤ 2 ∧ Below w.heap.size w w' := by
  obtain ⟨I, hI⟩ : ∃ I : Nat, I = a + (b - a) / 4 := ⟨_, rfl⟩
  obtain ⟨J, hJ⟩ : ∃ J : Nat, J = a + (b - a) / 4 * 2 := ⟨_, rfl⟩
  obtain ⟨K, hK⟩ : ∃ K : Nat, K = a + (b - a) / 4 * 3 := ⟨_, rfl⟩
  have eI : ((a : Int) + ((b : Int) - (a : Int)) / 4) = (I : Int) := by omega
  have eJ : ((a : Int) + ((b : Int) - (a : Int)) / 4 * 2) = (J : Int) := by omega
  have eK : ((a : Int) + ((b : Int) - (a : Int)) / 4 * 3) = (K : Int) := by omega
  have rI : a + 1 ≤ I ∧ I + 1 < b := by omega
  have rJ : a + 1 ≤ J ∧ J + 1 < b := by omega
  have rK : a + 1 ≤ K ∧ K + 1 < b := by omega
  clear hI hJ hK
  have MA := hide (fun (x s : Nat) (h1 : 1 ≤ x) (h2 : x + 1 < n) (hs : s ≤ 1024) (W : World) (hB : Bx w w.heap.size s W) => medAdj_any w0 g kc rv f ok hf n c x w.heap.size s h1 h2 hn hs xs hl hok w hw hx W hB)
  have MD := hide (fun (x y z s : Nat) (h1 : x < n) (h2 : y < n) (h3 : z < n) (hs : s ≤ 1024) (W : World) (hB : Bx w w.heap.size s W) => median_any w0 g kc rv f ok hf n c x y z w.heap.size s h1 h2 h3 hn hs xs hl hok w hw hx W hB)
  clear hf hw hx hok
  have HB0 : Hid (Bx w w.heap.size 0 (w.alloc (.cells #[.int .i64 0] 3 (0, 0)))) := hide ⟨(Below.refl _ _).alloc (Nat.le_refl _) _, Nat.le_refl _, by simp, by simp⟩
  go_enter Try.func51, Try.ntmps51
  have q8 : (8 : Int) ≤ (b : Int) - (a : Int) := by omega
  by_cases h50 : a + 50 ≤ b
  · have q50 : (50 : Int) ≤ (b : Int) - (a : Int) := by omega
    go_wp2_with fail
    refine (MA.out I 0 (by omega) (by omega) (by omega) _ HB0.out).mono ?_
    rintro e w1 ⟨x1, t1, rfl, h1, k1, B1⟩
    go_wp2_with fail
    refine (MA.out J t1 (by omega) (by omega) (by omega) _ B1).mono ?_
    rintro e w2 ⟨x2, t2, rfl, h2, k2, B2⟩
    go_wp2_with fail
    refine (MA.out K t2 (by omega) (by omega) (by omega) _ B2).mono ?_
    rintro e w3 ⟨x3, t3, rfl, h3, k3, B3⟩
    go_wp2_with fail
    refine (MD.out x1 x2 x3 t3 (by omega) (by omega) (by omega) (by omega) _ B3).mono ?_
    rintro e w4 ⟨x4, t4, rfl, h4, k4, B4⟩
    have c4 := B4.cnt
    have z4 := B4.frz
    go_wp2
    all_goals
      go_ret2
      first
        | exact ⟨x4, 0, rfl, by omega, by omega, by omega, B4.below⟩
        | exact ⟨x4, 1, rfl, by omega, by omega, by omega, B4.below⟩
        | exact ⟨x4, 2, rfl, by omega, by omega, by omega, B4.below⟩
  · have q50 : ¬ (50 : Int) ≤ (b : Int) - (a : Int) := by omega
    go_wp2_with fail
    refine (MD.out I J K 0 (by omega) (by omega) (by omega) (by omega) _ HB0.out).mono ?_
    rintro e w4 ⟨x4, t4, rfl, h4, k4, B4⟩
    have c4 := B4.cnt
    have z4 := B4.frz
    go_wp2
    all_goals
      go_ret2
      first
        | exact ⟨x4, 0, rfl, by omega, by omega, by omega, B4.below⟩
        | exact ⟨x4, 1, rfl, by omega, by omega, by omega, B4.below⟩
        | exact ⟨x4, 2, rfl, by omega, by omega, by omega, B4.below⟩
end Go.Proofs.Ytfcmgmcidngjeaa
