/-
  The contract of the choices' odd: some choice. Conditions: the deck lies as New makes it, and the yields can be read; there are 1000 at most.
-/
import Derived.Test.YtphgddanbgdemaaDoorProg
import Derived.Test.YtphgddanbgdemaaDoorMad
import Derived.Test.YtphgddanbgdemaaDoorExt
import Derived.Deep.DeepCutAuto
namespace Go.Proofs.YtphgddanbgdemaaDoor
open Go.RowKit

theorem y_one (ys : List (Int × Int)) : ∀ u ∈ yCells ys, u.oneCell' = true := by
  intro u hu
  simp only [yCells, List.mem_flatMap] at hu
  obtain ⟨c, _, h⟩ := hu
  simp at h
  rcases h with rfl | rfl <;> rfl
theorem yCells_set1 : ∀ (ys : List (Int × Int)) (k : Nat) (h : k < ys.length) (v : Int), (yCells ys).set (k * 2 + 1) (.int .i64 v) = yCells (ys.set k (ys[k].1, v))
  | y :: t, 0, _, v => by simp [yCells]
  | y :: t, k + 1, h, v => by
    have ih := yCells_set1 t k (by simpa using h) v
    have e : yCells (y :: t) = [.int .i64 y.1, .int .i64 y.2] ++ yCells t := by simp [yCells]
    have e2 : yCells ((y :: t).set (k + 1) ((y :: t)[k + 1].1, v)) = [.int .i64 y.1, .int .i64 y.2] ++ yCells (t.set k (t[k]'(by simpa using h)|>.1, v)) := by simp [yCells]
    rw [e, e2, ← ih, List.set_append_right _ _ (by simp; omega)]
    rw [show (k + 1) * 2 + 1 - ([.int .i64 y.1, .int .i64 y.2] : List Value).length = k * 2 + 1 by simp; omega]
theorem yCells_set0 : ∀ (ys : List (Int × Int)) (k : Nat) (h : k < ys.length) (v : Int), (yCells ys).set (k * 2) (.int .i64 v) = yCells (ys.set k (v, ys[k].2))
  | y :: t, 0, _, v => by simp [yCells]
  | y :: t, k + 1, h, v => by
    have ih := yCells_set0 t k (by simpa using h) v
    have e : yCells (y :: t) = [.int .i64 y.1, .int .i64 y.2] ++ yCells t := by simp [yCells]
    have e2 : yCells ((y :: t).set (k + 1) (v, (y :: t)[k + 1].2)) = [.int .i64 y.1, .int .i64 y.2] ++ yCells (t.set k (v, t[k]'(by simpa using h)|>.2)) := by simp [yCells]
    rw [e, e2, ← ih, List.set_append_right _ _ (by simp; omega)]
    rw [show (k + 1) * 2 - ([.int .i64 y.1, .int .i64 y.2] : List Value).length = k * 2 by simp; omega]
/-- a choice under way: its box, the result's box behind it, its own row -/
structure OdC (w : World) (b : Nat) (rl lo hi : Int) (A : Option Addr) (n c : Nat) (ys : List (Int × Int)) (W : World) : Prop where
  box : Blk W w.heap.size 26 #[.int .i64 rl, .int .i64 lo, .int .i64 hi, .slice A n c]
  res : Blk W (w.heap.size + 1) 26 #[.int .i64 0, .int .i64 0, .int .i64 0, .slice none 0 0]
  row : W.ownsRow (w.heap.size + 2) 49 2 (.slice A n c) n (yCells ys)
  deck : Dk W b
  grown : w.grownBy W (some b)
section
variable {w W W' : World} {b : Nat} {rl lo hi : Int} {A : Option Addr} {n c : Nat} {ys : List (Int × Int)}
theorem OdC.drew (h : OdC w b rl lo hi A n c ys W) : OdC w b rl lo hi A n c ys W.drew :=
  ⟨h.box, h.res, h.row, h.deck.keep fun _ _ => rfl, ⟨h.grown.os, h.grown.tape, h.grown.output, h.grown.size, h.grown.block⟩⟩
theorem OdC.next (h : OdC w b rl lo hi A n c ys W) (hb : b < w.heap.size) (hD : Dk W' b) (hg : W.grownBy W' (some b)) : OdC w b rl lo hi A n c ys W' :=
  ⟨h.box.only hg (by omega), h.res.only hg (by omega), own_deck h.row hg (by omega), hD, grown_trans h.grown hg⟩
theorem OdC.alloc (h : OdC w b rl lo hi A n c ys W) (o : Obj) : OdC w b rl lo hi A n c ys (W.alloc o) :=
  ⟨h.box.alloc o, h.res.alloc o, h.row.alloc o, h.deck.alloc o, grown_alloc h.grown o⟩
theorem OdC.set0 (h : OdC w b rl lo hi A n c ys W) (hb : b < w.heap.size) (v : Int) : OdC w b v lo hi A n c ys (W.setCell ⟨w.heap.size, 0, none⟩ (.int .i64 v)) :=
  ⟨h.box.set_ 0 _, h.res.far (p := ⟨w.heap.size, 0, none⟩) (by simp) _, own_set h.row (by simp) _, h.deck.set (p := ⟨w.heap.size, 0, none⟩) hb _, grown_set (p := ⟨w.heap.size, 0, none⟩) h.grown (.inr (Nat.le_refl _)) _⟩
theorem OdC.set1 (h : OdC w b rl lo hi A n c ys W) (hb : b < w.heap.size) (v : Int) : OdC w b rl v hi A n c ys (W.setCell ⟨w.heap.size, 1, none⟩ (.int .i64 v)) :=
  ⟨h.box.set_ 1 _, h.res.far (p := ⟨w.heap.size, 1, none⟩) (by simp) _, own_set h.row (by simp) _, h.deck.set (p := ⟨w.heap.size, 1, none⟩) hb _, grown_set (p := ⟨w.heap.size, 1, none⟩) h.grown (.inr (Nat.le_refl _)) _⟩
theorem OdC.cell {g : Nat} (h : OdC w b rl lo hi (some ⟨g, 0, none⟩) n c ys W) (hb : b < w.heap.size) (i : Nat) (u : Value) (ys' : List (Int × Int)) (hy : (yCells ys).set i u = yCells ys') : OdC w b rl lo hi (some ⟨g, 0, none⟩) n c ys' (W.setCell ⟨g, i, none⟩ u) := by
  have hg := (h.row.lt g rfl).1
  refine ⟨h.box.far (p := ⟨g, i, none⟩) (by simp only; omega) _, h.res.far (p := ⟨g, i, none⟩) (by simp only; omega) _, ?_, h.deck.set (p := ⟨g, i, none⟩) (by simp only; omega) _, grown_set (p := ⟨g, i, none⟩) h.grown (.inr (by simp only; omega)) _⟩
  rw [← hy]
  exact (h.row.stored i u).1
end
/-- a choice in its box, whose yields can be read -/
structure OdF (w : World) (b : Nat) (rl lo hi : Int) (A : Option Addr) (n c : Nat) (ys : List (Int × Int)) (W : World) : Prop where
  box : Blk W w.heap.size 26 #[.int .i64 rl, .int .i64 lo, .int .i64 hi, .slice A n c]
  res : Blk W (w.heap.size + 1) 26 #[.int .i64 0, .int .i64 0, .int .i64 0, .slice none 0 0]
  sl : Sl W W.heap.size 2 A n c (yCells ys)
  far : ∀ g o, A = some ⟨g, o, none⟩ → w.heap.size + 2 ≤ g
  deck : Dk W b
  grown : w.grownBy W (some b)
theorem OdC.f {w W : World} {b : Nat} {rl lo hi : Int} {A : Option Addr} {n c : Nat} {ys : List (Int × Int)} (h : OdC w b rl lo hi A n c ys W) : OdF w b rl lo hi A n c ys W :=
  ⟨h.box, h.res, sl_own h.row, fun g o e => by
    rcases h.row.2 with ⟨e2, _⟩ | ⟨g', cap, cur, e2, hg, _⟩
    · rw [e] at e2; injection e2 with e3; cases e3
    · rw [e] at e2; injection e2 with e3; injection e3 with e3; injection e3 with e3; omega, h.deck, h.grown⟩
theorem sl_setN {w : World} {B size n c : Nat} {A : Option Addr} {xs : List Value} (h : Sl w B size A n c xs) {p : Addr} (hp : ∀ g o, A = some ⟨g, o, none⟩ → g ≠ p.block) (u : Value) : Sl (w.setCell p u) B size A n c xs :=
  ⟨h.1, h.2.1, h.2.2.1, fun hn => by
    obtain ⟨b, o, e, hb, hc⟩ := h.2.2.2 hn
    exact ⟨b, o, e, hb, fun j v hv => (World.cell?_of_block (Below.heap_setCell w p u b (hp b o e))).trans (hc j v hv)⟩⟩
def OdCM (b n : Nat) (w : World) (e : Ending) (w' : World) : Prop := ∃ (rl lo hi : Int) (A : Option Addr) (m c : Nat) (ys : List (Int × Int)), e = .returned (.agg #[.int .i64 rl, .int .i64 lo, .int .i64 hi, .slice A m c]) ∧ m ≤ n + 1 ∧ Sl w' w'.heap.size 2 A m c (yCells ys) ∧ Dk w' b ∧ w.grownBy w' (some b)
theorem OdF.fin {w W : World} {b : Nat} {rl lo hi : Int} {A : Option Addr} {n c : Nat} {ys : List (Int × Int)} (h : OdF w b rl lo hi A n c ys W) (hb : b < w.heap.size) (u0 u1 u2 u3 : Value) :
    Sl ((((W.setCell ⟨w.heap.size + 1, 0, none⟩ u0).setCell ⟨w.heap.size + 1, 1, none⟩ u1).setCell ⟨w.heap.size + 1, 2, none⟩ u2).setCell ⟨w.heap.size + 1, 3, none⟩ u3) ((((W.setCell ⟨w.heap.size + 1, 0, none⟩ u0).setCell ⟨w.heap.size + 1, 1, none⟩ u1).setCell ⟨w.heap.size + 1, 2, none⟩ u2).setCell ⟨w.heap.size + 1, 3, none⟩ u3).heap.size 2 A n c (yCells ys) ∧
    Dk ((((W.setCell ⟨w.heap.size + 1, 0, none⟩ u0).setCell ⟨w.heap.size + 1, 1, none⟩ u1).setCell ⟨w.heap.size + 1, 2, none⟩ u2).setCell ⟨w.heap.size + 1, 3, none⟩ u3) b ∧
    w.grownBy ((((W.setCell ⟨w.heap.size + 1, 0, none⟩ u0).setCell ⟨w.heap.size + 1, 1, none⟩ u1).setCell ⟨w.heap.size + 1, 2, none⟩ u2).setCell ⟨w.heap.size + 1, 3, none⟩ u3) (some b) := by
  have hf : ∀ i g o, A = some ⟨g, o, none⟩ → g ≠ (⟨w.heap.size + 1, i, none⟩ : Addr).block := fun i g o e => by have := h.far g o e; simp only; omega
  refine ⟨?_, ?_, ?_⟩
  · have := sl_setN (sl_setN (sl_setN (sl_setN h.sl (hf 0) u0) (hf 1) u1) (hf 2) u2) (hf 3) u3
    simpa [World.setCell] using this
  · repeat (first | with_reducible exact h.deck | with_reducible refine Dk.set ?_ (by simp only; omega) _)
  · repeat (first | with_reducible exact h.grown | with_reducible refine grown_set ?_ (.inr (by simp only; omega)) _)
theorem yCells_drop1 (ys : List (Int × Int)) (j : Nat) : (yCells (ys.drop 1))[j]? = (yCells ys)[2 + j]? := by
  cases ys with
  | nil => simp [yCells]
  | cons y t =>
    have e : yCells (y :: t) = [.int .i64 y.1, .int .i64 y.2] ++ yCells t := by simp [yCells]
    rw [e, List.getElem?_append_right (by simp)]
    simp
theorem sl_tailY0 {w : World} {B m c b o : Nat} {ys : List (Int × Int)} (h : Sl w B 2 (some ⟨b, o, none⟩) m c (yCells ys)) (hm : 1 ≤ m) (hc : c = 1) : Sl w B 2 (some ⟨b, o, none⟩) (m - 1) 0 (yCells (ys.drop 1)) := by
  have hl := h.1
  have h2 := h.2.1
  rw [yCells_len] at hl
  exact ⟨by rw [yCells_len, List.length_drop]; omega, by omega, by unfold maxLen; omega, fun hx => by omega⟩
theorem sl_tailY {w : World} {B m c b : Nat} {ys : List (Int × Int)} (h : Sl w B 2 (some ⟨b, 0, none⟩) m c (yCells ys)) (hm : 1 ≤ m) : Sl w B 2 (some ⟨b, 2, none⟩) (m - 1) (c - 1) (yCells (ys.drop 1)) := by
  have hl := h.1
  have h2 := h.2.1
  have h3 := h.2.2.1
  rw [yCells_len] at hl
  refine ⟨by rw [yCells_len, List.length_drop]; omega, by omega, by omega, fun hx => ?_⟩
  obtain ⟨b', o', e, hb, hc⟩ := h.2.2.2 (by omega)
  injection e with e
  injection e with e1 e2 _
  subst e1 e2
  refine ⟨b, 2, rfl, hb, fun j u hu => ?_⟩
  rw [yCells_drop1] at hu
  have := hc (2 + j) u hu
  simpa using this
theorem OdC.tail {w W : World} {b : Nat} {rl lo hi : Int} {A : Option Addr} {n c : Nat} {ys : List (Int × Int)} (h : OdC w b rl lo hi A n c ys W) (hb : b < w.heap.size) (A' : Option Addr) (m c' : Nat) (zs : List (Int × Int)) (hs : Sl W W.heap.size 2 A' m c' (yCells zs)) (hf : ∀ g o, A' = some ⟨g, o, none⟩ → w.heap.size + 2 ≤ g) :
    OdF w b rl lo hi A' m c' zs (W.setCell ⟨w.heap.size, 3, none⟩ (.slice A' m c')) :=
  ⟨h.box.set_ 3 _, h.res.far (p := ⟨w.heap.size, 3, none⟩) (by simp) _, by
    have := sl_setN hs (p := ⟨w.heap.size, 3, none⟩) (fun g o e => by have := hf g o e; simp only; omega) (.slice A' m c')
    simpa [World.setCell] using this, hf, h.deck.set (p := ⟨w.heap.size, 3, none⟩) hb _, grown_set (p := ⟨w.heap.size, 3, none⟩) h.grown (.inr (Nat.le_refl _)) _⟩
theorem sl_y1 {W : World} {g : Nat} {t : TypeId} {x y : Int} (h : Blk W g t #[.int .i64 x, .int .i64 y]) : Sl W W.heap.size 2 (some ⟨g, 0, none⟩) 1 1 (yCells [(x, y)]) := by
  refine ⟨rfl, Nat.le_refl _, by unfold maxLen; omega, fun _ => ⟨g, 0, rfl, h.lt, fun j u hu => ?_⟩⟩
  rw [h.facts.1, Nat.zero_add, ← hu]
  simp [yCells]
theorem OdC.push {w w5 w6 : World} {b : Nat} {rl lo hi : Int} {A A' : Option Addr} {n c c' : Nat} {ys : List (Int × Int)} {x y : Int} (h : OdC w b rl lo hi A n c ys w5) (hb : b < w.heap.size)
    (hv : w6.ownsRow (w.heap.size + 2) 49 2 (.slice A' (n + 1) c') (n + 1) (yCells ys ++ yCells [(x, y)])) (hg : (w5.alloc (.cells #[.int .i64 x, .int .i64 y] 49)).grownBy w6 (Value.slice A n c).ownBlock) :
    OdC w b rl lo hi A' (n + 1) c' (ys ++ [(x, y)]) (w6.setCell ⟨w.heap.size, 3, none⟩ (.slice A' (n + 1) c')) := by
  have h5 := h.alloc (.cells #[.int .i64 x, .int .i64 y] 49)
  have hr : ∀ k, (Value.slice A n c).ownBlock = some k → w.heap.size + 2 ≤ k := fun k hk => (h.row.lt k hk).1
  have b6 : Blk w6 w.heap.size 26 #[.int .i64 rl, .int .i64 lo, .int .i64 hi, .slice A n c] := h5.box.grownF hg (fun k hk => by have := hr k hk; omega)
  have r6 : Blk w6 (w.heap.size + 1) 26 #[.int .i64 0, .int .i64 0, .int .i64 0, .slice none 0 0] := h5.res.grownF hg (fun k hk => by have := hr k hk; omega)
  refine ⟨b6.set_ 3 _, r6.far (p := ⟨w.heap.size, 3, none⟩) (by simp) _, own_set ?_ (by simp) _, ?_, ?_⟩
  · rw [yCells_append]; exact hv
  · exact (h5.deck.other hg (fun k hk => by have := hr k hk; omega)).set (p := ⟨w.heap.size, 3, none⟩) hb _
  · exact grown_set (p := ⟨w.heap.size, 3, none⟩) (grown_push h5.grown hg (fun k hk => by have := hr k hk; omega)) (.inr (Nat.le_refl _)) _
theorem yGet (ys : List (Int × Int)) (k : Nat) (h : k < ys.length) : (yCells ys)[k * 2 + 0]? = some (.int .i64 ys[k].1) ∧ (yCells ys)[k * 2 + 1]? = some (.int .i64 ys[k].2) := yCells_get ys k h
set_option maxHeartbeats 3200000 in
set_option maxRecDepth 20000 in
theorem odc_any (b : Nat) (rl lo hi : Int) (A : Option Addr) (n c : Nat) (ys : List (Int × Int)) (hn : n ≤ 1000) (w : World) (hD : Dk w b) (hy : Sl w w.heap.size 2 A n c (yCells ys)) :
    Calls Tryd.prog 8 #[.pointer (some ⟨b, 0, none⟩), .agg #[.int .i64 rl, .int .i64 lo, .int .i64 hi, .slice A n c]] w (OdCM b n w) := by
  have hbl := hD.lt
  have hly : n = ys.length := by have := hy.1; rw [yCells_len] at this; omega
  have HLY := hide hly
  have q0 := (Blk.new w 26 #[.int .i64 rl, .int .i64 lo, .int .i64 hi, .slice A n c]).alloc (.cells #[.int .i64 0, .int .i64 0, .int .i64 0, .slice none 0 0] 26)
  have q1 := Blk.new (w.alloc (.cells #[.int .i64 rl, .int .i64 lo, .int .i64 hi, .slice A n c] 26)) 26 #[.int .i64 0, .int .i64 0, .int .i64 0, .slice none 0 0]
  rw [World.size_alloc] at q1
  have hD2 := (hD.alloc (.cells #[.int .i64 rl, .int .i64 lo, .int .i64 hi, .slice A n c] 26)).alloc (.cells #[.int .i64 0, .int .i64 0, .int .i64 0, .slice none 0 0] 26)
  have hG2 := grown_alloc (grown_alloc (grown_refl w (some b)) (.cells #[.int .i64 rl, .int .i64 lo, .int .i64 hi, .slice A n c] 26)) (.cells #[.int .i64 0, .int .i64 0, .int .i64 0, .slice none 0 0] 26)
  have HS2 := hide ((hy.allocw (.cells #[.int .i64 rl, .int .i64 lo, .int .i64 hi, .slice A n c] 26)).allocw (.cells #[.int .i64 0, .int .i64 0, .int .i64 0, .slice none 0 0] 26))
  have hz2 : ((w.alloc (.cells #[.int .i64 rl, .int .i64 lo, .int .i64 hi, .slice A n c] 26)).alloc (.cells #[.int .i64 0, .int .i64 0, .int .i64 0, .slice none 0 0] 26)).heap.size = w.heap.size + 2 := by simp
  clear hy hly hD
  obtain ⟨c0, c1, c2, c3, cF⟩ := q0.facts4
  go_enter Tryd.func8, Tryd.ntmps8
  go_upto_region 1 with fail
  generalize ((w.alloc _).alloc _) = w2 at *
  have Q0 := hide q0
  have Q1 := hide q1
  have HD2 := hide hD2
  have HG2 := hide hG2
  have HZ2 := hide hz2
  have hzle : w.heap.size + 2 ≤ w2.heap.size := by omega
  clear q0 q1 hD2 hG2 hz2
  go_wp2_with (at_builtin; refine wpList_ext rfl _ _ _ rfl (w.heap.size + 2) _ 2 slYield _ 0 [] rfl (World.ownsRow_nil _ _ _ _) A n c _ _ rfl HS2.out (y_one ys) (by omega) hzle ?_)
  intro v3 w3 hv3 hg3 _
  try rw [Nat.zero_add, List.nil_append] at hv3
  obtain ⟨B, d, rfl, -⟩ := own_sl hv3
  have hg3' : w2.grownBy w3 none := hg3
  have b3 := Q0.out.grownF hg3' (fun k hk => by cases hk)
  have r3 := Q1.out.grownF hg3' (fun k hk => by cases hk)
  have P4 := hide (show OdC w b rl lo hi B n d ys (w3.setCell ⟨w.heap.size, 3, none⟩ (.slice B n d)) from
    ⟨b3.set_ 3 _, r3.far (p := ⟨w.heap.size, 3, none⟩) (by simp) _, own_set hv3 (by simp) _, (HD2.out.other hg3' (fun k hk => by cases hk)).set (p := ⟨w.heap.size, 3, none⟩) hbl _, grown_set (p := ⟨w.heap.size, 3, none⟩) (grown_push HG2.out hg3' (fun k hk => by cases hk)) (.inr (Nat.le_refl _)) _⟩)
  clear c0 c1 c2 c3 cF
  obtain ⟨c0, c1, c2, c3, cF⟩ := b3.facts4
  clear b3 r3 hv3 hg3 hg3' Q0 Q1 HD2 HG2 HS2
  go_upto_region 2 with fail
  clear c0 c1 c2 c3 cF
  generalize World.setCell _ _ _ = w4 at *
  obtain ⟨c0, c1, c2, c3, cF⟩ := P4.out.box.facts4
  go_wp2_with fail
  refine (next_any b 7 (by omega) _ P4.out.deck).mono ?_
  rintro e w3 ⟨q, rfl, hq0, hq1, hD3, hg3, -⟩
  have P3 := hide (P4.out.next hbl hD3 hg3)
  have hq : q = 0 ∨ q = 1 ∨ q = 2 ∨ q = 3 ∨ q = 4 ∨ q = 5 ∨ q = 6 := by omega
  clear P4 hD3 hg3 hq0 hq1 c0 c1 c2 c3 cF
  obtain ⟨c0, c1, c2, c3, cF⟩ := P3.out.box.facts4
  rcases hq with rfl | rfl | rfl | rfl | rfl | rfl | rfl
  · go_upto_region 5 with fail
    go_region_law (go_simp; go_at_call 17; refine (next_any b 5 (by omega) w3.drew P3.out.drew.deck).mono ?_; rintro e w5 ⟨v, rfl, hv0, hv1, hD5, hg5, -⟩; have P5 := hide (P3.out.drew.next hbl hD5 hg5); obtain ⟨t0, t1, t2, t3, tF⟩ := P5.out.box.facts4)
    all_goals
      clear c0 c1 c2 c3 cF
      go_upto_region 19 with fail
      generalize hX : World.setCell _ _ _ = w6
      obtain ⟨X, p6⟩ : ∃ X, OdC w b X lo hi B n d ys w6 := ⟨_, hX ▸ P5.out.set0 hbl _⟩
      have P6 := hide p6.f
      clear hX p6 P5 t0 t1 t2 t3 tF
      obtain ⟨c0, c1, c2, c3, cF⟩ := P6.out.box.facts4
      obtain ⟨r0, r1, r2, r3, rF⟩ := P6.out.res.facts4
      have hne : ¬ w.heap.size + 1 = w.heap.size := by omega
      go_wp2
      refine bodyPost_ret (v := .agg #[.int .i64 X, .int .i64 lo, .int .i64 hi, .slice B n d]) (by simp [results, Tryd.results8, go_sem, r0, r1, r2, r3]) rfl ⟨X, lo, hi, B, n, d, ys, rfl, by omega, ?_, ?_, ?_⟩
      · exact (P6.out.fin hbl _ _ _ _).1
      · exact (P6.out.fin hbl _ _ _ _).2.1
      · exact (P6.out.fin hbl _ _ _ _).2.2
  · go_upto_region 7 with fail
    go_region_law (go_simp; go_at_call 17; refine (next_any b 3 (by omega) w3.drew P3.out.drew.deck).mono ?_; rintro e w5 ⟨v, rfl, hv0, hv1, hD5, hg5, -⟩; have P5 := hide (P3.out.drew.next hbl hD5 hg5); obtain ⟨t0, t1, t2, t3, tF⟩ := P5.out.box.facts4)
    all_goals
      clear c0 c1 c2 c3 cF
      go_upto_region 19 with fail
      generalize hX : World.setCell _ _ _ = w6
      obtain ⟨X, p6⟩ : ∃ X, OdC w b rl X hi B n d ys w6 := ⟨_, hX ▸ P5.out.set1 hbl _⟩
      have P6 := hide p6.f
      clear hX p6 P5 t0 t1 t2 t3 tF
      obtain ⟨c0, c1, c2, c3, cF⟩ := P6.out.box.facts4
      obtain ⟨r0, r1, r2, r3, rF⟩ := P6.out.res.facts4
      have hne : ¬ w.heap.size + 1 = w.heap.size := by omega
      go_wp2
      refine bodyPost_ret (v := .agg #[.int .i64 rl, .int .i64 X, .int .i64 hi, .slice B n d]) (by simp [results, Tryd.results8, go_sem, r0, r1, r2, r3]) rfl ⟨rl, X, hi, B, n, d, ys, rfl, by omega, ?_, ?_, ?_⟩
      · exact (P6.out.fin hbl _ _ _ _).1
      · exact (P6.out.fin hbl _ _ _ _).2.1
      · exact (P6.out.fin hbl _ _ _ _).2.2
  · by_cases h0 : n = 0
    · have P6 := hide P3.out.f
      have h0i : ¬ (0 : Int) < (n : Int) := by omega
      clear h0
      rename World => w6
      go_upto_region 19 with fail
      clear c0 c1 c2 c3 cF
      obtain ⟨c0, c1, c2, c3, cF⟩ := P6.out.box.facts4
      obtain ⟨r0, r1, r2, r3, rF⟩ := P6.out.res.facts4
      have hne : ¬ w.heap.size + 1 = w.heap.size := by omega
      go_wp2
      refine bodyPost_ret (v := .agg #[.int .i64 rl, .int .i64 lo, .int .i64 hi, .slice B n d]) (by simp [results, Tryd.results8, go_sem, r0, r1, r2, r3]) rfl ⟨rl, lo, hi, B, n, d, ys, rfl, by omega, ?_, ?_, ?_⟩
      · exact (P6.out.fin hbl _ _ _ _).1
      · exact (P6.out.fin hbl _ _ _ _).2.1
      · exact (P6.out.fin hbl _ _ _ _).2.2
    · have h0i : (0 : Int) < (n : Int) := by omega
      obtain ⟨g, d', he, hgl, _⟩ := P3.out.row.form (by omega)
      injection he with e1 e2 e3
      subst e1 e3
      clear h0
      go_upto_region 10 with fail
      go_region_law (go_simp; go_at_call 17; first | ((with_reducible refine (next_any b (n : Int) (by omega) w3.drew P3.out.drew.deck).mono ?_); rintro e w5 ⟨v, rfl, hv0, hv1, hD5, hg5, -⟩; have P5 := hide (P3.out.drew.next hbl hD5 hg5); obtain ⟨t0, t1, t2, t3, tF⟩ := P5.out.box.facts4; obtain ⟨j, rfl⟩ : ∃ j : Nat, v = (j : Int) := ⟨v.toNat, by omega⟩) | (refine (next_any b 8 (by omega) _ P5.out.deck).mono ?_; rintro e w6 ⟨v, rfl, hu0, hu1, hD6, hg6, -⟩; have P7 := hide (P5.out.next hbl hD6 hg6); obtain ⟨s0, s1, s2, s3, sF⟩ := P7.out.box.facts4; have hjn : j < n := (by omega); have hji : (j : Int) < (n : Int) := (by omega); have fz := P7.out.row.frozenAt (j * 2 + 1); have ce := (P7.out.row.cellAt (j * 2 + 1) (by omega)).trans (yGet ys j (by have := HLY.out; omega)).2))
      all_goals
        clear c0 c1 c2 c3 cF t0 t1 t2 t3 tF
        go_upto_region 19 with fail
        generalize hX : World.setCell _ _ _ = w7
        obtain ⟨zs, p6⟩ : ∃ zs, OdC w b rl lo hi (some ⟨g, 0, none⟩) n d zs w7 := ⟨_, hX ▸ P7.out.cell hbl (j * 2 + 1) _ _ (yCells_set1 ys j (by have := HLY.out; omega) _)⟩
        have P6 := hide p6.f
        clear hX p6 P5 P7 s0 s1 s2 s3 sF fz ce
        obtain ⟨c0, c1, c2, c3, cF⟩ := P6.out.box.facts4
        obtain ⟨r0, r1, r2, r3, rF⟩ := P6.out.res.facts4
        have hne : ¬ w.heap.size + 1 = w.heap.size := by omega
        go_wp2
        refine bodyPost_ret (v := .agg #[.int .i64 rl, .int .i64 lo, .int .i64 hi, .slice (some ⟨g, 0, none⟩) n d]) (by simp [results, Tryd.results8, go_sem, r0, r1, r2, r3]) rfl ⟨rl, lo, hi, (some ⟨g, 0, none⟩), n, d, zs, rfl, by omega, ?_, ?_, ?_⟩
        · exact (P6.out.fin hbl _ _ _ _).1
        · exact (P6.out.fin hbl _ _ _ _).2.1
        · exact (P6.out.fin hbl _ _ _ _).2.2
  · by_cases h0 : n = 0
    · have P6 := hide P3.out.f
      have h0i : ¬ (0 : Int) < (n : Int) := by omega
      clear h0
      rename World => w6
      go_upto_region 19 with fail
      clear c0 c1 c2 c3 cF
      obtain ⟨c0, c1, c2, c3, cF⟩ := P6.out.box.facts4
      obtain ⟨r0, r1, r2, r3, rF⟩ := P6.out.res.facts4
      have hne : ¬ w.heap.size + 1 = w.heap.size := by omega
      go_wp2
      refine bodyPost_ret (v := .agg #[.int .i64 rl, .int .i64 lo, .int .i64 hi, .slice B n d]) (by simp [results, Tryd.results8, go_sem, r0, r1, r2, r3]) rfl ⟨rl, lo, hi, B, n, d, ys, rfl, by omega, ?_, ?_, ?_⟩
      · exact (P6.out.fin hbl _ _ _ _).1
      · exact (P6.out.fin hbl _ _ _ _).2.1
      · exact (P6.out.fin hbl _ _ _ _).2.2
    · have h0i : (0 : Int) < (n : Int) := by omega
      obtain ⟨g, d', he, hgl, _⟩ := P3.out.row.form (by omega)
      injection he with e1 e2 e3
      subst e1 e3
      clear h0
      go_upto_region 13 with fail
      go_region_law (go_simp; go_at_call 17; first | ((with_reducible refine (next_any b (n : Int) (by omega) w3.drew P3.out.drew.deck).mono ?_); rintro e w5 ⟨v, rfl, hv0, hv1, hD5, hg5, -⟩; have P5 := hide (P3.out.drew.next hbl hD5 hg5); obtain ⟨t0, t1, t2, t3, tF⟩ := P5.out.box.facts4; obtain ⟨j, rfl⟩ : ∃ j : Nat, v = (j : Int) := ⟨v.toNat, by omega⟩) | (refine (next_any b 8 (by omega) _ P5.out.deck).mono ?_; rintro e w6 ⟨v, rfl, hu0, hu1, hD6, hg6, -⟩; have P7 := hide (P5.out.next hbl hD6 hg6); obtain ⟨s0, s1, s2, s3, sF⟩ := P7.out.box.facts4; have hjn : j < n := (by omega); have hji : (j : Int) < (n : Int) := (by omega); have fz := P7.out.row.frozenAt (j * 2); have ce := (P7.out.row.cellAt (j * 2) (by omega)).trans (yGet ys j (by have := HLY.out; omega)).1))
      all_goals
        clear c0 c1 c2 c3 cF t0 t1 t2 t3 tF
        go_upto_region 19 with fail
        generalize hX : World.setCell _ _ _ = w7
        obtain ⟨zs, p6⟩ : ∃ zs, OdC w b rl lo hi (some ⟨g, 0, none⟩) n d zs w7 := ⟨_, hX ▸ P7.out.cell hbl (j * 2) _ _ (yCells_set0 ys j (by have := HLY.out; omega) _)⟩
        have P6 := hide p6.f
        clear hX p6 P5 P7 s0 s1 s2 s3 sF fz ce
        obtain ⟨c0, c1, c2, c3, cF⟩ := P6.out.box.facts4
        obtain ⟨r0, r1, r2, r3, rF⟩ := P6.out.res.facts4
        have hne : ¬ w.heap.size + 1 = w.heap.size := by omega
        go_wp2
        refine bodyPost_ret (v := .agg #[.int .i64 rl, .int .i64 lo, .int .i64 hi, .slice (some ⟨g, 0, none⟩) n d]) (by simp [results, Tryd.results8, go_sem, r0, r1, r2, r3]) rfl ⟨rl, lo, hi, (some ⟨g, 0, none⟩), n, d, zs, rfl, by omega, ?_, ?_, ?_⟩
        · exact (P6.out.fin hbl _ _ _ _).1
        · exact (P6.out.fin hbl _ _ _ _).2.1
        · exact (P6.out.fin hbl _ _ _ _).2.2
  · go_upto_region 15 with fail
    go_region_law (first | (refine step_ext rfl (.tmp 66) (.tmp 70) 24 rfl (w.heap.size + 2) _ _ slYield _ _ _ (by simp [Act.eval]) O10.out _ _ _ _ _ (by simp [Act.eval]) (sl_y1 (Blk.new w5 49 #[.int .i64 v, .int .i64 (-1)])) (by simp [yCells, Value.oneCell']) (by omega) hb10 ?_; intro v' w6 hv6 hg6 _; obtain ⟨gv, cv, rfl, _, _⟩ := hv6.form (by omega); have hrow : ∀ k, (Value.slice B n d).ownBlock = some k → w.heap.size + 2 ≤ k := fun k hk => (O10.out.lt k hk).1; have S11 : Blk w6 w.heap.size 26 #[.int .i64 rl, .int .i64 lo, .int .i64 hi, .slice B n d] := (P5.out.alloc (.cells #[.int .i64 v, .int .i64 (-1)] 49)).box.grownF hg6 (fun k hk => by have := hrow k hk; omega); obtain ⟨s0, s1, s2, s3, sF⟩ := S11.facts4) | (go_simp; go_at_call 17; refine (next_any b 7 (by omega) w3.drew P3.out.drew.deck).mono ?_; rintro e w5 ⟨v, rfl, hv0, hv1, hD5, hg5, -⟩; have P5 := hide (P3.out.drew.next hbl hD5 hg5); obtain ⟨t0, t1, t2, t3, tF⟩ := P5.out.box.facts4; obtain ⟨a0, a1, a2, a3, aF⟩ := (P5.out.alloc (.cells #[.int .i64 v, .int .i64 (-1)] 49)).box.facts4; have hb10 : w.heap.size + 2 ≤ (w5.alloc (.cells #[.int .i64 v, .int .i64 (-1)] 49)).heap.size := (by have := P5.out.res.lt; simp; omega); have O10 := hide ((P5.out.alloc (.cells #[.int .i64 v, .int .i64 (-1)] 49)).row)))
    all_goals
      have P6 := hide (P5.out.push hbl hv6 hg6).f
      clear c0 c1 c2 c3 cF t0 t1 t2 t3 tF a0 a1 a2 a3 aF S11 hrow O10 P5
      go_upto_region 19 with fail
      clear s0 s1 s2 s3 sF hv6 hg6
      generalize World.setCell _ _ _ = w7 at *
      obtain ⟨c0, c1, c2, c3, cF⟩ := P6.out.box.facts4
      obtain ⟨r0, r1, r2, r3, rF⟩ := P6.out.res.facts4
      have hne : ¬ w.heap.size + 1 = w.heap.size := by omega
      go_wp2
      refine bodyPost_ret (v := .agg #[.int .i64 rl, .int .i64 lo, .int .i64 hi, .slice (some ⟨gv, 0, none⟩) (n + 1) cv]) (by simp [results, Tryd.results8, go_sem, r0, r1, r2, r3]) rfl ⟨rl, lo, hi, (some ⟨gv, 0, none⟩), (n + 1), cv, (ys ++ [(v, -1)]), rfl, by omega, ?_, ?_, ?_⟩
      · exact (P6.out.fin hbl _ _ _ _).1
      · exact (P6.out.fin hbl _ _ _ _).2.1
      · exact (P6.out.fin hbl _ _ _ _).2.2
  · by_cases h0 : n = 0
    · have P6 := hide P3.out.f
      have h0i : ¬ (0 : Int) < (n : Int) := by omega
      clear h0
      rename World => w6
      go_upto_region 19 with fail
      clear c0 c1 c2 c3 cF
      obtain ⟨c0, c1, c2, c3, cF⟩ := P6.out.box.facts4
      obtain ⟨r0, r1, r2, r3, rF⟩ := P6.out.res.facts4
      have hne : ¬ w.heap.size + 1 = w.heap.size := by omega
      go_wp2
      refine bodyPost_ret (v := .agg #[.int .i64 rl, .int .i64 lo, .int .i64 hi, .slice B n d]) (by simp [results, Tryd.results8, go_sem, r0, r1, r2, r3]) rfl ⟨rl, lo, hi, B, n, d, ys, rfl, by omega, ?_, ?_, ?_⟩
      · exact (P6.out.fin hbl _ _ _ _).1
      · exact (P6.out.fin hbl _ _ _ _).2.1
      · exact (P6.out.fin hbl _ _ _ _).2.2
    · have h0i : (0 : Int) < (n : Int) := by omega
      obtain ⟨g, d', he, hgl, hcap⟩ := P3.out.row.form (by omega)
      injection he with e1 e2 e3
      subst e1 e3
      clear h0
      have h1n : 1 ≤ n := by omega
      have hnd := (sl_own P3.out.row).2.1
      have hdm := (sl_own P3.out.row).2.2.1
      by_cases hd1 : d = 1
      · have T := hide (sl_tailY0 (sl_own P3.out.row) h1n hd1)
        go_upto_region 19 with fail
        clear c0 c1 c2 c3 cF
        generalize hX : World.setCell _ _ _ = w6
        have P6 := hide (show OdF w b rl lo hi (some ⟨g, 0, none⟩) (n - 1) 0 (ys.drop 1) w6 from hX ▸ P3.out.tail hbl (some ⟨g, 0, none⟩) (n - 1) 0 (ys.drop 1) T.out (fun g' o e => by injection e with e; injection e with e1 _ _; omega))
        clear hX T
        obtain ⟨c0, c1, c2, c3, cF⟩ := P6.out.box.facts4
        obtain ⟨r0, r1, r2, r3, rF⟩ := P6.out.res.facts4
        have hne : ¬ w.heap.size + 1 = w.heap.size := by omega
        go_wp2
        refine bodyPost_ret (v := .agg #[.int .i64 rl, .int .i64 lo, .int .i64 hi, .slice (some ⟨g, 0, none⟩) (n - 1) 0]) (by simp [results, Tryd.results8, go_sem, r0, r1, r2, r3]) rfl ⟨rl, lo, hi, (some ⟨g, 0, none⟩), (n - 1), 0, (ys.drop 1), rfl, by omega, ?_, ?_, ?_⟩
        · exact (P6.out.fin hbl _ _ _ _).1
        · exact (P6.out.fin hbl _ _ _ _).2.1
        · exact (P6.out.fin hbl _ _ _ _).2.2
      · have T := hide (sl_tailY (sl_own P3.out.row) h1n)
        have hd2 : 1 < d := by omega
        go_upto_region 19 with fail
        clear c0 c1 c2 c3 cF
        generalize hX : World.setCell _ _ _ = w6
        have P6 := hide (show OdF w b rl lo hi (some ⟨g, 2, none⟩) (n - 1) (d - 1) (ys.drop 1) w6 from hX ▸ P3.out.tail hbl (some ⟨g, 2, none⟩) (n - 1) (d - 1) (ys.drop 1) T.out (fun g' o e => by injection e with e; injection e with e1 _ _; omega))
        clear hX T
        obtain ⟨c0, c1, c2, c3, cF⟩ := P6.out.box.facts4
        obtain ⟨r0, r1, r2, r3, rF⟩ := P6.out.res.facts4
        have hne : ¬ w.heap.size + 1 = w.heap.size := by omega
        go_wp2
        refine bodyPost_ret (v := .agg #[.int .i64 rl, .int .i64 lo, .int .i64 hi, .slice (some ⟨g, 2, none⟩) (n - 1) (d - 1)]) (by simp [results, Tryd.results8, go_sem, r0, r1, r2, r3]) rfl ⟨rl, lo, hi, (some ⟨g, 2, none⟩), (n - 1), (d - 1), (ys.drop 1), rfl, by omega, ?_, ?_, ?_⟩
        · exact (P6.out.fin hbl _ _ _ _).1
        · exact (P6.out.fin hbl _ _ _ _).2.1
        · exact (P6.out.fin hbl _ _ _ _).2.2
  · have P6 := hide P3.out.f
    go_upto_region 19 with fail
    clear c0 c1 c2 c3 cF
    obtain ⟨c0, c1, c2, c3, cF⟩ := P6.out.box.facts4
    obtain ⟨r0, r1, r2, r3, rF⟩ := P6.out.res.facts4
    have hne : ¬ w.heap.size + 1 = w.heap.size := by omega
    go_wp2
    refine bodyPost_ret (v := .agg #[.int .i64 rl, .int .i64 lo, .int .i64 hi, .slice B n d]) (by simp [results, Tryd.results8, go_sem, r0, r1, r2, r3]) rfl ⟨rl, lo, hi, B, n, d, ys, rfl, by omega, ?_, ?_, ?_⟩
    · exact (P6.out.fin hbl _ _ _ _).1
    · exact (P6.out.fin hbl _ _ _ _).2.1
    · exact (P6.out.fin hbl _ _ _ _).2.2
end Go.Proofs.YtphgddanbgdemaaDoor
