/-
  All results of chapter 15 are the reference's: the walk of ConflictAll. Condition: its lists can be read.
-/
import Derived.Test.YtjbddicgegkkjaaProg
import Derived.Test.YtjbddicgegkkjaaConA
import Derived.Test.YtjbddicgegkkjaaRpl
import Derived.Test.YtjbddicgegkkjaaRsi
import Derived.Test.YtjbddicgegkkjaaSam
import Derived.Test.YtjbddicgegkkjaaRaw
import Derived.Test.YtjbddicgegkkjaaExt
import Derived.Deep.DeepCutAuto
namespace Go.Proofs.Ytjbddicgegkkjaa
open Go.RowKit

theorem cd_one (cs : List Cd) : ∀ u ∈ cdCells cs, u.oneCell' = true := by
  intro u hu
  simp only [cdCells, List.mem_flatMap] at hu
  obtain ⟨c, _, h⟩ := hu
  simp [Cd.arr] at h
  rcases h with rfl | rfl | rfl | rfl | rfl | rfl | rfl <;> rfl
/-- one of the lists, in a cell -/
theorem facts14 {w : World} {g : Nat} {t : TypeId} {c0 c1 c2 c3 c4 c5 c6 c7 c8 c9 c10 c11 c12 c13 : Value} (h : Blk w g t #[c0, c1, c2, c3, c4, c5, c6, c7, c8, c9, c10, c11, c12, c13]) : w.cell? ⟨g, 0, none⟩ = some c0 ∧ w.cell? ⟨g, 1, none⟩ = some c1 ∧ w.cell? ⟨g, 2, none⟩ = some c2 ∧ w.cell? ⟨g, 3, none⟩ = some c3 ∧ w.cell? ⟨g, 4, none⟩ = some c4 ∧ w.cell? ⟨g, 5, none⟩ = some c5 ∧ w.cell? ⟨g, 6, none⟩ = some c6 ∧ w.cell? ⟨g, 7, none⟩ = some c7 ∧ w.cell? ⟨g, 8, none⟩ = some c8 ∧ w.cell? ⟨g, 9, none⟩ = some c9 ∧ w.cell? ⟨g, 10, none⟩ = some c10 ∧ w.cell? ⟨g, 11, none⟩ = some c11 ∧ w.cell? ⟨g, 12, none⟩ = some c12 ∧ w.cell? ⟨g, 13, none⟩ = some c13 := by
  have hf := h.facts.1
  exact ⟨hf 0, hf 1, hf 2, hf 3, hf 4, hf 5, hf 6, hf 7, hf 8, hf 9, hf 10, hf 11, hf 12, hf 13⟩
def ListC (w : World) (g k : Nat) : Prop := ∃ (A : Option Addr) (n c : Nat) (cs : List Cd), w.cell? ⟨g, k, none⟩ = some (.slice A n c) ∧ n ≤ 41 ∧ Sl w w.heap.size 7 A n c (cdCells cs)
theorem ListC.thr {w w' : World} {g k : Nat} (h : ListC w g k) (hb : Below w.heap.size w w') : ListC w' g k := by
  obtain ⟨A, n, c, cs, h1, h2, h3⟩ := h
  exact ⟨A, n, c, cs, cell_thr hb h1, h2, h3.thr hb⟩
/-- one of the pairs -/
def PairC (w : World) (g k : Nat) : Prop := ∃ (a b : Cd), ∀ j u, (a.arr ++ b.arr)[j]? = some u → w.cell? ⟨g, k + j, none⟩ = some u
theorem PairC.thr {w w' : World} {g k : Nat} (h : PairC w g k) (hb : Below w.heap.size w w') : PairC w' g k := by
  obtain ⟨a, b, h1⟩ := h
  exact ⟨a, b, fun j u hu => cell_thr hb (h1 j u hu)⟩
/-- what stands behind the lists' making -/
def ListsCut (w : World) (ra rb : Cd) (d g0 g1 : Nat) (v50 v51 v52 : Value) (wx : World) : Prop := v51 = .int .i64 3 ∧ v52 = .int .i64 0 ∧ ∃ g c, v50 = .slice (some ⟨g, 0, none⟩) 3 c ∧ (∀ j, j < 3 → ListC wx g j) ∧ Blk wx g0 28 ra.arr ∧ Blk wx g1 28 rb.arr ∧ Dk wx d ∧ Below w.heap.size w wx
theorem lists_of {w w4 W : World} {ra rb : Cd} {d g0 g1 : Nat} {A1 A2 A3 : Option Addr} {n1 c1 n2 c2 n3 c3 : Nat} {x1 x2 x3 : List Cd} (hw4 : Below w.heap.size w w4) (hz4 : w.heap.size ≤ w4.heap.size) (hb4 : Below w4.heap.size w4 W) (h1 : Sl w4 w4.heap.size 7 A1 n1 c1 (cdCells x1)) (h2 : Sl w4 w4.heap.size 7 A2 n2 c2 (cdCells x2)) (h3 : W.ownsRow w4.heap.size 28 7 (.slice A3 n3 c3) n3 (cdCells x3))
    (l1 : n1 ≤ 41) (l2 : n2 ≤ 41) (l3 : n3 ≤ 41) (k0 : Blk w4 g0 28 ra.arr) (k1 : Blk w4 g1 28 rb.arr) (hD : Dk w4 d) (t : TypeId) {c : Nat} :
    ListsCut w ra rb d g0 g1 (.slice (some ⟨W.heap.size, 0, none⟩) 3 c) (.int .i64 3) (.int .i64 0) (W.alloc (.cells #[.slice A1 n1 c1, .slice A2 n2 c2, .slice A3 n3 c3] t)) := by
  have hk := (Blk.new W t #[.slice A1 n1 c1, .slice A2 n2 c2, .slice A3 n3 c3]).facts.1
  have hb5 := hb4.alloc hb4.size (.cells #[.slice A1 n1 c1, .slice A2 n2 c2, .slice A3 n3 c3] t)
  obtain ⟨_, _, hgg, hs3⟩ := own_sl h3
  injection hgg with e1 e2 e3
  subst e1 e3
  refine ⟨rfl, rfl, _, _, rfl, fun j hj => ?_, k0.below hb5 k0.lt, k1.below hb5 k1.lt, hD.below hb5, hw4.trans (hb5.mono hz4)⟩
  match j, hj with
  | 0, _ => exact ⟨A1, n1, c1, x1, hk 0, l1, h1.thr hb5⟩
  | 1, _ => exact ⟨A2, n2, c2, x2, hk 1, l2, h2.thr hb5⟩
  | 2, _ => exact ⟨A3, n3, c3, x3, hk 2, l3, hs3.allocw _⟩
/-- the two boxes and the deck, in the worlds of the second region -/
def TwoB (w0 : World) (d g0 g1 : Nat) (ra rb : Cd) (w' : World) : Prop := Blk w' g0 28 ra.arr ∧ Blk w' g1 28 rb.arr ∧ Dk w' d ∧ w0.grownBy w' (some d) ∧ g0 ≠ d ∧ g1 ≠ d
def Cells7 (w' : World) (g : Nat) (r k v f t x y : Int) : Prop := w'.cell? ⟨g, 0, none⟩ = some (.int .i64 r) ∧ w'.cell? ⟨g, 1, none⟩ = some (.int .i64 k) ∧ w'.cell? ⟨g, 2, none⟩ = some (.int .i64 v) ∧ w'.cell? ⟨g, 3, none⟩ = some (.int .i64 f) ∧ w'.cell? ⟨g, 4, none⟩ = some (.int .i64 t) ∧ w'.cell? ⟨g, 5, none⟩ = some (.int .i64 x) ∧ w'.cell? ⟨g, 6, none⟩ = some (.int .i64 y)
section
variable {w0 w' w'' : World} {d g0 g1 : Nat} {ra rb : Cd}
theorem TwoB.drew (h : TwoB w0 d g0 g1 ra rb w') : TwoB w0 d g0 g1 ra rb w'.drew := ⟨h.1, h.2.1, h.2.2.1, ⟨h.2.2.2.1.os, h.2.2.2.1.tape, h.2.2.2.1.output, h.2.2.2.1.size, h.2.2.2.1.block⟩, h.2.2.2.2⟩
theorem TwoB.alloc (h : TwoB w0 d g0 g1 ra rb w') (o : Obj) : TwoB w0 d g0 g1 ra rb (w'.alloc o) := ⟨h.1.alloc o, h.2.1.alloc o, h.2.2.1.alloc o, grown_alloc h.2.2.2.1 o, h.2.2.2.2⟩
theorem TwoB.call (h : TwoB w0 d g0 g1 ra rb w') (hg : w'.grownBy w'' (some d)) (hD : Dk w'' d) : TwoB w0 d g0 g1 ra rb w'' := ⟨h.1.only hg h.2.2.2.2.1, h.2.1.only hg h.2.2.2.2.2, hD, grown_trans h.2.2.2.1 hg, h.2.2.2.2⟩
end

theorem TwoB.all {w0 w' : World} {d g0 g1 : Nat} {r k v f t x y r2 k2 v2 f2 t2 x2 y2 : Int} (h : TwoB w0 d g0 g1 ⟨r, k, v, f, t, x, y⟩ ⟨r2, k2, v2, f2, t2, x2, y2⟩ w') : w'.cell? ⟨g0, 0, none⟩ = some (.int .i64 r) ∧ w'.cell? ⟨g0, 1, none⟩ = some (.int .i64 k) ∧ w'.cell? ⟨g0, 2, none⟩ = some (.int .i64 v) ∧ w'.cell? ⟨g0, 3, none⟩ = some (.int .i64 f) ∧ w'.cell? ⟨g0, 4, none⟩ = some (.int .i64 t) ∧ w'.cell? ⟨g0, 5, none⟩ = some (.int .i64 x) ∧ w'.cell? ⟨g0, 6, none⟩ = some (.int .i64 y) ∧ w'.cell? ⟨g1, 0, none⟩ = some (.int .i64 r2) ∧ w'.cell? ⟨g1, 1, none⟩ = some (.int .i64 k2) ∧ w'.cell? ⟨g1, 2, none⟩ = some (.int .i64 v2) ∧ w'.cell? ⟨g1, 3, none⟩ = some (.int .i64 f2) ∧ w'.cell? ⟨g1, 4, none⟩ = some (.int .i64 t2) ∧ w'.cell? ⟨g1, 5, none⟩ = some (.int .i64 x2) ∧ w'.cell? ⟨g1, 6, none⟩ = some (.int .i64 y2) ∧ TwoB w0 d g0 g1 ⟨r, k, v, f, t, x, y⟩ ⟨r2, k2, v2, f2, t2, x2, y2⟩ w' := by
  obtain ⟨a0, a1, a2, a3, a4, a5, a6⟩ := (Blk.facts7 h.1).1
  obtain ⟨b0, b1, b2, b3, b4, b5, b6⟩ := (Blk.facts7 h.2.1).1
  exact ⟨a0, a1, a2, a3, a4, a5, a6, b0, b1, b2, b3, b4, b5, b6, h⟩

theorem sl_box {W : World} {g : Nat} {t : TypeId} {c : Cd} (h : Blk W g t c.arr) : Sl W W.heap.size 7 (some ⟨g, 0, none⟩) 1 1 (cdCells [c]) := by
  refine ⟨rfl, Nat.le_refl _, by unfold maxLen; omega, fun _ => ⟨g, 0, rfl, h.lt, fun j u hu => ?_⟩⟩
  rw [h.facts.1, Nat.zero_add]
  rw [← hu]
  simp [cdCells]
theorem pairs_of {w w0 W : World} {d g0 g1 : Nat} {ra rb : Cd} (hb : Below w.heap.size w w0) (hd : w.heap.size ≤ d) (h : TwoB w0 d g0 g1 ra rb W) {t : TypeId} {xs : List Cd} (hx : xs.length = 6) {arr : Array Value} (ha : arr.toList = cdCells xs) :
    (∀ j, j < 3 → PairC (W.alloc (.cells arr t)) W.heap.size (j * 14)) ∧ Below w.heap.size w (W.alloc (.cells arr t)) := by
  have hB := below_grown hb h.2.2.2.1 hb.size hd
  refine ⟨fun j hj => ⟨xs.getD (2 * j) cdn, xs.getD (2 * j + 1) cdn, fun i u hu => ?_⟩, hB.alloc hB.size _⟩
  have hi : i < 14 := by
    have := (Array.getElem?_eq_some_iff.1 hu).1
    simpa [Cd.arr] using this
  rw [(Blk.new W t arr).facts.1, ← Array.getElem?_toList, ha]
  rw [← hu]
  have g1 := fun (a : Nat) (h1 : a < 6) (b : Nat) (h2 : b < 7) => cdCells_get xs a (by omega) b h2
  have e1 : xs.getD (2 * j) cdn = xs[2 * j]'(by omega) := by simp [List.getD_eq_getElem?_getD, show 2 * j < xs.length by omega]
  have e2 : xs.getD (2 * j + 1) cdn = xs[2 * j + 1]'(by omega) := by simp [List.getD_eq_getElem?_getD, show 2 * j + 1 < xs.length by omega]
  rw [e1, e2]
  by_cases h7 : i < 7
  · rw [show j * 14 + i = 2 * j * 7 + i by omega, g1 (2 * j) (by omega) i h7, Array.getElem?_append_left (by simpa [Cd.arr] using h7)]
    simp
  · rw [show j * 14 + i = (2 * j + 1) * 7 + (i - 7) by omega, g1 (2 * j + 1) (by omega) (i - 7) (by omega), Array.getElem?_append_right (by simp [Cd.arr]; omega)]
    simp [Cd.arr]
/-- the runs of 'append(append(nil, list...), c)', in both orders -/
def LRun (w4 : World) (A4 : Option Addr) (m c4 : Nat) (cs : List Cd) (c : Cd) : Prop :=
  ∃ vA wA vB wB vC wC vD wD,
    (Builtin.append_ #[41, 41] 41 #[.slice none 0 0, .slice A4 m c4]).run Try.prog w4.drew = .ok vA wA ∧
    (Builtin.append_ #[41, 41] 41 #[vA, .slice (some ⟨wA.heap.size, 0, none⟩) 1 1]).run Try.prog (wA.alloc (.cells c.arr 28)) = .ok vB wB ∧
    (Builtin.append_ #[41, 41] 41 #[.slice none 0 0, .slice A4 m c4]).run Try.prog (w4.alloc (.cells c.arr 28)).drew = .ok vC wC ∧
    (Builtin.append_ #[41, 41] 41 #[vC, .slice (some ⟨w4.heap.size, 0, none⟩) 1 1]).run Try.prog wC = .ok vD wD ∧
    Below w4.heap.size w4 wA ∧ Below w4.heap.size w4 wB ∧ Below w4.heap.size w4 wD ∧ wB.ownsRow w4.heap.size 28 7 vB (m + 1) (cdCells (cs ++ [c])) ∧ wD.ownsRow w4.heap.size 28 7 vD (m + 1) (cdCells (cs ++ [c]))
theorem lrun {w4 : World} {A4 : Option Addr} {m c4 : Nat} {cs : List Cd} (c : Cd) (hm : m ≤ 40) (hs : Sl w4 w4.heap.size 7 A4 m c4 (cdCells cs)) : LRun w4 A4 m c4 cs c := by
  obtain ⟨vA, wA, rA, oA, gA, nA⟩ := run_ext (P := Try.prog) w4.drew w4.heap.size 41 41 28 7 slCond (.slice none 0 0) 0 [] (World.ownsRow_nil _ _ _ _) A4 m c4 w4.heap.size (cdCells cs) hs (cd_one cs) (by omega) (Nat.le_refl _)
  have bA : Below w4.heap.size w4 wA := ((Below.refl w4.heap.size w4).drew).grown gA (Nat.le_refl _) (fun k hk => by cases hk)
  have nA1 : ∀ k, vA.ownBlock = some k → w4.heap.size ≤ k := fun k hk => (oA.lt k hk).1
  obtain ⟨vB, wB, rB, oB, gB, _⟩ := run_ext (P := Try.prog) (wA.alloc (.cells c.arr 28)) w4.heap.size 41 41 28 7 slCond vA (0 + m) _ (oA.alloc _) (some ⟨wA.heap.size, 0, none⟩) 1 1 _ (cdCells [c]) (sl_box (Blk.new _ _ _)) (cd_one _) (by omega) (by have := bA.size; simp; omega)
  have bB := (bA.alloc bA.size (.cells c.arr 28)).grown gB (by have := bA.size; simp; omega) nA1
  have hb0 := (bel1 (w := w4) (o := .cells c.arr 28)).drew
  obtain ⟨vC, wC, rC, oC, gC, nC⟩ := run_ext (P := Try.prog) (w4.alloc (.cells c.arr 28)).drew w4.heap.size 41 41 28 7 slCond (.slice none 0 0) 0 [] (World.ownsRow_nil _ _ _ _) A4 m c4 _ (cdCells cs) (hs.thr hb0) (cd_one cs) (by omega) (by simp only [World.drew, World.size_alloc]; omega)
  have bC := hb0.grown gC hb0.size (fun k hk => by cases hk)
  have kC : Blk wC w4.heap.size 28 c.arr := by
    have h0 : Blk (w4.alloc (.cells c.arr 28)).drew w4.heap.size 28 c.arr := Blk.new w4 _ _
    exact (gC.block _ h0.lt (fun e => by cases e)).trans h0
  obtain ⟨vD, wD, rD, oD, gD, _⟩ := run_ext (P := Try.prog) wC w4.heap.size 41 41 28 7 slCond vC (0 + m) _ oC (some ⟨w4.heap.size, 0, none⟩) 1 1 _ (cdCells [c]) (sl_box kC) (cd_one _) (by omega) bC.size
  have bD := bC.grown gD bC.size (fun k hk => (oC.lt k hk).1)
  rw [Nat.zero_add, List.nil_append, ← cdCells_append] at oB oD
  exact ⟨vA, wA, vB, wB, vC, wC, vD, wD, rA, rB, rC, rD, bA, bB, bD, oB, oD⟩
set_option maxHeartbeats 1600000 in
set_option maxRecDepth 20000 in
theorem call_walk {A0 A3 : Option Addr} {n0 c0 n3 c3 : Nat} {rs : List Cd} {zs : List Int} {w : World} (s0 : Sl w w.heap.size 7 A0 n0 c0 (cdCells rs)) (ra rb : Cd) (s3 : Sl w w.heap.size 1 A3 n3 c3 (ints zs)) : Calls Try.prog 7 #[.slice A0 n0 c0, .agg ra.arr, .agg rb.arr, .slice A3 n3 c3] w fun e w' => e = .returned (.bool true) ∧ Below w.heap.size w w' := by
  obtain ⟨r, k, v, f, t, x, y⟩ := ra
  obtain ⟨r2, k2, v2, f2, t2, x2, y2⟩ := rb
  have q0 := (Blk.new w 28 (Cd.arr ⟨r, k, v, f, t, x, y⟩)).alloc (.cells (Cd.arr ⟨r2, k2, v2, f2, t2, x2, y2⟩) 28)
  have q1 := Blk.new (w.alloc (.cells (Cd.arr ⟨r, k, v, f, t, x, y⟩) 28)) 28 (Cd.arr ⟨r2, k2, v2, f2, t2, x2, y2⟩)
  rw [World.size_alloc] at q1
  have hB := (bel1 (w := w) (o := .cells (Cd.arr ⟨r, k, v, f, t, x, y⟩) 28)).alloc (by simp) (.cells (Cd.arr ⟨r2, k2, v2, f2, t2, x2, y2⟩) 28)
  have hz2 : ((w.alloc (.cells (Cd.arr ⟨r, k, v, f, t, x, y⟩) 28)).alloc (.cells (Cd.arr ⟨r2, k2, v2, f2, t2, x2, y2⟩) 28)).heap.size = w.heap.size + 2 := by simp
  have S0 := hide (s0.thr hB)
  have S3 := hide (s3.thr hB)
  have HZ2 := hide hz2
  clear s0 s3 hz2
  unfold Cd.arr at q0 q1 hB HZ2 S0 S3 ⊢
  by_cases hn : n0 ≤ 40
  · have hni : (n0 : Int) ≤ 40 := by omega
    go_enter Try.func7, Try.ntmps7
    go_wp2_with fail
    generalize ((w.alloc _).alloc _) = w2 at *
    refine (new_any _ _ _ _ _ S3.out).mono ?_
    rintro e w3 ⟨rfl, hD3, hb3⟩
    replace q0 := q0.below hb3 q0.lt
    replace q1 := q1.below hb3 q1.lt
    have s0 := S0.out.below hb3
    have hB3 := bthr hB hb3 hB.size
    have hd := hD3.lt
    clear S0 S3 hB hb3
    go_wp2_with fail
    with_reducible refine (conds_any _ _ hD3).mono ?_
    rintro e w4 ⟨vl, cs, rfl, hcl, hcg, hv, hD4, hg4⟩
    replace q0 := q0.only hg4 (by have := HZ2.out; omega)
    replace q1 := q1.only hg4 (by have := HZ2.out; omega)
    have s4 : Sl w4 w4.heap.size 7 A0 n0 c0 (cdCells rs) := (s0.keep (w' := w4) (fun b o hb => World.cell?_of_block (hg4.block b (by omega) (fun e => by injection e; omega)))).more (by have := hg4.size; omega)
    have hB4 := below_grown hB3 hg4 hB3.size (by have := HZ2.out; omega)
    obtain ⟨A4, c4, rfl, hsl⟩ := own_sl hv
    have hz4 := hB4.size
    obtain ⟨m, hm⟩ : ∃ m, cs.length = m := ⟨_, rfl⟩
    rw [hm] at hcl hv hsl ⊢
    clear hD3 hB3 s0 hcg hv hg4
    go_upto_region 5 with fail
    go_cut [50, 51, 52] (fun v50 v51 v52 wx => ListsCut w ⟨r, k, v, f, t, x, y⟩ ⟨r2, k2, v2, f2, t2, x2, y2⟩ w2.heap.size w.heap.size (w.heap.size + 1) v50 v51 v52 wx)
    case first =>
      obtain ⟨vA, wA, vB, wB, vC, wC, vD, wD, rA, rB, rC, rD, bA, bB, bD, oB, oD⟩ := lrun ⟨r, k, v, f, t, x, y⟩ (show m ≤ 40 by omega) hsl
      unfold Cd.arr at rB rC
      obtain ⟨gB, cB, rfl, _, _⟩ := oB.form (by omega)
      obtain ⟨gD, cD, rfl, _, _⟩ := oD.form (by omega)
      have RA := hide rA
      have RB := hide rB
      have RC := hide rC
      have RD := hide rD
      obtain ⟨⟨a0, a1, a2, a3, a4, a5, a6⟩, _⟩ := Blk.facts7 q0
      obtain ⟨⟨b0, b1, b2, b3, b4, b5, b6⟩, _⟩ := Blk.facts7 (q0.below bA q0.lt)
      clear rA rB rC rD
      go_region_law (first | ((refine step_run rfl (.const (.slice none 0 0)) (.tmp 45) 41 rfl _ _ _ _ (by first | rfl | simp [Act.eval, Act.put]) (by first | rfl | simp [Act.eval, Act.put]) RA.out ?_)) | ((refine step_run rfl (.tmp 46) (.tmp 48) 41 rfl _ _ _ _ (by first | rfl | simp [Act.eval, Act.put]) (by first | rfl | simp [Act.eval, Act.put]) RB.out ?_)) | ((refine step_run rfl (.const (.slice none 0 0)) (.tmp 45) 41 rfl _ _ _ _ (by first | rfl | simp [Act.eval, Act.put]) (by first | rfl | simp [Act.eval, Act.put]) RC.out ?_)) | ((refine step_run rfl (.tmp 46) (.tmp 48) 41 rfl _ _ _ _ (by first | rfl | simp [Act.eval, Act.put]) (by first | rfl | simp [Act.eval, Act.put]) RD.out ?_)))
      all_goals
        clear RA RB RC RD a0 a1 a2 a3 a4 a5 a6 b0 b1 b2 b3 b4 b5 b6
        go_wp2_with fail
        go_meet
        first | exact lists_of (c := 3) (ra := ⟨r, k, v, f, t, x, y⟩) (rb := ⟨r2, k2, v2, f2, t2, x2, y2⟩) hB4 hz4 bD hsl s4 oD (by omega) (by omega) (by omega) q0 q1 hD4 _ | exact lists_of (c := 3) (ra := ⟨r, k, v, f, t, x, y⟩) (rb := ⟨r2, k2, v2, f2, t2, x2, y2⟩) hB4 hz4 bB hsl s4 oB (by omega) (by omega) (by omega) q0 q1 hD4 _
    case rest =>
      obtain ⟨rfl, rfl, gL, cL, rfl, hL, z0, z1, hD5, hB5⟩ := hcut
      have HL := hide hL
      have HQ0 := hide z0
      have HQ1 := hide z1
      have HD5 := hide hD5
      have HB5 := hide hB5
      have hz5 := hB5.size
      clear hL z0 z1 hD5 hB5 q0 q1 s4 hD4 hB4 hsl hm
      go_wp2
      go_loopw [52] (fun i wr => ∃ j : Nat, j ≤ 3 ∧ i = .int .i64 j ∧ Below wc.heap.size wc wr) (fun i _ => 3 - (intOf i).toNat)
      case atStart => exact ⟨0, by omega, rfl, Below.refl _ _⟩
      case round =>
        obtain ⟨j, hj, rfl, hb⟩ := hrel
        by_cases hj3 : j < 3
        · obtain ⟨A, n, c, ds, hc, hn41, hs⟩ := (HL.out j hj3).thr hb
          have hji : (j : Int) < 3 := by omega
          have S := hide hs
          have K := hide hb
          clear hs hb
          go_wp2_with fail
          with_reducible refine (find_any A n c ds _ (by omega) S.out).mono ?_
          rintro e wa1 ⟨va1, rfl, ha1, hba1⟩
          replace S := hide (S.out.thr hba1)
          replace K := hide (bthr K.out hba1 K.out.size)
          obtain ⟨Aa1, ca1, rfl, hsa1⟩ := own_sl ha1
          have R1 := hide hsa1
          clear ha1 hba1 hsa1 hc
          go_wp2_with fail
          with_reducible refine (rfind_any A n c ds _ (by omega) S.out).mono ?_
          rintro e wa2 ⟨va2, rfl, ha2, hba2⟩
          replace S := hide (S.out.thr hba2)
          replace K := hide (bthr K.out hba2 K.out.size)
          replace R1 := hide (R1.out.thr hba2)
          obtain ⟨Aa2, ca2, rfl, hsa2⟩ := own_sl ha2
          have R2 := hide hsa2
          clear ha2 hba2 hsa2
          go_wp2_with fail
          with_reducible refine (ever_any A n c ds _ (by omega) S.out).mono ?_
          rintro e wa3 ⟨va3, rfl, ha3, hba3⟩
          replace S := hide (S.out.thr hba3)
          replace K := hide (bthr K.out hba3 K.out.size)
          replace R1 := hide (R1.out.thr hba3)
          replace R2 := hide (R2.out.thr hba3)
          obtain ⟨Aa3, ca3, rfl, hsa3⟩ := own_sl ha3
          have R3 := hide hsa3
          clear ha3 hba3 hsa3
          go_wp2_with fail
          with_reducible refine (rever_any A n c ds _ (by omega) S.out).mono ?_
          rintro e wa4 ⟨va4, rfl, ha4, hba4⟩
          replace S := hide (S.out.thr hba4)
          replace K := hide (bthr K.out hba4 K.out.size)
          replace R1 := hide (R1.out.thr hba4)
          replace R2 := hide (R2.out.thr hba4)
          replace R3 := hide (R3.out.thr hba4)
          obtain ⟨Aa4, ca4, rfl, hsa4⟩ := own_sl ha4
          have R4 := hide hsa4
          clear ha4 hba4 hsa4
          go_wp2_with fail
          with_reducible refine (cdead_any A n c ds _ (by omega) S.out).mono ?_
          rintro e wa5 ⟨va5, rfl, ha5, hba5⟩
          replace S := hide (S.out.thr hba5)
          replace K := hide (bthr K.out hba5 K.out.size)
          replace R1 := hide (R1.out.thr hba5)
          replace R2 := hide (R2.out.thr hba5)
          replace R3 := hide (R3.out.thr hba5)
          replace R4 := hide (R4.out.thr hba5)
          obtain ⟨Aa5, ca5, rfl, hsa5⟩ := own_sl ha5
          have R5 := hide hsa5
          clear ha5 hba5 hsa5
          go_wp2_with fail
          with_reducible refine (rdead_any A n c ds _ (by omega) S.out).mono ?_
          rintro e wa6 ⟨va6, rfl, ha6, hba6⟩
          replace S := hide (S.out.thr hba6)
          replace K := hide (bthr K.out hba6 K.out.size)
          replace R1 := hide (R1.out.thr hba6)
          replace R2 := hide (R2.out.thr hba6)
          replace R3 := hide (R3.out.thr hba6)
          replace R4 := hide (R4.out.thr hba6)
          replace R5 := hide (R5.out.thr hba6)
          obtain ⟨Aa6, ca6, rfl, hsa6⟩ := own_sl ha6
          have R6 := hide hsa6
          clear ha6 hba6 hsa6
          go_wp2_with fail
          with_reducible refine (simple_any A n c ds _ (by omega) S.out).mono ?_
          rintro e wa7 ⟨va7, rfl, ha7, hba7⟩
          replace S := hide (S.out.thr hba7)
          replace K := hide (bthr K.out hba7 K.out.size)
          replace R1 := hide (R1.out.thr hba7)
          replace R2 := hide (R2.out.thr hba7)
          replace R3 := hide (R3.out.thr hba7)
          replace R4 := hide (R4.out.thr hba7)
          replace R5 := hide (R5.out.thr hba7)
          replace R6 := hide (R6.out.thr hba7)
          obtain ⟨Aa7, ca7, rfl, hsa7⟩ := own_sl ha7
          have R7 := hide hsa7
          clear ha7 hba7 hsa7
          go_wp2_with fail
          with_reducible refine (rsimple_any A n c ds _ (by omega) S.out).mono ?_
          rintro e wa8 ⟨va8, rfl, ha8, hba8⟩
          replace S := hide (S.out.thr hba8)
          replace K := hide (bthr K.out hba8 K.out.size)
          replace R1 := hide (R1.out.thr hba8)
          replace R2 := hide (R2.out.thr hba8)
          replace R3 := hide (R3.out.thr hba8)
          replace R4 := hide (R4.out.thr hba8)
          replace R5 := hide (R5.out.thr hba8)
          replace R6 := hide (R6.out.thr hba8)
          replace R7 := hide (R7.out.thr hba8)
          obtain ⟨Aa8, ca8, rfl, hsa8⟩ := own_sl ha8
          have R8 := hide hsa8
          clear ha8 hba8 hsa8
          go_wp2_with fail
          with_reducible refine (same15_any _ _ _ _ _ _ _ R1.out R2.out).mono ?_
          rintro e ws1 ⟨rfl, hbs⟩
          replace K := hide (bthr K.out hbs K.out.size)
          replace R3 := hide (R3.out.thr hbs)
          replace R4 := hide (R4.out.thr hbs)
          replace R5 := hide (R5.out.thr hbs)
          replace R6 := hide (R6.out.thr hbs)
          replace R7 := hide (R7.out.thr hbs)
          replace R8 := hide (R8.out.thr hbs)
          clear hbs
          go_wp2_with fail
          with_reducible refine (same15_any _ _ _ _ _ _ _ R3.out R4.out).mono ?_
          rintro e ws3 ⟨rfl, hbs⟩
          replace K := hide (bthr K.out hbs K.out.size)
          replace R5 := hide (R5.out.thr hbs)
          replace R6 := hide (R6.out.thr hbs)
          replace R7 := hide (R7.out.thr hbs)
          replace R8 := hide (R8.out.thr hbs)
          clear hbs
          go_wp2_with fail
          with_reducible refine (same_any _ _ _ _ _ _ _ _ _ R5.out R6.out).mono ?_
          rw [show sameB (ddL ds) (ddL ds) = true by simp [sameB]]
          rintro e ws5 ⟨rfl, hbs⟩
          replace K := hide (bthr K.out hbs K.out.size)
          replace R7 := hide (R7.out.thr hbs)
          replace R8 := hide (R8.out.thr hbs)
          clear hbs
          go_wp2_with fail
          with_reducible refine (same12_any _ _ _ _ _ _ _ R7.out R8.out).mono ?_
          rintro e ws7 ⟨rfl, hbs⟩
          replace K := hide (bthr K.out hbs K.out.size)
          clear hbs
          clear R1 R2 R3 R4 R5 R6 R7 R8 S
          go_wp2
          go_roundw
          case rel => exact ⟨j + 1, by omega, by go_num, K.out⟩
          case measure => simp [intOf]; omega
        · have hji : ¬ ((j : Int) < 3) := by omega
          have q0 := HQ0.out.below hb HQ0.out.lt
          have q1 := HQ1.out.below hb HQ1.out.lt
          have hD6 := HD5.out.below hb
          have hB6 := bthr HB5.out hb HB5.out.size
          have HT := hide (show TwoB wr w2.heap.size w.heap.size (w.heap.size + 1) ⟨r, k, v, f, t, x, y⟩ ⟨r2, k2, v2, f2, t2, x2, y2⟩ wr from ⟨q0, q1, hD6, grown_refl _ _, by have := HZ2.out; omega, by have := HZ2.out; omega⟩)
          have HB6 := hide hB6
          clear HQ0 HQ1 HD5 HB5 HL hb q0 q1 hD6 hB6
          go_upto_region 19 with fail
          go_cut [151, 152, 153] (fun v151 v152 v153 wx => v152 = .int .i64 3 ∧ v153 = .int .i64 0 ∧ ∃ g c, v151 = .slice (some ⟨g, 0, none⟩) 3 c ∧ (∀ j, j < 3 → PairC wx g (j * 14)) ∧ Below w.heap.size w wx)
          case first =>
            go_region_held3 (fun w' => w'.cell? ⟨w.heap.size, 0, none⟩ = some (.int .i64 r) ∧ w'.cell? ⟨w.heap.size, 1, none⟩ = some (.int .i64 k) ∧ w'.cell? ⟨w.heap.size, 2, none⟩ = some (.int .i64 v) ∧ w'.cell? ⟨w.heap.size, 3, none⟩ = some (.int .i64 f) ∧ w'.cell? ⟨w.heap.size, 4, none⟩ = some (.int .i64 t) ∧ w'.cell? ⟨w.heap.size, 5, none⟩ = some (.int .i64 x) ∧ w'.cell? ⟨w.heap.size, 6, none⟩ = some (.int .i64 y) ∧ w'.cell? ⟨w.heap.size + 1, 0, none⟩ = some (.int .i64 r2) ∧ w'.cell? ⟨w.heap.size + 1, 1, none⟩ = some (.int .i64 k2) ∧ w'.cell? ⟨w.heap.size + 1, 2, none⟩ = some (.int .i64 v2) ∧ w'.cell? ⟨w.heap.size + 1, 3, none⟩ = some (.int .i64 f2) ∧ w'.cell? ⟨w.heap.size + 1, 4, none⟩ = some (.int .i64 t2) ∧ w'.cell? ⟨w.heap.size + 1, 5, none⟩ = some (.int .i64 x2) ∧ w'.cell? ⟨w.heap.size + 1, 6, none⟩ = some (.int .i64 y2) ∧ TwoB wr w2.heap.size w.heap.size (w.heap.size + 1) ⟨r, k, v, f, t, x, y⟩ ⟨r2, k2, v2, f2, t2, x2, y2⟩ w')
              (first | exact TwoB.all (TwoB.drew HT.out) | (exact TwoB.all hcs) | (go_split_ands; exact TwoB.all (by assumption)) | (go_split_ands; exact TwoB.all (TwoB.alloc (by assumption) _)))
              ((go_at_call 9; go_split_ands; refine (cond_any _ _ (by have hcs : TwoB _ _ _ _ _ _ _ := (by assumption); exact hcs.2.2.1)).mono ?_; rintro e w8 ⟨⟨cr, ck, cv, cf, ct, cx, cy⟩, rfl, -, hD9, hg⟩; have hcs : TwoB wr w2.heap.size w.heap.size (w.heap.size + 1) ⟨r, k, v, f, t, x, y⟩ ⟨r2, k2, v2, f2, t2, x2, y2⟩ w8 := TwoB.call (by assumption) hg hD9; unfold Cd.arr))
            all_goals
              go_split_ands
              go_wp2_with fail
              go_meet
              have hT8 : TwoB wr w2.heap.size w.heap.size (w.heap.size + 1) ⟨r, k, v, f, t, x, y⟩ ⟨r2, k2, v2, f2, t2, x2, y2⟩ w8 := by assumption
              exact ⟨rfl, rfl, _, _, rfl, pairs_of HB6.out (by have := HZ2.out; omega) hT8 (xs := [⟨_, _, _, _, _, _, _⟩, ⟨_, _, _, _, _, _, _⟩, ⟨_, _, _, _, _, _, _⟩, ⟨_, _, _, _, _, _, _⟩, ⟨_, _, _, _, _, _, _⟩, ⟨_, _, _, _, _, _, _⟩]) rfl (arr := _) (by rfl)⟩
          case rest =>
            obtain ⟨rfl, rfl, gP, cP, rfl, hP, hB7⟩ := hcut
            have HP := hide hP
            have HB7 := hide hB7
            have hz7 := hB7.size
            clear hP hB7 HT HB6
            go_wp2
            go_loopw [153] (fun i wq => ∃ l : Nat, l ≤ 3 ∧ i = .int .i64 l ∧ Below wc.heap.size wc wq) (fun i _ => 3 - (intOf i).toNat)
            case atStart => exact ⟨0, by omega, rfl, Below.refl _ _⟩
            case round =>
              rename World => wq
              obtain ⟨l, hl, rfl, hb⟩ := hrel
              by_cases hl3 : l < 3
              · obtain ⟨⟨r3, k3, v3, f3, t3, x3, y3⟩, ⟨r4, k4, v4, f4, t4, x4, y4⟩, hc⟩ := (HP.out l hl3).thr hb
                have e0 := hc 0 (.int .i64 r3) rfl
                have e1 := hc 1 (.int .i64 k3) rfl
                have e2 := hc 2 (.int .i64 v3) rfl
                have e3 := hc 3 (.int .i64 f3) rfl
                have e4 := hc 4 (.int .i64 t3) rfl
                have e5 := hc 5 (.int .i64 x3) rfl
                have e6 := hc 6 (.int .i64 y3) rfl
                have e7 := hc 7 (.int .i64 r4) rfl
                have e8 := hc 8 (.int .i64 k4) rfl
                have e9 := hc 9 (.int .i64 v4) rfl
                have e10 := hc 10 (.int .i64 f4) rfl
                have e11 := hc 11 (.int .i64 t4) rfl
                have e12 := hc 12 (.int .i64 x4) rfl
                have e13 := hc 13 (.int .i64 y4) rfl
                rw [Nat.add_zero] at e0
                have hli : (l : Int) < 3 := by omega
                have q2 := Blk.new wq 64 #[.int .i64 r3, .int .i64 k3, .int .i64 v3, .int .i64 f3, .int .i64 t3, .int .i64 x3, .int .i64 y3, .int .i64 r4, .int .i64 k4, .int .i64 v4, .int .i64 f4, .int .i64 t4, .int .i64 x4, .int .i64 y4]
                have hb2 := hb.alloc hb.size (.cells #[.int .i64 r3, .int .i64 k3, .int .i64 v3, .int .i64 f3, .int .i64 t3, .int .i64 x3, .int .i64 y3, .int .i64 r4, .int .i64 k4, .int .i64 v4, .int .i64 f4, .int .i64 t4, .int .i64 x4, .int .i64 y4] 64)
                have HPA := hide (fun W => Pair_any ⟨r3, k3, v3, f3, t3, x3, y3⟩ ⟨r4, k4, v4, f4, t4, x4, y4⟩ W)
                have HRA := hide (fun W => rpair_any ⟨r3, k3, v3, f3, t3, x3, y3⟩ ⟨r4, k4, v4, f4, t4, x4, y4⟩ W)
                unfold Cd.arr at HPA HRA
                generalize pM ⟨r3, k3, v3, f3, t3, x3, y3⟩ ⟨r4, k4, v4, f4, t4, x4, y4⟩ = bm at *
                generalize pE ⟨r3, k3, v3, f3, t3, x3, y3⟩ ⟨r4, k4, v4, f4, t4, x4, y4⟩ = be at *
                have HB2 := hide hb2
                clear hc hb hb2
                go_upto_region 22 with fail
                clear e0 e1 e2 e3 e4 e5 e6 e7 e8 e9 e10 e11 e12 e13
                generalize wq.alloc _ = w9 at *
                generalize wq.heap.size = g9 at *
                obtain ⟨z0, z1, z2, z3, z4, z5, z6, z7, z8, z9, z10, z11, z12, z13⟩ := facts14 q2
                go_wp2_with fail
                with_reducible refine (HPA.out _).mono ?_
                rintro e w10 ⟨rfl, hb10⟩
                replace HB2 := hide (bthr HB2.out hb10 HB2.out.size)
                replace q2 := q2.below hb10 q2.lt
                clear z0 z1 z2 z3 z4 z5 z6 z7 z8 z9 z10 z11 z12 z13 hb10
                obtain ⟨z0, z1, z2, z3, z4, z5, z6, z7, z8, z9, z10, z11, z12, z13⟩ := facts14 q2
                go_wp2_with fail
                with_reducible refine (HRA.out _).mono ?_
                rintro e w11 ⟨rfl, hb11⟩
                replace HB2 := hide (bthr HB2.out hb11 HB2.out.size)
                clear z0 z1 z2 z3 z4 z5 z6 z7 z8 z9 z10 z11 z12 z13 hb11 q2 HPA HRA
                have hbm : (bm != bm) = false := by simp
                have hbe : (be != be) = false := by simp
                go_wp2
                go_roundw
                case rel => exact ⟨l + 1, by omega, by go_num, HB2.out⟩
                case measure => simp [intOf]; omega
              · obtain rfl : l = 3 := by omega
                have HBZ := hide (bthr HB7.out hb HB7.out.size)
                clear hb HP
                go_wp2_with fail
                refine (awake_any _).mono ?_
                rintro e w12 ⟨rfl, hb12⟩
                have HBY := hide (bthr HBZ.out hb12 HBZ.out.size)
                clear hb12
                go_wp2
                go_ret
                exact ⟨rfl, HBY.out⟩
  · have hni : (40 : Int) < (n0 : Int) := by omega
    have HA := hide (fun W => awake_any W)
    go_enter Try.func7, Try.ntmps7
    go_wp2_with fail
    refine (HA.out _).mono ?_
    rintro e w3 ⟨rfl, hb3⟩
    have HB3 := hide (bthr hB hb3 hB.size)
    clear hb3 hB q0 q1 S0 S3 HA
    go_wp2
    go_ret
    exact ⟨rfl, HB3.out⟩
end Go.Proofs.Ytjbddicgegkkjaa
