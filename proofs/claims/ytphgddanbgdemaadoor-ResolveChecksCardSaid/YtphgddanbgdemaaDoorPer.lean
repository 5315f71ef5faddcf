/-
  Contracts of permits and Bounds of a condition, where the table of kinds holds what the program lays. Condition: that table.
-/
import Derived.Test.YtphgddanbgdemaaDoorProg
import Derived.Test.YtphgddanbgdemaaDoorOne
import Derived.Test.YtphgddanbgdemaaDoorReg
import Derived.WalkLawsBesides
namespace Go.Proofs.YtphgddanbgdemaaDoor
open Go.RowKit

def kindCells : List Value := [.bool false, .bool false, .bool true, .bool false, .bool false, .bool false, .bool false, .bool true, .bool true, .bool true]
/-- The table of kinds lies in block 0. -/
def KT (w : World) : Prop := ∀ j v, kindCells[j]? = some v → w.cell? ⟨0, j, none⟩ = some v
theorem KT.pos {w : World} (h : KT w) : 0 < w.heap.size := World.block_lt_of_cell? w _ (h 0 _ rfl)
theorem KT.below {w w' : World} {B : Nat} (h : KT w) (hb : Below B w w') (hB : 0 < B) : KT w' := fun j v hj => (hb.cell (p := ⟨0, j, none⟩) hB).trans (h j v hj)
theorem KT.alloc {w : World} (h : KT w) (o : Obj) : KT (w.alloc o) := fun j v hj => (World.cell?_alloc_lt w o ⟨0, j, none⟩ h.pos).trans (h j v hj)
def bLeast (c : Cd) (x : Int) : Int := if c.kind = 1 then c.value else if c.kind = 4 then max 0 (x - c.value) else 0
def bMost (c : Cd) (x : Int) : Int := if c.kind = 2 then c.value else if c.kind = 3 then min 1073741824 (x + c.value) else 1073741824
def bOk (c : Cd) (x : Int) : Bool := decide (c.err = 0) && wit x 1073741824
def bndVal (c : Cd) (x : Int) : Value := if bOk c x then .tuple #[.agg #[.int .i64 (bLeast c x), .int .i64 (bMost c x)], .bool true] else .tuple #[.agg #[.int .i64 0, .int .i64 0], .bool false]
theorem bnd_yes {c : Cd} {x : Int} (h : bOk c x = true) : bndVal c x = .tuple #[.agg #[.int .i64 (bLeast c x), .int .i64 (bMost c x)], .bool true] := by simp [bndVal, h]
theorem bnd_no {c : Cd} {x : Int} (h : bOk c x = false) : bndVal c x = .tuple #[.agg #[.int .i64 0, .int .i64 0], .bool false] := by simp [bndVal, h]
theorem kind_4 {k : Int} (h : 1 ≤ k ∧ k ≤ 4) : k = 1 ∨ k = 2 ∨ k = 3 ∨ k = 4 := by omega
theorem err_ne0 {c : Cd} (h : ¬ c.err = 0) : (c.err != 0) = true := by simp [h]
set_option maxHeartbeats 3200000 in
set_option maxRecDepth 20000 in
theorem permits_any (c : Cd) (n : Int) (w : World) (hT : KT w) (hk : 1 ≤ c.kind ∧ c.kind ≤ 4) (hv : 0 ≤ c.value ∧ c.value ≤ 1073741824) (hn : 0 ≤ n ∧ n ≤ 1073741824) :
    Calls Tryd.prog 52 #[.agg c.arr, .int .i64 n] w fun e w' => e = .returned (.agg #[.int .i64 (bLeast c n), .int .i64 (bMost c n)]) ∧ Below w.heap.size w w' := by
  obtain ⟨r, k, v, f, t, x, y⟩ := c
  simp only at hk hv
  obtain ⟨hv0, hv1⟩ := hv
  obtain ⟨hn0, hn1⟩ := hn
  have hw0 := hT.pos
  have hT2 := hide hT
  unfold Cd.arr
  have k0 := (hT.alloc (.cells #[.int .i64 r, .int .i64 k, .int .i64 v, .int .i64 f, .int .i64 t, .int .i64 x, .int .i64 y] 47)).alloc (.cells #[.int .i64 0, .int .i64 0] 23)
  obtain rfl | rfl | rfl | rfl := kind_4 hk
  all_goals
    clear hk
    have e1 := fun j v h => (k0.alloc (.cells #[.int .i64 0, .int .i64 1073741824] 23)) j v h
    have t2 := e1 2 _ rfl
    have t3 := e1 3 _ rfl
    have t4 := e1 4 _ rfl
    have t5 := e1 5 _ rfl
    have t6 := e1 6 _ rfl
    have t7 := e1 7 _ rfl
    have t8 := e1 8 _ rfl
    have t9 := e1 9 _ rfl
    clear e1 k0 hT
    go_enter Tryd.func52, Tryd.ntmps52
    go_wp2
    all_goals first | (refine bodyPost_ret (v := .agg #[.int .i64 (v), .int .i64 (1073741824)]) ?_ rfl ⟨?_, ?_⟩; (focus (simp [results, Tryd.results52, go_sem]; done)); (focus (simp [bLeast, bMost]; (try omega))); go_grown; done) | (refine bodyPost_ret (v := .agg #[.int .i64 (0), .int .i64 (v)]) ?_ rfl ⟨?_, ?_⟩; (focus (simp [results, Tryd.results52, go_sem]; done)); (focus (simp [bLeast, bMost]; (try omega))); go_grown; done) | (refine bodyPost_ret (v := .agg #[.int .i64 (0), .int .i64 (n + v)]) ?_ rfl ⟨?_, ?_⟩; (focus (simp [results, Tryd.results52, go_sem]; done)); (focus (simp [bLeast, bMost]; (try omega))); go_grown; done) | (refine bodyPost_ret (v := .agg #[.int .i64 (0), .int .i64 (1073741824)]) ?_ rfl ⟨?_, ?_⟩; (focus (simp [results, Tryd.results52, go_sem]; done)); (focus (simp [bLeast, bMost]; (try omega))); go_grown; done) | (refine bodyPost_ret (v := .agg #[.int .i64 (n - v), .int .i64 (1073741824)]) ?_ rfl ⟨?_, ?_⟩; (focus (simp [results, Tryd.results52, go_sem]; done)); (focus (simp [bLeast, bMost]; (try omega))); go_grown; done) | go_show
set_option maxHeartbeats 3200000 in
set_option maxRecDepth 20000 in
/-- Bounds at a valid condition and a valid release before. -/
theorem lbnd_ok (c : Cd) (n : Int) (w : World) (hT : KT w) (h : bOk c n = true) :
    Calls Tryd.prog 30 #[.agg c.arr, .int .i64 n] w fun e w' => e = .returned (.tuple #[.agg #[.int .i64 (bLeast c n), .int .i64 (bMost c n)], .bool true]) ∧ Below w.heap.size w w' := by
  have he : c.err = 0 := by simp [bOk] at h; exact h.1
  have hn : wit n 1073741824 = true := by simp [bOk] at h; exact h.2
  have hk := (err_zero he).2.1
  have hv := (rest_iff.1 (err_zero he).2.2).1
  have h0 := Blk.new w 47 c.arr
  have hB := (bel1 (w := w) (o := .cells c.arr 47)).alloc (by simp) (.cells #[.int .i64 0, .int .i64 0] 23)
  replace h0 := h0.alloc (.cells #[.int .i64 0, .int .i64 0] 23)
  have h1 := Blk.new (w.alloc (.cells c.arr 47)) 23 #[.int .i64 0, .int .i64 0]
  rw [World.size_alloc] at h1
  have HA := hide (fun W => one_any c W)
  have HP := hide (fun W (hW : KT W) => permits_any c n W hW hk hv (wit_iff.1 hn))
  have H9 := hide he
  have HN := hide hn
  have hw0 := hT.pos
  clear h he hn hk hv
  obtain ⟨r, k, v, f, t, x, y⟩ := c
  unfold Cd.arr at h0 h1 hB HA HP ⊢
  go_enter Tryd.func30, Tryd.ntmps30
  go_wp2_with fail
  generalize ((w.alloc _).alloc _) = w2 at *
  refine (HA.out _).mono ?_
  rintro e w3 ⟨rfl, hb1⟩
  rw [H9.out]
  have hB1 := bthr hB hb1 hB.size
  replace h1 := h1.below hb1 h1.lt
  replace h0 := h0.below hb1 h0.lt
  clear hB hb1
  obtain ⟨y0, y1, hF⟩ := h1.facts2
  obtain ⟨⟨a0, a1, a2, a3, a4, a5, a6⟩, _⟩ := Blk.facts7 h0
  go_wp2_with (go_at_call 51; refine (within_any _ _ _).mono ?_; rintro e w4 ⟨rfl, rfl⟩; rw [HN.out])
  refine (HP.out _ (hT.below hB1 hw0)).mono ?_
  rintro e w5 ⟨rfl, hb5⟩
  have hB5 := hide (bthr hB1 hb5 hB1.size)
  replace h1 := h1.below hb5 h1.lt
  have hz := h1.lt
  clear h0 hb5 hB1 a0 a1 a2 a3 a4 a5 a6 y0 y1
  obtain ⟨y0, y1, hF⟩ := h1.facts2
  go_wp2
  refine bodyPost_ret (v := .tuple #[.agg #[.int .i64 (bLeast ⟨r, k, v, f, t, x, y⟩ n), .int .i64 (bMost ⟨r, k, v, f, t, x, y⟩ n)], .bool true]) (by simp [results, Tryd.results30, go_sem, y0, y1, hz]) rfl ⟨rfl, ?_⟩
  refine Below.setCell (Below.setCell hB5.out ?_ _) ?_ _ <;> exact Nat.le_succ _
end Go.Proofs.YtphgddanbgdemaaDoor
