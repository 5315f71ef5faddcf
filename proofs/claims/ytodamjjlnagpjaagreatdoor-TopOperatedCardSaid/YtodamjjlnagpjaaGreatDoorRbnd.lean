/-
  Contracts of permits and Bounds of a condition, where the table of kinds holds what the program lays. Condition: that table.
  A block that is known whole, read as a slice. No condition.
  Contracts of Keeps and Kept at valid conditions, 200 at most. Conditions: these, the table of kinds, and a valid day, level and releases.
  The contract of the reference's Bounds of a condition. No condition.
-/
import Derived.Test.YtodamjjlnagpjaaGreatDoorProg
import Derived.Test.YtodamjjlnagpjaaGreatDoorOne
import Derived.Test.YtodamjjlnagpjaaGreatDoorPushN
import Derived.WalkLawsBesides
import Derived.Test.YtodamjjlnagpjaaGreatDoorTpd
import Derived.Test.YtodamjjlnagpjaaGreatDoorAcv
import Derived.Test.YtodamjjlnagpjaaGreatDoorRap
namespace Go.Proofs.YtodamjjlnagpjaaGreatDoor
open Go.RowKit

def kindCells : List Value := [.bool false, .bool false, .bool true, .bool false, .bool false, .bool false, .bool false, .bool true, .bool true, .bool true]
/-- The table of kinds lies in block 0. -/
def KT (w : World) : Prop := ∀ j v, kindCells[j]? = some v → w.cell? ⟨1, j, none⟩ = some v
theorem KT.pos {w : World} (h : KT w) : 1 < w.heap.size := World.block_lt_of_cell? w _ (h 0 _ rfl)
theorem KT.below {w w' : World} {B : Nat} (h : KT w) (hb : Below B w w') (hB : 1 < B) : KT w' := fun j v hj => (hb.cell (p := ⟨1, j, none⟩) hB).trans (h j v hj)
theorem KT.alloc {w : World} (h : KT w) (o : Obj) : KT (w.alloc o) := fun j v hj => (World.cell?_alloc_lt w o ⟨1, j, none⟩ h.pos).trans (h j v hj)
def bLeast (c : Cd) (x : Int) : Int := if c.kind = 1 then c.value else if c.kind = 4 then max 0 (x - c.value) else 0
def bMost (c : Cd) (x : Int) : Int := if c.kind = 2 then c.value else if c.kind = 3 then min 1073741824 (x + c.value) else 1073741824
def bOk (c : Cd) (x : Int) : Bool := decide (c.err = 0) && wit x 1073741824
def bndVal (c : Cd) (x : Int) : Value := if bOk c x then .tuple #[.agg #[.int .i64 (bLeast c x), .int .i64 (bMost c x)], .bool true] else .tuple #[.agg #[.int .i64 0, .int .i64 0], .bool false]
theorem bnd_yes {c : Cd} {x : Int} (h : bOk c x = true) : bndVal c x = .tuple #[.agg #[.int .i64 (bLeast c x), .int .i64 (bMost c x)], .bool true] := by simp [bndVal, h]
theorem bnd_no {c : Cd} {x : Int} (h : bOk c x = false) : bndVal c x = .tuple #[.agg #[.int .i64 0, .int .i64 0], .bool false] := by simp [bndVal, h]
theorem kind_4 {k : Int} (h : 1 ≤ k ∧ k ≤ 4) : k = 1 ∨ k = 2 ∨ k = 3 ∨ k = 4 := by omega
theorem err_ne0 {c : Cd} (h : ¬ c.err = 0) : (c.err != 0) = true := by simp [h]
set_option maxHeartbeats 3200000 in
set_option maxRecDepth 20000 in
theorem permits_any (c : Cd) (n : Int) (w : World) (hT : KT w) (hk : 1 ≤ c.kind ∧ c.kind ≤ 4) (hv : 0 ≤ c.value ∧ c.value ≤ 1073741824) (hn : 0 ≤ n ∧ n ≤ 1073741824) :
    Calls Tryz.prog 82 #[.agg c.arr, .int .i64 n] w fun e w' => e = .returned (.agg #[.int .i64 (bLeast c n), .int .i64 (bMost c n)]) ∧ Below w.heap.size w w' := by
  obtain ⟨r, k, v, f, t, x, y⟩ := c
  simp only at hk hv
  obtain ⟨hv0, hv1⟩ := hv
  obtain ⟨hn0, hn1⟩ := hn
  have hw0 := hT.pos
  have hT2 := hide hT
  unfold Cd.arr
  have k0 := (hT.alloc (.cells #[.int .i64 r, .int .i64 k, .int .i64 v, .int .i64 f, .int .i64 t, .int .i64 x, .int .i64 y] 72)).alloc (.cells #[.int .i64 0, .int .i64 0] 45)
  obtain rfl | rfl | rfl | rfl := kind_4 hk
  all_goals
    clear hk
    have e1 := fun j v h => (k0.alloc (.cells #[.int .i64 0, .int .i64 1073741824] 45)) j v h
    have t2 := e1 2 _ rfl
    have t3 := e1 3 _ rfl
    have t4 := e1 4 _ rfl
    have t5 := e1 5 _ rfl
    have t6 := e1 6 _ rfl
    have t7 := e1 7 _ rfl
    have t8 := e1 8 _ rfl
    have t9 := e1 9 _ rfl
    clear e1 k0 hT
    go_enter Tryz.func82, Tryz.ntmps82
    go_wp2
    all_goals first | (refine bodyPost_ret (v := .agg #[.int .i64 (v), .int .i64 (1073741824)]) ?_ rfl ⟨?_, ?_⟩; (focus (simp [results, Tryz.results82, go_sem]; done)); (focus (simp [bLeast, bMost]; (try omega))); go_grown; done) | (refine bodyPost_ret (v := .agg #[.int .i64 (0), .int .i64 (v)]) ?_ rfl ⟨?_, ?_⟩; (focus (simp [results, Tryz.results82, go_sem]; done)); (focus (simp [bLeast, bMost]; (try omega))); go_grown; done) | (refine bodyPost_ret (v := .agg #[.int .i64 (0), .int .i64 (n + v)]) ?_ rfl ⟨?_, ?_⟩; (focus (simp [results, Tryz.results82, go_sem]; done)); (focus (simp [bLeast, bMost]; (try omega))); go_grown; done) | (refine bodyPost_ret (v := .agg #[.int .i64 (0), .int .i64 (1073741824)]) ?_ rfl ⟨?_, ?_⟩; (focus (simp [results, Tryz.results82, go_sem]; done)); (focus (simp [bLeast, bMost]; (try omega))); go_grown; done) | (refine bodyPost_ret (v := .agg #[.int .i64 (n - v), .int .i64 (1073741824)]) ?_ rfl ⟨?_, ?_⟩; (focus (simp [results, Tryz.results82, go_sem]; done)); (focus (simp [bLeast, bMost]; (try omega))); go_grown; done) | go_show
set_option maxHeartbeats 3200000 in
set_option maxRecDepth 20000 in
/-- Bounds at a valid condition and a valid release before. -/
theorem lbnd_ok (c : Cd) (n : Int) (w : World) (hT : KT w) (h : bOk c n = true) :
    Calls Tryz.prog 52 #[.agg c.arr, .int .i64 n] w fun e w' => e = .returned (.tuple #[.agg #[.int .i64 (bLeast c n), .int .i64 (bMost c n)], .bool true]) ∧ Below w.heap.size w w' := by
  have he : c.err = 0 := by simp [bOk] at h; exact h.1
  have hn : wit n 1073741824 = true := by simp [bOk] at h; exact h.2
  have hk := (err_zero he).2.1
  have hv := (rest_iff.1 (err_zero he).2.2).1
  have h0 := Blk.new w 72 c.arr
  have hB := (bel1 (w := w) (o := .cells c.arr 72)).alloc (by simp) (.cells #[.int .i64 0, .int .i64 0] 45)
  replace h0 := h0.alloc (.cells #[.int .i64 0, .int .i64 0] 45)
  have h1 := Blk.new (w.alloc (.cells c.arr 72)) 45 #[.int .i64 0, .int .i64 0]
  rw [World.size_alloc] at h1
  have HA := hide (fun W => one_any c W)
  have HP := hide (fun W (hW : KT W) => permits_any c n W hW hk hv (wit_iff.1 hn))
  have H9 := hide he
  have HN := hide hn
  have hw0 := hT.pos
  clear h he hn hk hv
  obtain ⟨r, k, v, f, t, x, y⟩ := c
  unfold Cd.arr at h0 h1 hB HA HP ⊢
  go_enter Tryz.func52, Tryz.ntmps52
  go_wp2_with fail
  generalize ((w.alloc _).alloc _) = w2 at *
  refine (HA.out _).mono ?_
  rintro e w3 ⟨rfl, hb1⟩
  rw [H9.out]
  have hB1 := bthr hB hb1 hB.size
  replace h1 := h1.below hb1 h1.lt
  replace h0 := h0.below hb1 h0.lt
  clear hB hb1
  obtain ⟨y0, y1, hF⟩ := h1.facts2
  obtain ⟨⟨a0, a1, a2, a3, a4, a5, a6⟩, _⟩ := Blk.facts7 h0
  go_wp2_with (go_at_call 30; refine (within_any _ _ _).mono ?_; rintro e w4 ⟨rfl, rfl⟩; rw [HN.out])
  refine (HP.out _ (hT.below hB1 hw0)).mono ?_
  rintro e w5 ⟨rfl, hb5⟩
  have hB5 := hide (bthr hB1 hb5 hB1.size)
  replace h1 := h1.below hb5 h1.lt
  have hz := h1.lt
  clear h0 hb5 hB1 a0 a1 a2 a3 a4 a5 a6 y0 y1
  obtain ⟨y0, y1, hF⟩ := h1.facts2
  go_wp2
  refine bodyPost_ret (v := .tuple #[.agg #[.int .i64 (bLeast ⟨r, k, v, f, t, x, y⟩ n), .int .i64 (bMost ⟨r, k, v, f, t, x, y⟩ n)], .bool true]) (by simp [results, Tryz.results52, go_sem, y0, y1]) rfl ⟨rfl, ?_⟩
  refine Below.setCell (Below.setCell hB5.out ?_ _) ?_ _ <;> exact Nat.le_succ _
end Go.Proofs.YtodamjjlnagpjaaGreatDoor
namespace Go.Proofs.YtodamjjlnagpjaaGreatDoor
open Go.RowKit

theorem bth {a b c : World} (h : Below a.heap.size a b) (k : Below b.heap.size b c) : Below a.heap.size a c := bthr h k h.size
theorem Sl.of_blkN {w : World} {g n size : Nat} {t : TypeId} {cs : Array Value} {xs : List Value} (h : Blk w g t cs) (hx : cs.toList = xs) (hn : xs.length = n * size) (hm : n ≤ maxLen) : Sl w w.heap.size size (some ⟨g, 0, none⟩) n n xs :=
  ⟨hn, Nat.le_refl _, hm, fun _ => ⟨g, 0, rfl, h.lt, fun j u hu => by
    rw [h.facts.1, ← hu, ← hx]; simp⟩⟩
end Go.Proofs.YtodamjjlnagpjaaGreatDoor
namespace Go.Proofs.YtodamjjlnagpjaaGreatDoor
open Go.RowKit

def kepB (c : Cd) (bf rl : Int) : Bool := decide (bLeast c bf ≤ rl) && decide (rl ≤ bMost c bf)
/-- Does a release keep the condition of number i? -/
def kepC (cs : List Cd) (bf rl : Int) (i : Int) : Bool := kepB (cs.getD i.toNat cd0) bf rl
def keptL (cs : List Cd) (d lv bf rl : Int) : List Int := keepL (fun i => !kepC cs bf rl i) (actC cs d lv)
def violL (cs : List Cd) (d lv bf rl : Int) : List Int := keepL (fun i => kepC cs bf rl i) (actC cs d lv)
def KptPost (w : World) (cs : List Cd) (d lv bf rl : Int) (e : Ending) (w' : World) : Prop := ∃ (A : Option Addr) (c : Nat) (A2 : Option Addr) (c2 : Nat),
  e = .returned (.tuple #[.slice A (keptL cs d lv bf rl).length c, .slice A2 (violL cs d lv bf rl).length c2, .int .i64 0]) ∧ Sl w' w'.heap.size 1 A (keptL cs d lv bf rl).length c (ints (keptL cs d lv bf rl)) ∧ Sl w' w'.heap.size 1 A2 (violL cs d lv bf rl).length c2 (ints (violL cs d lv bf rl)) ∧ Below w.heap.size w w'
/-- Two own rows do not share their block. -/
def Apart (v q : Value) : Prop := ∀ g, v.ownBlock = some g → q.ownBlock ≠ some g
theorem Apart.left {v v' q : Value} {N : Nat} (h : Apart v q) (hq : ∀ k, q.ownBlock = some k → k < N) (h' : v'.ownBlock = v.ownBlock ∨ ∃ g, v'.ownBlock = some g ∧ N ≤ g) : Apart v' q := by
  intro g hg e
  rcases h' with h' | ⟨g', h1, h2⟩
  · exact h g (h' ▸ hg) e
  · have := hq g e; rw [h1] at hg; injection hg; omega
theorem Apart.symm {v q : Value} (h : Apart v q) : Apart q v := fun g h1 h2 => h g h2 h1
theorem Apart.or {v q : Value} (h : Apart v q) : v.ownBlock = none ∨ v.ownBlock ≠ q.ownBlock := by
  cases hv : v.ownBlock with
  | none => exact .inl rfl
  | some g => exact .inr fun e => h g hv e.symm
theorem actC_in {cs : List Cd} {d lv : Int} {k : Nat} (h : k < (actC cs d lv).length) : 0 ≤ (actC cs d lv).getD k 0 ∧ (actC cs d lv).getD k 0 < cs.length := by
  have : (actC cs d lv).getD k 0 ∈ actC cs d lv := by
    rw [List.getD_eq_getElem?_getD, List.getElem?_eq_getElem h]; exact List.getElem_mem _
  unfold actC keepL at this
  exact ordC_mem _ (List.mem_filter.1 this).1
end Go.Proofs.YtodamjjlnagpjaaGreatDoor
namespace Go.Proofs.YtodamjjlnagpjaaGreatDoor
open Go.RowKit

def BndPost (w : World) (c : Cd) (x : Int) (e : Ending) (w' : World) : Prop := e = .returned (bndVal c x) ∧ Below w.heap.size w w'
end Go.Proofs.YtodamjjlnagpjaaGreatDoor
