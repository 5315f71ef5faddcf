/-
  Contracts of the reference's Clamp, and of its check of a choice's arguments where they are right. Conditions: each condition is valid, there are 200 at most, and so are the day, the level, the releases and the bounds.
  The plain law of a choice: what is left, who gave its ends, who yields; if each two conditions have a value in common, none yields. No condition.
  The contract of the reference's Choose where its arguments are right: the choice is the plain one. Conditions: each condition is valid, there are 200 at most, and so are the day, the level, the releases and the bounds.
  Contracts of Clamp, and of the check of a choice's arguments where they are right. Conditions: each condition is valid, there are 200 at most, and so are the day, the level, the releases and the bounds.
-/
import Derived.Test.YtodamjjlnagpjaaGreatDoorProg
import Derived.Test.YtodamjjlnagpjaaGreatDoorRac
import Derived.WalkLawsBesides
import Derived.Handy
import Derived.Test.YtodamjjlnagpjaaGreatDoorRbnd
import Derived.Test.YtodamjjlnagpjaaGreatDoorRmet
import Derived.Test.YtodamjjlnagpjaaGreatDoorPushN
namespace Go.Proofs.YtodamjjlnagpjaaGreatDoor
open Go.RowKit

def rclB (x lo hi : Int) : Int := if hi < lo then lo else max lo (min x hi)
theorem rcl_a {x lo hi y : Int} (h : (hi < lo ∧ y = lo) ∨ (lo ≤ hi ∧ y = max lo (min x hi))) : rclB x lo hi = y := by
  unfold rclB; split <;> omega
end Go.Proofs.YtodamjjlnagpjaaGreatDoor
namespace Go.Proofs.YtodamjjlnagpjaaGreatDoor

/-- What a choice knows behind some conditions: the bounds left, who gave its ends, who yields, the bounds of the first that yields. -/
structure Chs where
  lo : Int
  hi : Int
  lb : Int
  mb : Int
  ys : List (Int × Int)
  f0 : Int
  f1 : Int
def chStep (bf : Int) (cs : List Cd) (s : Chs) (i : Int) : Chs :=
  if max s.lo (bLeast (cs.getD i.toNat cdz) bf) ≤ min s.hi (bMost (cs.getD i.toNat cdz) bf) then
    { s with lo := max s.lo (bLeast (cs.getD i.toNat cdz) bf), hi := min s.hi (bMost (cs.getD i.toNat cdz) bf), lb := if s.lo < bLeast (cs.getD i.toNat cdz) bf then i else s.lb, mb := if bMost (cs.getD i.toNat cdz) bf < s.hi then i else s.mb }
  else { s with ys := s.ys ++ [(i, if bMost (cs.getD i.toNat cdz) bf < s.lo then s.lb else s.mb)], f0 := if s.ys = [] then bLeast (cs.getD i.toNat cdz) bf else s.f0, f1 := if s.ys = [] then bMost (cs.getD i.toNat cdz) bf else s.f1 }
def chAll (bf : Int) (cs : List Cd) (g0 g1 : Int) (os : List Int) : Chs := os.foldl (chStep bf cs) ⟨g0, g1, -1, -1, [], 0, 0⟩
def chRel (wn : Int) (s : Chs) : Int := if s.ys = [] then max s.lo (min wn s.hi) else if s.f1 < s.lo then s.lo else s.hi
theorem chAll_snoc {bf : Int} {cs : List Cd} {g0 g1 : Int} {os : List Int} {k : Nat} (h : k < os.length) : chAll bf cs g0 g1 (os.take (k + 1)) = chStep bf cs (chAll bf cs g0 g1 (os.take k)) (os.getD k 0) := by
  unfold chAll
  rw [List.take_succ_eq_append_getElem h, List.foldl_append]
  simp [List.getD_eq_getElem?_getD, h]
theorem chStep_le {bf : Int} {cs : List Cd} {s : Chs} {i : Int} (h : s.lo ≤ s.hi) : (chStep bf cs s i).lo ≤ (chStep bf cs s i).hi := by
  unfold chStep; split
  · assumption
  · exact h
theorem chAll_le {bf : Int} {cs : List Cd} {g0 g1 : Int} (hg : g0 ≤ g1) (os : List Int) : (chAll bf cs g0 g1 os).lo ≤ (chAll bf cs g0 g1 os).hi := by
  unfold chAll
  suffices ∀ (os : List Int) (s : Chs), s.lo ≤ s.hi → (os.foldl (chStep bf cs) s).lo ≤ (os.foldl (chStep bf cs) s).hi from this os _ hg
  intro os
  induction os with
  | nil => exact fun s h => h
  | cons x t ih => exact fun s h => ih _ (chStep_le h)
theorem bnd_le {c : Cd} {bf : Int} (he : c.err = 0) (hb : 0 ≤ bf ∧ bf ≤ 1073741824) : 0 ≤ bLeast c bf ∧ bLeast c bf ≤ bMost c bf ∧ bMost c bf ≤ 1073741824 := by
  have hv := (rest_iff.1 (err_zero he).2.2).1
  have hk := (err_zero he).2.1
  unfold bLeast bMost
  rcases kind_4 hk with h | h | h | h <;> simp [h] <;> omega
/-- The ends of what is left are ends of the given bounds, or of some condition. -/
theorem ch_free {bf : Int} {cs : List Cd} {g0 g1 : Int} (hg : g0 ≤ g1) : ∀ (os : List Int), (∀ i ∈ os, bLeast (cs.getD i.toNat cdz) bf ≤ g1 ∧ g0 ≤ bMost (cs.getD i.toNat cdz) bf) → (∀ i ∈ os, ∀ k ∈ os, bLeast (cs.getD i.toNat cdz) bf ≤ bMost (cs.getD k.toNat cdz) bf) →
    ∀ s : Chs, s.ys = [] → s.lo ≤ s.hi → (∀ i ∈ os, s.lo ≤ bMost (cs.getD i.toNat cdz) bf ∧ bLeast (cs.getD i.toNat cdz) bf ≤ s.hi) → (os.foldl (chStep bf cs) s).ys = []
  | [], _, _, _, hy, _, _ => hy
  | x :: t, h1, h2, s, hy, hl, hx => by
    rw [List.foldl_cons]
    have hm : max s.lo (bLeast (cs.getD x.toNat cdz) bf) ≤ min s.hi (bMost (cs.getD x.toNat cdz) bf) := by
      have a1 := hx x (by simp)
      have a2 := h2 x (by simp) x (by simp)
      omega
    have e : chStep bf cs s x = { s with lo := max s.lo (bLeast (cs.getD x.toNat cdz) bf), hi := min s.hi (bMost (cs.getD x.toNat cdz) bf), lb := if s.lo < bLeast (cs.getD x.toNat cdz) bf then x else s.lb, mb := if bMost (cs.getD x.toNat cdz) bf < s.hi then x else s.mb } := by
      unfold chStep; rw [if_pos hm]
    refine ch_free hg t (fun i hi => h1 i (by simp [hi])) (fun i hi k hk => h2 i (by simp [hi]) k (by simp [hk])) _ (by rw [e]; exact hy) (chStep_le hl) (fun i hi => ?_)
    rw [e]
    have a1 := hx i (by simp [hi])
    have a2 := h2 x (by simp) i (by simp [hi])
    have a3 := h2 i (by simp [hi]) x (by simp)
    simp only
    omega
end Go.Proofs.YtodamjjlnagpjaaGreatDoor
namespace Go.Proofs.YtodamjjlnagpjaaGreatDoor
open Go.RowKit

def yCells (ys : List (Int × Int)) : List Value := ys.flatMap fun y => [.int .i64 y.1, .int .i64 y.2]
theorem yCells_append (a b : List (Int × Int)) : yCells (a ++ b) = yCells a ++ yCells b := by simp [yCells]
theorem slYield : SlT Tryz.prog 46 130 2 := slT_of (z := .agg #[.int .i64 0, .int .i64 0]) (bytes := 16) Tryz.underlying46 (by kernel_rfl) rfl (by decide) (by decide)
theorem Blk.facts4c {w : World} {g : Nat} {t : TypeId} {a b c d : Value} (h : Blk w g t #[a, b, c, d]) : w.cell? ⟨g, 0, none⟩ = some a ∧ w.cell? ⟨g, 1, none⟩ = some b ∧ w.cell? ⟨g, 2, none⟩ = some c ∧ w.cell? ⟨g, 3, none⟩ = some d ∧ (∀ o, w.frozen? ⟨g, o, none⟩ = false) := by
  unfold Blk at h
  exact ⟨by simp [World.cell?, h], by simp [World.cell?, h], by simp [World.cell?, h], by simp [World.cell?, h], fun o => by simp [World.frozen?, h]⟩
theorem Blk.setB {w : World} {g : Nat} {t : TypeId} {cs : Array Value} (h : Blk w g t cs) (i : Nat) (u : Value) : Blk (w.setCell ⟨g, i, none⟩ u) g t (cs.setIfInBounds i u) := by
  unfold Blk at h ⊢
  simp [World.setCell, Array.getElem?_modify, h]
theorem Blk.farB {w : World} {g : Nat} {t : TypeId} {cs : Array Value} (h : Blk w g t cs) {p : Addr} (hp : g ≠ p.block) (u : Value) : Blk (w.setCell p u) g t cs := (Below.heap_setCell w p u g hp).trans h
def ChoPost (w : World) (n : Nat) (cs : List Cd) (d lv bf g0 g1 wn : Int) (e : Ending) (w' : World) : Prop := ∃ (os : List Int) (s : Chs) (A : Option Addr) (c : Nat), OrdOf cs n os ∧ s = chAll bf cs g0 g1 (ractL cs d lv os) ∧ e = .returned (.tuple #[.agg #[.int .i64 (chRel wn s), .int .i64 s.lo, .int .i64 s.hi, .slice A s.ys.length c], .int .i64 0]) ∧ Sl w' w'.heap.size 2 A s.ys.length c (yCells s.ys) ∧ Below w.heap.size w w'
/-- What a choice's loop leaves as it was: all below w2, and what lies from w3 to w4. -/
def Stays (w2 w3 w4 wr : World) : Prop := Below w2.heap.size w2 wr ∧ w4.heap.size ≤ wr.heap.size ∧ ∀ b, w3.heap.size ≤ b → b < w4.heap.size → wr.heap[b]? = w4.heap[b]?
section
variable {w2 w3 w4 wr wr' : World}
theorem Stays.below (h : Stays w2 w3 w4 wr) (hb : Below wr.heap.size wr wr') : Stays w2 w3 w4 wr' :=
  ⟨h.1.trans (hb.mono h.1.size), Nat.le_trans h.2.1 hb.size, fun b h1 h2 => (hb.block b (Nat.lt_of_lt_of_le h2 h.2.1)).trans (h.2.2 b h1 h2)⟩
theorem Stays.alloc (h : Stays w2 w3 w4 wr) (o : Obj) : Stays w2 w3 w4 (wr.alloc o) := h.below bel1
theorem Stays.set_ (h : Stays w2 w3 w4 wr) {p : Addr} (h1 : w2.heap.size ≤ p.block) (h2 : p.block < w3.heap.size ∨ w4.heap.size ≤ p.block) (u : Value) : Stays w2 w3 w4 (wr.setCell p u) :=
  ⟨h.1.setCell h1 u, by simpa [World.setCell] using h.2.1, fun b g1 g2 => (Below.heap_setCell wr p u b (by omega)).trans (h.2.2 b g1 g2)⟩
theorem Stays.grown (h : Stays w2 w3 w4 wr) {row : Option Nat} (hg : wr.grownBy wr' row) (hr : ∀ k, row = some k → w4.heap.size ≤ k) (h24 : w2.heap.size ≤ w4.heap.size) : Stays w2 w3 w4 wr' :=
  ⟨h.1.grown hg h.1.size (fun k hk => Nat.le_trans h24 (hr k hk)), Nat.le_trans h.2.1 hg.size, fun b g1 g2 => (hg.block b (Nat.lt_of_lt_of_le g2 h.2.1) (fun e => by have := hr b e.symm; omega)).trans (h.2.2 b g1 g2)⟩
theorem Stays.cell (h : Stays w2 w3 w4 wr) {b o : Nat} (h1 : w3.heap.size ≤ b) (h2 : b < w4.heap.size) : wr.cell? ⟨b, o, none⟩ = w4.cell? ⟨b, o, none⟩ := World.cell?_of_block (h.2.2 b h1 h2)
end
theorem sl_own {w : World} {base n c size : Nat} {e : TypeId} {A : Option Addr} {xs : List Value} (h : w.ownsRow base e size (.slice A n c) n xs) : Sl w w.heap.size size A n c xs := by
  obtain ⟨A', c', he, hs⟩ := own_sl h
  injection he with e1 _ e3
  rw [e1, e3]; exact hs
theorem own_setc {w : World} {base n : Nat} {e : TypeId} {size : Nat} {v : Value} {xs : List Value} (h : w.ownsRow base e size v n xs) {p : Addr} (hp : p.block < base) (u : Value) : (w.setCell p u).ownsRow base e size v n xs :=
  h.kept (row := some p.block) ⟨rfl, rfl, rfl, by simp [World.setCell], fun i _ hne => Below.heap_setCell w p u i (fun e => hne (by rw [e]))⟩ (by
    cases hv : v.ownBlock with
    | none => exact .inl rfl
    | some g => exact .inr (fun e => by injection e with e; have := (h.lt g hv).1; omega))
theorem own_new {w : World} {base n : Nat} {e : TypeId} {size : Nat} {v : Value} {xs : List Value} {o : Obj} (h : (w.alloc o).ownsRow base e size v n xs) {i : Nat} {g : Nat} (hg : v.ownBlock ≠ some g) (u : Value) : ((w.alloc o).setCell ⟨g, i, none⟩ u).ownsRow base e size v n xs :=
  h.kept (row := some g) ⟨rfl, rfl, rfl, by simp [World.setCell], fun j _ hne => Below.heap_setCell _ _ u j (fun e => hne (by rw [e]))⟩ (.inr hg)
theorem Blk.grownF {w w' : World} {g : Nat} {t : TypeId} {cs : Array Value} {row : Option Nat} (h : Blk w g t cs) (hg : w.grownBy w' row) (hr : ∀ k, row = some k → g ≠ k) : Blk w' g t cs := (hg.block g h.lt (fun e => hr g e.symm rfl)).trans h
theorem ract_mem {cs : List Cd} {d lv : Int} {os : List Int} {n k : Nat} (ho : OrdOf cs n os) (h : k < (ractL cs d lv os).length) : 0 ≤ (ractL cs d lv os).getD k 0 ∧ (ractL cs d lv os).getD k 0 < n := by
  have hm := gd_mem h
  unfold ractL at hm
  exact ho.in_ (List.mem_filter.1 hm).1
end Go.Proofs.YtodamjjlnagpjaaGreatDoor
namespace Go.Proofs.YtodamjjlnagpjaaGreatDoor
open Go.RowKit

theorem pcl_a {x lo hi y : Int} (h : y = max (min x hi) lo) : y = max (min x hi) lo := h
set_option maxHeartbeats 800000 in
set_option maxRecDepth 20000 in
theorem pclamp_any (x b0 b1 : Int) (w : World) : Calls Tryz.prog 53 #[.int .i64 x, .agg #[.int .i64 b0, .int .i64 b1]] w fun e w' => e = .returned (.int .i64 (max (min x b1) b0)) ∧ Below w.heap.size w w' := by
  go_enter Tryz.func53, Tryz.ntmps53
  go_wp2
  all_goals
    go_ret
    exact ⟨ret_int (by omega), bel1⟩
set_option maxHeartbeats 1600000 in
set_option maxRecDepth 20000 in
theorem rsasked_ok (A : Option Addr) (n c : Nat) (cs : List Cd) (d lv bf g0 g1 wn : Int) (w : World) (hn : n ≤ 200) (hg : ∀ x ∈ cs, x.err = 0) (hd : wit d 364 = true) (hv : wit lv 16777216 = true) (hbf : wit bf 1073741824 = true) (hwn : wit wn 1073741824 = true) (h0 : wit g0 1073741824 = true) (h1 : wit g1 1073741824 = true) (hgg : g0 ≤ g1) (hs : Sl w w.heap.size 7 A n c (cdCells cs)) :
    Calls Tryz.prog 25 #[.slice A n c, .int .i64 d, .int .i64 lv, .int .i64 bf, .agg #[.int .i64 g0, .int .i64 g1], .int .i64 wn] w fun e w' => e = .returned (.int .i64 0) ∧ Below w.heap.size w w' := by
  have HG := hide hg
  have HD := hide hd
  have HV := hide hv
  have HZ := hide (show ∀ z ∈ [bf, wn, g0, g1], 0 ≤ z ∧ z ≤ 1073741824 by
    have e1 := wit_iff.1 hbf
    have e2 := wit_iff.1 hwn
    have e3 := wit_iff.1 h0
    have e4 := wit_iff.1 h1
    intro z hz; simp at hz; rcases hz with rfl | rfl | rfl | rfl <;> assumption)
  have q0 := (Blk.new w 45 #[.int .i64 g0, .int .i64 g1]).alloc (.cells #[.int .i64 bf, .int .i64 wn, .int .i64 g0, .int .i64 g1] 3)
  have q1 := Blk.new (w.alloc (.cells #[.int .i64 g0, .int .i64 g1] 45)) 3 #[.int .i64 bf, .int .i64 wn, .int .i64 g0, .int .i64 g1]
  have hB := (bel1 (w := w) (o := .cells #[.int .i64 g0, .int .i64 g1] 45)).alloc (by simp) (.cells #[.int .i64 bf, .int .i64 wn, .int .i64 g0, .int .i64 g1] 3)
  have hs1 := hs.thr hB
  rw [World.size_alloc] at q1
  have HF := hide (Sl.of_blkN (n := 4) (size := 1) (xs := ints [bf, wn, g0, g1]) q1 rfl rfl (by unfold maxLen; omega))
  clear hg hd hv hbf hwn h0 h1 hs q1
  obtain ⟨y0, y1, _⟩ := (Blk.new w 45 #[.int .i64 g0, .int .i64 g1]).facts2
  go_enter Tryz.func25, Tryz.ntmps25
  go_wp2_with fail
  generalize ((w.alloc _).alloc _) = w2 at *
  refine (asked_ok A n c cs d lv (some ⟨w.heap.size + 1, 0, none⟩) 4 4 [bf, wn, g0, g1] w2 hn HG.out HD.out HV.out HZ.out hs1 HF.out).mono ?_
  rintro e w3 ⟨rfl, hb3⟩
  have hB3 := hide (bthr hB hb3 hB.size)
  replace q0 := q0.below hb3 q0.lt
  clear y0 y1 hb3 hB hs1 HF
  obtain ⟨y0, y1, _⟩ := q0.facts2
  go_wp2
  go_ret
  exact ⟨rfl, hB3.out⟩
end Go.Proofs.YtodamjjlnagpjaaGreatDoor
