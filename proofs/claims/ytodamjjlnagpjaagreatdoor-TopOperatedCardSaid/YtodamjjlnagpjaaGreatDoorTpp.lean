/-
  rules' reader: the next word, and the next number, where there is one. Condition: the reader's block, the words' cells.
  rules.condition at four words: a rank, a kind and a value. Condition: the table of words holds what the program lays; the words lie in memory.
  rules.Parse at the sanity check's text: two conditions. Condition: bytealg.MaxLen and the table of words lie in memory.
-/
import Derived.Test.YtodamjjlnagpjaaGreatDoorProg
import Derived.Test.YtodamjjlnagpjaaGreatDoorTpt
import Derived.Lib.SmallJoins
import Derived.Test.YtodamjjlnagpjaaGreatDoorOne
import Derived.Carry
import Derived.WalkMore
import Derived.Deep.RegionLaw
import Derived.Deep.DeepCutAuto
namespace Go.Proofs.YtodamjjlnagpjaaGreatDoor
open Go.RowKit

/-- what is left behind a word: at the end of the room the address stays -/
def nextV (b o n c : Nat) : Value := .slice (some ⟨b, if c = 0 then o else o + 1, none⟩) n c
set_option maxHeartbeats 1600000 in
set_option maxRecDepth 20000 in
theorem rnext_ok (g b o n c : Nat) (s : ByteArray) (bd : Bool) (w : World) (hn : n < 1000) (hc : c < 1000000) (hnc : n ≤ c) (q : Blk w g 168 #[.slice (some ⟨b, o, none⟩) (n + 1) (c + 1), .bool bd]) (hs : w.cell? ⟨b, o, none⟩ = some (.string s)) :
    Calls Tryz.prog 91 #[.pointer (some ⟨g, 0, none⟩)] w fun e w' => e = .returned (.string s) ∧ w' = w.setCell ⟨g, 0, none⟩ (nextV b o n c) := by
  obtain ⟨c0, c1, cf⟩ := q.facts2
  have hi1 : ((n + 1 : Nat) : Int) = (n : Int) + 1 := by omega
  have hi2 : ((c + 1 : Nat) : Int) = (c : Int) + 1 := by omega
  have hi3 : ¬ ((n : Int) + 1 = 0) := by omega
  have hi4 : (0 : Int) < (n : Int) + 1 := by omega
  unfold nextV
  cases c with
  | zero =>
    obtain rfl : n = 0 := by omega
    go_enter Tryz.func91, Tryz.ntmps91
    go_wp2
    all_goals go_ret
    all_goals exact ⟨rfl, rfl⟩
  | succ c =>
    rw [if_neg (by omega : ¬ c + 1 = 0)]
    go_enter Tryz.func91, Tryz.ntmps91
    go_wp2
    all_goals go_ret
    all_goals exact ⟨rfl, rfl⟩
theorem ne_nil {s : ByteArray} (h : 0 < s.size) : ¬ s.toList = [] := by
  intro e
  rw [Lib.size_eq, ← Lib.toList_data, e] at h
  cases h
set_option maxHeartbeats 1600000 in
set_option maxRecDepth 20000 in
theorem rnum_ok (g b o n c : Nat) (s : ByteArray) (v : Int) (bd : Bool) (w : World) (hn : n < 1000) (hc : c < 1000000) (hnc : n ≤ c) (q : Blk w g 168 #[.slice (some ⟨b, o, none⟩) (n + 1) (c + 1), .bool bd]) (hs : w.cell? ⟨b, o, none⟩ = some (.string s)) (h0 : 0 < s.size) (h10 : s.size ≤ 10) (hd : Digs s) (hv : Lib.atoi s.data.toList = some v) :
    Calls Tryz.prog 92 #[.pointer (some ⟨g, 0, none⟩)] w fun e w' => e = .returned (.int .i64 v) ∧ Blk w' g 168 #[nextV b o n c, .bool bd] ∧ w.grownBy w' (some g) := by
  have HN := hide (rnext_ok g b o n c s bd w hn hc hnc q hs)
  have q2 := q.set_ 0 (nextV b o n c)
  simp only [List.setIfInBounds_toArray, List.set_cons_zero] at q2
  have hg2 : w.grownBy (w.setCell ⟨g, 0, none⟩ (nextV b o n c)) (some g) := ⟨rfl, rfl, rfl, by simp [World.setCell], fun i _ hne => Below.heap_setCell w _ _ i (fun e => hne (by rw [e]))⟩
  have HT := hide (fun W => trim_digits s W h0 (by omega) hd)
  have HA := hide (fun W => Tryz.strconv_Atoi s v (by omega) hv W)
  have HQ := hide q2
  have HG := hide hg2
  have hi1 : ¬ ((s.size : Int) = 0) := by omega
  have hi2 : ¬ ((10 : Int) < (s.size : Int)) := by omega
  have hi3 : s.size ≤ 1000 := by omega
  have hi4 : ¬ s = ByteArray.empty := by
    rintro rfl
    simp at h0
  have hi5 : ¬ s.size = 0 := by omega
  have hi6 : ((s.size : Int) == 0) = false := by simp [hi5]
  have hi7 : decide ((10 : Int) < (s.size : Int)) = false := by simp; omega
  clear q hs hd hv q2 hg2 hn hc hnc
  go_enter Tryz.func92, Tryz.ntmps92
  go_wp2_with fail
  refine HN.out.mono ?_
  rintro e w1 ⟨rfl, rfl⟩
  go_wp2_with fail
  refine (HT.out _).mono ?_
  rintro e w1 ⟨rfl, hb1⟩
  go_wp2_with fail
  refine (HA.out _).mono ?_
  rintro e w2 ⟨rfl, t, rfl⟩
  have hB : Below (w.setCell ⟨g, 0, none⟩ (nextV b o n c)).heap.size (w.setCell ⟨g, 0, none⟩ (nextV b o n c)) (Lib.bytesWorld w1 5 t) := hb1.trans (Go.Joins.below_bytesWorld _ _ _ _ hb1.size)
  have HP := hide (show Blk (Lib.bytesWorld w1 5 t) g 168 #[nextV b o n c, .bool bd] ∧ w.grownBy (Lib.bytesWorld w1 5 t) (some g) from ⟨HQ.out.below hB HQ.out.lt, grown_trans HG.out (grown_below hB _)⟩)
  clear hb1 hB
  go_wp2
  go_ret
  exact ⟨rfl, HP.out⟩
end Go.Proofs.YtodamjjlnagpjaaGreatDoor
namespace Go.Proofs.YtodamjjlnagpjaaGreatDoor
open Go.RowKit

def wLeast : ByteArray := ⟨#[108, 101, 97, 115, 116]⟩
def wMost : ByteArray := ⟨#[109, 111, 115, 116]⟩
def wordCells : List Value := [.string ⟨#[]⟩, .string ⟨#[108, 101, 97, 115, 116]⟩, .string ⟨#[109, 111, 115, 116]⟩, .string ⟨#[117, 112]⟩, .string ⟨#[100, 111, 119, 110]⟩]
/-- The table of words lies as the program lays it. -/
def WT (w : World) : Prop := ∀ j v, wordCells[j]? = some v → w.cell? ⟨0, j, none⟩ = some v
theorem WT.pos {w : World} (h : WT w) : 0 < w.heap.size := World.block_lt_of_cell? w _ (h 0 _ rfl)
theorem WT.below {w w' : World} {B : Nat} (h : WT w) (hb : Below B w w') (hB : 0 < B) : WT w' := fun j v hj => (hb.cell (p := ⟨0, j, none⟩) hB).trans (h j v hj)
/-- The condition under way. -/
structure PC (w : World) (b : Nat) (s1 kw s2 : ByteArray) (z : Nat) (l : Value) (x0 x1 x2 : Int) (W : World) : Prop where
  rs : Blk W z 72 #[.int .i64 0, .int .i64 0, .int .i64 0, .int .i64 0, .int .i64 0, .int .i64 0, .int .i64 0]
  rd : Blk W (z + 1) 168 #[l, .bool false]
  cd : Blk W (z + 1 + 1) 72 #[.int .i64 x0, .int .i64 x1, .int .i64 x2, .int .i64 0, .int .i64 364, .int .i64 0, .int .i64 16777216]
  hz : w.heap.size = z
  gr : Below z w W
  wt : WT W
  c0 : W.cell? ⟨b, 0, none⟩ = some (.string ⟨#[114, 97, 110, 107]⟩)
  c1 : W.cell? ⟨b, 1, none⟩ = some (.string s1)
  c2 : W.cell? ⟨b, 2, none⟩ = some (.string kw)
  c3 : W.cell? ⟨b, 3, none⟩ = some (.string s2)
  hb : b < z
section
variable {w W W' : World} {b z : Nat} {s1 kw s2 : ByteArray} {l l' : Value} {x0 x1 x2 y : Int}
theorem PC.cellb (h : PC w b s1 kw s2 z l x0 x1 x2 W) {B : Nat} (hB : Below B W W') (hz : z ≤ B) (j : Nat) : W'.cell? ⟨b, j, none⟩ = W.cell? ⟨b, j, none⟩ := hB.cell (p := ⟨b, j, none⟩) (Nat.lt_of_lt_of_le h.hb hz)
/-- what a store into one of its own blocks leaves -/
theorem PC.step (h : PC w b s1 kw s2 z l x0 x1 x2 W) (hB : Below z W W') {l' : Value} {y0 y1 y2 : Int}
    (h1 : Blk W' z 72 #[.int .i64 0, .int .i64 0, .int .i64 0, .int .i64 0, .int .i64 0, .int .i64 0, .int .i64 0]) (h2 : Blk W' (z + 1) 168 #[l', .bool false])
    (h3 : Blk W' (z + 1 + 1) 72 #[.int .i64 y0, .int .i64 y1, .int .i64 y2, .int .i64 0, .int .i64 364, .int .i64 0, .int .i64 16777216]) : PC w b s1 kw s2 z l' y0 y1 y2 W' :=
  ⟨h1, h2, h3, h.hz, h.gr.trans hB, h.wt.below hB (by have h4 := h.hz; have h5 := h.hb; have := h.wt.pos; have := h.gr; exact Nat.lt_of_le_of_lt (Nat.zero_le _) (Nat.lt_of_le_of_lt (Nat.zero_le _) h5)), (h.cellb hB (Nat.le_refl _) 0).trans h.c0, (h.cellb hB (Nat.le_refl _) 1).trans h.c1, (h.cellb hB (Nat.le_refl _) 2).trans h.c2, (h.cellb hB (Nat.le_refl _) 3).trans h.c3, h.hb⟩
theorem PC.rdS (h : PC w b s1 kw s2 z l x0 x1 x2 W) (u : Value) : PC w b s1 kw s2 z u x0 x1 x2 (W.setCell ⟨z + 1, 0, none⟩ u) := by
  have q := h.rd.set_ 0 u
  simp only [List.setIfInBounds_toArray, List.set_cons_zero] at q
  exact h.step ((Below.refl _ _).setCell (by simp) u) (h.rs.far (by simp) u) q (h.cd.far (by simp) u)
theorem PC.rdB (h : PC w b s1 kw s2 z l x0 x1 x2 W) : PC w b s1 kw s2 z l x0 x1 x2 (W.setCell ⟨z + 1, 1, none⟩ (.bool false)) := by
  have q := h.rd.set_ 1 (.bool false)
  simp only [List.setIfInBounds_toArray, List.set_cons_zero, List.set_cons_succ] at q
  exact h.step ((Below.refl _ _).setCell (by simp) _) (h.rs.far (by simp) _) q (h.cd.far (by simp) _)
theorem PC.st0 (h : PC w b s1 kw s2 z l x0 x1 x2 W) (y : Int) : PC w b s1 kw s2 z l y x1 x2 (W.setCell ⟨z + 1 + 1, 0, none⟩ (.int .i64 y)) := by
  have q := h.cd.set_ 0 (.int .i64 y)
  simp only [List.setIfInBounds_toArray, List.set_cons_zero] at q
  exact h.step ((Below.refl _ _).setCell (by simp <;> omega) _) (h.rs.far (by simp <;> omega) _) (h.rd.far (by simp <;> omega) _) q
theorem PC.st1 (h : PC w b s1 kw s2 z l x0 x1 x2 W) (y : Int) : PC w b s1 kw s2 z l x0 y x2 (W.setCell ⟨z + 1 + 1, 1, none⟩ (.int .i64 y)) := by
  have q := h.cd.set_ 1 (.int .i64 y)
  simp only [List.setIfInBounds_toArray, List.set_cons_zero, List.set_cons_succ] at q
  exact h.step ((Below.refl _ _).setCell (by simp <;> omega) _) (h.rs.far (by simp <;> omega) _) (h.rd.far (by simp <;> omega) _) q
theorem PC.st2 (h : PC w b s1 kw s2 z l x0 x1 x2 W) (y : Int) : PC w b s1 kw s2 z l x0 x1 y (W.setCell ⟨z + 1 + 1, 2, none⟩ (.int .i64 y)) := by
  have q := h.cd.set_ 2 (.int .i64 y)
  simp only [List.setIfInBounds_toArray, List.set_cons_zero, List.set_cons_succ] at q
  exact h.step ((Below.refl _ _).setCell (by simp <;> omega) _) (h.rs.far (by simp <;> omega) _) (h.rd.far (by simp <;> omega) _) q
theorem PC.num (h : PC w b s1 kw s2 z l x0 x1 x2 W) (hq : Blk W' (z + 1) 168 #[l', .bool false]) (hg : W.grownBy W' (some (z + 1))) : PC w b s1 kw s2 z l' x0 x1 x2 W' := by
  have hl := h.cd.lt
  exact h.step ((Below.refl _ _).grown hg (by omega) (fun k hk => by injection hk with hk; omega)) (h.rs.only hg (by omega)) hq (h.cd.only hg (by omega))
end
theorem pc_new (w : World) (b : Nat) (s1 kw s2 : ByteArray) (l : Value) (hW : WT w) (hb : b < w.heap.size)
    (c0 : w.cell? ⟨b, 0, none⟩ = some (.string ⟨#[114, 97, 110, 107]⟩)) (c1 : w.cell? ⟨b, 1, none⟩ = some (.string s1)) (c2 : w.cell? ⟨b, 2, none⟩ = some (.string kw)) (c3 : w.cell? ⟨b, 3, none⟩ = some (.string s2)) :
    PC w b s1 kw s2 w.heap.size l 0 0 0 ((((w.alloc (.cells #[.int .i64 0, .int .i64 0, .int .i64 0, .int .i64 0, .int .i64 0, .int .i64 0, .int .i64 0] 72)).alloc (.cells #[l, .bool false] 168)).alloc (.cells #[.int .i64 0, .int .i64 0, .int .i64 0, .int .i64 0, .int .i64 364, .int .i64 0, .int .i64 16777216] 72)).alloc (.map #[] 0)) := by
  have q1 := Blk.new (w.alloc (.cells #[.int .i64 0, .int .i64 0, .int .i64 0, .int .i64 0, .int .i64 0, .int .i64 0, .int .i64 0] 72)) 168 #[l, .bool false]
  have q2 := Blk.new ((w.alloc (.cells #[.int .i64 0, .int .i64 0, .int .i64 0, .int .i64 0, .int .i64 0, .int .i64 0, .int .i64 0] 72)).alloc (.cells #[l, .bool false] 168)) 72 #[.int .i64 0, .int .i64 0, .int .i64 0, .int .i64 0, .int .i64 364, .int .i64 0, .int .i64 16777216]
  rw [World.size_alloc] at q1 q2
  rw [World.size_alloc] at q2
  have hB : Below w.heap.size w ((((w.alloc (.cells #[.int .i64 0, .int .i64 0, .int .i64 0, .int .i64 0, .int .i64 0, .int .i64 0, .int .i64 0] 72)).alloc (.cells #[l, .bool false] 168)).alloc (.cells #[.int .i64 0, .int .i64 0, .int .i64 0, .int .i64 0, .int .i64 364, .int .i64 0, .int .i64 16777216] 72)).alloc (.map #[] 0)) :=
    ((bel1.alloc (by simp) _).alloc (by simp only [World.size_alloc]; omega) _).alloc (by simp only [World.size_alloc]; omega) _
  exact ⟨(((Blk.new _ _ _).alloc _).alloc _).alloc _, (q1.alloc _).alloc _, q2.alloc _, rfl, hB, hW.below hB hW.pos, (hB.cell (p := ⟨b, 0, none⟩) hb).trans c0, (hB.cell (p := ⟨b, 1, none⟩) hb).trans c1, (hB.cell (p := ⟨b, 2, none⟩) hb).trans c2, (hB.cell (p := ⟨b, 3, none⟩) hb).trans c3, hb⟩
set_option maxHeartbeats 6400000 in
set_option maxRecDepth 20000 in
theorem condition_ok (b : Nat) (s1 kw s2 : ByteArray) (n1 kd n2 : Int) (hk : (kd = 1 ∧ kw = wLeast) ∨ (kd = 2 ∧ kw = wMost)) (w : World) (hW : WT w) (hb : b < w.heap.size)
    (c0 : w.cell? ⟨b, 0, none⟩ = some (.string ⟨#[114, 97, 110, 107]⟩)) (c1 : w.cell? ⟨b, 1, none⟩ = some (.string s1)) (c2 : w.cell? ⟨b, 2, none⟩ = some (.string kw)) (c3 : w.cell? ⟨b, 3, none⟩ = some (.string s2))
    (h1 : 0 < s1.size ∧ s1.size ≤ 10 ∧ Digs s1 ∧ Lib.atoi s1.data.toList = some n1) (h2 : 0 < s2.size ∧ s2.size ≤ 10 ∧ Digs s2 ∧ Lib.atoi s2.data.toList = some n2) :
    Calls Tryz.prog 64 #[.slice (some ⟨b, 0, none⟩) 4 4] w fun e w' => e = .returned (.tuple #[.agg #[.int .i64 n1, .int .i64 kd, .int .i64 n2, .int .i64 0, .int .i64 364, .int .i64 0, .int .i64 16777216], .bool true]) ∧ Below w.heap.size w w' := by
  have hmm := @run_makeMap Tryz.prog
  have hP0 := pc_new w b s1 kw s2 (.slice (some ⟨b, 0, none⟩) 4 4) hW hb c0 c1 c2 c3
  have HK := hide hk
  have H1 := hide h1
  have H2 := hide h2
  have HCZ := hide hW.pos
  clear hk h1 h2 hW c0 c1 c2 c3
  go_enter Tryz.func64, Tryz.ntmps64
  go_wp2_with fail
  go_step3
  go_wp2_with fail
  generalize ((((w.alloc _).alloc _).alloc _).alloc _) = W0 at *
  generalize hz : w.heap.size = z at *
  clear hmm
  refine (rnext_ok (z + 1) b 0 3 3 _ false W0 (by omega) (by omega) (by omega) hP0.rd hP0.c0).mono ?_
  rintro e w1 ⟨rfl, rfl⟩
  have hP1 := hP0.rdS (nextV b 0 3 3)
  clear hP0
  generalize W0.setCell ⟨z + 1, 0, none⟩ _ = W1 at *
  obtain ⟨r0, r1, rf⟩ := hP1.rd.facts2
  go_wp2_with fail
  have hP2 := hP1.rdB
  clear hP1 r0 r1 rf
  generalize W1.setCell ⟨z + 1, 1, none⟩ _ = W2 at *
  refine (rnum_ok (z + 1) b 1 2 2 s1 n1 false W2 (by omega) (by omega) (by omega) hP2.rd hP2.c1 H1.out.1 H1.out.2.1 H1.out.2.2.1 H1.out.2.2.2).mono ?_
  rintro e w3 ⟨rfl, hq3, hg3⟩
  have hP3 := hP2.num hq3 hg3
  clear hP2 hq3 hg3
  obtain ⟨⟨k0, k1, k2, k3, k4, k5, k6⟩, kf⟩ := hP3.cd.facts7
  go_wp2_with fail
  have hP4 := hP3.st0 n1
  clear hP3 k0 k1 k2 k3 k4 k5 k6 kf
  generalize w3.setCell ⟨z + 1 + 1, 0, none⟩ _ = W4 at *
  refine (rnext_ok (z + 1) b 2 1 1 kw false W4 (by omega) (by omega) (by omega) hP4.rd hP4.c2).mono ?_
  rintro e w5 ⟨rfl, rfl⟩
  have hP5 := hP4.rdS (nextV b 2 1 1)
  clear hP4
  generalize W4.setCell ⟨z + 1, 0, none⟩ _ = W5 at *
  have e0 := hP5.wt 0 _ rfl
  have e1 := hP5.wt 1 _ rfl
  have e2 := hP5.wt 2 _ rfl
  have e3 := hP5.wt 3 _ rfl
  have e4 := hP5.wt 4 _ rfl
  go_wp2_with fail
  have i0 : ∀ w, (Instr.index 171 (.agg #[.string ⟨#[]⟩, .string ⟨#[108, 101, 97, 115, 116]⟩, .string ⟨#[109, 111, 115, 116]⟩, .string ⟨#[117, 112]⟩, .string ⟨#[100, 111, 119, 110]⟩]) (.int .i64 0)).run Tryz.prog w = .ok (.string ⟨#[]⟩) w := fun _ => by kernel_rfl
  have i1 : ∀ w, (Instr.index 171 (.agg #[.string ⟨#[]⟩, .string ⟨#[108, 101, 97, 115, 116]⟩, .string ⟨#[109, 111, 115, 116]⟩, .string ⟨#[117, 112]⟩, .string ⟨#[100, 111, 119, 110]⟩]) (.int .i64 1)).run Tryz.prog w = .ok (.string ⟨#[108, 101, 97, 115, 116]⟩) w := fun _ => by kernel_rfl
  have i2 : ∀ w, (Instr.index 171 (.agg #[.string ⟨#[]⟩, .string ⟨#[108, 101, 97, 115, 116]⟩, .string ⟨#[109, 111, 115, 116]⟩, .string ⟨#[117, 112]⟩, .string ⟨#[100, 111, 119, 110]⟩]) (.int .i64 2)).run Tryz.prog w = .ok (.string ⟨#[109, 111, 115, 116]⟩) w := fun _ => by kernel_rfl
  have i3 : ∀ w, (Instr.index 171 (.agg #[.string ⟨#[]⟩, .string ⟨#[108, 101, 97, 115, 116]⟩, .string ⟨#[109, 111, 115, 116]⟩, .string ⟨#[117, 112]⟩, .string ⟨#[100, 111, 119, 110]⟩]) (.int .i64 3)).run Tryz.prog w = .ok (.string ⟨#[117, 112]⟩) w := fun _ => by kernel_rfl
  have i4 : ∀ w, (Instr.index 171 (.agg #[.string ⟨#[]⟩, .string ⟨#[108, 101, 97, 115, 116]⟩, .string ⟨#[109, 111, 115, 116]⟩, .string ⟨#[117, 112]⟩, .string ⟨#[100, 111, 119, 110]⟩]) (.int .i64 4)).run Tryz.prog w = .ok (.string ⟨#[100, 111, 119, 110]⟩) w := fun _ => by kernel_rfl
  go_loopw [28] (fun vk wr => ∃ (k : Nat) (x : Int), k ≤ 5 ∧ vk = .int .i64 k ∧ x = (if kd < (k : Int) then kd else 0) ∧ PC w b s1 kw s2 z (nextV b 2 1 1) n1 x 0 wr) (fun vk _ => 5 - (intOf vk).toNat)
  case atStart =>
    refine ⟨0, 0, by omega, rfl, ?_, hP5⟩
    rcases HK.out with ⟨rfl, _⟩ | ⟨rfl, _⟩ <;> decide
  case round =>
    clear hP5 e0 e1 e2 e3 e4
    have cz0 : ((0 : Nat) : Int) = 0 := rfl
    have cz1 : ((1 : Nat) : Int) = 1 := rfl
    have cz2 : ((2 : Nat) : Int) = 2 := rfl
    have cz3 : ((3 : Nat) : Int) = 3 := rfl
    have cz4 : ((4 : Nat) : Int) = 4 := rfl
    obtain ⟨k, x, hk, rfl, hx, hP⟩ := hrel
    obtain ⟨⟨k0, k1, k2, k3, k4, k5, k6⟩, kf⟩ := hP.cd.facts7
    by_cases hlt : k < 5
    · have hcs : k = 0 ∨ k = 1 ∨ k = 2 ∨ k = 3 ∨ k = 4 := by omega
      clear hlt hk
      rcases HK.out with ⟨rfl, rfl⟩ | ⟨rfl, rfl⟩
      · rcases hcs with rfl | rfl | rfl | rfl | rfl
        · obtain rfl : x = 0 := hx
          unfold wLeast
          go_wp2
          go_roundw
          case rel => exact ⟨1, 0, by omega, rfl, rfl, hP⟩
          case measure => decide
        · obtain rfl : x = 0 := hx
          unfold wLeast
          go_wp2
          go_roundw
          case rel => exact ⟨2, 1, by omega, rfl, rfl, hP.st1 1⟩
          case measure => decide
        · obtain rfl : x = 1 := hx
          unfold wLeast
          go_wp2
          go_roundw
          case rel => exact ⟨3, 1, by omega, rfl, rfl, hP⟩
          case measure => decide
        · obtain rfl : x = 1 := hx
          unfold wLeast
          go_wp2
          go_roundw
          case rel => exact ⟨4, 1, by omega, rfl, rfl, hP⟩
          case measure => decide
        · obtain rfl : x = 1 := hx
          unfold wLeast
          go_wp2
          go_roundw
          case rel => exact ⟨5, 1, by omega, rfl, rfl, hP⟩
          case measure => decide
      · rcases hcs with rfl | rfl | rfl | rfl | rfl
        · obtain rfl : x = 0 := hx
          unfold wMost
          go_wp2
          go_roundw
          case rel => exact ⟨1, 0, by omega, rfl, rfl, hP⟩
          case measure => decide
        · obtain rfl : x = 0 := hx
          unfold wMost
          go_wp2
          go_roundw
          case rel => exact ⟨2, 0, by omega, rfl, rfl, hP⟩
          case measure => decide
        · obtain rfl : x = 0 := hx
          unfold wMost
          go_wp2
          go_roundw
          case rel => exact ⟨3, 2, by omega, rfl, rfl, hP.st1 2⟩
          case measure => decide
        · obtain rfl : x = 2 := hx
          unfold wMost
          go_wp2
          go_roundw
          case rel => exact ⟨4, 2, by omega, rfl, rfl, hP⟩
          case measure => decide
        · obtain rfl : x = 2 := hx
          unfold wMost
          go_wp2
          go_roundw
          case rel => exact ⟨5, 2, by omega, rfl, rfl, hP⟩
          case measure => decide
    · obtain rfl : k = 5 := by omega
      have hxk : x = kd := by
        rw [hx, if_pos]
        rcases HK.out with ⟨h, _⟩ | ⟨h, _⟩ <;> omega
      subst hxk
      have hx0 : ¬ x = 0 := by rcases HK.out with ⟨h, _⟩ | ⟨h, _⟩ <;> omega
      have hx1 : (x == 0) = false := by simp [hx0]
      clear hx hk hlt
      obtain ⟨r0, r1, rf⟩ := hP.rd.facts2
      go_wp2_with fail
      have hP6 := hP.rdB
      clear hP r0 r1 rf k0 k1 k2 k3 k4 k5 k6 kf i0 i1 i2 i3 i4
      generalize wr.setCell ⟨z + 1, 1, none⟩ _ = W6 at *
      refine (rnum_ok (z + 1) b 3 0 0 s2 n2 false W6 (by omega) (by omega) (by omega) hP6.rd hP6.c3 H2.out.1 H2.out.2.1 H2.out.2.2.1 H2.out.2.2.2).mono ?_
      rintro e w7 ⟨rfl, hq7, hg7⟩
      have hP7 := hP6.num hq7 hg7
      clear hP6 hq7 hg7
      obtain ⟨⟨k0, k1, k2, k3, k4, k5, k6⟩, kf⟩ := hP7.cd.facts7
      obtain ⟨r0, r1, rf⟩ := hP7.rd.facts2
      unfold nextV at r0
      simp only [if_true] at r0
      have hP8 := hP7.st2 n2
      clear hP7
      go_wp2_with fail
      go_step3
      go_wp2_with fail
      generalize w7.setCell ⟨z + 1 + 1, 2, none⟩ _ = W8 at *
      clear k0 k1 k2 k3 k4 k5 k6 kf r0 r1 rf
      obtain ⟨⟨k0, k1, k2, k3, k4, k5, k6⟩, kf⟩ := hP8.cd.facts7
      obtain ⟨⟨j0, j1, j2, j3, j4, j5, j6⟩, jf⟩ := hP8.rs.facts7
      obtain ⟨r0, r1, rf⟩ := hP8.rd.facts2
      have HE := hide (show Blk (((((((W8.setCell ⟨z, 0, none⟩ (.int .i64 n1)).setCell ⟨z, 1, none⟩ (.int .i64 x)).setCell ⟨z, 2, none⟩ (.int .i64 n2)).setCell ⟨z, 3, none⟩ (.int .i64 0)).setCell ⟨z, 4, none⟩ (.int .i64 364)).setCell ⟨z, 5, none⟩ (.int .i64 0)).setCell ⟨z, 6, none⟩ (.int .i64 16777216)).drew z 72 #[.int .i64 n1, .int .i64 x, .int .i64 n2, .int .i64 0, .int .i64 364, .int .i64 0, .int .i64 16777216] ∧ Below z w (((((((W8.setCell ⟨z, 0, none⟩ (.int .i64 n1)).setCell ⟨z, 1, none⟩ (.int .i64 x)).setCell ⟨z, 2, none⟩ (.int .i64 n2)).setCell ⟨z, 3, none⟩ (.int .i64 0)).setCell ⟨z, 4, none⟩ (.int .i64 364)).setCell ⟨z, 5, none⟩ (.int .i64 0)).setCell ⟨z, 6, none⟩ (.int .i64 16777216)).drew from by
        have q := (((((((hP8.rs.set_ 0 (.int .i64 n1)).set_ 1 (.int .i64 x)).set_ 2 (.int .i64 n2)).set_ 3 (.int .i64 0)).set_ 4 (.int .i64 364)).set_ 5 (.int .i64 0)).set_ 6 (.int .i64 16777216)).drew
        simp only [List.setIfInBounds_toArray, List.set_cons_zero, List.set_cons_succ] at q
        exact ⟨q, Below.drew (((((((hP8.gr.setCell (Nat.le_refl _) _).setCell (Nat.le_refl _) _).setCell (Nat.le_refl _) _).setCell (Nat.le_refl _) _).setCell (Nat.le_refl _) _).setCell (Nat.le_refl _) _).setCell (Nat.le_refl _) _)⟩)
      clear hP8 H1 H2 HK
      go_cut [3] (fun v3 wx => v3 = .bool true ∧ Blk wx z 72 #[.int .i64 n1, .int .i64 x, .int .i64 n2, .int .i64 0, .int .i64 364, .int .i64 0, .int .i64 16777216] ∧ Below z w wx)
      case first =>
        go_region_law (fail)
        all_goals
          go_wp2_with fail
          go_meet
          with_reducible exact ⟨rfl, HE.out.1, HE.out.2⟩
      case rest =>
        obtain ⟨rfl, hq9, hb9⟩ := hcut
        clear k0 k1 k2 k3 k4 k5 k6 kf r0 r1 rf j0 j1 j2 j3 j4 j5 j6 jf HE
        obtain ⟨⟨k0, k1, k2, k3, k4, k5, k6⟩, kf⟩ := hq9.facts7
        have HB := hide hb9
        clear hq9 hb9
        go_wp2
        rw [Exit.noGoto_ret]
        refine bodyPost_ret (v := .tuple #[.agg #[.int .i64 n1, .int .i64 x, .int .i64 n2, .int .i64 0, .int .i64 364, .int .i64 0, .int .i64 16777216], .bool true]) (by simp [results, Tryz.results64, go_sem, k0, k1, k2, k3, k4, k5, k6]) rfl ⟨rfl, by rw [hz]; exact HB.out⟩
end Go.Proofs.YtodamjjlnagpjaaGreatDoor
namespace Go.Proofs.YtodamjjlnagpjaaGreatDoor
open Go.RowKit Go.Lib

def twoCds : List Cd := [⟨1, 2, 30, 0, 364, 0, 16777216⟩, ⟨2, 1, 50, 0, 364, 0, 16777216⟩]
theorem dg1 : 0 < (⟨#[49]⟩ : ByteArray).size ∧ (⟨#[49]⟩ : ByteArray).size ≤ 10 ∧ Digs ⟨#[49]⟩ ∧ Lib.atoi (⟨#[49]⟩ : ByteArray).data.toList = some 1 :=
  ⟨by decide, by decide, fun j b hb => by have h := List.mem_of_getElem? hb; simp at h; subst h; decide, by decide +kernel⟩
theorem dg2 : 0 < (⟨#[50]⟩ : ByteArray).size ∧ (⟨#[50]⟩ : ByteArray).size ≤ 10 ∧ Digs ⟨#[50]⟩ ∧ Lib.atoi (⟨#[50]⟩ : ByteArray).data.toList = some 2 :=
  ⟨by decide, by decide, fun j b hb => by have h := List.mem_of_getElem? hb; simp at h; subst h; decide, by decide +kernel⟩
theorem dg30 : 0 < (⟨#[51, 48]⟩ : ByteArray).size ∧ (⟨#[51, 48]⟩ : ByteArray).size ≤ 10 ∧ Digs ⟨#[51, 48]⟩ ∧ Lib.atoi (⟨#[51, 48]⟩ : ByteArray).data.toList = some 30 :=
  ⟨by decide, by decide, fun j b hb => by have h := List.mem_of_getElem? hb; simp at h; rcases h with rfl | rfl <;> decide, by decide +kernel⟩
theorem dg50 : 0 < (⟨#[53, 48]⟩ : ByteArray).size ∧ (⟨#[53, 48]⟩ : ByteArray).size ≤ 10 ∧ Digs ⟨#[53, 48]⟩ ∧ Lib.atoi (⟨#[53, 48]⟩ : ByteArray).data.toList = some 50 :=
  ⟨by decide, by decide, fun j b hb => by have h := List.mem_of_getElem? hb; simp at h; rcases h with rfl | rfl <;> decide, by decide +kernel⟩
def ParseMade (w : World) (e : Ending) (w' : World) : Prop := ∃ v, e = .returned (.tuple #[v, .int .i64 0, .int .i64 0]) ∧ w'.ownsRow w.heap.size 72 7 v 2 (cdCells twoCds) ∧ Below w.heap.size w w'
set_option maxHeartbeats 3200000 in
set_option maxRecDepth 20000 in
theorem parse_ok (m : Int) (w : World) (hW : WT w) (hm : w.cell? ⟨2, 0, none⟩ = some (.int .i64 m)) : Calls Tryz.prog 36 #[.string ⟨#[114, 97, 110, 107, 32, 49, 32, 109, 111, 115, 116, 32, 51, 48, 10, 114, 97, 110, 107, 32, 50, 32, 108, 101, 97, 115, 116, 32, 53, 48, 10]⟩] w (ParseMade w) := by
  have HL := hide (lines_ok m w hm)
  have HW := hide hW
  have hsz : (⟨#[114, 97, 110, 107, 32, 49, 32, 109, 111, 115, 116, 32, 51, 48, 10, 114, 97, 110, 107, 32, 50, 32, 108, 101, 97, 115, 116, 32, 53, 48, 10]⟩ : ByteArray).size = 31 := by decide
  have HO0 := hide (fun W => show Calls Tryz.prog 65 #[.agg #[.int .i64 1, .int .i64 2, .int .i64 30, .int .i64 0, .int .i64 364, .int .i64 0, .int .i64 16777216]] W (fun e w' => e = .returned (.int .i64 0) ∧ Below W.heap.size W w') from one_any ⟨1, 2, 30, 0, 364, 0, 16777216⟩ W)
  have HO1 := hide (fun W => show Calls Tryz.prog 65 #[.agg #[.int .i64 2, .int .i64 1, .int .i64 50, .int .i64 0, .int .i64 364, .int .i64 0, .int .i64 16777216]] W (fun e w' => e = .returned (.int .i64 0) ∧ Below W.heap.size W w') from one_any ⟨2, 1, 50, 0, 364, 0, 16777216⟩ W)
  clear hm hW
  go_enter Tryz.func36, Tryz.ntmps36
  go_wp2_with fail
  refine HL.out.mono ?_
  rintro e w1 ⟨v, A, B, rfl, hv, hA, hB, hge, hb1⟩
  obtain ⟨V, cv, rfl, hsv⟩ := own_sl hv
  obtain ⟨b, o, rfl, hbv, hcv⟩ := hsv.at_ (show 0 < 2 by omega)
  have d0 := hcv 0 _ rfl
  have d1 := hcv 1 _ rfl
  have d2 := hcv 2 _ rfl
  have d3 := hcv 3 _ rfl
  have hW1 := HW.out.below hb1 HW.out.pos
  have HW1 := hide hW1
  have HLA := hide hA
  have HLB := hide hB
  have HB1 := hide hb1
  have hz1 := hb1.size
  clear hv hA hB hge hsv hcv hW1 hb1
  go_wp2_with fail
  go_loopw [6, 22] (fun v6 v22 wr => ∃ (k : Nat) (vo : Value), vo = v6 ∧ k ≤ 2 ∧ v22 = .int .i64 k ∧ wr.ownsRow w1.heap.size 72 7 vo k (cdCells (twoCds.take k)) ∧ Below w1.heap.size w1 wr) (fun _ i _ => 2 - (intOf i).toNat)
  case atStart => exact ⟨0, _, rfl, by omega, rfl, World.ownsRow_nil _ _ _ _, Below.refl _ _⟩
  case round =>
    obtain ⟨k, vo, rfl, hk, rfl, hvo, hb⟩ := hrel
    have cz0 : ((0 : Nat) : Int) = 0 := rfl
    have cz1 : ((1 : Nat) : Int) = 1 := rfl
    have hzr := hb.size
    by_cases hlt : k < 2
    · have hcs : k = 0 ∨ k = 1 := by omega
      clear hlt hk
      rcases hcs with rfl | rfl
      · have e0 := (hb.cell (p := ⟨b, o + 0, none⟩) hbv).trans d0
        have e1 := (hb.cell (p := ⟨b, o + 1, none⟩) hbv).trans d1
        have HVO := hide hvo
        have HB := hide hb
        clear d0 d1 d2 d3 hvo
        try simp only [Nat.add_zero] at e0
        go_wp2_with fail
        have hB8 := hb.alloc hzr (.cells #[.int .i64 1, .slice (some ⟨A, 0, none⟩) 4 4] 140)
        have q8 := Blk.new wr 140 #[.int .i64 1, .slice (some ⟨A, 0, none⟩) 4 4]
        have hA8 := HLA.out.1
        have hz8 : w1.heap.size ≤ (wr.alloc (.cells #[.int .i64 1, .slice (some ⟨A, 0, none⟩) 4 4] 140)).heap.size := by simp; omega
        refine (condition_ok A ⟨#[49]⟩ wMost ⟨#[51, 48]⟩ 1 2 30 (by decide) _ (HW1.out.below hB8 HW1.out.pos) (Nat.lt_of_lt_of_le hA8 hz8) ((hB8.cell (p := ⟨A, 0, none⟩) hA8).trans (HLA.out.2 0 _ rfl)) ((hB8.cell (p := ⟨A, 1, none⟩) hA8).trans (HLA.out.2 1 _ rfl)) ((hB8.cell (p := ⟨A, 2, none⟩) hA8).trans (HLA.out.2 2 _ rfl)) ((hB8.cell (p := ⟨A, 3, none⟩) hA8).trans (HLA.out.2 3 _ rfl)) dg1 dg30).mono ?_
        rintro e w9 ⟨rfl, hb9⟩
        have hB9 := bthr hB8 hb9 hz8
        have hvo9 := ownsRow_below (HVO.out.alloc (.cells #[.int .i64 1, .slice (some ⟨A, 0, none⟩) 4 4] 140)) hb9
        have hz9 := hB9.size
        have HB9 := hide hB9
        have HV9 := hide hvo9
        clear e0 e1 hB8 q8 hz8 hB9 hvo9 hb9 HB HVO hb hzr
        go_wp2_with fail
        have hB10 := HB9.out.alloc hz9 (.cells #[.int .i64 1, .int .i64 2, .int .i64 30, .int .i64 0, .int .i64 364, .int .i64 0, .int .i64 16777216] 72)
        have hvo10 := HV9.out.alloc (.cells #[.int .i64 1, .int .i64 2, .int .i64 30, .int .i64 0, .int .i64 364, .int .i64 0, .int .i64 16777216] 72)
        have q10 := Blk.new w9 72 #[.int .i64 1, .int .i64 2, .int .i64 30, .int .i64 0, .int .i64 364, .int .i64 0, .int .i64 16777216]
        have hz10 : w1.heap.size ≤ (w9.alloc (.cells #[.int .i64 1, .int .i64 2, .int .i64 30, .int .i64 0, .int .i64 364, .int .i64 0, .int .i64 16777216] 72)).heap.size := by simp; omega
        have hs10 : (w9.alloc (.cells #[.int .i64 1, .int .i64 2, .int .i64 30, .int .i64 0, .int .i64 364, .int .i64 0, .int .i64 16777216] 72)).heap.size = w9.heap.size + 1 := by simp
        generalize (w9.alloc _) = w10 at *
        refine (HO0.out w10).mono ?_
        rintro e w11 ⟨rfl, hb11⟩
        have HB11 := hide (bthr hB10 hb11 hz10)
        have hvo11 := ownsRow_below hvo10 hb11
        have HV11 := hide hvo11
        have hz11 := HB11.out.size
        have q11 := q10.below hb11 q10.lt
        obtain ⟨⟨k0, k1, k2, k3, k4, k5, k6⟩, kf⟩ := q11.facts7
        clear HB9 HV9 hB10 hvo10 q10 hz10 hs10 hb11 hvo11 hz9
        go_wp2_with (at_builtin; refine wpList_push rfl _ _ _ rfl w1.heap.size _ _ slCond _ _ _ rfl HV11.out _ _ rfl rfl rfl (by omega) hz11 ?_)
        intro v12 w12 hv12 hg12 hor12
        have HB12 := hide (HB11.out.trans (below_push HV11.out hg12 hz11))
        have HV12 := hide (own_cells hv12 (show cdCells (twoCds.take 0) ++ [.int .i64 1, .int .i64 2, .int .i64 30, .int .i64 0, .int .i64 364, .int .i64 0, .int .i64 16777216] = cdCells (twoCds.take 1) by rfl))
        clear hv12 hg12 hor12 k0 k1 k2 k3 k4 k5 k6 kf q11 HB11 HV11
        go_wp2
        go_roundw
        case rel => exact ⟨1, _, rfl, by omega, rfl, HV12.out, HB12.out⟩
        case measure => decide

      · have e0 := (hb.cell (p := ⟨b, o + 2, none⟩) hbv).trans d2
        have e1 := (hb.cell (p := ⟨b, o + 3, none⟩) hbv).trans d3
        have HVO := hide hvo
        have HB := hide hb
        clear d0 d1 d2 d3 hvo
        try simp only [Nat.add_zero] at e0
        go_wp2_with fail
        have hB8 := hb.alloc hzr (.cells #[.int .i64 2, .slice (some ⟨B, 0, none⟩) 4 4] 140)
        have q8 := Blk.new wr 140 #[.int .i64 2, .slice (some ⟨B, 0, none⟩) 4 4]
        have hA8 := HLB.out.1
        have hz8 : w1.heap.size ≤ (wr.alloc (.cells #[.int .i64 2, .slice (some ⟨B, 0, none⟩) 4 4] 140)).heap.size := by simp; omega
        refine (condition_ok B ⟨#[50]⟩ wLeast ⟨#[53, 48]⟩ 2 1 50 (by decide) _ (HW1.out.below hB8 HW1.out.pos) (Nat.lt_of_lt_of_le hA8 hz8) ((hB8.cell (p := ⟨B, 0, none⟩) hA8).trans (HLB.out.2 0 _ rfl)) ((hB8.cell (p := ⟨B, 1, none⟩) hA8).trans (HLB.out.2 1 _ rfl)) ((hB8.cell (p := ⟨B, 2, none⟩) hA8).trans (HLB.out.2 2 _ rfl)) ((hB8.cell (p := ⟨B, 3, none⟩) hA8).trans (HLB.out.2 3 _ rfl)) dg2 dg50).mono ?_
        rintro e w9 ⟨rfl, hb9⟩
        have hB9 := bthr hB8 hb9 hz8
        have hvo9 := ownsRow_below (HVO.out.alloc (.cells #[.int .i64 2, .slice (some ⟨B, 0, none⟩) 4 4] 140)) hb9
        have hz9 := hB9.size
        have HB9 := hide hB9
        have HV9 := hide hvo9
        clear e0 e1 hB8 q8 hz8 hB9 hvo9 hb9 HB HVO hb hzr
        go_wp2_with fail
        have hB10 := HB9.out.alloc hz9 (.cells #[.int .i64 2, .int .i64 1, .int .i64 50, .int .i64 0, .int .i64 364, .int .i64 0, .int .i64 16777216] 72)
        have hvo10 := HV9.out.alloc (.cells #[.int .i64 2, .int .i64 1, .int .i64 50, .int .i64 0, .int .i64 364, .int .i64 0, .int .i64 16777216] 72)
        have q10 := Blk.new w9 72 #[.int .i64 2, .int .i64 1, .int .i64 50, .int .i64 0, .int .i64 364, .int .i64 0, .int .i64 16777216]
        have hz10 : w1.heap.size ≤ (w9.alloc (.cells #[.int .i64 2, .int .i64 1, .int .i64 50, .int .i64 0, .int .i64 364, .int .i64 0, .int .i64 16777216] 72)).heap.size := by simp; omega
        have hs10 : (w9.alloc (.cells #[.int .i64 2, .int .i64 1, .int .i64 50, .int .i64 0, .int .i64 364, .int .i64 0, .int .i64 16777216] 72)).heap.size = w9.heap.size + 1 := by simp
        generalize (w9.alloc _) = w10 at *
        refine (HO1.out w10).mono ?_
        rintro e w11 ⟨rfl, hb11⟩
        have HB11 := hide (bthr hB10 hb11 hz10)
        have hvo11 := ownsRow_below hvo10 hb11
        have HV11 := hide hvo11
        have hz11 := HB11.out.size
        have q11 := q10.below hb11 q10.lt
        obtain ⟨⟨k0, k1, k2, k3, k4, k5, k6⟩, kf⟩ := q11.facts7
        clear HB9 HV9 hB10 hvo10 q10 hz10 hs10 hb11 hvo11 hz9
        go_wp2_with (at_builtin; refine wpList_push rfl _ _ _ rfl w1.heap.size _ _ slCond _ _ _ rfl HV11.out _ _ rfl rfl rfl (by omega) hz11 ?_)
        intro v12 w12 hv12 hg12 hor12
        have HB12 := hide (HB11.out.trans (below_push HV11.out hg12 hz11))
        have HV12 := hide (own_cells hv12 (show cdCells (twoCds.take 1) ++ [.int .i64 2, .int .i64 1, .int .i64 50, .int .i64 0, .int .i64 364, .int .i64 0, .int .i64 16777216] = cdCells (twoCds.take 2) by rfl))
        clear hv12 hg12 hor12 k0 k1 k2 k3 k4 k5 k6 kf q11 HB11 HV11
        go_wp2
        go_roundw
        case rel => exact ⟨2, _, rfl, by omega, rfl, HV12.out, HB12.out⟩
        case measure => decide
    · obtain rfl : k = 2 := by omega
      have HP := hide (show ParseMade w (.returned (.tuple #[vo, .int .i64 0, .int .i64 0])) wr from ⟨vo, rfl, ownsRow_base hvo hz1, HB1.out.trans (hb.mono hz1)⟩)
      clear hvo hb hzr d0 d1 d2 d3
      go_wp2
      refine bodyPost_ret (v := .tuple #[vo, .int .i64 0, .int .i64 0]) (by simp [results, Tryz.results36, go_sem]) rfl HP.out
end Go.Proofs.YtodamjjlnagpjaaGreatDoor
