/-
  A condition on a release in memory, and the contract of the maker of conditions: it makes a valid one with small values. Condition: the deck lies in memory.
  Contracts of the first error of a condition (the program's and the reference's), for whatever condition. No condition.
-/
import Derived.Test.YtodamjjlnagpjaaGreatDoorProg
import Derived.Test.YtodamjjlnagpjaaGreatDoorDeck
import Derived.Deep.RegionHeld3
namespace Go.Proofs.YtodamjjlnagpjaaGreatDoor
open Go.RowKit

structure Cd where
  rank : Int
  kind : Int
  value : Int
  from_ : Int
  to_ : Int
  above : Int
  below : Int
/-- The cells of a condition. -/
def Cd.arr (c : Cd) : Array Value := #[.int .i64 c.rank, .int .i64 c.kind, .int .i64 c.value, .int .i64 c.from_, .int .i64 c.to_, .int .i64 c.above, .int .i64 c.below]
/-- A condition as the maker makes it. -/
def Cd.good (c : Cd) : Prop := (1 ≤ c.rank ∧ c.rank ≤ 4) ∧ (1 ≤ c.kind ∧ c.kind ≤ 4) ∧ (0 ≤ c.value ∧ c.value ≤ 29) ∧ (0 ≤ c.from_ ∧ c.from_ ≤ 364) ∧ (0 ≤ c.to_ ∧ c.to_ ≤ 364) ∧ 0 ≤ c.above ∧ c.above ≤ c.below ∧ c.below ≤ 16777216
section
variable {w w' : World} {g : Nat} {t : TypeId}
theorem Blk.facts7 {c0 c1 c2 c3 c4 c5 c6 : Value} (h : Blk w g t #[c0, c1, c2, c3, c4, c5, c6]) :
    (w.cell? ⟨g, 0, none⟩ = some c0 ∧ w.cell? ⟨g, 1, none⟩ = some c1 ∧ w.cell? ⟨g, 2, none⟩ = some c2 ∧ w.cell? ⟨g, 3, none⟩ = some c3 ∧ w.cell? ⟨g, 4, none⟩ = some c4 ∧ w.cell? ⟨g, 5, none⟩ = some c5 ∧ w.cell? ⟨g, 6, none⟩ = some c6) ∧ ∀ o, w.frozen? ⟨g, o, none⟩ = false := by
  have hf := h.facts
  exact ⟨⟨hf.1 0, hf.1 1, hf.1 2, hf.1 3, hf.1 4, hf.1 5, hf.1 6⟩, hf.2⟩
theorem Blk.set_ {cs : Array Value} (h : Blk w g t cs) (i : Nat) (u : Value) : Blk (w.setCell ⟨g, i, none⟩ u) g t (cs.setIfInBounds i u) := by
  unfold Blk at h ⊢
  simp [World.setCell, Array.getElem?_modify, h]
theorem Blk.far {cs : Array Value} (h : Blk w g t cs) {p : Addr} (hp : g ≠ p.block) (u : Value) : Blk (w.setCell p u) g t cs := (Below.heap_setCell w p u g hp).trans h
theorem Blk.drew {cs : Array Value} (h : Blk w g t cs) : Blk w.drew g t cs := h
theorem Dk.drew {b : Nat} (h : Dk w b) : Dk w.drew b := h
end
def CondMade (b : Nat) (w : World) (e : Ending) (w' : World) : Prop := ∃ c : Cd, e = .returned (.agg c.arr) ∧ c.good ∧ Dk w' b ∧ w.grownBy w' (some b)

/-- What a condition under way is, in the world of one region. -/
def CS (w : World) (b g : Nat) (r k v f t a : Int) (w' : World) : Prop :=
  (∃ u, Blk w' g 72 #[.int .i64 r, .int .i64 k, .int .i64 v, .int .i64 f, .int .i64 t, .int .i64 a, u]) ∧ Blk w' w.heap.size 72 #[.int .i64 0, .int .i64 0, .int .i64 0, .int .i64 0, .int .i64 0, .int .i64 0, .int .i64 0] ∧ Dk w' b ∧ w.grownBy w' (some b) ∧ b < w.heap.size ∧ w.heap.size < g
section
variable {w w' w'' : World} {b g : Nat} {r k v f t a : Int}
theorem CS.all (h : CS w b g r k v f t a w') : w'.cell? ⟨g, 5, none⟩ = some (.int .i64 a) ∧ CS w b g r k v f t a w' := by
  obtain ⟨u, hu⟩ := h.1
  have hf := hu.facts7
  exact ⟨hf.1.2.2.2.2.2.1, h⟩
theorem CS.drew (h : CS w b g r k v f t a w') : CS w b g r k v f t a w'.drew := by
  obtain ⟨h1, h2, h3, h4, h5, h6⟩ := h
  exact ⟨h1, h2, h3, ⟨h4.os, h4.tape, h4.output, h4.size, h4.block⟩, h5, h6⟩
theorem CS.call (h : CS w b g r k v f t a w') (hg : w'.grownBy w'' (some b)) (hD : Dk w'' b) : CS w b g r k v f t a w'' := by
  obtain ⟨⟨u, hu⟩, h2, _, h4, h5, h6⟩ := h
  exact ⟨⟨u, hu.only hg (by omega)⟩, h2.only hg (by omega), hD, grown_trans h4 hg, h5, h6⟩
theorem CS.store (h : CS w b g r k v f t a w') (u : Value) : CS w b g r k v f t a (w'.setCell ⟨g, 6, none⟩ u) := by
  obtain ⟨⟨_, hu⟩, h2, h3, h4, h5, h6⟩ := h
  exact ⟨⟨u, hu.set_ 6 u⟩, h2.far (by simp; omega) u, h3.set (by simp; omega) u, grown_set h4 (.inr (by simp; omega)) u, h5, h6⟩
theorem CS.fin (h : CS w b g r k v f t a w') (u : Value) : Blk (w'.setCell ⟨g, 6, none⟩ u) g 72 #[.int .i64 r, .int .i64 k, .int .i64 v, .int .i64 f, .int .i64 t, .int .i64 a, u] := by
  obtain ⟨⟨_, hu⟩, _⟩ := h
  exact hu.set_ 6 u
end

set_option maxHeartbeats 800000 in
set_option maxRecDepth 20000 in
theorem cond_any (b : Nat) (w : World) (hD : Dk w b) : Calls Tryz.prog 20 #[.pointer (some ⟨b, 0, none⟩)] w (CondMade b w) := by
  have hlt := hD.lt
  have hD1 := hD.alloc (.cells #[.int .i64 0, .int .i64 0, .int .i64 0, .int .i64 0, .int .i64 0, .int .i64 0, .int .i64 0] 72)
  have hG1 : w.grownBy (w.alloc (.cells #[.int .i64 0, .int .i64 0, .int .i64 0, .int .i64 0, .int .i64 0, .int .i64 0, .int .i64 0] 72)) (some b) := grown_alloc (grown_refl _ _) _
  have hB1 := Blk.new w 72 #[.int .i64 0, .int .i64 0, .int .i64 0, .int .i64 0, .int .i64 0, .int .i64 0, .int .i64 0]
  go_enter Tryz.func20, Tryz.ntmps20
  go_wp2_with fail
  refine (next_any _ _ (by omega) _ hD1).mono ?_
  rintro e w1 ⟨v1, rfl, r0, r1, hD2, hg, _⟩
  have hG2 := grown_trans hG1 hg
  have hB2 := hB1.only hg (by omega)
  clear hD hD1 hG1 hB1 hg
  go_wp2_with fail
  refine (next_any _ _ (by omega) _ hD2).mono ?_
  rintro e w2 ⟨v2, rfl, k0, k1, hD3, hg, _⟩
  have hG3 := grown_trans hG2 hg
  have hB3 := hB2.only hg (by omega)
  clear hD2 hG2 hB2 hg
  go_wp2_with fail
  refine (next_any _ _ (by omega) _ hD3).mono ?_
  rintro e w3 ⟨v3, rfl, x0, x1, hD4, hg, _⟩
  have hG4 := grown_trans hG3 hg
  have hB4 := hB3.only hg (by omega)
  clear hD3 hG3 hB3 hg
  go_wp2_with fail
  refine (span_any _ _ hD4).mono ?_
  rintro e w4 ⟨f, t, rfl, hft, hD5, hg⟩
  have hG5 := grown_trans hG4 hg
  have hB5 := hB4.only hg (by omega)
  clear hD4 hG4 hB4 hg
  replace r1 : v1 ≤ 3 := by omega
  replace k1 : v2 ≤ 3 := by omega
  replace x1 : v3 ≤ 29 := by omega
  have hlt4 : w.heap.size < w4.heap.size := hB5.lt
  have hlt5 : b < w4.heap.size := by omega
  have hD6 := hD5.alloc (.cells #[.int .i64 (1 + v1), .int .i64 (1 + v2), .int .i64 v3, .int .i64 f, .int .i64 t, .int .i64 0, .int .i64 16777216] 72)
  have hG6 := grown_alloc hG5 (.cells #[.int .i64 (1 + v1), .int .i64 (1 + v2), .int .i64 v3, .int .i64 f, .int .i64 t, .int .i64 0, .int .i64 16777216] 72)
  have hB6 := hB5.alloc (.cells #[.int .i64 (1 + v1), .int .i64 (1 + v2), .int .i64 v3, .int .i64 f, .int .i64 t, .int .i64 0, .int .i64 16777216] 72)
  have hC6 := Blk.new w4 72 #[.int .i64 (1 + v1), .int .i64 (1 + v2), .int .i64 v3, .int .i64 f, .int .i64 t, .int .i64 0, .int .i64 16777216]
  clear hD5 hG5 hB5
  go_wp2_with fail
  refine (next_any _ _ (by omega) _ hD6).mono ?_
  rintro e w5 ⟨z, rfl, _, _, hD7, hg, _⟩
  have hG7 := grown_trans hG6 hg
  have hB7 := hB6.only hg (by omega)
  have hC7 := hC6.only hg (by omega)
  clear hD6 hG6 hB6 hC6 hg
  have hzb : (z == 0) = true ∨ (z == 0) = false := by cases (z == 0) <;> simp
  rcases hzb with hz | hz
  · obtain ⟨⟨y0, y1, y2, y3, y4, y5, y6⟩, hF⟩ := hC7.facts7
    go_wp2_with fail
    refine (next_any _ _ (by omega) _ hD7).mono ?_
    rintro e w6 ⟨a, rfl, a0, a1, hD8, hg, _⟩
    replace a1 : a ≤ 59 := by omega
    have hG8 := grown_trans hG7 hg
    have hB8 := hB7.only hg (by omega)
    have hC8 := hC7.only hg (by omega)
    clear hD7 hG7 hB7 hC7 hg y0 y1 y2 y3 y4 y5 y6 hF
    obtain ⟨⟨y0, y1, y2, y3, y4, y5, y6⟩, hF⟩ := hC8.facts7
    go_wp2_with fail
    have hS : CS w b w4.heap.size (1 + v1) (1 + v2) v3 f t (90 + a) (w6.setCell ⟨w4.heap.size, 5, none⟩ (.int .i64 (90 + a))) :=
      ⟨⟨_, hC8.set_ 5 _⟩, hB8.far (by simp; omega) _, hD8.set (by simp; omega) _, grown_set hG8 (.inr (by simp; omega)) _, hlt, hlt4⟩
    clear hD8 hG8 hB8 hC8 y0 y1 y2 y3 y4 y5 y6 hF
    generalize w6.setCell ⟨w4.heap.size, 5, none⟩ (.int .i64 (90 + a)) = w7 at *
    go_region_held3 (fun w' => w'.cell? ⟨w4.heap.size, 5, none⟩ = some (.int .i64 (90 + a)) ∧ CS w b w4.heap.size (1 + v1) (1 + v2) v3 f t (90 + a) w')
      (first | exact CS.all (CS.drew hS) | (exact CS.all hcs) | (go_split_ands; exact CS.all (CS.store (by assumption) _)))
      ((go_at_call 11; go_split_ands; refine (next_any _ _ (by omega) _ (by have hcs : CS _ _ _ _ _ _ _ _ _ _ := (by assumption); exact hcs.2.2.1)).mono ?_; rintro e w8 ⟨q, rfl, q0, q1, hD9, hg, _⟩; have hcs : CS w b w4.heap.size (1 + v1) (1 + v2) v3 f t (90 + a) w8 := CS.call (by assumption) hg hD9; obtain ⟨u, hu⟩ := hcs.1; have hy6 := hu.facts7.1.2.2.2.2.2.2; have hyF := hu.facts7.2 6; have q2 : q ≤ 79 := (by omega); have hwr : IntKind.i64.wrap (90 + a + q) = 90 + a + q := IntWalk.i64_in _ (by omega)))
    have hfin := CS.fin hcs (.int .i64 (90 + a + q))
    have hst := CS.store hcs (.int .i64 (90 + a + q))
    clear hy6 hyF hu hwr
    generalize w8.setCell ⟨w4.heap.size, 6, none⟩ (.int .i64 (90 + a + q)) = w9 at *
    obtain ⟨⟨y0, y1, y2, y3, y4, y5, y6⟩, hF⟩ := hfin.facts7
    obtain ⟨⟨x0, x1, x2, x3, x4, x5, x6⟩, hF2⟩ := hst.2.1.facts7
    go_wp2
    obtain ⟨_, _, s3, s4, _, _⟩ := hst
    refine bodyPost_ret (v := .agg #[.int .i64 (1 + v1), .int .i64 (1 + v2), .int .i64 v3, .int .i64 f, .int .i64 t, .int .i64 (90 + a), .int .i64 (90 + a + q)]) (by simp [results, Tryz.results20, go_sem, x0, x1, x2, x3, x4, x5, x6]) rfl ⟨⟨1 + v1, 1 + v2, v3, f, t, 90 + a, 90 + a + q⟩, rfl, by simp only [Cd.good]; omega, ?_, ?_⟩
    · exact ((((((s3.set hlt _).set hlt _).set hlt _).set hlt _).set hlt _).set hlt _).set hlt _
    · exact grown_set (grown_set (grown_set (grown_set (grown_set (grown_set (grown_set s4 (.inr (Nat.le_refl _)) _) (.inr (Nat.le_refl _)) _) (.inr (Nat.le_refl _)) _) (.inr (Nat.le_refl _)) _) (.inr (Nat.le_refl _)) _) (.inr (Nat.le_refl _)) _) (.inr (Nat.le_refl _)) _
  · obtain ⟨⟨y0, y1, y2, y3, y4, y5, y6⟩, hF⟩ := hC7.facts7
    obtain ⟨⟨x0, x1, x2, x3, x4, x5, x6⟩, hF2⟩ := hB7.facts7
    go_wp2
    refine bodyPost_ret (v := .agg #[.int .i64 (1 + v1), .int .i64 (1 + v2), .int .i64 v3, .int .i64 f, .int .i64 t, .int .i64 0, .int .i64 16777216]) (by simp [results, Tryz.results20, go_sem, x0, x1, x2, x3, x4, x5, x6]) rfl ⟨⟨1 + v1, 1 + v2, v3, f, t, 0, 16777216⟩, rfl, by simp only [Cd.good]; omega, ?_, ?_⟩
    · exact ((((((hD7.set hlt _).set hlt _).set hlt _).set hlt _).set hlt _).set hlt _).set hlt _
    · exact grown_set (grown_set (grown_set (grown_set (grown_set (grown_set (grown_set hG7 (.inr (Nat.le_refl _)) _) (.inr (Nat.le_refl _)) _) (.inr (Nat.le_refl _)) _) (.inr (Nat.le_refl _)) _) (.inr (Nat.le_refl _)) _) (.inr (Nat.le_refl _)) _) (.inr (Nat.le_refl _)) _
end Go.Proofs.YtodamjjlnagpjaaGreatDoor
namespace Go.Proofs.YtodamjjlnagpjaaGreatDoor
open Go.RowKit

def Cd.rest (c : Cd) : Bool := wit c.value 1073741824 && okSpan c.from_ c.to_ && wit c.above 16777216 && wit c.below 16777216 && decide (c.above ≤ c.below)
def Cd.err (c : Cd) : Int := if c.rank < 1 ∨ 9 < c.rank then 1 else if c.kind < 1 ∨ 4 < c.kind then 5 else if c.rest then 0 else 1
theorem err_rank {c : Cd} (h : c.rank < 1 ∨ 9 < c.rank) : c.err = 1 := by simp [Cd.err, h]
theorem err_kind {c : Cd} (h : ¬ (c.rank < 1 ∨ 9 < c.rank)) (h2 : c.kind < 1 ∨ 4 < c.kind) : c.err = 5 := by simp [Cd.err, h, h2]
theorem err_rest {c : Cd} (h : ¬ (c.rank < 1 ∨ 9 < c.rank)) (h2 : ¬ (c.kind < 1 ∨ 4 < c.kind)) (h3 : c.rest = false) : c.err = 1 := by simp [Cd.err, h, h2, h3]
theorem err_none {c : Cd} (h : ¬ (c.rank < 1 ∨ 9 < c.rank)) (h2 : ¬ (c.kind < 1 ∨ 4 < c.kind)) (h3 : c.rest = true) : c.err = 0 := by simp [Cd.err, h, h2, h3]
theorem err_zero {c : Cd} (h : c.err = 0) : (1 ≤ c.rank ∧ c.rank ≤ 9) ∧ (1 ≤ c.kind ∧ c.kind ≤ 4) ∧ c.rest = true := by
  unfold Cd.err at h
  by_cases h1 : c.rank < 1 ∨ 9 < c.rank
  · simp [h1] at h
  · by_cases h2 : c.kind < 1 ∨ 4 < c.kind
    · simp [h1, h2] at h
    · cases h3 : c.rest
      · simp [h1, h2, h3] at h
      · exact ⟨by omega, by omega, rfl⟩
theorem rest_iff {c : Cd} : c.rest = true ↔ (0 ≤ c.value ∧ c.value ≤ 1073741824) ∧ okSpan c.from_ c.to_ = true ∧ (0 ≤ c.above ∧ c.above ≤ 16777216) ∧ (0 ≤ c.below ∧ c.below ≤ 16777216) ∧ c.above ≤ c.below := by
  simp only [Cd.rest, Bool.and_eq_true, wit_iff, decide_eq_true_eq, and_assoc]
theorem good_err {c : Cd} (h : c.good) : c.err = 0 := by
  obtain ⟨h1, h2, h3, h4, h5, h6⟩ := h
  exact err_none (by omega) (by omega) (rest_iff.2 ⟨by omega, by simp [okSpan, wit_of h4.1 h4.2, wit_of h5.1 h5.2], by omega, by omega, by omega⟩)
theorem level_any (n : Int) (w : World) : Calls Tryz.prog 93 #[.int .i64 n] w fun e w' => e = .returned (.bool (wit n 16777216)) ∧ w = w' := by
  go_enter Tryz.func93, Tryz.ntmps93
  go_wp2_with (go_at_call 30; refine (within_any _ _ _).mono ?_; rintro e w' ⟨rfl, rfl⟩)
  go_ret
  exact ⟨rfl, rfl⟩
set_option maxHeartbeats 1600000 in
set_option maxRecDepth 20000 in
theorem one_any (c : Cd) (w : World) : Calls Tryz.prog 65 #[.agg c.arr] w fun e w' => e = .returned (.int .i64 c.err) ∧ Below w.heap.size w w' := by
  obtain ⟨r, k, v, f, t, a, b⟩ := c
  have hmf : ∀ (fn : Fn) (first cap : Array Value) (w : World), (Instr.makeFunc fn first cap).run Tryz.prog w = .ok (.func fn first cap) w := fun _ _ _ _ => rfl
  by_cases h1 : r < 1 ∨ 9 < r
  · have H := hide (err_rank (c := ⟨r, k, v, f, t, a, b⟩) h1)
    unfold Cd.arr
    rcases h1 with h1 | h1
    · go_enter Tryz.func65, Tryz.ntmps65
      go_wp2
      go_ret
      exact ⟨ret_int (by rw [H.out]), bel1⟩
    · have h2 : ¬ r < 1 := by omega
      go_enter Tryz.func65, Tryz.ntmps65
      go_wp2
      go_ret
      exact ⟨ret_int (by rw [H.out]), bel1⟩
  · by_cases h2 : k < 1 ∨ 4 < k
    · have H := hide (err_kind (c := ⟨r, k, v, f, t, a, b⟩) h1 h2)
      have h3 : ¬ r < 1 := by omega
      have h4 : ¬ 9 < r := by omega
      unfold Cd.arr
      clear h1
      rcases h2 with h2 | h2
      · go_enter Tryz.func65, Tryz.ntmps65
        go_wp2
        go_ret
        exact ⟨ret_int (by rw [H.out]), bel1⟩
      · have h5 : ¬ k < 1 := by omega
        go_enter Tryz.func65, Tryz.ntmps65
        go_wp2
        go_ret
        exact ⟨ret_int (by rw [H.out]), bel1⟩
    · have HR := hide (fun h => err_rest (c := ⟨r, k, v, f, t, a, b⟩) h1 h2 h)
      have HN := hide (fun h => err_none (c := ⟨r, k, v, f, t, a, b⟩) h1 h2 h)
      have h3 : ¬ r < 1 := by omega
      have h4 : ¬ 9 < r := by omega
      have h5 : ¬ k < 1 := by omega
      have h6 : ¬ 4 < k := by omega
      unfold Cd.arr
      clear h1 h2
      cases q1 : wit v 1073741824
      · have H := hide (HR.out (by simp [Cd.rest, q1]))
        clear HR HN
        go_enter Tryz.func65, Tryz.ntmps65
        go_wp2_with (first | (go_at_call 30; refine (within_any _ _ _).mono ?_; rintro e w' ⟨rfl, rfl⟩) | (go_at_call 94; refine (valid_any _ _ _).mono ?_; rintro e w' ⟨rfl, hb⟩; obtain ⟨hc, hf⟩ := bcell hb) | (go_at_call 93; refine (level_any _ _).mono ?_; rintro e w' ⟨rfl, rfl⟩))
        go_ret
        exact ⟨ret_int (by rw [H.out]), bel1⟩
      · cases q2 : okSpan f t
        · have H := hide (HR.out (by simp [Cd.rest, q2]))
          clear HR HN
          go_enter Tryz.func65, Tryz.ntmps65
          go_wp2_with (first | (go_at_call 30; refine (within_any _ _ _).mono ?_; rintro e w' ⟨rfl, rfl⟩) | (go_at_call 94; refine (valid_any _ _ _).mono ?_; rintro e w' ⟨rfl, hb⟩; obtain ⟨hc, hf⟩ := bcell hb) | (go_at_call 93; refine (level_any _ _).mono ?_; rintro e w' ⟨rfl, rfl⟩))
          go_ret
          exact ⟨ret_int (by rw [H.out]), bel2 hb⟩
        · cases q3 : wit a 16777216
          · have H := hide (HR.out (by simp [Cd.rest, q3]))
            clear HR HN
            go_enter Tryz.func65, Tryz.ntmps65
            go_wp2_with (first | (go_at_call 30; refine (within_any _ _ _).mono ?_; rintro e w' ⟨rfl, rfl⟩) | (go_at_call 94; refine (valid_any _ _ _).mono ?_; rintro e w' ⟨rfl, hb⟩; obtain ⟨hc, hf⟩ := bcell hb) | (go_at_call 93; refine (level_any _ _).mono ?_; rintro e w' ⟨rfl, rfl⟩))
            go_ret
            exact ⟨ret_int (by rw [H.out]), bel2 hb⟩
          · cases q4 : wit b 16777216
            · have H := hide (HR.out (by simp [Cd.rest, q4]))
              clear HR HN
              go_enter Tryz.func65, Tryz.ntmps65
              go_wp2_with (first | (go_at_call 30; refine (within_any _ _ _).mono ?_; rintro e w' ⟨rfl, rfl⟩) | (go_at_call 94; refine (valid_any _ _ _).mono ?_; rintro e w' ⟨rfl, hb⟩; obtain ⟨hc, hf⟩ := bcell hb) | (go_at_call 93; refine (level_any _ _).mono ?_; rintro e w' ⟨rfl, rfl⟩))
              go_ret
              exact ⟨ret_int (by rw [H.out]), bel2 hb⟩
            · by_cases q5 : b < a
              · have H := hide (HR.out (by simp [Cd.rest]; omega))
                clear HR HN
                go_enter Tryz.func65, Tryz.ntmps65
                go_wp2_with (first | (go_at_call 30; refine (within_any _ _ _).mono ?_; rintro e w' ⟨rfl, rfl⟩) | (go_at_call 94; refine (valid_any _ _ _).mono ?_; rintro e w' ⟨rfl, hb⟩; obtain ⟨hc, hf⟩ := bcell hb) | (go_at_call 93; refine (level_any _ _).mono ?_; rintro e w' ⟨rfl, rfl⟩))
                go_ret
                exact ⟨ret_int (by rw [H.out]), bel2 hb⟩
              · have H := hide (HN.out (by simp [Cd.rest, q1, q2, q3, q4]; omega))
                clear HR HN
                go_enter Tryz.func65, Tryz.ntmps65
                go_wp2_with (first | (go_at_call 30; refine (within_any _ _ _).mono ?_; rintro e w' ⟨rfl, rfl⟩) | (go_at_call 94; refine (valid_any _ _ _).mono ?_; rintro e w' ⟨rfl, hb⟩; obtain ⟨hc, hf⟩ := bcell hb) | (go_at_call 93; refine (level_any _ _).mono ?_; rintro e w' ⟨rfl, rfl⟩))
                go_ret
                exact ⟨ret_int (by rw [H.out]), bel2 hb⟩
end Go.Proofs.YtodamjjlnagpjaaGreatDoor
