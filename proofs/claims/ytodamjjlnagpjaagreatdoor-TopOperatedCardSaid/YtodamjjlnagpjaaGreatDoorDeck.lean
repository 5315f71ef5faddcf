/-
  Contracts of the deck of choices: New makes one, Next draws a number from 0 to n - 1 from it, whatever the list is. Condition of Next: the deck lies in memory as New makes it.
-/
import Derived.Test.YtodamjjlnagpjaaGreatDoorProg
import Derived.Test.YtodamjjlnagpjaaGreatDoorLib
import Derived.Test.YtodamjjlnagpjaaGreatDoorCal
import Derived.Deep.QuietTactic
import Derived.BigQuiet
import Derived.Handy
namespace Go.Proofs.YtodamjjlnagpjaaGreatDoor
open Go.RowKit

theorem below_drewN {B : Nat} {a w : World} (h : Below B a w) (n : Nat) : Below B a (w.drewN n) := ⟨h.os, h.tape, h.output, h.size, h.block⟩
theorem grown_trans {a b c : World} {row : Option Nat} (h : a.grownBy b row) (k : b.grownBy c row) : a.grownBy c row :=
  ⟨k.os.trans h.os, k.tape.trans h.tape, k.output.trans h.output, Nat.le_trans h.size k.size, fun i hi hn => (k.block i (Nat.lt_of_lt_of_le hi h.size) hn).trans (h.block i hi hn)⟩
theorem grown_refl (w : World) (row : Option Nat) : w.grownBy w row := ⟨rfl, rfl, rfl, Nat.le_refl _, fun _ _ _ => rfl⟩
theorem grown_drewN {a w : World} {row : Option Nat} (h : a.grownBy w row) (n : Nat) : a.grownBy (w.drewN n) row := ⟨h.os, h.tape, h.output, h.size, h.block⟩
theorem grown_alloc {a w : World} {row : Option Nat} (h : a.grownBy w row) (o : Obj) : a.grownBy (w.alloc o) row :=
  ⟨h.os, h.tape, h.output, Nat.le_trans h.size (by simp), fun i hi hne => (Below.heap_alloc w o i (Nat.lt_of_lt_of_le hi h.size)).trans (h.block i hi hne)⟩
theorem grown_set {a w : World} {g : Nat} (h : a.grownBy w (some g)) {p : Addr} (hp : p.block = g ∨ a.heap.size ≤ p.block) (u : Value) : a.grownBy (w.setCell p u) (some g) :=
  ⟨h.os, h.tape, h.output, by simpa [World.setCell] using h.size, fun i hi hne => (Below.heap_setCell w p u i (by
    rintro rfl
    rcases hp with hp | hp
    · exact hne (by rw [hp])
    · omega)).trans (h.block i hi hne)⟩
theorem grown_below {a w : World} (h : Below a.heap.size a w) (row : Option Nat) : a.grownBy w row := ⟨h.os, h.tape, h.output, h.size, fun i hi _ => h.block i hi⟩
theorem below_grown {B : Nat} {a w w' : World} {g : Nat} (h : Below B a w) (hg : w.grownBy w' (some g)) (hB : B ≤ w.heap.size) (hr : B ≤ g) : Below B a w' := h.grown hg hB (fun k hk => by injection hk; omega)

/-- A block that is known whole. -/
def Blk (w : World) (g : Nat) (t : TypeId) (cs : Array Value) : Prop := w.heap[g]? = some (.cells cs t (0, 0))
section
variable {w w' : World} {g : Nat} {t : TypeId} {cs : Array Value}
theorem Blk.lt (h : Blk w g t cs) : g < w.heap.size := by
  rcases Nat.lt_or_ge g w.heap.size with hlt | hge
  · exact hlt
  · unfold Blk at h; rw [Array.getElem?_eq_none hge] at h; cases h
theorem Blk.facts (h : Blk w g t cs) : (∀ o, w.cell? ⟨g, o, none⟩ = cs[o]?) ∧ (∀ o, w.frozen? ⟨g, o, none⟩ = false) := by
  unfold Blk at h
  exact ⟨fun o => by simp [World.cell?, h], fun o => by simp [World.frozen?, h]⟩
theorem Blk.facts2 {x y : Value} (h : Blk w g t #[x, y]) : w.cell? ⟨g, 0, none⟩ = some x ∧ w.cell? ⟨g, 1, none⟩ = some y ∧ (∀ o, w.frozen? ⟨g, o, none⟩ = false) := by
  unfold Blk at h
  exact ⟨by simp [World.cell?, h], by simp [World.cell?, h], fun o => by simp [World.frozen?, h]⟩
theorem Blk.new (w : World) (t : TypeId) (cs : Array Value) : Blk (w.alloc (.cells cs t)) w.heap.size t cs := heap_alloc_new w _
theorem Blk.alloc (h : Blk w g t cs) (o : Obj) : Blk (w.alloc o) g t cs := (Below.heap_alloc w o g h.lt).trans h
theorem Blk.below {B : Nat} (h : Blk w g t cs) (hb : Below B w w') (hg : g < B) : Blk w' g t cs := (hb.block g hg).trans h
theorem Blk.only {b : Nat} (h : Blk w g t cs) (hb : w.grownBy w' (some b)) (hg : g ≠ b) : Blk w' g t cs := (hb.block g h.lt (fun e => hg (by injection e))).trans h
end

/-- A deck at block b: its list lies below b. -/
def Dk (w : World) (b : Nat) : Prop := ∃ (A : Option Addr) (n c at_ : Nat) (zs : List Int), w.heap[b]? = some (.cells #[.slice A n c, .int .i64 (at_ : Int)] 63 (0, 0)) ∧ at_ ≤ n ∧ Sl w b 1 A n c (ints zs)
theorem Dk.lt {w : World} {b : Nat} (h : Dk w b) : b < w.heap.size := by
  obtain ⟨A, n, c, a, zs, h, _⟩ := h
  rcases Nat.lt_or_ge b w.heap.size with hlt | hge
  · exact hlt
  · rw [Array.getElem?_eq_none hge] at h; cases h
theorem Dk.keep {w w' : World} {b : Nat} (h : Dk w b) (hk : ∀ i, i < w.heap.size → w'.heap[i]? = w.heap[i]?) : Dk w' b := by
  have hlt := h.lt
  obtain ⟨A, n, c, a, zs, h, ha, hs⟩ := h
  exact ⟨A, n, c, a, zs, (hk b hlt).trans h, ha, hs.keep fun p o hp => World.cell?_of_block (hk p (by omega))⟩
theorem Dk.below {w w' : World} {b : Nat} (h : Dk w b) (hb : Below w.heap.size w w') : Dk w' b := h.keep hb.block
theorem Dk.alloc {w : World} {b : Nat} (h : Dk w b) (o : Obj) : Dk (w.alloc o) b := h.keep fun i hi => Below.heap_alloc w o i hi
theorem Dk.set {w : World} {b : Nat} (h : Dk w b) {p : Addr} (hp : b < p.block) (u : Value) : Dk (w.setCell p u) b := by
  obtain ⟨A, n, c, a, zs, h, ha, hs⟩ := h
  exact ⟨A, n, c, a, zs, (Below.heap_setCell w p u b (by omega)).trans h, ha, hs.keep fun q o hq => World.cell?_of_block (Below.heap_setCell w p u q (by omega))⟩

def Drawn (b : Nat) (n : Int) (w : World) (e : Ending) (w' : World) : Prop := ∃ v : Int, e = .returned (.int .i64 v) ∧ 0 ≤ v ∧ (v < n ∨ v = 0) ∧ Dk w' b ∧ w.grownBy w' (some b) ∧ w'.heap.size = w.heap.size
set_option maxRecDepth 20000 in
theorem next_any (b : Nat) (n : Int) (hn : n ≤ 4611686018427387904) (w : World) (hD : Dk w b) :
    Calls Tryz.prog 11 #[.pointer (some ⟨b, 0, none⟩), .int .i64 n] w (Drawn b n w) := by
  have hD0 := hide hD
  obtain ⟨A, len, c, at_, zs, hb, ha, hs⟩ := hD
  have c0 : w.cell? ⟨b, 0, none⟩ = some (.slice A len c) := by simp [World.cell?, hb]
  have c1 : w.cell? ⟨b, 1, none⟩ = some (.int .i64 (at_ : Int)) := by simp [World.cell?, hb]
  have f1 : w.frozen? ⟨b, 1, none⟩ = false := by simp [World.frozen?, hb]
  have hl : len ≤ 9223372036854775807 := by have h1 := hs.2.1; have h2 := hs.2.2.1; unfold maxLen at h2; omega
  by_cases h : n < 1
  · have H := hide hb; clear hb
    go_enter Tryz.func11, Tryz.ntmps11
    go_wp2
    go_quiet (fail)
    go_wp2
    go_ret
    exact ⟨0, rfl, by omega, .inr rfl, hD0.out, grown_drewN (grown_refl _ _) _, rfl⟩
  · have hd : decide (n < 1) = false := by simpa using h
    by_cases hlt : at_ < len
    · obtain ⟨blk, o, rfl, hlb, hc⟩ := hs.at_ hlt
      have hlz : len = zs.length := by have := hs.1; rw [ints_length] at this; omega
      have hx := hc at_ _ (ints_get zs at_ (by omega))
      generalize zs.getD at_ 0 = x at hx
      have hS := hide hs
      have H := hide hb; clear hb hc hs hlz
      go_enter Tryz.func11, Tryz.ntmps11
      go_wp2
      go_quiet (fail)
      go_wp2
      go_quiet (fail)
      go_wp2_with fail
      refine (mod_any _ _ (by omega) (by omega) _).mono ?_
      rintro e w1 ⟨rfl, rfl⟩
      go_wp2
      go_ret
      refine ⟨x % n, rfl, Int.emod_nonneg _ (by omega), .inl (Int.emod_lt_of_pos _ (by omega)), ?_, grown_set (grown_drewN (grown_refl _ _) _) (.inl rfl) _, by simp [World.setCell]⟩
      refine ⟨some ⟨blk, o, none⟩, len, c, at_ + 1, zs, ?_, by omega, ?_⟩
      · have hb := H.out
        simp [World.setCell, Array.getElem?_modify, hb]
      · exact hS.out.keep fun p q hp => World.cell?_of_block (Below.heap_setCell _ _ _ _ (by simp; omega))
    · have H := hide hb; clear hb
      go_enter Tryz.func11, Tryz.ntmps11
      go_wp2
      go_quiet (fail)
      go_wp2
      go_ret
      exact ⟨0, rfl, by omega, .inr rfl, hD0.out, grown_drewN (grown_refl _ _) _, rfl⟩

theorem new_any (A : Option Addr) (n c : Nat) (zs : List Int) (w : World) (hs : Sl w w.heap.size 1 A n c (ints zs)) :
    Calls Tryz.prog 5 #[.slice A n c] w fun e w' => e = .returned (.pointer (some ⟨w.heap.size, 0, none⟩)) ∧ Dk w' w.heap.size ∧ Below w.heap.size w w' := by
  have H := hide hs; clear hs
  go_enter Tryz.func5, Tryz.ntmps5
  go_wp2
  go_ret
  exact ⟨rfl, ⟨A, n, c, 0, zs, heap_alloc_new _ _, Nat.zero_le _, H.out.alloc (Nat.le_refl _) _⟩, bel1⟩

def SpanMade (b : Nat) (w : World) (e : Ending) (w' : World) : Prop := ∃ f t : Int, e = .returned (.agg #[.int .i64 f, .int .i64 t]) ∧ (0 ≤ f ∧ f < 365 ∧ 0 ≤ t ∧ t < 365) ∧ Dk w' b ∧ w.grownBy w' (some b)
set_option maxRecDepth 20000 in
theorem span_any (b : Nat) (w : World) (hD : Dk w b) : Calls Tryz.prog 45 #[.pointer (some ⟨b, 0, none⟩)] w (SpanMade b w) := by
  have hlt := hD.lt
  have hD1 := hD.alloc (.cells #[.int .i64 0, .int .i64 0] 70)
  have hg1 : w.grownBy (w.alloc (.cells #[.int .i64 0, .int .i64 0] 70)) (some b) := grown_alloc (grown_refl _ _) _
  go_enter Tryz.func45, Tryz.ntmps45
  go_wp2_with fail
  refine (next_any _ _ (by omega) _ hD1).mono ?_
  rintro e w1 ⟨v, rfl, h0, h1, hD2, hg2, _⟩
  have hB2 := (Blk.new w 70 #[.int .i64 0, .int .i64 0]).only hg2 (by omega)
  obtain ⟨hC0, hC1, hF⟩ := hB2.facts2
  go_wp2_with fail
  · refine bodyPost_ret (v := .agg #[.int .i64 0, .int .i64 364]) (by simp [results, Tryz.results45, go_sem, hC0, hC1]) rfl ⟨0, 364, rfl, by omega, (hD2.set (by simpa using hlt) _).set (by simpa using hlt) _, ?_⟩
    exact grown_set (grown_set (grown_trans hg1 hg2) (.inr (Nat.le_refl _)) _) (.inr (Nat.le_refl _)) _
  all_goals
    clear hC0 hC1 hF
    refine (next_any _ _ (by omega) _ hD2).mono ?_
    rintro e w2 ⟨x, rfl, hx0, hx1, hD3, hg3, _⟩
    go_wp2_with fail
    refine (next_any _ _ (by omega) _ hD3).mono ?_
    rintro e w3 ⟨y, rfl, hy0, hy1, hD4, hg4, _⟩
    obtain ⟨hC0, hC1, hF⟩ := ((hB2.only hg3 (by omega)).only hg4 (by omega)).facts2
    go_wp2
    refine bodyPost_ret (v := .agg #[.int .i64 x, .int .i64 y]) (by simp [results, Tryz.results45, go_sem, hC0, hC1]) rfl ⟨x, y, rfl, by omega, (hD4.set (by simpa using hlt) _).set (by simpa using hlt) _, ?_⟩
    exact grown_set (grown_set (grown_trans (grown_trans (grown_trans hg1 hg2) hg3) hg4) (.inr (Nat.le_refl _)) _) (.inr (Nat.le_refl _)) _
end Go.Proofs.YtodamjjlnagpjaaGreatDoor
