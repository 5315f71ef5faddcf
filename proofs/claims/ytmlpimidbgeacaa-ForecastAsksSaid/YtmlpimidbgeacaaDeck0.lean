/-
  Contracts of the deck of choices: New makes one, Next draws a number from 0 to n - 1 from it, whatever the list is. Condition of Next: the deck lies in memory as New makes it.
-/
import Derived.Test.YtmlpimidbgeacaaProg
import Derived.Test.YtmlpimidbgeacaaMem
import Derived.Deep.QuietTactic
import Derived.BigQuiet
import Derived.Handy
namespace Go.Proofs.Ytmlpimidbgeacaa
open Go.RowKit

/-- A deck at block b: its list lies below b. -/
def Dk (w : World) (b : Nat) : Prop := ∃ (A : Option Addr) (n c at_ : Nat) (zs : List Int), w.heap[b]? = some (.cells #[.slice A n c, .int .i64 (at_ : Int)] 60 (0, 0)) ∧ at_ ≤ n ∧ Sl w b 1 A n c (ints zs)
theorem Dk.lt {w : World} {b : Nat} (h : Dk w b) : b < w.heap.size := by
  obtain ⟨A, n, c, a, zs, h, _⟩ := h
  rcases Nat.lt_or_ge b w.heap.size with hlt | hge
  · exact hlt
  · rw [Array.getElem?_eq_none hge] at h; cases h
theorem Dk.keep {w w' : World} {b : Nat} (h : Dk w b) (hk : ∀ i, i < w.heap.size → w'.heap[i]? = w.heap[i]?) : Dk w' b := by
  have hlt := h.lt
  obtain ⟨A, n, c, a, zs, h, ha, hs⟩ := h
  exact ⟨A, n, c, a, zs, (hk b hlt).trans h, ha, hs.keep fun p o hp => World.cell?_of_block (hk p (by omega))⟩
theorem Dk.below {w w' : World} {b : Nat} (h : Dk w b) (hb : Below w.heap.size w w') : Dk w' b := h.keep hb.block
theorem Dk.alloc {w : World} {b : Nat} (h : Dk w b) (o : Obj) : Dk (w.alloc o) b := h.keep fun i hi => Below.heap_alloc w o i hi
theorem Dk.set {w : World} {b : Nat} (h : Dk w b) {p : Addr} (hp : b < p.block) (u : Value) : Dk (w.setCell p u) b := by
  obtain ⟨A, n, c, a, zs, h, ha, hs⟩ := h
  exact ⟨A, n, c, a, zs, (Below.heap_setCell w p u b (by omega)).trans h, ha, hs.keep fun q o hq => World.cell?_of_block (Below.heap_setCell w p u q (by omega))⟩

def Drawn (b : Nat) (n : Int) (w : World) (e : Ending) (w' : World) : Prop := ∃ v : Int, e = .returned (.int .i64 v) ∧ 0 ≤ v ∧ (v < n ∨ v = 0) ∧ Dk w' b ∧ w.grownBy w' (some b) ∧ w'.heap.size = w.heap.size
set_option maxRecDepth 20000 in
theorem next_any (b : Nat) (n : Int) (hn : n ≤ 4611686018427387904) (w : World) (hD : Dk w b) :
    Calls Try.prog 12 #[.pointer (some ⟨b, 0, none⟩), .int .i64 n] w (Drawn b n w) := by
  have hD0 := hide hD
  obtain ⟨A, len, c, at_, zs, hb, ha, hs⟩ := hD
  have c0 : w.cell? ⟨b, 0, none⟩ = some (.slice A len c) := by simp [World.cell?, hb]
  have c1 : w.cell? ⟨b, 1, none⟩ = some (.int .i64 (at_ : Int)) := by simp [World.cell?, hb]
  have f1 : w.frozen? ⟨b, 1, none⟩ = false := by simp [World.frozen?, hb]
  have hl : len ≤ 9223372036854775807 := by have h1 := hs.2.1; have h2 := hs.2.2.1; unfold maxLen at h2; omega
  by_cases h : n < 1
  · have H := hide hb; clear hb
    go_enter Try.func12, Try.ntmps12
    go_wp2
    go_quiet (fail)
    go_wp2
    go_ret
    exact ⟨0, rfl, by omega, .inr rfl, hD0.out, grown_drewN (grown_refl _ _) _, rfl⟩
  · have hd : decide (n < 1) = false := by simpa using h
    by_cases hlt : at_ < len
    · obtain ⟨blk, o, rfl, hlb, hc⟩ := hs.at_ hlt
      have hlz : len = zs.length := by have := hs.1; rw [ints_length] at this; omega
      have hx := hc at_ _ (ints_get zs at_ (by omega))
      generalize zs.getD at_ 0 = x at hx
      have hS := hide hs
      have H := hide hb; clear hb hc hs hlz
      go_enter Try.func12, Try.ntmps12
      go_wp2
      go_quiet (fail)
      go_wp2
      go_quiet (fail)
      go_wp2_with fail
      refine (mod_any _ _ (by omega) (by omega) _).mono ?_
      rintro e w1 ⟨rfl, rfl⟩
      go_wp2
      go_ret
      refine ⟨x % n, rfl, Int.emod_nonneg _ (by omega), .inl (Int.emod_lt_of_pos _ (by omega)), ?_, grown_set (grown_drewN (grown_refl _ _) _) (.inl rfl) _, by simp [World.setCell]⟩
      refine ⟨some ⟨blk, o, none⟩, len, c, at_ + 1, zs, ?_, by omega, ?_⟩
      · have hb := H.out
        simp [World.setCell, Array.getElem?_modify, hb]
      · exact hS.out.keep fun p q hp => World.cell?_of_block (Below.heap_setCell _ _ _ _ (by simp; omega))
    · have H := hide hb; clear hb
      go_enter Try.func12, Try.ntmps12
      go_wp2
      go_quiet (fail)
      go_wp2
      go_ret
      exact ⟨0, rfl, by omega, .inr rfl, hD0.out, grown_drewN (grown_refl _ _) _, rfl⟩

theorem new_any (A : Option Addr) (n c : Nat) (zs : List Int) (w : World) (hs : Sl w w.heap.size 1 A n c (ints zs)) :
    Calls Try.prog 9 #[.slice A n c] w fun e w' => e = .returned (.pointer (some ⟨w.heap.size, 0, none⟩)) ∧ Dk w' w.heap.size ∧ Below w.heap.size w w' := by
  have H := hide hs; clear hs
  go_enter Try.func9, Try.ntmps9
  go_wp2
  go_ret
  exact ⟨rfl, ⟨A, n, c, 0, zs, heap_alloc_new _ _, Nat.zero_le _, H.out.alloc (Nat.le_refl _) _⟩, bel1⟩

end Go.Proofs.Ytmlpimidbgeacaa
