/-
  The contract of mk.Given: bounds from 0 to the greatest flow, the least no greater than the greatest. Condition: the deck lies in memory.
-/
import Derived.Test.YtphgddanbgdemaaDoorProg
import Derived.Test.YtphgddanbgdemaaDoorCds
namespace Go.Proofs.YtphgddanbgdemaaDoor
open Go.RowKit

def GivMade (b : Nat) (w : World) (e : Ending) (w' : World) : Prop := ∃ g0 g1 : Int, e = .returned (.agg #[.int .i64 g0, .int .i64 g1]) ∧ 0 ≤ g0 ∧ g0 ≤ g1 ∧ g1 ≤ 1073741824 ∧ Dk w' b ∧ w.grownBy w' (some b)
set_option maxHeartbeats 600000 in
set_option maxRecDepth 20000 in
theorem given_any (b : Nat) (w : World) (hD : Dk w b) : Calls Tryd.prog 18 #[.pointer (some ⟨b, 0, none⟩)] w (GivMade b w) := by
  have hbl := hD.lt
  have q0 := Blk.new w 23 #[.int .i64 0, .int .i64 0]
  have hg0 := grown_alloc (grown_refl w (some b)) (.cells #[.int .i64 0, .int .i64 0] 23)
  have hD1 := hD.alloc (.cells #[.int .i64 0, .int .i64 0] 23)
  have hz1 : (w.alloc (.cells #[.int .i64 0, .int .i64 0] 23)).heap.size = w.heap.size + 1 := by simp
  go_enter Tryd.func18, Tryd.ntmps18
  go_wp2_with fail
  generalize w.alloc _ = w1 at *
  refine (next_any b 3 (by omega) _ hD1).mono ?_
  rintro e w2 ⟨z, rfl, hz0, hz10, hD2, hg2, hz2⟩
  have q2 := q0.only hg2 (by omega)
  obtain ⟨f2, z2⟩ := q2.facts
  have c0 := f2 0
  have c1 := f2 1
  have HG2 := hide (grown_trans hg0 hg2)
  simp only [List.getElem?_toArray, List.getElem?_cons_zero, List.getElem?_cons_succ] at c0 c1
  by_cases hzz : z = 0
  · have hzb : (z == 0) = true := by simp [hzz]
    have HD3 := hide hD2
    clear hD2 hD1 hg0 hg2 hzz hz0 hz10 f2
    go_wp2
    refine bodyPost_ret (v := .agg #[.int .i64 0, .int .i64 1073741824]) (by simp [results, Tryd.results18, go_sem, c0, c1]) rfl ⟨_, _, rfl, by omega, by omega, by omega, ?_, ?_⟩
    · exact (HD3.out.set (by simpa using hbl) _).set (by simpa using hbl) _
    · exact grown_set (grown_set HG2.out (.inr (Nat.le_refl _)) _) (.inr (Nat.le_refl _)) _
  · have hzb : (z == 0) = false := by simp [hzz]
    clear hD1 hg0 hzz hz0 hz10
    go_wp2_with fail
    refine (next_any b 25 (by omega) _ hD2).mono ?_
    rintro e w3 ⟨a, rfl, ha0, ha1, hD3, hg3, hz3⟩
    have q3 := q2.only hg3 (by omega)
    have HG3 := hide (grown_trans HG2.out hg3)
    have ha : a < 25 := by omega
    clear hD2 hg3 q2 c0 c1 f2 z2 ha1 hg2
    go_wp2_with fail
    refine (next_any b 25 (by omega) _ hD3).mono ?_
    rintro e w4 ⟨d, rfl, hd0, hd1, hD4, hg4, hz4⟩
    have q4 := q3.only hg4 (by omega)
    have HG4 := hide (grown_trans HG3.out hg4)
    have hd : d < 25 := by omega
    have HD4 := hide hD4
    obtain ⟨f4, z4⟩ := q4.facts
    have c0 := f4 0
    have c1 := f4 1
    simp only [List.getElem?_toArray, List.getElem?_cons_zero, List.getElem?_cons_succ] at c0 c1
    clear hD3 hg4 q3 hd1 hD4 f4
    go_wp2
    refine bodyPost_ret (v := .agg #[.int .i64 a, .int .i64 (a + d)]) (by simp [results, Tryd.results18, go_sem, c0, c1]) rfl ⟨_, _, rfl, by omega, by omega, by omega, ?_, ?_⟩
    · exact (HD4.out.set (by simpa using hbl) _).set (by simpa using hbl) _
    · exact grown_set (grown_set HG4.out (.inr (Nat.le_refl _)) _) (.inr (Nat.le_refl _)) _
end Go.Proofs.YtphgddanbgdemaaDoor
