/-
  Order, Active and Kept at any conditions: the program's answer is the reference's. Conditions: the list can be read, and has at most 1000 conditions.
-/
import Derived.Test.YtegjihcokndemaaDoorProg
import Derived.Test.YtegjihcokndemaaDoorLaE
import Derived.Test.YtegjihcokndemaaDoorSame
namespace Go.Proofs.YtegjihcokndemaaDoor
open Go.RowKit

theorem ract_eqL {cs : List Cd} {d lv : Int} {n : Nat} {os : List Int} (ho : OrdOf cs n os) (hn : n = cs.length) : ractL cs d lv os = actC cs d lv := by
  have e : os = ordC cs := ordC_one hn ho.2 (ho.1.imp fun {x y} h => h)
  rw [e]
  unfold actC ractL keepL
  refine List.filter_congr fun x hx => ?_
  obtain ⟨h0, h1⟩ := ordC_mem x hx
  have hl : x.toNat < cs.length := by omega
  unfold appC apyB
  simp [List.getD_eq_getElem?_getD, hl]
/-- a list of numbers -/
def LisP (xs : List Int) (w : World) (e : Ending) (w' : World) : Prop := ∃ (A : Option Addr) (c : Nat), e = .returned (.slice A xs.length c) ∧ Sl w' w'.heap.size 1 A xs.length c (ints xs) ∧ Below w.heap.size w w'
theorem order_both (A : Option Addr) (n c : Nat) (cs : List Cd) (hn : n ≤ 1000) (hl : n = cs.length) : ∃ xs : List Int,
    (∀ W : World, Sl W W.heap.size 7 A n c (cdCells cs) → Calls Tryd.prog 14 #[.slice A n c] W (LisP xs W)) ∧
    (∀ W : World, Sl W W.heap.size 7 A n c (cdCells cs) → Calls Tryd.prog 15 #[.slice A n c] W (LisP xs W)) := by
  refine ⟨ordC cs, fun W hs => (order_any A n c cs W hn hs).mono fun e w' ⟨v, he, hr, hb⟩ => ?_, fun W hs => (rorder_any A n c cs W hn hs).mono fun e w' ⟨v, os, he, ho, hv, hb⟩ => ?_⟩
  · obtain ⟨A2, c2, rfl, hsl⟩ := hr.sl
    have e1 : n = (ordC cs).length := by rw [ordC_length]; exact hl
    rw [e1] at he hsl
    exact ⟨A2, c2, he, hsl, hb⟩
  · obtain rfl : os = ordC cs := ordC_one hl ho.2 (ho.1.imp fun {x y} h => h)
    obtain ⟨A2, c2, rfl, hsl⟩ := own_sl hv
    have e1 : n = (ordC cs).length := by rw [ordC_length]; exact hl
    rw [e1] at he hsl
    exact ⟨A2, c2, he, hsl, hb⟩
/-- a list of numbers, and an error -/
def LisE (xs : List Int) (E : Int) (w : World) (e : Ending) (w' : World) : Prop := ∃ (A : Option Addr) (c : Nat), e = .returned (.tuple #[.slice A xs.length c, .int .i64 E]) ∧ Sl w' w'.heap.size 1 A xs.length c (ints xs) ∧ Below w.heap.size w w'
theorem active_both (A : Option Addr) (n c : Nat) (cs : List Cd) (d lv : Int) (hl : n = cs.length) : ∃ (xs : List Int) (E : Int),
    (∀ W : World, Sl W W.heap.size 7 A n c (cdCells cs) → Calls Tryd.prog 17 #[.slice A n c, .int .i64 d, .int .i64 lv] W (LisE xs E W)) ∧
    (∀ W : World, Sl W W.heap.size 7 A n c (cdCells cs) → Calls Tryd.prog 18 #[.slice A n c, .int .i64 d, .int .i64 lv] W (LisE xs E W)) := by
  by_cases h : askE n cs d lv [] = 0
  · obtain ⟨ha, hd, hv, _⟩ := askE_zero h
    obtain ⟨hn, hg⟩ := errA_zero ha
    refine ⟨actC cs d lv, 0, fun W hs => (active_ok A n c cs d lv W hn hg hd hv hs).mono fun e w' ⟨A2, c2, he, hsl, hb⟩ => ⟨A2, c2, he, hsl, hb⟩, fun W hs => (ractive_ok A n c cs d lv W hn hg hd hv hs).mono fun e w' ⟨v, os, he, ho, hv2, hb⟩ => ?_⟩
    rw [ract_eqL ho hl] at hv2
    obtain ⟨A2, c2, rfl, hsl⟩ := own_sl hv2
    exact ⟨A2, c2, he, hsl, hb⟩
  · exact ⟨[], _, fun W hs => (active_bad A n c cs d lv W hs h).mono fun e w' ⟨he, hb⟩ => ⟨none, 0, he, Sl.none_ _ _ _, hb⟩, fun W hs => (ractive_bad A n c cs d lv W hs h).mono fun e w' ⟨he, hb⟩ => ⟨none, 0, he, Sl.none_ _ _ _, hb⟩⟩
/-- two lists of numbers, and an error -/
def LisT (xs ys : List Int) (E : Int) (w : World) (e : Ending) (w' : World) : Prop := ∃ (A : Option Addr) (c : Nat) (A2 : Option Addr) (c2 : Nat), e = .returned (.tuple #[.slice A xs.length c, .slice A2 ys.length c2, .int .i64 E]) ∧ Sl w' w'.heap.size 1 A xs.length c (ints xs) ∧ Sl w' w'.heap.size 1 A2 ys.length c2 (ints ys) ∧ Below w.heap.size w w'
theorem kept_both (A : Option Addr) (n c : Nat) (cs : List Cd) (d lv bf rl : Int) (hl : n = cs.length) : ∃ (xs ys : List Int) (E : Int),
    (∀ W : World, KT W → Sl W W.heap.size 7 A n c (cdCells cs) → Calls Tryd.prog 19 #[.slice A n c, .int .i64 d, .int .i64 lv, .int .i64 bf, .int .i64 rl] W (LisT xs ys E W)) ∧
    (∀ W : World, Sl W W.heap.size 7 A n c (cdCells cs) → Calls Tryd.prog 20 #[.slice A n c, .int .i64 d, .int .i64 lv, .int .i64 bf, .int .i64 rl] W (LisT xs ys E W)) := by
  by_cases h : askE n cs d lv [bf, rl] = 0
  · obtain ⟨ha, hd, hv, hz⟩ := askE_zero h
    obtain ⟨hn, hg⟩ := errA_zero ha
    obtain ⟨h1, h2⟩ := any2.1 hz
    refine ⟨keptL cs d lv bf rl, violL cs d lv bf rl, 0, fun W hT hs => (kept_ok A n c cs d lv bf rl W hT hn hg hd hv (wit_iff.1 h1) (wit_iff.1 h2) hs).mono fun e w' ⟨A2, c2, A3, c3, he, hs1, hs2, hb⟩ => ⟨A2, c2, A3, c3, he, hs1, hs2, hb⟩, fun W hs => (rkept_ok A n c cs d lv bf rl W hn hg hd hv (wit_iff.1 h1) (wit_iff.1 h2) hs).mono fun e w' ⟨A2, c2, A3, c3, os, ho, he, hs1, hs2, hb⟩ => ?_⟩
    rw [ract_eqL ho hl] at he hs1 hs2
    exact ⟨A2, c2, A3, c3, he, hs1, hs2, hb⟩
  · exact ⟨[], [], _, fun W _ hs => (kept_bad A n c cs d lv bf rl W hs h).mono fun e w' ⟨he, hb⟩ => ⟨none, 0, none, 0, he, Sl.none_ _ _ _, Sl.none_ _ _ _, hb⟩, fun W hs => (rkept_bad A n c cs d lv bf rl W hs h).mono fun e w' ⟨he, hb⟩ => ⟨none, 0, none, 0, he, Sl.none_ _ _ _, Sl.none_ _ _ _, hb⟩⟩
theorem same_yes (A B : Option Addr) (n c1 c2 : Nat) (xs : List Int) (w : World) (h1 : Sl w w.heap.size 1 A n c1 (ints xs)) (h2 : Sl w w.heap.size 1 B n c2 (ints xs)) :
    Calls Tryd.prog 13 #[.slice A n c1, .slice B n c2] w fun e w' => e = .returned (.bool true) ∧ Below w.heap.size w w' :=
  (same_any A c1 xs B c2 xs n n w h1 h2).mono fun e w' ⟨he, hb⟩ => ⟨by rw [he]; simp [sameB], hb⟩
theorem cdCells_set7 : ∀ (cs : List Cd) (k : Nat) (h : k < cs.length) (x : Cd), (((((((cdCells cs).set (k * 7) (.int .i64 x.rank)).set (k * 7 + 1) (.int .i64 x.kind)).set (k * 7 + 2) (.int .i64 x.value)).set (k * 7 + 3) (.int .i64 x.from_)).set (k * 7 + 4) (.int .i64 x.to_)).set (k * 7 + 5) (.int .i64 x.above)).set (k * 7 + 6) (.int .i64 x.below) = cdCells (cs.set k x)
  | c :: cs, 0, _, x => by simp [cdCells, Cd.arr]
  | c :: cs, k + 1, h, x => by
    have ih := cdCells_set7 cs k (by simpa using h) x
    have e : cdCells (c :: cs) = c.arr.toList ++ cdCells cs := by simp [cdCells]
    have e2 : cdCells ((c :: cs).set (k + 1) x) = c.arr.toList ++ cdCells (cs.set k x) := by simp [cdCells]
    have hl : c.arr.toList.length = 7 := rfl
    rw [e, e2, ← ih]
    rw [List.set_append_right _ _ (by rw [hl]; omega), List.set_append_right _ _ (by rw [hl]; omega), List.set_append_right _ _ (by rw [hl]; omega), List.set_append_right _ _ (by rw [hl]; omega), List.set_append_right _ _ (by rw [hl]; omega), List.set_append_right _ _ (by rw [hl]; omega), List.set_append_right _ _ (by rw [hl]; omega), hl]
    rw [show (k + 1) * 7 - 7 = k * 7 by omega, show (k + 1) * 7 + 1 - 7 = k * 7 + 1 by omega, show (k + 1) * 7 + 2 - 7 = k * 7 + 2 by omega, show (k + 1) * 7 + 3 - 7 = k * 7 + 3 by omega, show (k + 1) * 7 + 4 - 7 = k * 7 + 4 by omega, show (k + 1) * 7 + 5 - 7 = k * 7 + 5 by omega, show (k + 1) * 7 + 6 - 7 = k * 7 + 6 by omega]
/-- one condition of an own row is written anew -/
theorem own_cond {w : World} {base g n c k : Nat} {cs : List Cd} (h : w.ownsRow base 32 7 (.slice (some ⟨g, 0, none⟩) n c) n (cdCells cs)) (hk : k < cs.length) (x : Cd) :
    (((((((w.setCell ⟨g, k * 7, none⟩ (.int .i64 x.rank)).setCell ⟨g, k * 7 + 1, none⟩ (.int .i64 x.kind)).setCell ⟨g, k * 7 + 2, none⟩ (.int .i64 x.value)).setCell ⟨g, k * 7 + 3, none⟩ (.int .i64 x.from_)).setCell ⟨g, k * 7 + 4, none⟩ (.int .i64 x.to_)).setCell ⟨g, k * 7 + 5, none⟩ (.int .i64 x.above)).setCell ⟨g, k * 7 + 6, none⟩ (.int .i64 x.below)).ownsRow base 32 7 (.slice (some ⟨g, 0, none⟩) n c) n (cdCells (cs.set k x)) := by
  obtain ⟨s1, _⟩ := h.stored (k * 7) (.int .i64 x.rank)
  obtain ⟨s2, _⟩ := s1.stored (k * 7 + 1) (.int .i64 x.kind)
  obtain ⟨s3, _⟩ := s2.stored (k * 7 + 2) (.int .i64 x.value)
  obtain ⟨s4, _⟩ := s3.stored (k * 7 + 3) (.int .i64 x.from_)
  obtain ⟨s5, _⟩ := s4.stored (k * 7 + 4) (.int .i64 x.to_)
  obtain ⟨s6, _⟩ := s5.stored (k * 7 + 5) (.int .i64 x.above)
  obtain ⟨s7, _⟩ := s6.stored (k * 7 + 6) (.int .i64 x.below)
  rw [cdCells_set7 cs k hk x] at s7
  exact s7
end Go.Proofs.YtegjihcokndemaaDoor
