/-
  Contracts of both Chooses at any arguments: the same choice, or the same error. Conditions: the table of kinds, and the list can be read.
-/
import Derived.Test.YtphgddanbgdemaaDoorProg
import Derived.Test.YtphgddanbgdemaaDoorRsE
import Derived.Test.YtphgddanbgdemaaDoorRaw2
namespace Go.Proofs.YtphgddanbgdemaaDoor
open Go.RowKit

/-- the reference's active ones are the program's -/
theorem ract_eq {cs : List Cd} {d lv : Int} {n : Nat} {os : List Int} (ho : OrdOf cs n os) (hn : n = cs.length) : ractL cs d lv os = actC cs d lv := by
  have e : os = ordC cs := ordC_one hn ho.2 (ho.1.imp fun {x y} h => h)
  rw [e, actC_ract]
/-- the choice, or nothing and the error -/
def ChoV (rl lo hi : Int) (ys : List (Int × Int)) (E : Int) (w : World) (e : Ending) (w' : World) : Prop := ∃ (A : Option Addr) (c : Nat), e = .returned (.tuple #[.agg #[.int .i64 rl, .int .i64 lo, .int .i64 hi, .slice A ys.length c], .int .i64 E]) ∧ Sl w' w'.heap.size 2 A ys.length c (yCells ys) ∧ Below w.heap.size w w'
set_option maxHeartbeats 1600000 in
set_option maxRecDepth 20000 in
theorem pchoose_bad (A : Option Addr) (n c : Nat) (cs : List Cd) (d lv bf g0 g1 wn : Int) (E : Int) (hE : chE n cs d lv bf g0 g1 wn = E) (hne : ¬ E = 0) (w : World) (hs : Sl w w.heap.size 7 A n c (cdCells cs)) :
    Calls Tryd.prog 15 #[.slice A n c, .int .i64 d, .int .i64 lv, .int .i64 bf, .agg #[.int .i64 g0, .int .i64 g1], .int .i64 wn] w (ChoV 0 0 0 [] E w) := by
  have q0 := (Blk.new w 23 #[.int .i64 g0, .int .i64 g1]).alloc (.cells #[.int .i64 0, .int .i64 0, .int .i64 0, .slice none 0 0] 26)
  have q1 := Blk.new (w.alloc (.cells #[.int .i64 g0, .int .i64 g1] 23)) 26 #[.int .i64 0, .int .i64 0, .int .i64 0, .slice none 0 0]
  rw [World.size_alloc] at q1
  have hB := (bel1 (w := w) (o := .cells #[.int .i64 g0, .int .i64 g1] 23)).alloc (by simp) (.cells #[.int .i64 0, .int .i64 0, .int .i64 0, .slice none 0 0] 26)
  have hs1 := hs.thr hB
  have HA := hide (fun W hs2 => rsasked_any A n c cs d lv bf g0 g1 wn W hs2)
  rw [hE] at HA
  have hne2 : (E != 0) = true := by simpa using hne
  clear hs hE hne
  obtain ⟨y0, y1, _⟩ := q0.facts2
  go_enter Tryd.func15, Tryd.ntmps15
  go_wp2_with fail
  generalize ((w.alloc _).alloc _) = w1 at *
  refine (HA.out w1 hs1).mono ?_
  rintro e w2 ⟨rfl, hb2⟩
  have HB2 := hide (bthr hB hb2 hB.size)
  replace q1 := q1.below hb2 q1.lt
  clear y0 y1 hB hs1 hb2 HA q0
  obtain ⟨v0, v1, v2, v3, vF⟩ := q1.facts4
  clear q1
  go_wp2
  refine bodyPost_ret (v := .tuple #[.agg #[.int .i64 0, .int .i64 0, .int .i64 0, .slice none 0 0], .int .i64 E]) (by simp [results, Tryd.results15, go_sem, v0, v1, v2, v3]) rfl ⟨none, 0, rfl, Sl.none_ _ _ _, ?_⟩
  repeat (first | with_reducible exact HB2.out | with_reducible refine Below.setCell ?_ (by simp) _)
set_option maxHeartbeats 1600000 in
set_option maxRecDepth 20000 in
theorem rchoose_bad (A : Option Addr) (n c : Nat) (cs : List Cd) (d lv bf g0 g1 wn : Int) (E : Int) (hE : chE n cs d lv bf g0 g1 wn = E) (hne : ¬ E = 0) (w : World) (hs : Sl w w.heap.size 7 A n c (cdCells cs)) :
    Calls Tryd.prog 7 #[.slice A n c, .int .i64 d, .int .i64 lv, .int .i64 bf, .agg #[.int .i64 g0, .int .i64 g1], .int .i64 wn] w (ChoV 0 0 0 [] E w) := by
  have q0 := (Blk.new w 23 #[.int .i64 g0, .int .i64 g1]).alloc (.cells #[.int .i64 0, .int .i64 0, .int .i64 0, .slice none 0 0] 26)
  have q1 := Blk.new (w.alloc (.cells #[.int .i64 g0, .int .i64 g1] 23)) 26 #[.int .i64 0, .int .i64 0, .int .i64 0, .slice none 0 0]
  rw [World.size_alloc] at q1
  have hB := (bel1 (w := w) (o := .cells #[.int .i64 g0, .int .i64 g1] 23)).alloc (by simp) (.cells #[.int .i64 0, .int .i64 0, .int .i64 0, .slice none 0 0] 26)
  have hs1 := hs.thr hB
  have HA := hide (fun W hs2 => rwrong_any A n c cs d lv bf g0 g1 wn W hs2)
  rw [hE] at HA
  have hne2 : (E != 0) = true := by simpa using hne
  clear hs hE hne
  obtain ⟨y0, y1, _⟩ := q0.facts2
  go_enter Tryd.func7, Tryd.ntmps7
  go_wp2_with fail
  generalize ((w.alloc _).alloc _) = w1 at *
  refine (HA.out w1 hs1).mono ?_
  rintro e w2 ⟨rfl, hb2⟩
  have HB2 := hide (bthr hB hb2 hB.size)
  replace q1 := q1.below hb2 q1.lt
  clear y0 y1 hB hs1 hb2 HA q0
  obtain ⟨v0, v1, v2, v3, vF⟩ := q1.facts4
  clear q1
  go_wp2
  refine bodyPost_ret (v := .tuple #[.agg #[.int .i64 0, .int .i64 0, .int .i64 0, .slice none 0 0], .int .i64 E]) (by simp [results, Tryd.results7, go_sem, v0, v1, v2, v3]) rfl ⟨none, 0, rfl, Sl.none_ _ _ _, ?_⟩
  repeat (first | with_reducible exact HB2.out | with_reducible refine Below.setCell ?_ (by simp) _)
/-- what a choice's yields speak of: the active ones -/
structure ChoS (cs : List Cd) (d lv bf g0 g1 wn : Int) (rl lo hi : Int) (ys : List (Int × Int)) : Prop where
  ys : ys = (chAll bf cs g0 g1 (actC cs d lv)).ys
  lo : lo = (chAll bf cs g0 g1 (actC cs d lv)).lo
  hi : hi = (chAll bf cs g0 g1 (actC cs d lv)).hi
  rl : rl = chRel wn (chAll bf cs g0 g1 (actC cs d lv))
theorem choose_both (A : Option Addr) (n c : Nat) (cs : List Cd) (d lv bf g0 g1 wn : Int) (hn : n = cs.length) : ∃ (rl lo hi : Int) (ys : List (Int × Int)),
    (∀ W : World, KT W → Sl W W.heap.size 7 A n c (cdCells cs) → Calls Tryd.prog 15 #[.slice A n c, .int .i64 d, .int .i64 lv, .int .i64 bf, .agg #[.int .i64 g0, .int .i64 g1], .int .i64 wn] W (ChoV rl lo hi ys (chE n cs d lv bf g0 g1 wn) W)) ∧
    (∀ W : World, Sl W W.heap.size 7 A n c (cdCells cs) → Calls Tryd.prog 7 #[.slice A n c, .int .i64 d, .int .i64 lv, .int .i64 bf, .agg #[.int .i64 g0, .int .i64 g1], .int .i64 wn] W (ChoV rl lo hi ys (chE n cs d lv bf g0 g1 wn) W)) ∧
    (chE n cs d lv bf g0 g1 wn = 0 → ChoS cs d lv bf g0 g1 wn rl lo hi ys) ∧ (chE n cs d lv bf g0 g1 wn ≠ 0 → ys = []) := by
  by_cases h : chE n cs d lv bf g0 g1 wn = 0
  · obtain ⟨⟨h200, hg⟩, hd, hv, ⟨hbf, hwn, h0, h1⟩, hgg⟩ := chE_zero h
    refine ⟨chRel wn (chAll bf cs g0 g1 (actC cs d lv)), (chAll bf cs g0 g1 (actC cs d lv)).lo, (chAll bf cs g0 g1 (actC cs d lv)).hi, (chAll bf cs g0 g1 (actC cs d lv)).ys, fun W hT hs => ?_, fun W hs => ?_, fun _ => ⟨rfl, rfl, rfl, rfl⟩, fun e => absurd h e⟩
    · refine (Choose_ok A n c cs d lv bf g0 g1 wn W hT h200 hg hd hv hbf hwn h0 h1 hgg hs).mono fun e w' ⟨s, A2, c2, hs2, he, hy, hb⟩ => ?_
      rw [h]
      subst hs2
      exact ⟨A2, c2, he, sl_own hy, hb⟩
    · refine (rchoose_ok A n c cs d lv bf g0 g1 wn W h200 hg hd hv hbf hwn h0 h1 hgg hs).mono fun e w' ⟨os, s, A2, c2, ho, hs2, he, hy, hb⟩ => ?_
      rw [ract_eq ho hn] at hs2
      rw [h]
      subst hs2
      exact ⟨A2, c2, he, hy, hb⟩
  · exact ⟨0, 0, 0, [], fun W _ hs => pchoose_bad A n c cs d lv bf g0 g1 wn _ rfl h W hs, fun W hs => rchoose_bad A n c cs d lv bf g0 g1 wn _ rfl h W hs, fun e => absurd e h, fun _ => rfl⟩
end Go.Proofs.YtphgddanbgdemaaDoor
