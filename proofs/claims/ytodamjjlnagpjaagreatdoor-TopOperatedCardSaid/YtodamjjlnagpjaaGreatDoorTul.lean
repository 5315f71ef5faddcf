/-
  The contracts of unit.Next and Power at valid units and states. Condition: the unit lies in memory and is valid.
  The contract of unit.Flows at valid units: a row of at most 200 integers, or an error. Condition: the unit lies in memory and is valid.
-/
import Derived.Test.YtodamjjlnagpjaaGreatDoorProg
import Derived.Test.YtodamjjlnagpjaaGreatDoorTuf
namespace Go.Proofs.YtodamjjlnagpjaaGreatDoor
open Go.RowKit

def PowP (w : World) (e : Ending) (w' : World) : Prop := ∃ p er : Int, e = .returned (.tuple #[.int .i64 p, .int .i64 er]) ∧ Below w.heap.size w w'
set_option maxRecDepth 20000 in
theorem upower_any (u : Un) (f : Int) (hg : UnG u) (w : World) (hs : u.ok w) :
    Calls Tryz.prog 87 #[.agg u.arr, .int .i64 f] w (PowP w) := by
  have q0 := Blk.new w 90 u.arr
  have hb0 := bel1 (w := w) (o := .cells u.arr 90)
  have hs0 := hs.below hb0
  have HK := hide (fun W h => ucheck_ok u hg W h)
  have HR := hide (fun W h => runs_any u f hg W h)
  have HV := hide (fun W h => value_any u.t f hg.t W h)
  rw [Un.arr6] at q0 hb0 hs0 HK HR ⊢
  generalize runsB u f = rb at *
  obtain ⟨c0, c1, c2, c3, c4, c5, cf⟩ := q0.facts6
  clear hs hg
  go_enter Tryz.func87, Tryz.ntmps87
  go_wp2_with fail
  generalize w.alloc _ = w1 at *
  refine (HK.out _ hs0).mono ?_
  rintro e w2 ⟨rfl, hb2⟩
  have q2 := q0.below hb2 q0.lt
  have hs2 := hs0.below hb2
  have hB2 := bthr hb0 hb2 hb0.size
  clear c0 c1 c2 c3 c4 c5 cf hs0 hb0 hb2 q0
  obtain ⟨c0, c1, c2, c3, c4, c5, cf⟩ := q2.facts6
  by_cases hf : f = 0
  · have HB := hide hB2
    have hfd : (f == 0) = true := by simpa using hf
    clear hs2 hB2 q2
    go_wp2
    go_ret2
    exact ⟨_, _, rfl, HB.out⟩
  · have hfd : (f == 0) = false := by simpa using hf
    go_wp2_with fail
    refine (HR.out _ hs2).mono ?_
    rintro e w3 ⟨rfl, hb3⟩
    have q3 := q2.below hb3 q2.lt
    have hs3 := hs2.below hb3
    have hB3 := bthr hB2 hb3 hB2.size
    clear c0 c1 c2 c3 c4 c5 cf hs2 hB2 hb3 q2
    obtain ⟨c0, c1, c2, c3, c4, c5, cf⟩ := q3.facts6
    cases rb
    · have HB := hide hB3
      clear hs3 hB3 q3
      go_wp2
      go_ret2
      exact ⟨_, _, rfl, HB.out⟩
    · go_wp2_with fail
      refine (HV.out _ hs3.1).mono ?_
      rintro e w4 ⟨rfl, hb4⟩
      have HB := hide (bthr hB3 hb4 hB3.size)
      clear c0 c1 c2 c3 c4 c5 cf hs3 hB3 hb4 q3
      go_wp2
      go_ret2
      exact ⟨_, _, rfl, HB.out⟩
/-- What Next gives. -/
def NextP (u : Un) (w : World) (e : Ending) (w' : World) : Prop := ∃ (s : Us) (st : Bool) (er : Int), e = .returned (.tuple #[.agg s.arr, .bool st, .int .i64 er]) ∧ (er = 0 → UsG u s) ∧ Below w.heap.size w w'
theorem blk_three (w : World) (t1 t2 t3 : TypeId) (c1 c2 c3 : Array Value) : Blk (((w.alloc (.cells c1 t1)).alloc (.cells c2 t2)).alloc (.cells c3 t3)) w.heap.size t1 c1 ∧ Blk (((w.alloc (.cells c1 t1)).alloc (.cells c2 t2)).alloc (.cells c3 t3)) (w.heap.size + 1) t2 c2 ∧ Blk (((w.alloc (.cells c1 t1)).alloc (.cells c2 t2)).alloc (.cells c3 t3)) (w.heap.size + 1 + 1) t3 c3 ∧ Below w.heap.size w (((w.alloc (.cells c1 t1)).alloc (.cells c2 t2)).alloc (.cells c3 t3)) := by
  obtain ⟨h1, h2, h3⟩ := blk_two w t1 t2 c1 c2
  refine ⟨h1.alloc _, h2.alloc _, ?_, h3.alloc (by simp only [World.size_alloc]; omega) _⟩
  have := Blk.new ((w.alloc (.cells c1 t1)).alloc (.cells c2 t2)) t3 c3
  rwa [World.size_alloc, World.size_alloc] at this
set_option maxHeartbeats 1600000 in
set_option maxRecDepth 20000 in
theorem unext_any (u : Un) (s : Us) (f : Int) (hg : UnG u) (hu : UsG u s) (w : World) (hs : u.ok w) :
    Calls Tryz.prog 86 #[.agg u.arr, .agg s.arr, .int .i64 f] w (NextP u w) := by
  obtain ⟨q0, p0, r0, hb0⟩ := blk_three w 90 93 93 u.arr s.arr #[.int .i64 0, .int .i64 0, .bool false]
  have hs0 := hs.below hb0
  have HK := hide (fun W h => ucheck_ok u hg W h)
  have HF := hide (fun W h => ufits_ok u s hg hu W h)
  have HM := hide (fun W h => umay_any u s f hg W h)
  have HN := hide (show ∀ (si : Int), 0 ≤ si ∧ si ≤ 1000 → (f = 0 ∨ (runsB u f = true ∧ s.out = false)) → UsG u ⟨f, si, s.out⟩ from fun si h1 h2 => ⟨h1, h2.imp id fun h => ⟨h.2, h.1⟩⟩)
  obtain ⟨hsi0, hsi1⟩ := hu.si
  have hfl0 : 0 ≤ s.fl := by
    rcases hu.fl with h | h
    · omega
    · have := (runsB_iff.1 h.2).1; have := hg.lo; omega
  rw [Un.arr6] at q0 p0 r0 hb0 hs0 HK HF HM ⊢
  generalize runsB u f = rb at *
  obtain ⟨fl, si, out⟩ := s
  unfold Us.arr at q0 p0 r0 hb0 hs0 HF HM ⊢
  simp only at q0 p0 r0 hb0 hs0 HF HM HN hsi0 hsi1 hfl0 ⊢
  obtain ⟨c0, c1, c2, c3, c4, c5, cf⟩ := q0.facts6
  obtain ⟨d0, d1, d2, df⟩ := p0.facts3
  clear hu hg hs
  go_enter Tryz.func86, Tryz.ntmps86
  go_wp2_with fail
  generalize ((w.alloc _).alloc _).alloc _ = w1 at *
  refine (HK.out _ hs0).mono ?_
  rintro e w2 ⟨rfl, hb2⟩
  have q2 := q0.below hb2 q0.lt
  have p2 := p0.below hb2 p0.lt
  have r2 := r0.below hb2 r0.lt
  have hs2 := hs0.below hb2
  have hB2 := bthr hb0 hb2 hb0.size
  clear c0 c1 c2 c3 c4 c5 cf d0 d1 d2 df hs0 hb0 hb2 q0 p0 r0
  obtain ⟨c0, c1, c2, c3, c4, c5, cf⟩ := q2.facts6
  obtain ⟨d0, d1, d2, df⟩ := p2.facts3
  go_wp2_with fail
  refine (HF.out _ hs2).mono ?_
  rintro e w3 ⟨rfl, hb3⟩
  have q3 := q2.below hb3 q2.lt
  have p3 := p2.below hb3 p2.lt
  have r3 := r2.below hb3 r2.lt
  have hs3 := hs2.below hb3
  have hB3 := bthr hB2 hb3 hB2.size
  clear c0 c1 c2 c3 c4 c5 cf d0 d1 d2 df hs2 hB2 hb3 q2 p2 r2
  obtain ⟨c0, c1, c2, c3, c4, c5, cf⟩ := q3.facts6
  obtain ⟨d0, d1, d2, df⟩ := p3.facts3
  go_wp2_with fail
  refine (HM.out _ hs3).mono ?_
  rintro e w4 ⟨m, rfl, hm, hb4⟩
  have q4 := q3.below hb4 q3.lt
  have p4 := p3.below hb4 p3.lt
  have r4 := r3.below hb4 r3.lt
  have hB4 := bthr hB3 hb4 hB3.size
  clear c0 c1 c2 c3 c4 c5 cf d0 d1 d2 df hs3 hB3 hb4 q3 p3 r3
  obtain ⟨d0, d1, d2, df⟩ := p4.facts3
  obtain ⟨e0, e1, e2, ef⟩ := r4.facts3
  cases m
  · have R5 := (((r4.set_ 0 (.int .i64 0)).set_ 1 (.int .i64 0)).set_ 2 (.bool false))
    have HB := hide (((hB4.setCell (p := ⟨w.heap.size + 1 + 1, 0, none⟩) (by simp only; omega) (.int .i64 0)).setCell (p := ⟨w.heap.size + 1 + 1, 1, none⟩) (by simp only; omega) (.int .i64 0)).setCell (p := ⟨w.heap.size + 1 + 1, 2, none⟩) (by simp only; omega) (.bool false))
    simp only [List.setIfInBounds_toArray, List.set_cons_zero, List.set_cons_succ] at R5
    obtain ⟨h0, h1, h2, hf⟩ := R5.facts3
    clear q4 p4 r4 hB4 HK HF HM R5
    go_wp2
    refine bodyPost_ret (v := .tuple #[.agg #[.int .i64 0, .int .i64 0, .bool false], .bool false, .int .i64 15]) (by simp [results, Tryz.results86, go_sem, h0, h1, h2]) rfl ⟨⟨0, 0, false⟩, _, _, rfl, (fun h => by cases h), HB.out⟩
  · obtain ⟨z, hz⟩ : ∃ z, min (si + 1) 1000 = z := ⟨_, rfl⟩
    have hz0 : 0 ≤ z ∧ z ≤ 1000 := by omega
    have hzi : (if 1000 < si + 1 then 1000 else si + 1) = z := by split <;> omega
    have HN1 := hide (HN.out z hz0 (hm rfl))
    have HN2 := hide (HN.out 1 (by omega) (hm rfl))
    have n5 := Blk.new w4 93 #[.int .i64 f, .int .i64 z, .bool out]
    have r5 := r4.alloc (.cells #[.int .i64 f, .int .i64 z, .bool out] 93)
    have hg5 : w.heap.size + 1 + 1 < w4.heap.size := r4.lt
    have hB5 := hB4.alloc hB4.size (.cells #[.int .i64 f, .int .i64 z, .bool out] 93)
    have d0a := cell_thr (bel1 (w := w4) (o := .cells #[.int .i64 f, .int .i64 z, .bool out] 93)) d0
    clear hm hz0 HN q4 p4 HK HF HM r4 hB4
    go_upto_region 9 with fail
    clear d0 d1 d2 df e0 e1 e2 ef
    generalize w4.alloc _ = w5 at *
    obtain ⟨x0, x1, x2, xf⟩ := n5.facts3
    obtain ⟨e0, e1, e2, ef⟩ := r5.facts3
    have hne : w4.heap.size ≠ w.heap.size + 1 := by omega
    have hne2 : w4.heap.size ≠ w.heap.size + 1 + 1 := by omega
    have key : ∀ (u0 : Value) (w6 : World) (zz : Int) (st : Bool), UsG u ⟨f, zz, out⟩ → Blk w6 (w.heap.size + 1 + 1) 93 #[.int .i64 0, .int .i64 0, .bool false] → Below w.heap.size w w6 →
        Blk (((w6.setCell ⟨w.heap.size + 1 + 1, 0, none⟩ (.int .i64 f)).setCell ⟨w.heap.size + 1 + 1, 1, none⟩ (.int .i64 zz)).setCell ⟨w.heap.size + 1 + 1, 2, none⟩ (.bool out)) (w.heap.size + 1 + 1) 93 #[.int .i64 f, .int .i64 zz, .bool out] ∧ Below w.heap.size w (((w6.setCell ⟨w.heap.size + 1 + 1, 0, none⟩ (.int .i64 f)).setCell ⟨w.heap.size + 1 + 1, 1, none⟩ (.int .i64 zz)).setCell ⟨w.heap.size + 1 + 1, 2, none⟩ (.bool out)) := by
      intro u0 w6 zz st hG hb hB
      have R5 := (((hb.set_ 0 (.int .i64 f)).set_ 1 (.int .i64 zz)).set_ 2 (.bool out))
      simp only [List.setIfInBounds_toArray, List.set_cons_zero, List.set_cons_succ] at R5
      exact ⟨R5, ((hB.setCell (p := ⟨w.heap.size + 1 + 1, 0, none⟩) (by simp only; omega) _).setCell (p := ⟨w.heap.size + 1 + 1, 1, none⟩) (by simp only; omega) _).setCell (p := ⟨w.heap.size + 1 + 1, 2, none⟩) (by simp only; omega) _⟩
    have K1 := hide (key (.bool out) w5 z true HN1.out r5 hB5)
    have r5b := r5.far (p := ⟨w4.heap.size, 1, none⟩) (show w.heap.size + 1 + 1 ≠ w4.heap.size by omega) (.int .i64 1)
    have hB5b := hB5.setCell (p := ⟨w4.heap.size, 1, none⟩) (show w.heap.size ≤ w4.heap.size by omega) (.int .i64 1)
    have n5b := n5.set_ 1 (.int .i64 1)
    simp only [List.setIfInBounds_toArray, List.set_cons_zero, List.set_cons_succ] at n5b
    have K2 := hide (key (.bool out) _ 1 true HN2.out r5b hB5b)
    have d0b := (World.cell?_setCell_other w5 ⟨w4.heap.size, 1, none⟩ ⟨w.heap.size + 1, 0, none⟩ (.int .i64 1) (by simp)).trans d0a
    obtain ⟨y0, y1, y2, yf⟩ := n5b.facts3
    obtain ⟨s0, s1, s2, sf⟩ := r5b.facts3
    clear key n5b n5 r5b hB5b r5 hB5 hzi hz
    by_cases h1 : 0 < f
    · have h1d : decide (0 < f) = true := by simpa using h1
      by_cases h2 : 0 < fl
      · have h2d : decide (0 < fl) = true := by simpa using h2
        have h3d : (fl == 0) = false := by simp; omega
        clear y0 y1 y2 yf s0 s1 s2 sf d0b K2 HN2
        go_wp2_with fail
        go_region_law (fail)
        all_goals
          obtain ⟨HBK, HW⟩ := K1.out
          obtain ⟨k0, k1, k2, kf⟩ := HBK.facts3
          go_wp2
          refine bodyPost_ret (v := .tuple #[.agg #[.int .i64 f, .int .i64 z, .bool out], .bool false, .int .i64 0]) (by simp [results, Tryz.results86, go_sem, k0, k1, k2]) rfl ⟨⟨f, z, out⟩, _, _, rfl, fun _ => HN1.out, HW.drew⟩
      · have h2d : decide (0 < fl) = false := by simpa using h2
        have h3d : (fl == 0) = true := by simp; omega
        go_upto_region 11 with fail
        clear x0 x1 x2 xf e0 e1 e2 ef d0a K1 HN1
        go_wp2_with fail
        go_region_law (fail)
        all_goals
          obtain ⟨HBK, HW⟩ := K2.out
          obtain ⟨k0, k1, k2, kf⟩ := HBK.facts3
          go_wp2
          refine bodyPost_ret (v := .tuple #[.agg #[.int .i64 f, .int .i64 1, .bool out], .bool true, .int .i64 0]) (by simp [results, Tryz.results86, go_sem, k0, k1, k2]) rfl ⟨⟨f, 1, out⟩, _, _, rfl, fun _ => HN2.out, HW.drew⟩
    · have h1d : decide (0 < f) = false := by simpa using h1
      by_cases h2 : 0 < fl
      · have h2d : decide (0 < fl) = true := by simpa using h2
        have h3d : (fl == 0) = false := by simp; omega
        go_upto_region 11 with fail
        clear x0 x1 x2 xf e0 e1 e2 ef d0a K1 HN1
        go_wp2_with fail
        first | go_region_law (fail) | fail
        all_goals
          obtain ⟨HBK, HW⟩ := K2.out
          obtain ⟨k0, k1, k2, kf⟩ := HBK.facts3
          go_wp2
          refine bodyPost_ret (v := .tuple #[.agg #[.int .i64 f, .int .i64 1, .bool out], .bool false, .int .i64 0]) (by simp [results, Tryz.results86, go_sem, k0, k1, k2]) rfl ⟨⟨f, 1, out⟩, _, _, rfl, fun _ => HN2.out, HW.drew⟩
      · have h2d : decide (0 < fl) = false := by simpa using h2
        have h3d : (fl == 0) = true := by simp; omega
        clear y0 y1 y2 yf s0 s1 s2 sf d0b K2 HN2
        go_wp2_with fail
        first | go_region_law (fail) | fail
        all_goals
          obtain ⟨HBK, HW⟩ := K1.out
          obtain ⟨k0, k1, k2, kf⟩ := HBK.facts3
          go_wp2
          refine bodyPost_ret (v := .tuple #[.agg #[.int .i64 f, .int .i64 z, .bool out], .bool false, .int .i64 0]) (by simp [results, Tryz.results86, go_sem, k0, k1, k2]) rfl ⟨⟨f, z, out⟩, _, _, rfl, fun _ => HN1.out, HW.drew⟩
end Go.Proofs.YtodamjjlnagpjaaGreatDoor
namespace Go.Proofs.YtodamjjlnagpjaaGreatDoor
open Go.RowKit

theorem up_to {x g : Int} (hg : 0 < g) : x ≤ (x + g - 1) / g * g ∧ (x + g - 1) / g * g ≤ x + g - 1 := by
  have h1 := Int.mul_ediv_add_emod (x + g - 1) g
  rw [Int.mul_comm] at h1
  have h2 := Int.emod_nonneg (x + g - 1) (show g ≠ 0 by omega)
  have h3 := Int.emod_lt_of_pos (x + g - 1) hg
  omega
/-- What Flows gives. -/
def FloP (w : World) (e : Ending) (w' : World) : Prop := ∃ (v : Value) (n : Nat) (xs : List Int) (er : Int), e = .returned (.tuple #[v, .int .i64 er]) ∧ (er = 0 → w'.ownsRow w.heap.size 3 1 v n (ints xs)) ∧ n ≤ 200 ∧ Below w.heap.size w w'
set_option maxHeartbeats 1600000 in
set_option maxRecDepth 20000 in
theorem uflows_any (u : Un) (gr : Int) (hgr : 1 ≤ gr ∧ gr ≤ 1000) (hg : UnG u) (w : World) (hs : u.ok w) :
    Calls Tryz.prog 144 #[.agg u.arr, .int .i64 gr] w (FloP w) := by
  have q0 := Blk.new w 90 u.arr
  have hb0 := bel1 (w := w) (o := .cells u.arr 90)
  have hs0 := hs.below hb0
  have HK := hide (fun W h => ucheck_ok u hg W h)
  have HY := hide (fun W (f : Int) (hf : 0 ≤ f) h => beyond_any u f hf hg W h)
  obtain ⟨hlo1, hlo2, hhi⟩ := hg.lo
  obtain ⟨hg1, hg2⟩ := hgr
  rw [Un.arr6] at q0 hb0 hs0 HK HY ⊢
  obtain ⟨c0, c1, c2, c3, c4, c5, cf⟩ := q0.facts6
  clear hs hg
  generalize u.lo = lo at *
  generalize u.hi = hi at *
  generalize u.t.v = tv at *
  generalize u.r.v = rv at *
  generalize u.up = up at *
  generalize u.dn = dn at *
  generalize u.r.ps = zs at *
  have hd1 : decide (gr < 1) = false := by simp; omega
  have hd2 : decide (1073741824 < gr) = false := by simp; omega
  go_enter Tryz.func144, Tryz.ntmps144
  go_wp2_with fail
  generalize w.alloc _ = w1 at *
  refine (HK.out _ hs0).mono ?_
  rintro e w2 ⟨rfl, hb2⟩
  have q2 := q0.below hb2 q0.lt
  have hs2 := hs0.below hb2
  have hB2 := bthr hb0 hb2 hb0.size
  clear c0 c1 c2 c3 c4 c5 cf hs0 hb0 hb2 q0 HK
  obtain ⟨c0, c1, c2, c3, c4, c5, cf⟩ := q2.facts6
  go_wp2
  clear c0 c1 c2 c3 c4 c5 cf
  go_loopw [7, 8] (fun v x wr => ∃ (y : Int) (k : Nat) (xs : List Int), x = .int .i64 y ∧ (1 ≤ y ∧ y ≤ 101) ∧ k ≤ 200 ∧ wr.ownsRow w2.heap.size 3 1 v k (ints xs) ∧ Below w2.heap.size w2 wr) (fun v x _ => 102 - (intOf x).toNat)
  case atStart => exact ⟨lo, 0, [], rfl, by omega, by omega, World.ownsRow_nil _ _ _ _, Below.refl _ _⟩
  case round =>
    obtain ⟨y, k, xs, rfl, hy, hk, hv, hb3⟩ := hrel
    have q3 := q2.below hb3 q2.lt
    have hs3 := hs2.below hb3
    obtain ⟨c0, c1, c2, c3, c4, c5, cf⟩ := q3.facts6
    obtain ⟨hy1, hy2⟩ := hy
    obtain ⟨u1, u2⟩ := up_to (x := y) (g := gr) (by omega)
    have hq0 : 0 ≤ (y + gr - 1) / gr := Int.ediv_nonneg (by omega) (by omega)
    have hq1 : (y + gr - 1) / gr ≤ y + gr - 1 := Int.ediv_le_self _ (by omega)
    obtain ⟨Av, cv, rfl, _⟩ := own_sl hv
    have HV := hide hv
    have HB3 := hide hb3
    have hz2 := hb3.size
    clear hv hb3
    go_upto_region 9 with fail
    obtain ⟨t, ht⟩ : ∃ t, (y + gr - 1) / gr * gr = t := ⟨_, rfl⟩
    simp only [ht] at u1 u2 ⊢
    clear ht hq0 hq1
    by_cases hth : hi < t
    · have hthd : decide (hi < t) = true := by simpa using hth
      have HBZ := hide (bthr hB2 HB3.out hB2.size)
      have HV2 := hide (ownsRow_base HV.out hB2.size)
      go_wp2
      go_ret2
      exact ⟨_, k, xs, 0, rfl, fun _ => HV2.out, hk, HBZ.out⟩
    · have hthd : decide (hi < t) = false := by simpa using hth
      go_wp2_with fail
      refine (HY.out _ t (by omega) hs3).mono ?_
      rintro e w4 ⟨r, rfl, r1, r2, r3, hb4⟩
      have hV4 := hide (ownsRow_below HV.out hb4)
      have HB4 := hide (bthr HB3.out hb4 HB3.out.size)
      have hz4 := hb4.size
      clear c0 c1 c2 c3 c4 c5 cf hs3 q3 hb4 r3
      by_cases hr : r = t
      · have hrd : (r == t) = true := by simpa using hr
        have hrd2 : (r != t) = false := by simp [hr]
        by_cases hk200 : k = 200
        · have hkd : ((k : Int) == 200) = true := by simp [hk200]
          have HBZ := hide (bthr hB2 HB4.out hB2.size)
          clear r1 r2 hr hV4 HV
          go_wp2
          go_ret2
          exact ⟨_, 0, [], 10, rfl, fun h => (by cases h), by omega, HBZ.out⟩
        · have hkd : ((k : Int) == 200) = false := by simp; omega
          clear r1 r2 hr HV
          go_wp2_with (at_builtin; refine wpList_push rfl _ _ _ rfl w2.heap.size _ _ slInt _ _ _ rfl hV4.out _ _ rfl rfl rfl (by omega) (by omega) ?_)
          intro v' w5 hv5 hg5 _
          have HB5 := hide (HB4.out.trans (below_push hV4.out hg5 (by omega)))
          have hv5' := own_cells hv5 (show ints xs ++ [.int .i64 t] = ints (xs ++ [t]) by rw [ints_append]; rfl)
          have HV5 := hide hv5'
          clear hv5 hv5' hg5 hV4
          go_wp2
          go_roundw
          case rel => exact ⟨t + 1, k + 1, xs ++ [t], rfl, by omega, by omega, HV5.out, HB5.out⟩
          case measure => simp [intOf]; omega
      · have hrd : (r == t) = false := by simpa using hr
        have hrd2 : (r != t) = true := by simp [hr]
        have hrt : t < r ∧ r ≤ 100 := by
          cases hc : clearB zs t
          · exact r2 hc
          · exact absurd (r1 hc) hr
        clear r1 r2 hr HV
        go_wp2
        go_roundw
        case rel => exact ⟨r, k, xs, rfl, by omega, hk, hV4.out, HB4.out⟩
        case measure => simp [intOf]; omega
end Go.Proofs.YtodamjjlnagpjaaGreatDoor
