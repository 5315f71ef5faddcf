/-
  Contracts of Bounds, Applies, Active and Kept, of the program and of the reference, where a condition, a day, a level or a release is not valid: nothing, and the error. No condition but that the list can be read.
-/
import Derived.Test.YtegjihcokndemaaDoorProg
import Derived.Test.YtegjihcokndemaaDoorAskE
import Derived.Test.YtegjihcokndemaaDoorKep
import Derived.Test.YtegjihcokndemaaDoorRkp
namespace Go.Proofs.YtegjihcokndemaaDoor
open Go.RowKit

set_option maxHeartbeats 1600000 in
set_option maxRecDepth 20000 in
theorem lbnd_bad (c : Cd) (n : Int) (w : World) (h : bOk c n = false) :
    Calls Tryd.prog 21 #[.agg c.arr, .int .i64 n] w fun e w' => e = .returned (.tuple #[.agg #[.int .i64 0, .int .i64 0], .bool false]) ∧ Below w.heap.size w w' := by
  have h0 := Blk.new w 32 c.arr
  have hB := (bel1 (w := w) (o := .cells c.arr 32)).alloc (by simp) (.cells #[.int .i64 0, .int .i64 0] 47)
  replace h0 := h0.alloc (.cells #[.int .i64 0, .int .i64 0] 47)
  have h1 := Blk.new (w.alloc (.cells c.arr 32)) 47 #[.int .i64 0, .int .i64 0]
  rw [World.size_alloc] at h1
  have HA := hide (fun W => one_any c W)
  by_cases he : c.err = 0
  · have hn : wit n 1073741824 = false := by
      unfold bOk at h; rw [decide_eq_true he, Bool.true_and] at h; exact h
    have H9 := hide he
    have HN := hide hn
    clear h he hn
    obtain ⟨r, k, v, f, t, x, y⟩ := c
    unfold Cd.arr at h0 h1 hB HA ⊢
    go_enter Tryd.func21, Tryd.ntmps21
    go_wp2_with fail
    generalize ((w.alloc _).alloc _) = w2 at *
    refine (HA.out _).mono ?_
    rintro e w3 ⟨rfl, hb1⟩
    rw [H9.out]
    have hB1 := hide (bthr hB hb1 hB.size)
    replace h1 := h1.below hb1 h1.lt
    clear hB hb1 h0
    obtain ⟨y0, y1, hF⟩ := h1.facts2
    clear h1
    go_wp2_with (go_at_call 50; refine (within_any _ _ _).mono ?_; rintro e w4 ⟨rfl, rfl⟩; rw [HN.out])
    refine bodyPost_ret (v := .tuple #[.agg #[.int .i64 0, .int .i64 0], .bool false]) (by simp [results, Tryd.results21, go_sem, y0, y1]) rfl ⟨rfl, ?_⟩
    repeat (first | with_reducible exact hB1.out | with_reducible refine Below.setCell ?_ (by simp) _)
  · obtain ⟨E, hE⟩ : ∃ E, c.err = E := ⟨_, rfl⟩
    rw [hE] at HA
    have hne : (E != 0) = true := by rw [← hE]; simpa using he
    clear h he hE
    obtain ⟨r, k, v, f, t, x, y⟩ := c
    unfold Cd.arr at h0 h1 hB HA ⊢
    go_enter Tryd.func21, Tryd.ntmps21
    go_wp2_with fail
    generalize ((w.alloc _).alloc _) = w2 at *
    refine (HA.out _).mono ?_
    rintro e w3 ⟨rfl, hb1⟩
    have hB1 := hide (bthr hB hb1 hB.size)
    replace h1 := h1.below hb1 h1.lt
    clear hB hb1 h0
    obtain ⟨y0, y1, hF⟩ := h1.facts2
    clear h1
    go_wp2
    refine bodyPost_ret (v := .tuple #[.agg #[.int .i64 0, .int .i64 0], .bool false]) (by simp [results, Tryd.results21, go_sem, y0, y1]) rfl ⟨rfl, ?_⟩
    repeat (first | with_reducible exact hB1.out | with_reducible refine Below.setCell ?_ (by simp) _)
/-- Bounds, of the program and of the reference, at any condition and release before. -/
theorem bnd_both (c : Cd) (x : Int) : ∃ (l m : Int) (ok : Bool), (∀ W : World, KT W → Calls Tryd.prog 21 #[.agg c.arr, .int .i64 x] W fun e w' => e = .returned (.tuple #[.agg #[.int .i64 l, .int .i64 m], .bool ok]) ∧ Below W.heap.size W w') ∧
    (∀ W : World, Calls Tryd.prog 22 #[.agg c.arr, .int .i64 x] W fun e w' => e = .returned (.tuple #[.agg #[.int .i64 l, .int .i64 m], .bool ok]) ∧ Below W.heap.size W w') := by
  cases h : bOk c x
  · exact ⟨0, 0, false, fun W _ => lbnd_bad c x W h, fun W => (rbounds_any c x W).mono fun e w' ⟨he, hb⟩ => ⟨by rw [he, bnd_no h], hb⟩⟩
  · exact ⟨bLeast c x, bMost c x, true, fun W hT => lbnd_ok c x W hT h, fun W => (rbounds_any c x W).mono fun e w' ⟨he, hb⟩ => ⟨by rw [he, bnd_yes h], hb⟩⟩
set_option maxHeartbeats 1600000 in
set_option maxRecDepth 20000 in
theorem applies_bad (c : Cd) (d x : Int) (w : World) (he : ¬ c.err = 0) : Calls Tryd.prog 23 #[.agg c.arr, .int .i64 d, .int .i64 x] w fun e w' => e = .returned (.bool false) ∧ Below w.heap.size w w' := by
  have hB := bel1 (w := w) (o := .cells c.arr 32)
  have h0 := Blk.new w 32 c.arr
  have HA := hide (fun W => one_any c W)
  obtain ⟨E, hE⟩ : ∃ E, c.err = E := ⟨_, rfl⟩
  rw [hE] at HA
  have hne : (E == 0) = false := by rw [← hE]; simpa using he
  clear he hE
  obtain ⟨r, k, v, f, t, a, b⟩ := c
  unfold Cd.arr at hB HA h0 ⊢
  obtain ⟨⟨a0, a1, a2, a3, a4, a5, a6⟩, _⟩ := Blk.facts7 h0
  clear h0
  go_enter Tryd.func23, Tryd.ntmps23
  go_wp2_with fail
  generalize (w.alloc _) = w2 at *
  refine (HA.out _).mono ?_
  rintro e w3 ⟨rfl, hb1⟩
  have hB1 := hide (bthr hB hb1 hB.size)
  clear hB hb1 a0 a1 a2 a3 a4 a5 a6
  go_wp2
  go_ret
  exact ⟨rfl, hB1.out⟩
set_option maxHeartbeats 1600000 in
set_option maxRecDepth 20000 in
theorem rapplies_bad (c : Cd) (d x : Int) (w : World) (he : ¬ c.err = 0) : Calls Tryd.prog 24 #[.agg c.arr, .int .i64 d, .int .i64 x] w fun e w' => e = .returned (.bool false) ∧ Below w.heap.size w w' := by
  have hB := bel1 (w := w) (o := .cells c.arr 32)
  have h0 := Blk.new w 32 c.arr
  have HA := hide (fun W => rone_any c W)
  obtain ⟨E, hE⟩ : ∃ E, c.err = E := ⟨_, rfl⟩
  rw [hE] at HA
  have hne : (E == 0) = false := by rw [← hE]; simpa using he
  clear he hE
  obtain ⟨r, k, v, f, t, a, b⟩ := c
  unfold Cd.arr at hB HA h0 ⊢
  obtain ⟨⟨a0, a1, a2, a3, a4, a5, a6⟩, _⟩ := Blk.facts7 h0
  clear h0
  go_enter Tryd.func24, Tryd.ntmps24
  go_wp2_with fail
  generalize (w.alloc _) = w2 at *
  refine (HA.out _).mono ?_
  rintro e w3 ⟨rfl, hb1⟩
  have hB1 := hide (bthr hB hb1 hB.size)
  clear hB hb1 a0 a1 a2 a3 a4 a5 a6
  go_wp2
  go_ret
  exact ⟨rfl, hB1.out⟩
theorem app_both (c : Cd) (d x : Int) : ∃ ok : Bool, (∀ W : World, Calls Tryd.prog 23 #[.agg c.arr, .int .i64 d, .int .i64 x] W fun e w' => e = .returned (.bool ok) ∧ Below W.heap.size W w') ∧
    (∀ W : World, Calls Tryd.prog 24 #[.agg c.arr, .int .i64 d, .int .i64 x] W fun e w' => e = .returned (.bool ok) ∧ Below W.heap.size W w') := by
  by_cases he : c.err = 0
  · exact ⟨_, fun W => applies_ok c d x W he, fun W => rapplies_ok c d x W he⟩
  · exact ⟨false, fun W => applies_bad c d x W he, fun W => rapplies_bad c d x W he⟩
set_option maxHeartbeats 1600000 in
set_option maxRecDepth 20000 in
theorem active_bad (A : Option Addr) (n c : Nat) (cs : List Cd) (d lv : Int) (w : World) (hs : Sl w w.heap.size 7 A n c (cdCells cs)) (hbad : askE n cs d lv [] ≠ 0) :
    Calls Tryd.prog 17 #[.slice A n c, .int .i64 d, .int .i64 lv] w fun e w' => e = .returned (.tuple #[.slice none 0 0, .int .i64 (askE n cs d lv [])]) ∧ Below w.heap.size w w' := by
  have h3 := ((Blk.new w 22 #[.slice A n c]).alloc (.cells #[.int .i64 d] 3)).alloc (.cells #[.int .i64 lv] 3)
  have h4 := (Blk.new (w.alloc (.cells #[.slice A n c] 22)) 3 #[.int .i64 d]).alloc (.cells #[.int .i64 lv] 3)
  have h5 := Blk.new ((w.alloc (.cells #[.slice A n c] 22)).alloc (.cells #[.int .i64 d] 3)) 3 #[.int .i64 lv]
  have hB := ((bel1 (w := w) (o := .cells #[.slice A n c] 22)).alloc (by simp) (.cells #[.int .i64 d] 3)).alloc (by simp only [World.size_alloc]; omega) (.cells #[.int .i64 lv] 3)
  simp only [World.size_alloc] at h4 h5
  have hs2 := hs.thr hB
  have HK := hide (fun W h => asked_any A n c cs d lv none 0 0 [] W h (Sl.none_ _ _ _))
  generalize askE n cs d lv [] = E at *
  have hne : (E != 0) = true := by simpa using hbad
  clear hs hbad
  have c3 := h3.facts.1 0
  have c4 := h4.facts.1 0
  have c5 := h5.facts.1 0
  simp only [List.getElem?_toArray, List.getElem?_cons_zero] at c3 c4 c5
  clear h3 h4 h5
  go_enter Tryd.func17, Tryd.ntmps17
  go_wp2_with fail
  generalize (((w.alloc _).alloc _).alloc _) = w2 at *
  refine (HK.out w2 hs2).mono ?_
  rintro e w3 ⟨rfl, hb3⟩
  have hB3 := hide (bthr hB hb3 hB.size)
  clear hB hb3 hs2 c3 c4 c5 HK
  go_wp2
  go_ret2
  exact ⟨rfl, hB3.out⟩
set_option maxHeartbeats 1600000 in
set_option maxRecDepth 20000 in
theorem kept_bad (A : Option Addr) (n c : Nat) (cs : List Cd) (d lv bf rl : Int) (w : World) (hs : Sl w w.heap.size 7 A n c (cdCells cs)) (hbad : askE n cs d lv [bf, rl] ≠ 0) :
    Calls Tryd.prog 19 #[.slice A n c, .int .i64 d, .int .i64 lv, .int .i64 bf, .int .i64 rl] w fun e w' => e = .returned (.tuple #[.slice none 0 0, .slice none 0 0, .int .i64 (askE n cs d lv [bf, rl])]) ∧ Below w.heap.size w w' := by
  have hB := bel1 (w := w) (o := .cells #[.int .i64 bf, .int .i64 rl] 3)
  have hs1 := hs.thr hB
  have HF := hide (Sl.of_blkN (n := 2) (size := 1) (xs := ints [bf, rl]) (Blk.new w 3 #[.int .i64 bf, .int .i64 rl]) rfl rfl (by unfold maxLen; omega))
  have HK := hide (fun W h h2 => asked_any A n c cs d lv (some ⟨w.heap.size, 0, none⟩) 2 2 [bf, rl] W h h2)
  generalize askE n cs d lv [bf, rl] = E at *
  have hne : (E != 0) = true := by simpa using hbad
  clear hs hbad
  go_enter Tryd.func19, Tryd.ntmps19
  go_wp2_with fail
  generalize (w.alloc _) = w2 at *
  refine (HK.out w2 hs1 HF.out).mono ?_
  rintro e w3 ⟨rfl, hb3⟩
  have hB3 := hide (bthr hB hb3 hB.size)
  clear hB hb3 hs1 HF HK
  go_wp2
  go_ret3
  exact ⟨rfl, hB3.out⟩
theorem any2 {bf rl : Int} : ([bf, rl].any fun v => !wit v 1073741824) = false ↔ wit bf 1073741824 = true ∧ wit rl 1073741824 = true := by
  simp only [List.any_cons, List.any_nil, Bool.or_false]
  cases wit bf 1073741824 <;> cases wit rl 1073741824 <;> simp
theorem any2_t {bf rl : Int} (h : wit bf 1073741824 = false ∨ wit rl 1073741824 = false) : ([bf, rl].any fun v => !wit v 1073741824) = true := by
  simp only [List.any_cons, List.any_nil, Bool.or_false]
  rcases h with h | h <;> rw [h] <;> simp
theorem askE_nil' {n : Nat} {cs : List Cd} {d lv : Int} {zs : List Int} (h : askE n cs d lv [] ≠ 0) : askE n cs d lv zs = askE n cs d lv [] := by
  by_cases h0 : errA n cs = 0
  · have h1 : wit d 364 = false ∨ wit lv 16777216 = false := by
      cases hd : wit d 364
      · exact .inl rfl
      · cases hv : wit lv 16777216
        · exact .inr rfl
        · exact absurd (askE_ok h0 hd hv rfl) h
    rw [askE_one h0 (h1.imp id .inl), askE_one h0 (h1.imp id .inl)]
  · rw [askE_err h0, askE_err h0]
set_option maxHeartbeats 1600000 in
set_option maxRecDepth 20000 in
theorem rkept_bad (A : Option Addr) (n c : Nat) (cs : List Cd) (d lv bf rl : Int) (w : World) (hs : Sl w w.heap.size 7 A n c (cdCells cs)) (hbad : askE n cs d lv [bf, rl] ≠ 0) :
    Calls Tryd.prog 20 #[.slice A n c, .int .i64 d, .int .i64 lv, .int .i64 bf, .int .i64 rl] w fun e w' => e = .returned (.tuple #[.slice none 0 0, .slice none 0 0, .int .i64 (askE n cs d lv [bf, rl])]) ∧ Below w.heap.size w w' := by
  by_cases h0 : askE n cs d lv [] = 0
  · obtain ⟨ha, hd, hv, _⟩ := askE_zero h0
    obtain ⟨hn, hg⟩ := errA_zero ha
    have hb : wit bf 1073741824 = false ∨ wit rl 1073741824 = false := by
      cases h1 : wit bf 1073741824
      · exact .inl rfl
      · cases h2 : wit rl 1073741824
        · exact .inr rfl
        · exact absurd (askE_ok ha hd hv (any2.2 ⟨h1, h2⟩)) hbad
    rw [askE_one (d := d) (lv := lv) ha (.inr (.inr (any2_t hb)))]
    have HA := hide (ractive_ok A n c cs d lv w hn hg hd hv hs)
    clear h0 ha hd hv hn hg hbad hs
    cases h1 : wit bf 1073741824
    · have HW := hide h1
      clear h1 hb
      go_enter Tryd.func20, Tryd.ntmps20
      go_wp2_with fail
      refine HA.out.mono ?_
      rintro e w4 ⟨va, os, rfl, _, _, hb4⟩
      have HB := hide hb4
      clear hb4 HA
      go_wp2_with (go_at_call 47; refine (refIn_any _ _ _).mono ?_; rintro e w' ⟨rfl, rfl⟩; rw [HW.out])
      go_ret3
      exact ⟨rfl, HB.out⟩
    · have HW := hide h1
      have HV := hide (show wit rl 1073741824 = false from hb.resolve_left (by rw [h1]; simp))
      clear h1 hb
      go_enter Tryd.func20, Tryd.ntmps20
      go_wp2_with fail
      refine HA.out.mono ?_
      rintro e w4 ⟨va, os, rfl, _, _, hb4⟩
      have HB := hide hb4
      clear hb4 HA
      go_wp2_with (go_at_call 47; refine (refIn_any _ _ _).mono ?_; rintro e w' ⟨rfl, rfl⟩; first | rw [HW.out] | rw [HV.out])
      go_ret3
      exact ⟨rfl, HB.out⟩
  · rw [askE_nil' (zs := [bf, rl]) h0]
    have HA := hide (ractive_bad A n c cs d lv w hs h0)
    generalize askE n cs d lv [] = E at *
    have hne : (E != 0) = true := by simpa using h0
    clear h0 hbad hs
    go_enter Tryd.func20, Tryd.ntmps20
    go_wp2_with fail
    refine HA.out.mono ?_
    rintro e w4 ⟨rfl, hb4⟩
    have HB := hide hb4
    clear hb4 HA
    go_wp2
    go_ret3
    exact ⟨rfl, HB.out⟩
end Go.Proofs.YtegjihcokndemaaDoor
