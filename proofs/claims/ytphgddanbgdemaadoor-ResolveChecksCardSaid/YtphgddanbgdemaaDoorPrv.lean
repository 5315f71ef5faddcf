/-
  The contract of the reference's Proved at any choice. Conditions: each condition is valid, there are 200 at most, a valid level, release before and bounds, and that the lists can be read.
-/
import Derived.Test.YtphgddanbgdemaaDoorProg
import Derived.Test.YtphgddanbgdemaaDoorPva
import Derived.Test.YtphgddanbgdemaaDoorRkp
import Derived.Laws.OwnMore
namespace Go.Proofs.YtphgddanbgdemaaDoor
open Go.RowKit

/-- Block g holds n bools. -/
def BRow (w : World) (g n : Nat) (dr : Nat → Bool) : Prop := ∃ cur : Array Value, w.heap[g]? = some (.cells cur 4 (0, 0)) ∧ ∀ i, i < n → cur[i]? = some (.bool (dr i))
/-- Block g holds n integers. -/
def PRow (w : World) (g n : Nat) (f : Nat → Int) : Prop := ∃ cur : Array Value, w.heap[g]? = some (.cells cur 3 (0, 0)) ∧ ∀ i, i < n → cur[i]? = some (.int .i64 (f i))
section
variable {w w' : World} {g n : Nat} {dr : Nat → Bool} {f : Nat → Int}
theorem BRow.lt (h : BRow w g n dr) : g < w.heap.size := by
  obtain ⟨cur, h, _⟩ := h
  rcases Nat.lt_or_ge g w.heap.size with hlt | hge
  · exact hlt
  · rw [Array.getElem?_eq_none hge] at h; cases h
theorem PRow.lt (h : PRow w g n f) : g < w.heap.size := by
  obtain ⟨cur, h, _⟩ := h
  rcases Nat.lt_or_ge g w.heap.size with hlt | hge
  · exact hlt
  · rw [Array.getElem?_eq_none hge] at h; cases h
theorem BRow.cell (h : BRow w g n dr) {i : Nat} (hi : i < n) : w.cell? ⟨g, i, none⟩ = some (.bool (dr i)) := by
  obtain ⟨cur, h, hc⟩ := h
  simp [World.cell?, h, hc i hi]
theorem PRow.cell (h : PRow w g n f) {i : Nat} (hi : i < n) : w.cell? ⟨g, i, none⟩ = some (.int .i64 (f i)) := by
  obtain ⟨cur, h, hc⟩ := h
  simp [World.cell?, h, hc i hi]
theorem BRow.frozen (h : BRow w g n dr) (i : Nat) : w.frozen? ⟨g, i, none⟩ = false := by
  obtain ⟨cur, h, _⟩ := h
  simp [World.frozen?, h]
theorem PRow.frozen (h : PRow w g n f) (i : Nat) : w.frozen? ⟨g, i, none⟩ = false := by
  obtain ⟨cur, h, _⟩ := h
  simp [World.frozen?, h]
theorem BRow.keep (h : BRow w g n dr) (hk : w'.heap[g]? = w.heap[g]?) : BRow w' g n dr := by
  obtain ⟨cur, h, hc⟩ := h
  exact ⟨cur, hk.trans h, hc⟩
theorem PRow.keep (h : PRow w g n f) (hk : w'.heap[g]? = w.heap[g]?) : PRow w' g n f := by
  obtain ⟨cur, h, hc⟩ := h
  exact ⟨cur, hk.trans h, hc⟩
theorem BRow.set_ (h : BRow w g n dr) (j : Nat) : BRow (w.setCell ⟨g, j, none⟩ (.bool true)) g n (fun i => dr i || j == i) := by
  obtain ⟨cur, h, hc⟩ := h
  refine ⟨cur.setIfInBounds j (.bool true), by simp [World.setCell, Array.getElem?_modify, h], fun i hi => ?_⟩
  have h2 := hc i hi
  by_cases e : j = i
  · subst e
    have : j < cur.size := by
      rcases Nat.lt_or_ge j cur.size with h3 | h3
      · exact h3
      · rw [Array.getElem?_eq_none h3] at h2; cases h2
    simp [this]
  · simp [e, h2]
theorem PRow.set_ (h : PRow w g n f) (j : Nat) (v : Int) : PRow (w.setCell ⟨g, j, none⟩ (.int .i64 v)) g n (fun i => if i = j then v else f i) := by
  obtain ⟨cur, h, hc⟩ := h
  refine ⟨cur.setIfInBounds j (.int .i64 v), by simp [World.setCell, Array.getElem?_modify, h], fun i hi => ?_⟩
  have h2 := hc i hi
  by_cases e : i = j
  · subst e
    have : i < cur.size := by
      rcases Nat.lt_or_ge i cur.size with h3 | h3
      · exact h3
      · rw [Array.getElem?_eq_none h3] at h2; cases h2
    simp [this]
  · have e2 : ¬ j = i := fun h => e h.symm
    simp [e, e2, h2]
end
theorem make_bools (w : World) (n : Nat) (hn : n ≤ 4096) : ∃ w', (Instr.makeSlice 69 (.int .i64 (n : Int)) (.int .i64 (n : Int))).run Tryd.prog w = .ok (.slice (some ⟨w.heap.size, 0, none⟩) n n) w' ∧ BRow w' w.heap.size n (fun _ => false) ∧ w.grownBy w' none := by
  obtain ⟨i, hi, h1, h2, h3⟩ := info_parts (P := Tryd.prog) (e := 4) (z := .bool false) (size := 1) (bytes := 1) rfl
  obtain ⟨w', r1, r2, r3⟩ := run_make_full (P := Tryd.prog) w w.heap.size 69 4 i (.bool false) 1 (by kernel_rfl) hi h1 h2 .i64 .i64 n (by rw [h3]; omega) (by unfold maxLen; omega) (Nat.le_refl _)
  refine ⟨w', r1, ?_, r3⟩
  rcases r2.2 with ⟨h4, _⟩ | ⟨g', cap, cur, hv, hg, hh, h5, h6, h7, h8⟩
  · simp at h4
  · injection hv with e1 e2 e3
    injection e1 with e1
    injection e1 with e1
    subst e1
    refine ⟨cur, hh, fun j hj => ?_⟩
    have h9 : (madeCells #[.bool false] (n * 1)).toList = List.replicate n (.bool false) := by rw [toList_madeCells_one]; simp
    have h10 : cur.toList.take (n * 1) = List.replicate n (.bool false) := h8.trans h9
    have h11 : (cur.toList.take (n * 1))[j]? = some (.bool false) := by rw [h10]; simp [hj]
    rw [List.getElem?_take, if_pos (by omega)] at h11
    simpa using h11
theorem make_prow (w : World) (n : Nat) (hn : n ≤ 4096) : ∃ w', (Instr.makeSlice 27 (.int .i64 (n : Int)) (.int .i64 (n : Int))).run Tryd.prog w = .ok (.slice (some ⟨w.heap.size, 0, none⟩) n n) w' ∧ PRow w' w.heap.size n (fun _ => 0) ∧ w.grownBy w' none := by
  obtain ⟨i, hi, h1, h2, h3⟩ := info_parts (P := Tryd.prog) (e := 3) (z := .int .i64 0) (size := 1) (bytes := 8) rfl
  obtain ⟨w', r1, r2, r3⟩ := run_make_full (P := Tryd.prog) w w.heap.size 27 3 i (.int .i64 0) 1 (by kernel_rfl) hi h1 h2 .i64 .i64 n (by rw [h3]; omega) (by unfold maxLen; omega) (Nat.le_refl _)
  refine ⟨w', r1, ?_, r3⟩
  rcases r2.2 with ⟨h4, _⟩ | ⟨g', cap, cur, hv, hg, hh, h5, h6, h7, h8⟩
  · simp at h4
  · injection hv with e1 e2 e3
    injection e1 with e1
    injection e1 with e1
    subst e1
    refine ⟨cur, hh, fun j hj => ?_⟩
    have h9 : (madeCells #[.int .i64 0] (n * 1)).toList = List.replicate n (.int .i64 0) := by rw [toList_madeCells_one]; simp
    have h10 : cur.toList.take (n * 1) = List.replicate n (.int .i64 0) := h8.trans h9
    have h11 : (cur.toList.take (n * 1))[j]? = some (.int .i64 0) := by rw [h10]; simp [hj]
    rw [List.getElem?_take, if_pos (by omega)] at h11
    simpa using h11
theorem ract_eqP {cs : List Cd} {d lv : Int} {n : Nat} {os : List Int} (ho : OrdOf cs n os) (hn : n = cs.length) : ractL cs d lv os = actC cs d lv := by
  have e : os = ordC cs := ordC_one hn ho.2 (ho.1.imp fun {x y} h => h)
  rw [e]
  unfold actC ractL keepL
  refine List.filter_congr fun x hx => ?_
  obtain ⟨h0, h1⟩ := ordC_mem x hx
  have hl : x.toNat < cs.length := by omega
  unfold appC apyB
  simp [List.getD_eq_getElem?_getD, hl]
theorem posN_append {v x : Int} : ∀ (a : List Int) (k : Nat), posN v (a ++ [x]) k = if v ∈ a then posN v a k else if x = v then ((k + a.length : Nat) : Int) else -1
  | [], k => by simp [posN]
  | y :: t, k => by
    show (if y = v then (k : Int) else posN v (t ++ [x]) (k + 1)) = if v ∈ y :: t then (if y = v then (k : Int) else posN v t (k + 1)) else if x = v then ((k + (y :: t).length : Nat) : Int) else -1
    by_cases e : y = v
    · subst e; simp
    · rw [if_neg e, posN_append t (k + 1), if_neg e]
      by_cases hm : v ∈ t
      · rw [if_pos hm, if_pos (List.mem_cons_of_mem _ hm)]
      · have hm2 : v ∉ y :: t := fun h => by
          rcases List.mem_cons.1 h with h | h
          · exact e h.symm
          · exact hm h
        rw [if_neg hm, if_neg hm2, List.length_cons, show k + 1 + t.length = k + (t.length + 1) by omega]
theorem posN_snoc {v : Int} {xs : List Int} {k : Nat} (hn : xs.Nodup) (h : k < xs.length) : posN v (xs.take (k + 1)) 0 = if v = xs.getD k 0 then (k : Int) else posN v (xs.take k) 0 := by
  have e : xs.getD k 0 = xs[k] := by simp [List.getD_eq_getElem?_getD, h]
  rw [List.take_succ_eq_append_getElem h, posN_append, e]
  have hl : (xs.take k).length = k := by rw [List.length_take]; omega
  by_cases hv : v = xs[k]
  · have hnm : v ∉ xs.take k := by
      intro hm
      obtain ⟨j, hj, ej⟩ := List.getElem_of_mem hm
      rw [List.length_take] at hj
      rw [List.getElem_take, hv] at ej
      have := nodup_inj hn (i := j) (j := k) (by omega) h ej
      omega
    rw [if_neg hnm, if_pos hv.symm, if_pos hv, hl, Nat.zero_add]
  · rw [if_neg hv]
    by_cases hm : v ∈ xs.take k
    · rw [if_pos hm]
    · rw [if_neg hm, if_neg (fun e => hv e.symm), posN_none _ _ hm]
theorem mem_kept {cs : List Cd} {d lv bf rl x : Int} : x ∈ keptL cs d lv bf rl ↔ x ∈ actC cs d lv ∧ x ∉ violL cs d lv bf rl := by
  unfold keptL violL keepL
  simp only [List.mem_filter]
  constructor
  · rintro ⟨h1, h2⟩
    refine ⟨h1, fun h => ?_⟩
    simp at h2 h
    rw [h2] at h
    cases h.2
  · rintro ⟨h1, h2⟩
    refine ⟨h1, ?_⟩
    simp at h2 ⊢
    exact h2 h1
theorem BRow.below {w w' : World} {g n : Nat} {dr : Nat → Bool} (h : BRow w g n dr) (hb : Below w.heap.size w w') : BRow w' g n dr := h.keep (hb.block g h.lt)
theorem PRow.below {w w' : World} {g n : Nat} {f : Nat → Int} (h : PRow w g n f) (hb : Below w.heap.size w w') : PRow w' g n f := h.keep (hb.block g h.lt)
/-- the two tables of the call: who was seen, and who stands where -/
structure PvS (w4 : World) (gs n : Nat) (dr : Nat → Bool) (f : Nat → Int) (W : World) : Prop where
  seen : BRow W gs n dr
  place : PRow W w4.heap.size n f
  bel : Below w4.heap.size w4 W
  ne : w4.heap.size < gs
theorem PvS.below {w4 W W' : World} {gs n : Nat} {dr : Nat → Bool} {f : Nat → Int} (h : PvS w4 gs n dr f W) (hb : Below W.heap.size W W') : PvS w4 gs n dr f W' :=
  ⟨h.seen.below hb, h.place.below hb, bthr h.bel hb h.bel.size, h.ne⟩
theorem PvS.mark {w4 W : World} {gs n : Nat} {dr : Nat → Bool} {f : Nat → Int} (h : PvS w4 gs n dr f W) (p : Nat) : PvS w4 gs n (fun i => dr i || p == i) f (W.setCell ⟨gs, p, none⟩ (.bool true)) :=
  ⟨h.seen.set_ p, h.place.keep (Below.heap_setCell W ⟨gs, p, none⟩ _ _ (by have := h.ne; simp only; omega)), h.bel.setCell (p := ⟨gs, p, none⟩) (Nat.le_of_lt h.ne) _, h.ne⟩
theorem PvS.far {w4 W : World} {gs n : Nat} {dr : Nat → Bool} {f : Nat → Int} (h : PvS w4 gs n dr f W) {g : Nat} (i : Nat) (hg : w4.heap.size < g) (hne : g ≠ gs) (u : Value) : PvS w4 gs n dr f (W.setCell ⟨g, i, none⟩ u) :=
  ⟨h.seen.keep (Below.heap_setCell W ⟨g, i, none⟩ _ _ (by simp only; omega)), h.place.keep (Below.heap_setCell W ⟨g, i, none⟩ _ _ (by simp only; omega)), h.bel.setCell (p := ⟨g, i, none⟩) (Nat.le_of_lt hg) _, h.ne⟩
theorem met_noV {a0 a1 b0 b1 : Int} (h : metOk a0 a1 b0 b1 = false) : metVal a0 a1 b0 b1 = .tuple #[.agg #[.int .i64 0, .int .i64 0], .bool false] := by
  unfold metVal; rw [h]; rfl
theorem met_yesV {a0 a1 b0 b1 : Int} (h : metOk a0 a1 b0 b1 = true) : ∃ x y : Int, metVal a0 a1 b0 b1 = .tuple #[.agg #[.int .i64 x, .int .i64 y], .bool true] := by
  unfold metVal; rw [h]; exact ⟨_, _, rfl⟩
theorem mem_snocP {zs : List Int} {x : Int} {k : Nat} (hk : k < zs.length) : x ∈ zs.take (k + 1) ↔ x ∈ zs.take k ∨ x = zs.getD k 0 := by
  rw [List.take_succ_eq_append_getElem hk, List.mem_append, List.mem_singleton]
  simp [List.getD_eq_getElem?_getD, hk]
set_option maxRecDepth 20000 in
theorem has_any (A : Option Addr) (n c : Nat) (zs : List Int) (x : Int) (w : World) (hs : Sl w w.heap.size 1 A n c (ints zs)) :
    Calls Tryd.prog 34 #[.slice A n c, .int .i64 x] w fun e w' => e = .returned (.bool (decide (x ∈ zs))) ∧ w = w' := by
  have hl : n = zs.length := by have := hs.1; rw [ints_length] at this; omega
  have hm : n ≤ 9223372036854775807 := by have a1 := hs.2.1; have a2 := hs.2.2.1; unfold maxLen at a2; omega
  have HL := hide hl
  have HS := hide hs
  clear hl hs
  go_enter Tryd.func34, Tryd.ntmps34
  go_wp2
  go_loop [9] (fun i => ∃ k : Nat, k ≤ n ∧ i = .int .i64 k ∧ Hid (x ∉ zs.take k)) (fun i => n - (intOf i).toNat)
  case atStart => exact ⟨0, by omega, rfl, by simp [Hid]⟩
  case round =>
    obtain ⟨k, hk, rfl, hno⟩ := hrel
    by_cases hlt : k < n
    · obtain ⟨b, o, rfl, hb, hc⟩ := HS.out.at_ hlt
      have hlz := HL.out
      have hx := hc k _ (ints_get zs k (by omega))
      have HN := hide (mem_snocP (zs := zs) (x := x) (show k < zs.length by omega))
      have HM := hide (fun (e : x = zs.getD k 0) => show x ∈ zs from List.mem_of_mem_take ((mem_snocP (zs := zs) (x := x) (show k < zs.length by omega)).2 (.inr e)))
      clear hc hlz
      generalize zs.getD k 0 = v at *
      by_cases he : x = v
      · have HM2 := hide (HM.out he)
        have he2 : (x == v) = true := by rw [he]; exact beq_self_eq_true v
        clear HM HN he
        go_wp2
        go_ret
        exact ⟨ret_bool (by rw [decide_eq_true HM2.out]), rfl⟩
      · have HN2 := hide (show x ∉ zs.take (k + 1) from fun h => (HN.out.1 h).elim hno.out he)
        have he2 : (x == v) = false := beq_false_of_ne he
        clear HM HN he
        go_wp2
        go_round
        case rel => exact ⟨k + 1, by omega, by go_num, HN2⟩
        case measure => simp [intOf]; omega
    · obtain rfl : k = n := by omega
      have hno2 := hno.out
      rw [List.take_of_length_le (by have := HL.out; omega)] at hno2
      have HN := hide hno2
      clear hno2
      go_wp2
      go_ret
      exact ⟨ret_bool (by rw [decide_eq_false HN.out]), rfl⟩
set_option maxHeartbeats 3200000 in
set_option maxRecDepth 20000 in
theorem rproved_bad (A B : Option Addr) (n c m c2 : Nat) (cs : List Cd) (d lv bf g0 g1 rl lo hi : Int) (w : World) (hne : ¬ chE n cs d lv bf g0 g1 0 = 0) (hs : Sl w w.heap.size 7 A n c (cdCells cs)) :
    Calls Tryd.prog 12 #[.slice A n c, .int .i64 d, .int .i64 lv, .int .i64 bf, .agg #[.int .i64 g0, .int .i64 g1], .agg #[.int .i64 rl, .int .i64 lo, .int .i64 hi, .slice B m c2]] w fun e w' => e = .returned (.bool false) ∧ Below w.heap.size w w' := by
  have q0 := (Blk.new w 23 #[.int .i64 g0, .int .i64 g1]).alloc (.cells #[.int .i64 rl, .int .i64 lo, .int .i64 hi, .slice B m c2] 26)
  have hB := (bel1 (w := w) (o := .cells #[.int .i64 g0, .int .i64 g1] 23)).alloc (by simp) (.cells #[.int .i64 rl, .int .i64 lo, .int .i64 hi, .slice B m c2] 26)
  have hs1 := hs.thr hB
  have HA := hide (fun W hs2 => rwrong_any A n c cs d lv bf g0 g1 0 W hs2)
  generalize chE n cs d lv bf g0 g1 0 = E at *
  have hne2 : (E != 0) = true := by simpa using hne
  clear hs hne
  obtain ⟨y0, y1, _⟩ := q0.facts2
  clear q0
  go_enter Tryd.func12, Tryd.ntmps12
  go_wp2_with fail
  generalize ((w.alloc _).alloc _) = w1 at *
  refine (HA.out w1 hs1).mono ?_
  rintro e w2 ⟨rfl, hb2⟩
  have HB2 := hide (bthr hB hb2 hB.size)
  clear hB hb2 hs1 y0 y1 HA
  go_wp2
  go_ret
  exact ⟨rfl, HB2.out⟩
set_option maxHeartbeats 6400000 in
set_option maxRecDepth 20000 in
theorem rproved_any (A B : Option Addr) (n c m c2 : Nat) (cs : List Cd) (ys : List (Int × Int)) (d lv bf g0 g1 rl lo hi : Int) (w : World) (hn : n ≤ 200) (hg : ∀ x ∈ cs, x.err = 0) (hd : wit d 364 = true) (hv : wit lv 16777216 = true) (hbf : wit bf 1073741824 = true) (h0 : wit g0 1073741824 = true) (h1 : wit g1 1073741824 = true) (hgg : g0 ≤ g1)
    (hs : Sl w w.heap.size 7 A n c (cdCells cs)) (hy : Sl w w.heap.size 2 B m c2 (yCells ys)) :
    Calls Tryd.prog 12 #[.slice A n c, .int .i64 d, .int .i64 lv, .int .i64 bf, .agg #[.int .i64 g0, .int .i64 g1], .agg #[.int .i64 rl, .int .i64 lo, .int .i64 hi, .slice B m c2]] w fun e w' => e = .returned (.bool (prvB cs d lv bf g0 g1 rl ys)) ∧ Below w.heap.size w w' := by
  have hl : n = cs.length := by have := hs.1; rw [cdCells_length] at this; omega
  have hm : m = ys.length := by have := hy.1; rw [yCells_len] at this; omega
  have hbf2 := wit_iff.1 hbf
  have h02 := wit_iff.1 h0
  have h12 := wit_iff.1 h1
  have q0 := (Blk.new w 23 #[.int .i64 g0, .int .i64 g1]).alloc (.cells #[.int .i64 rl, .int .i64 lo, .int .i64 hi, .slice B m c2] 26)
  have q1 := Blk.new (w.alloc (.cells #[.int .i64 g0, .int .i64 g1] 23)) 26 #[.int .i64 rl, .int .i64 lo, .int .i64 hi, .slice B m c2]
  rw [World.size_alloc] at q1
  have hB := (bel1 (w := w) (o := .cells #[.int .i64 g0, .int .i64 g1] 23)).alloc (by simp) (.cells #[.int .i64 rl, .int .i64 lo, .int .i64 hi, .slice B m c2] 26)
  have hs1 := hs.thr hB
  have HY1 := hide (hy.thr hB)
  have HL := hide hl
  have HM := hide hm
  have HG := hide hg
  have HA := hide (fun W hs2 => rwrong_ok A n c cs d lv bf g0 g1 0 W hn hg hd hv hbf (by decide) h0 h1 hgg hs2)
  have HAC := hide (fun W hs2 => ractive_ok A n c cs d lv W hn hg hd hv hs2)
  have HKP := hide (fun (hr : g0 ≤ rl ∧ rl ≤ g1) W hs2 => rkept_ok A n c cs d lv bf rl W hn hg hd hv hbf2 (by omega) hs2)
  have HBO := hide (fun (W : World) (r k v f t x y : Int) (he : Cd.err ⟨r, k, v, f, t, x, y⟩ = 0) => show Calls Tryd.prog 21 #[.agg #[.int .i64 r, .int .i64 k, .int .i64 v, .int .i64 f, .int .i64 t, .int .i64 x, .int .i64 y], .int .i64 bf] W fun e w' => e = .returned (.tuple #[.agg #[.int .i64 (bLeast ⟨r, k, v, f, t, x, y⟩ bf), .int .i64 (bMost ⟨r, k, v, f, t, x, y⟩ bf)], .bool true]) ∧ Below W.heap.size W w' from
    (rbounds_any ⟨r, k, v, f, t, x, y⟩ bf W).mono fun e w' ⟨he2, hb⟩ => ⟨by rw [he2, bnd_yes (by unfold bOk; rw [hbf, he]; rfl)], hb⟩)
  have hm63 : m ≤ 9223372036854775807 := by have a1 := hy.2.1; have a2 := hy.2.2.1; unfold maxLen at a2; omega
  obtain ⟨R, hR⟩ : ∃ R, prvB cs d lv bf g0 g1 rl ys = R := ⟨_, rfl⟩
  rw [hR]
  have HF1 := hide (fun h => hR.symm.trans (prv_1 (d := d) (lv := lv) (cs := cs) (bf := bf) (g1 := g1) (ys := ys) (rl := rl) (g0 := g0) h))
  have HF2 := hide (fun h => hR.symm.trans (prv_2 (d := d) (lv := lv) (cs := cs) (bf := bf) (g0 := g0) (ys := ys) (rl := rl) (g1 := g1) h))
  have HF3 := hide (fun h => hR.symm.trans (prv_3 (d := d) (lv := lv) (cs := cs) (bf := bf) (g0 := g0) (g1 := g1) (ys := ys) (rl := rl) h))
  have HF4 := hide (fun ha hb h => hR.symm.trans (prv_4 (d := d) (lv := lv) (cs := cs) (bf := bf) (g0 := g0) (g1 := g1) (ys := ys) (rl := rl) ha hb h))
  have HNN := hide (act_nodup cs d lv)
  clear hm hg hd hv hbf h0 h1 hs hy hbf2 h02 h12 hR hl
  obtain ⟨y0, y1, _⟩ := q0.facts2
  obtain ⟨z0, z1, z2, z3, _⟩ := q1.facts4
  go_enter Tryd.func12, Tryd.ntmps12
  go_wp2_with fail
  generalize ((w.alloc _).alloc _) = w1 at *
  refine (HA.out w1 hs1).mono ?_
  rintro e w2 ⟨rfl, hb2⟩
  have hB2 := bthr hB hb2 hB.size
  replace q0 := q0.below hb2 q0.lt
  replace q1 := q1.below hb2 q1.lt
  have hs2 := hs1.thr hb2
  have HY2 := hide (HY1.out.thr hb2)
  clear hB hs1 hb2 HA HY1 y0 y1 z0 z1 z2 z3
  obtain ⟨y0, y1, _⟩ := q0.facts2
  obtain ⟨z0, z1, z2, z3, _⟩ := q1.facts4
  by_cases hr0 : rl < g0
  · have HX := hide (HF1.out hr0)
    have HB2 := hide hB2
    clear hB2
    go_wp2
    go_ret
    exact ⟨ret_bool HX.out.symm, HB2.out⟩
  by_cases hr1 : g1 < rl
  · have HX := hide (HF2.out hr1)
    have HB2 := hide hB2
    clear hB2
    go_wp2
    go_ret
    exact ⟨ret_bool HX.out.symm, HB2.out⟩
  have hr2 : g0 ≤ rl ∧ rl ≤ g1 := by omega
  have HF5 := hide (HF4.out hr2.1 hr2.2)
  have HKQ := hide (HKP.out hr2)
  clear HF1 HF2 HF4 HKP hr2
  go_wp2_with fail
  refine (HKQ.out w2 hs2).mono ?_
  rintro e w3 ⟨A4, c4, A5, c5, os, hos, rfl, hk3, hv3, hb3⟩
  rw [ract_eqP hos HL.out] at hk3 hv3
  simp only [ract_eqP hos HL.out]
  have ek : keepL (fun i => !kepC cs bf rl i) (actC cs d lv) = keptL cs d lv bf rl := rfl
  have ev : keepL (fun i => kepC cs bf rl i) (actC cs d lv) = violL cs d lv bf rl := rfl
  rw [ek] at hk3
  rw [ev] at hv3
  simp only [ek, ev]
  have HMK := hide (fun (x : Int) => mem_kept (cs := cs) (d := d) (lv := lv) (bf := bf) (rl := rl) (x := x))
  have HVA := hide (fun (x : Int) (h : x ∈ violL cs d lv bf rl) => viol_act h)
  have HAI := hide (fun (x : Int) (h : x ∈ actC cs d lv) => act_in (cs := cs) (d := d) (lv := lv) x h)
  have HVL := hide (show (violL cs d lv bf rl).length ≤ 200 by
    have e1 := keepL_le (fun i => kepC cs bf rl i) (actC cs d lv)
    have e2 := keepL_le (fun i => !appC cs d lv i) (ordC cs)
    rw [ordC_length] at e2
    have e3 := HL.out
    unfold violL
    unfold actC at e1 ⊢
    omega)
  have HALE := hide (show (actC cs d lv).length ≤ 200 by
    have e2 := keepL_le (fun i => !appC cs d lv i) (ordC cs)
    rw [ordC_length] at e2
    have e3 := HL.out
    unfold actC
    omega)
  have hB3 := bthr hB2 hb3 hB2.size
  replace q0 := q0.below hb3 q0.lt
  replace q1 := q1.below hb3 q1.lt
  have hs3 := hs2.thr hb3
  have HY3 := hide (HY2.out.thr hb3)
  have HK3 := hide hk3
  have HV3 := hide hv3
  have HAC2 := hide (fun (W : World) hs2 => (HAC.out W hs2).mono fun (e : Ending) (w' : World) ⟨v, os, he, ho, hv, hb⟩ => show ∃ v, e = Ending.returned (.tuple #[v, .int .i64 0]) ∧ w'.ownsRow W.heap.size 3 1 v (actC cs d lv).length (ints (actC cs d lv)) ∧ Below W.heap.size W w' from by
    rw [ract_eqP ho HL.out] at hv
    exact ⟨v, he, hv, hb⟩)
  clear hB2 hs2 hb3 HY2 HKQ hos hk3 hv3 ek ev HAC y0 y1 z0 z1 z2 z3
  generalize violL cs d lv bf rl = vs at *
  generalize keptL cs d lv bf rl = ks at *
  generalize actC cs d lv = acs at *
  obtain ⟨vl, hvl⟩ : ∃ vl, vl = vs.length := ⟨_, rfl⟩
  rw [← hvl] at HV3 HVL HF5 HF3 ⊢
  obtain ⟨lk, hlk⟩ : ∃ lk, lk = ks.length := ⟨_, rfl⟩
  rw [← hlk] at HK3 ⊢
  obtain ⟨la, hla⟩ : ∃ la, la = acs.length := ⟨_, rfl⟩
  rw [← hla] at HAC2 HALE
  have HLA := hide hla
  rw [← HM.out] at HF5 HF3
  clear hvl hlk hla
  obtain ⟨y0, y1, _⟩ := q0.facts2
  obtain ⟨z0, z1, z2, z3, _⟩ := q1.facts4
  by_cases hlen : vl = m
  · have HLEN := hide hlen
    have HYS := hide (HF5.out hlen)
    have hm200 : m ≤ 200 := by have := HVL.out; omega
    have hli : (vl : Int) = (m : Int) := by omega
    have hlb : ((vl : Int) != (m : Int)) = false := by simpa using hli
    have HEND := hide (fun (h : ∀ j (hj : j < ys.length), yOk cs bf g0 g1 acs vs (fsts (ys.take j)) ys[j] = true) => show R = true from HYS.out.trans (ysOk_good h))
    have HBADS := hide (fun (k : Nat) (h : k < ys.length) (y : Int × Int) (e : ys[k] = y) (hy : yOk cs bf g0 g1 acs vs (fsts (ys.take k)) y = false) => show R = false from HYS.out.trans (ysOk_bad h e hy))
    clear hlen hli HF5 HF3 HYS
    go_wp2_with fail
    refine (HAC2.out w3 hs3).mono ?_
    rintro e w4 ⟨va, rfl, ha, hb4⟩
    obtain ⟨Aa, ca, rfl, hsa⟩ := own_sl ha
    have hB4 := bthr hB3 hb4 hB3.size
    have hs4 := hs3.thr hb4
    have HY4 := hide (HY3.out.thr hb4)
    have HK4 := hide (HK3.out.thr hb4)
    have HV4 := hide (HV3.out.thr hb4)
    have HA4 := hide hsa
    replace q0 := q0.below hb4 q0.lt
    replace q1 := q1.below hb4 q1.lt
    clear ha hsa hb4 hB3 hs3 HY3 HK3 HV3 HAC2 y0 y1 z0 z1 z2 z3
    obtain ⟨w5, hmk, hpr, hg5⟩ := make_prow w4 n (by omega)
    have hB5 : Below w4.heap.size w4 w5 := (Below.refl w4.heap.size w4).grown hg5 (Nat.le_refl _) (fun k hk => by cases hk)
    have HQ0 := hide q0
    have HQ1 := hide q1
    have HS4 := hide hs4
    have HB4 := hide hB4
    clear hg5 hs4 hB4 q0 q1
    go_wp2_with fail
    clear hmk
    go_loopw [84] (fun vi wr => ∃ k : Nat, k ≤ n ∧ vi = .int .i64 k ∧ (∃ f : Nat → Int, PRow wr w4.heap.size n f ∧ Hid (∀ j, j < k → f j = -1)) ∧ Below w4.heap.size w4 wr) (fun vi _ => n - (intOf vi).toNat)
    case atStart => exact ⟨0, by omega, rfl, ⟨_, hpr, hide (fun j h => by omega)⟩, hB5⟩
    case round =>
      clear hpr hB5
      obtain ⟨k, hk, rfl, ⟨f, hpr, HF⟩, hb⟩ := hrel
      rename World => wr
      by_cases hlt : k < n
      · have hki : (k : Int) < (n : Int) := by omega
        have hki0 : (0 : Int) ≤ (k : Int) := by omega
        have t0 := hpr.cell hlt
        have t1 := hpr.frozen k
        have HP2 := hide (hpr.set_ k (-1))
        have HB2 := hide (hb.setCell (p := ⟨w4.heap.size, k, none⟩) (Nat.le_refl _) (.int .i64 (-1)))
        have HF2 := hide (show ∀ j, j < k + 1 → (fun i => if i = k then (-1 : Int) else f i) j = -1 from fun j hj => by
          by_cases e : j = k
          · simp [e]
          · simp [e]; exact HF.out j (by omega))
        clear hpr hb HF
        go_wp2
        go_roundw
        case rel => exact ⟨k + 1, by omega, by go_num, ⟨_, HP2.out, HF2⟩, HB2.out⟩
        case measure => simp [intOf]; omega
      · obtain rfl : k = n := by omega
        have hla200 := HALE.out
        have HPR := hide hpr
        have HF0 := hide (show ∀ j, j < k → f j = posN (j : Int) (acs.take 0) 0 from fun j hj => by rw [HF.out j hj]; rfl)
        have HBX := hide hb
        clear hpr hb HF
        go_wp2_with fail
        go_loopw [93] (fun vi wr => ∃ i : Nat, i ≤ la ∧ vi = .int .i64 i ∧ (∃ f : Nat → Int, PRow wr w4.heap.size k f ∧ Hid (∀ j, j < k → f j = posN (j : Int) (acs.take i) 0)) ∧ Below w4.heap.size w4 wr) (fun vi _ => la - (intOf vi).toNat)
        case atStart => exact ⟨0, by omega, rfl, ⟨f, HPR.out, HF0⟩, HBX.out⟩
        case round =>
          clear HPR HF0 HBX
          obtain ⟨i, hi, rfl, ⟨f, hpr, HF⟩, hb⟩ := hrel
          rename World => wr
          by_cases hlt2 : i < la
          · have hii : (i : Int) < (la : Int) := by omega
            have hii0 : (0 : Int) ≤ (i : Int) := by omega
            obtain ⟨bo, oo, rfl, _, hco⟩ := (HA4.out.below hb).at_ hlt2
            have hLA := HLA.out
            have e0 := hco i _ (ints_get acs i (by omega))
            have hxin := HAI.out (acs.getD i 0) (by rw [List.getD_eq_getElem?_getD, List.getElem?_eq_getElem (by omega)]; exact List.getElem_mem _)
            obtain ⟨x, hx⟩ : ∃ x : Nat, acs.getD i 0 = (x : Int) := ⟨(acs.getD i 0).toNat, by omega⟩
            rw [hx] at e0 hxin
            have hxn : x < k := by have := HL.out; omega
            have hxi : (x : Int) < (k : Int) := by omega
            have hxi0 : (0 : Int) ≤ (x : Int) := by omega
            have t0 := hpr.cell hxn
            have t1 := hpr.frozen x
            have HP2 := hide (hpr.set_ x (i : Int))
            have HB2 := hide (hb.setCell (p := ⟨w4.heap.size, x, none⟩) (Nat.le_refl _) (.int .i64 (i : Int)))
            have HF2 := hide (show ∀ j, j < k → (fun q => if q = x then (i : Int) else f q) j = posN (j : Int) (acs.take (i + 1)) 0 from fun j hj => by
              rw [posN_snoc HNN.out (by omega), hx]
              by_cases e : j = x
              · simp [e]
              · have e2 : ¬ ((j : Int) = (x : Int)) := by omega
                rw [if_neg e2]
                simp only [if_neg e]
                exact HF.out j hj)
            clear hpr hb HF hco hLA hxin hx
            go_wp2
            go_roundw
            case rel => exact ⟨i + 1, by omega, by go_num, ⟨_, HP2.out, HF2⟩, HB2.out⟩
            case measure => simp [intOf]; omega
          · obtain rfl : i = la := by omega
            have HF3 := hide (show ∀ j, j < k → f j = posN (j : Int) acs 0 from fun j hj => by
              have := HF.out j hj
              rwa [List.take_of_length_le (by have := HLA.out; omega)] at this)
            obtain ⟨w6, hmk, hbr, hg6⟩ := make_bools wr k (by omega)
            have hB6 : Below wr.heap.size wr w6 := (Below.refl wr.heap.size wr).grown hg6 (Nat.le_refl _) (fun k hk => by cases hk)
            have hpl := hpr.lt
            have hb6 := bthr hb hB6 hb.size
            have HP6 := hide (hpr.keep (hB6.block _ hpl))
            have hgg : w4.heap.size ≠ wr.heap.size := by omega
            have hg4 : w4.heap.size ≤ wr.heap.size := by omega
            generalize wr.heap.size = gs at *
            have HPS := hide (show PvS w4 gs k (fun _ => false) f w6 from ⟨hbr, HP6.out, hb6, by omega⟩)
            have hgs6 : gs < w6.heap.size := hbr.lt
            obtain ⟨z0, z1, z2, z3, _⟩ := (HQ1.out.below hb6 HQ1.out.lt).facts4
            clear hpr hb HF hg6 hb6 hB6 HA4 hbr HP6
            go_wp2_with fail
            clear hmk z0 z1 z2 z3
            have HFP := hide HF3
            clear HF3
            go_loopw [109] (fun vi wr => ∃ q : Nat, q ≤ m ∧ vi = .int .i64 q ∧ (∃ dr : Nat → Bool, PvS w4 gs k dr f wr ∧ Hid (∀ j, j < k → dr j = decide ((j : Int) ∈ fsts (ys.take q)))) ∧ Hid (∀ j (hj : j < ys.length), j < q → yOk cs bf g0 g1 acs vs (fsts (ys.take j)) ys[j] = true)) (fun vi _ => m - (intOf vi).toNat)
            case atStart => exact ⟨0, by omega, rfl, ⟨_, HPS.out, hide (fun j _ => by simp [fsts])⟩, hide (fun j _ h => by omega)⟩
            case round =>
              obtain ⟨q, hq, rfl, ⟨dr, hps, HDR⟩, HPRE⟩ := hrel
              rename World => wr2
              by_cases hlt3 : q < m
              · have hM := HM.out
                have hqi : (q : Int) < (m : Int) := by omega
                have hqi0 : (0 : Int) ≤ (q : Int) := by omega
                obtain ⟨b2, o2, rfl, _, hyc⟩ := (HY4.out.below hps.bel).at_ hlt3
                rcases ey : ys[q]'(by omega) with ⟨i0, by0⟩
                obtain ⟨x0, x1⟩ := y_cells hyc (by omega) ey
                have HBAD := hide (HBADS.out q (by omega) (i0, by0) ey)
                have HGOOD := hide (fun (h : yOk cs bf g0 g1 acs vs (fsts (ys.take q)) (i0, by0) = true) => show ∀ j (hj : j < ys.length), j < q + 1 → yOk cs bf g0 g1 acs vs (fsts (ys.take j)) ys[j] = true from fun j hj hjk => by
                  by_cases e : j = q
                  · subst e; rw [ey]; exact h
                  · exact HPRE.out j hj (by omega))
                have HSNOC := hide (fsts_snocA (show q < ys.length by omega) ey)
                have q5 := Blk.new wr2 49 #[.int .i64 i0, .int .i64 by0]
                have HPV := hide (hps.below (bel1 (w := wr2) (o := .cells #[.int .i64 i0, .int .i64 by0] 49)))
                have hgsw : gs < wr2.heap.size := hps.seen.lt
                have hgg := hps.ne
                clear hyc ey hM hps HPRE
                go_upto_region 22 with fail
                clear x0 x1
                generalize wr2.alloc _ = w7 at *
                generalize wr2.heap.size = g7 at *
                obtain ⟨x0, x1, _⟩ := q5.facts2
                by_cases h1 : i0 < 0
                · have HX := hide (HBAD.out (yOk_1 (fun hin => by have := HAI.out i0 (HVA.out i0 hin); omega)))
                  have HBZ := hide (bthr HB4.out HPV.out.bel HB4.out.size)
                  go_wp2
                  go_ret
                  exact ⟨ret_bool HX.out.symm, HBZ.out⟩
                by_cases h2 : (k : Int) ≤ i0
                · have HX := hide (HBAD.out (yOk_1 (fun hin => by have := HAI.out i0 (HVA.out i0 hin); have := HL.out; omega)))
                  have HBZ := hide (bthr HB4.out HPV.out.bel HB4.out.size)
                  go_wp2
                  go_ret
                  exact ⟨ret_bool HX.out.symm, HBZ.out⟩
                obtain ⟨p, rfl⟩ : ∃ p : Nat, i0 = (p : Int) := ⟨i0.toNat, by omega⟩
                have hpk : p < k := by omega
                have hpi : (p : Int) < (k : Int) := by omega
                have hpi0 : (0 : Int) ≤ (p : Int) := by omega
                have hdp := HDR.out p hpk
                have c0 := HPV.out.seen.cell hpk
                clear h1 h2
                cases hdr : dr p
                · have HNS := hide (of_decide_eq_false (hdp.symm.trans hdr))
                  rw [hdr] at c0
                  clear hdp hdr
                  go_wp2_with fail
                  refine (has_any _ _ _ _ _ _ (HV4.out.thr HPV.out.bel)).mono ?_
                  rintro e w' ⟨rfl, rfl⟩
                  cases hc1 : decide ((p : Int) ∈ vs)
                  · have HX := hide (HBAD.out (yOk_1 (of_decide_eq_false hc1)))
                    have HBZ := hide (bthr HB4.out HPV.out.bel HB4.out.size)
                    clear hc1
                    go_wp2
                    go_ret
                    exact ⟨ret_bool HX.out.symm, HBZ.out⟩
                  · have HIN := hide (of_decide_eq_true hc1)
                    have hL := HL.out
                    rcases ep : cs[p]'(by omega) with ⟨r, kd, vv, ff, t, x, y⟩
                    have hek := HG.out _ (List.getElem_mem (show p < cs.length by omega))
                    rw [ep] at hek
                    have HB0 := hide (show bL cs bf p = bLeast ⟨r, kd, vv, ff, t, x, y⟩ bf ∧ bM cs bf p = bMost ⟨r, kd, vv, ff, t, x, y⟩ bf by
                      unfold bL bM; simp [List.getD_eq_getElem?_getD, show p < cs.length by omega, ep])
                    have HBO1 := hide (fun W => HBO.out W r kd vv ff t x y hek)
                    have fz := HPV.out.seen.frozen p
                    have HPV2 := hide (HPV.out.mark p)
                    have q8 := q5.far (p := ⟨gs, p, none⟩) (by simp only; omega) (.bool true)
                    have HDR2 := hide (show ∀ j, j < k → (fun i => dr i || p == i) j = decide ((j : Int) ∈ fsts (ys.take (q + 1))) from fun j hj => by
                      rw [HSNOC.out]
                      simp only [HDR.out j hj, List.mem_append, List.mem_singleton, Bool.decide_or]
                      congr 1
                      by_cases e : p = j
                      · subst e; simp
                      · have e2 : ¬ (j : Int) = (p : Int) := by omega
                        rw [decide_eq_false e2]; simp [e])
                    obtain ⟨bl, ol, hA1, hblt, hcl⟩ := (HS4.out.below HPV2.out.bel).at_ hpk
                    subst hA1
                    obtain ⟨e0, e1, e2, e3, e4, e5, e6⟩ := cd_cells (B := 0) (n := 0) (c := 0) hcl (by omega) ep
                    clear hc1 hek ep hcl hL
                    go_upto_region 25 with fail
                    clear c0 x0 x1 fz q5
                    generalize World.setCell _ _ _ = w8 at *
                    obtain ⟨x0, x1, _⟩ := q8.facts2
                    go_wp2_with fail
                    refine (HBO1.out w8).mono ?_
                    rintro e w9 ⟨rfl, hb9⟩
                    generalize bLeast ⟨r, kd, vv, ff, t, x, y⟩ bf = b0 at *
                    generalize bMost ⟨r, kd, vv, ff, t, x, y⟩ bf = b1 at *
                    obtain ⟨hb0, hb1⟩ := HB0.out
                    have hwz : w8.heap.size ≤ w9.heap.size := hb9.size
                    have hg78 : g7 < w8.heap.size := q8.lt
                    have q10 := ((q8.below hb9 q8.lt).alloc (.cells #[.int .i64 b0, .int .i64 b1] 23)).alloc (.cells #[.int .i64 g0, .int .i64 g1] 23)
                    have p25 := (Blk.new w9 23 #[.int .i64 b0, .int .i64 b1]).alloc (.cells #[.int .i64 g0, .int .i64 g1] 23)
                    have p27 := Blk.new (w9.alloc (.cells #[.int .i64 b0, .int .i64 b1] 23)) 23 #[.int .i64 g0, .int .i64 g1]
                    rw [World.size_alloc] at p27
                    have HPV := hide (((HPV2.out.below hb9).below (bel1 (o := .cells #[.int .i64 b0, .int .i64 b1] 23))).below (bel1 (o := .cells #[.int .i64 g0, .int .i64 g1] 23)))
                    obtain ⟨y0, y1, _⟩ := ((HQ0.out.below (HPV2.out.below hb9).bel HQ0.out.lt).alloc (.cells #[.int .i64 b0, .int .i64 b1] 23)).facts2
                    clear e0 e1 e2 e3 e4 e5 e6 x0 x1 q8 hb9 HBO1 HB0
                    go_upto_region 27 with fail
                    clear y0 y1
                    generalize ((w9.alloc _).alloc _) = w10 at *
                    generalize w9.heap.size = g25 at *
                    obtain ⟨x0, x1, _⟩ := q10.facts2
                    obtain ⟨t0, t1, _⟩ := p25.facts2
                    obtain ⟨t2, t3, _⟩ := p27.facts2
                    by_cases hby : by0 = -1
                    · subst hby
                      have hbm : ((-1 : Int) != -1) = false := rfl
                      go_wp2_with fail
                      clear x0 x1
                      cases hmm : metOk b0 b1 g0 g1
                      · have HX := hide (HGOOD.out (yOk_3t (cs := cs) (bf := bf) (g0 := g0) (g1 := g1) (act := acs) (viol := vs) (seen := fsts (ys.take q)) (i := (p : Int)) HIN.out HNS.out rfl (by rw [hb0, hb1]; exact hmm)))
                        refine (rmeet_any b0 b1 g0 g1 _).mono ?_
                        rintro e w15 ⟨he, hb15⟩
                        rw [met_noV hmm] at he
                        subst he
                        have HPZ := hide ((HPV.out.below hb15).below (bel1 (o := .cells #[.int .i64 0, .int .i64 0] 23)))
                        clear hb15 hmm t0 t1 t2 t3
                        go_wp2
                        go_roundw
                        case rel => exact ⟨q + 1, by omega, by go_num, ⟨_, HPZ.out, HDR2⟩, HX⟩
                        case measure => simp [intOf]; omega
                      · have HX := hide (HBAD.out (yOk_3 (cs := cs) (bf := bf) (g0 := g0) (g1 := g1) (act := acs) (viol := vs) (seen := fsts (ys.take q)) (i := (p : Int)) rfl (by rw [hb0, hb1]; exact hmm)))
                        refine (rmeet_any b0 b1 g0 g1 _).mono ?_
                        rintro e w15 ⟨he, hb15⟩
                        obtain ⟨mx, my, hme⟩ := met_yesV hmm
                        rw [hme] at he
                        subst he
                        have HBZ := hide (bthr HB4.out ((HPV.out.below hb15).below (bel1 (o := .cells #[.int .i64 mx, .int .i64 my] 23))).bel HB4.out.size)
                        clear hb15 hmm hme t0 t1 t2 t3
                        go_wp2
                        go_ret
                        exact ⟨ret_bool HX.out.symm, HBZ.out⟩
                    · have hbm : (by0 != -1) = true := by simpa using hby
                      have HBYN := hide hby
                      go_upto_region 28 with fail
                      have hne : Nonempty (InW fun W => Below w10.heap.size w10 W) := ⟨⟨w10, Below.refl _ _⟩⟩
                      have HAS := hide (fun (W : World) (hW : Below w10.heap.size w10 W) => has_any A4 lk c4 ks by0 W (HK4.out.thr (bthr HPV.out.bel hW HPV.out.bel.size)))
                      cases hc2 : decide (by0 ∈ ks)
                      · rw [hc2] at HAS
                        have HNK := hide (of_decide_eq_false hc2)
                        have HX := hide (show R = false by
                          by_cases hv : by0 ∈ vs
                          · exact HBAD.out (yOk_6 (cs := cs) (bf := bf) (g0 := g0) (g1 := g1) (act := acs) (viol := vs) (seen := fsts (ys.take q)) (i := (p : Int)) HBYN.out hv)
                          · have hna : by0 ∉ acs := fun ha => HNK.out ((HMK.out by0).2 ⟨ha, hv⟩)
                            exact HBAD.out (yOk_4 (cs := cs) (bf := bf) (g0 := g0) (g1 := g1) (act := acs) (viol := vs) (seen := fsts (ys.take q)) (i := (p : Int)) HBYN.out (by rw [posN_none acs 0 hna]; omega)))
                        have X0 := inv_cell x0
                        have X1 := inv_cell x1
                        clear hc2 x0 x1 t0 t1 t2 t3 hby hb0 hb1
                        refine wp_region_inv (I := fun W => Below w10.heap.size w10 W) (by kernel_rfl) (by kernel_rfl) (Below.refl _ _).drew ?_
                        repeat (go_big_quiet_step (first | (go_at_call 34; refine inv_same (HAS.out _ (InW.ok (I := fun W => Below w10.heap.size w10 W) _)))))
                        refine wpQuiet_nil ?_
                        rintro _ ⟨⟨w11, h11⟩, rfl⟩
                        rename World => w11
                        have HBZ := hide (bthr HB4.out (HPV.out.below h11).bel HB4.out.size)
                        clear h11 X0 X1 hne
                        go_wp2
                        go_ret
                        exact ⟨ret_bool HX.out.symm, HBZ.out⟩
                      · rw [hc2] at HAS
                        obtain ⟨hba, hbv⟩ := (HMK.out by0).1 (of_decide_eq_true hc2)
                        have hbi := HAI.out by0 hba
                        have HBA := hide hba
                        have HBV := hide hbv
                        obtain ⟨z, rfl⟩ : ∃ z : Nat, by0 = (z : Int) := ⟨by0.toNat, by omega⟩
                        have hL := HL.out
                        have hzk : z < k := by omega
                        have hzi : (z : Int) < (k : Int) := by omega
                        have hzi0 : (0 : Int) ≤ (z : Int) := by omega
                        have l0 := HPV.out.place.cell hzk
                        have l1 := HPV.out.place.cell hpk
                        rw [HFP.out z hzk] at l0
                        rw [HFP.out p hpk] at l1
                        have HPG := hide (posN_ge acs 0 hba)
                        have H5 := hide (fun (h : posN (p : Int) acs 0 ≤ posN (z : Int) acs 0) => HBAD.out (yOk_5 (cs := cs) (bf := bf) (g0 := g0) (g1 := g1) (act := acs) (viol := vs) (seen := fsts (ys.take q)) HBYN.out h))
                        have HLT := hide (fun (h : ¬ posN (p : Int) acs 0 ≤ posN (z : Int) acs 0) => show posN (z : Int) acs 0 < posN (p : Int) acs 0 by omega)
                        have HPG2 := hide (show 0 ≤ posN (z : Int) acs 0 from posN_ge acs 0 hba)
                        rcases ez : cs[z]'(by omega) with ⟨r', kd', vv', ff', t', x', y'⟩
                        have hek := HG.out _ (List.getElem_mem (show z < cs.length by omega))
                        rw [ez] at hek
                        have HBQ := hide (show bL cs bf z = bLeast ⟨r', kd', vv', ff', t', x', y'⟩ bf ∧ bM cs bf z = bMost ⟨r', kd', vv', ff', t', x', y'⟩ bf by
                          unfold bL bM; simp [List.getD_eq_getElem?_getD, show z < cs.length by omega, ez])
                        have HBO2 := hide (fun W => HBO.out W r' kd' vv' ff' t' x' y' hek)
                        have HEZ := hide (show ∃ h : z < cs.length, cs[z] = ⟨r', kd', vv', ff', t', x', y'⟩ from ⟨by omega, ez⟩)
                        clear hc2 hba hbv hbi hL ez hek HPG
                        generalize hpz : posN (z : Int) acs 0 = pz at *
                        generalize hpp : posN (p : Int) acs 0 = pp at *
                        have HPZ1 := hide hpz
                        have HPP1 := hide hpp
                        clear hpz hpp
                        have X0 := inv_cell x0
                        have X1 := inv_cell x1
                        have L0 := inv_cell l0
                        have L1 := inv_cell l1
                        by_cases hle : pp ≤ pz
                        · have HX := hide (H5.out hle)
                          have hled : decide (pp ≤ pz) = true := decide_eq_true hle
                          clear x0 x1 t0 t1 t2 t3 hby hb0 hb1 l0 l1
                          refine wp_region_inv (I := fun W => Below w10.heap.size w10 W) (by kernel_rfl) (by kernel_rfl) (Below.refl _ _).drew ?_
                          repeat (go_big_quiet_step (first | (go_at_call 34; refine inv_same (HAS.out _ (InW.ok (I := fun W => Below w10.heap.size w10 W) _)))))
                          refine wpQuiet_nil ?_
                          rintro _ ⟨⟨w11, h11⟩, rfl⟩
                          rename World => w11
                          have HBZ := hide (bthr HB4.out (HPV.out.below h11).bel HB4.out.size)
                          clear h11 X0 X1 L0 L1 hne
                          go_wp2
                          go_ret
                          exact ⟨ret_bool HX.out.symm, HBZ.out⟩
                        · have HLT2 := hide (HLT.out hle)
                          have hled : decide (pp ≤ pz) = false := decide_eq_false hle
                          clear x0 x1 t0 t1 t2 t3 l0 l1 H5 HLT
                          refine wp_region_inv (I := fun W => Below w10.heap.size w10 W) (by kernel_rfl) (by kernel_rfl) (Below.refl _ _).drew ?_
                          repeat (go_big_quiet_step (first | (go_at_call 34; refine inv_same (HAS.out _ (InW.ok (I := fun W => Below w10.heap.size w10 W) _)))))
                          refine wpQuiet_nil ?_
                          rintro _ ⟨⟨w11, h11⟩, rfl⟩
                          rename World => w11
                          have HPV := hide (HPV.out.below h11)
                          replace q10 := q10.below h11 q10.lt
                          replace p25 := p25.below h11 p25.lt
                          replace p27 := p27.below h11 p27.lt
                          clear h11 X0 X1 L0 L1 hne HAS
                          obtain ⟨x0, x1, _⟩ := q10.facts2
                          obtain ⟨hzl, ez⟩ := HEZ.out
                          obtain ⟨bl3, ol3, hA3, hblt3, hcl⟩ := (HS4.out.below HPV.out.bel).at_ hzk
                          injection hA3 with hA3
                          injection hA3 with hA31 hA32 _
                          subst hA31 hA32
                          obtain ⟨e0, e1, e2, e3, e4, e5, e6⟩ := cd_cells (B := 0) (n := 0) (c := 0) hcl hzl ez
                          clear hcl hzl ez
                          go_wp2_with fail
                          refine (HBO2.out w11).mono ?_
                          rintro e w12 ⟨rfl, hb12⟩
                          generalize bLeast ⟨r', kd', vv', ff', t', x', y'⟩ bf = d0 at *
                          generalize bMost ⟨r', kd', vv', ff', t', x', y'⟩ bf = d1 at *
                          replace p25 := p25.below hb12 p25.lt
                          replace p27 := p27.below hb12 p27.lt
                          have HPV3 := hide (HPV.out.below hb12)
                          obtain ⟨t2, t3, tf⟩ := p27.facts2
                          have p27b := (p27.set_ 0 (.int .i64 d0)).set_ 1 (.int .i64 d1)
                          have p25b := (p25.far (p := ⟨g25 + 1, 0, none⟩) (by simp only; omega) (.int .i64 d0)).far (p := ⟨g25 + 1, 1, none⟩) (by simp only; omega) (.int .i64 d1)
                          have HPV := hide ((HPV3.out.far (g := g25 + 1) 0 (by omega) (by omega) (.int .i64 d0)).far (g := g25 + 1) 1 (by omega) (by omega) (.int .i64 d1))
                          clear e0 e1 e2 e3 e4 e5 e6 x0 x1 hb12 p25 p27 q10 HPV3 HBO2
                          go_upto_region 31 with fail
                          clear t2 t3 tf
                          generalize World.setCell _ _ _ = w13 at *
                          obtain ⟨t0, t1, _⟩ := p25b.facts2
                          obtain ⟨t2, t3, _⟩ := p27b.facts2
                          go_wp2_with fail
                          cases hmm : metOk b0 b1 d0 d1
                          · have HX := hide (HGOOD.out (yOk_t (cs := cs) (bf := bf) (g0 := g0) (g1 := g1) (act := acs) (viol := vs) (seen := fsts (ys.take q)) (i := (p : Int)) HIN.out HNS.out HBYN.out (by rw [HPZ1.out]; exact HPG2.out) (by rw [HPZ1.out, HPP1.out]; exact HLT2.out) HBV.out (by rw [hb0, hb1, HBQ.out.1, HBQ.out.2]; exact hmm)))
                            refine (rmeet_any b0 b1 d0 d1 _).mono ?_
                            rintro e w15 ⟨he, hb15⟩
                            rw [met_noV hmm] at he
                            subst he
                            have HPZ := hide ((HPV.out.below hb15).below (bel1 (o := .cells #[.int .i64 0, .int .i64 0] 23)))
                            clear hb15 hmm t0 t1 t2 t3
                            go_wp2
                            go_roundw
                            case rel => exact ⟨q + 1, by omega, by go_num, ⟨_, HPZ.out, HDR2⟩, HX⟩
                            case measure => simp [intOf]; omega
                          · have HX := hide (HBAD.out (yOk_7 (cs := cs) (bf := bf) (g0 := g0) (g1 := g1) (act := acs) (viol := vs) (seen := fsts (ys.take q)) (i := (p : Int)) HBYN.out (by rw [hb0, hb1, HBQ.out.1, HBQ.out.2]; exact hmm)))
                            refine (rmeet_any b0 b1 d0 d1 _).mono ?_
                            rintro e w15 ⟨he, hb15⟩
                            obtain ⟨mx, my, hme⟩ := met_yesV hmm
                            rw [hme] at he
                            subst he
                            have HBZ := hide (bthr HB4.out ((HPV.out.below hb15).below (bel1 (o := .cells #[.int .i64 mx, .int .i64 my] 23))).bel HB4.out.size)
                            clear hb15 hmm hme t0 t1 t2 t3
                            go_wp2
                            go_ret
                            exact ⟨ret_bool HX.out.symm, HBZ.out⟩
                · have HX := hide (HBAD.out (yOk_2 (of_decide_eq_true (hdp.symm.trans hdr))))
                  have HBZ := hide (bthr HB4.out HPV.out.bel HB4.out.size)
                  rw [hdr] at c0
                  clear hdp hdr
                  go_wp2
                  go_ret
                  exact ⟨ret_bool HX.out.symm, HBZ.out⟩
              · obtain rfl : q = m := by omega
                have HX := hide (HEND.out (fun j hj => HPRE.out j hj (by have := HM.out; omega)))
                have HBZ := hide (bthr HB4.out hps.bel HB4.out.size)
                clear hps
                go_wp2
                go_ret
                exact ⟨ret_bool HX.out.symm, HBZ.out⟩
  · have HX := hide (HF3.out hlen)
    have hlb : ((vl : Int) != (m : Int)) = true := by simp; omega
    have hlb2 : ((vl : Nat) != m) = true := by simp; omega
    have HBX := hide hB3
    clear hlen hB3
    go_wp2
    go_ret
    exact ⟨ret_bool HX.out.symm, HBX.out⟩
end Go.Proofs.YtphgddanbgdemaaDoor
