/-
  Conditions which all hold for the wanted release leave it alone, and their order does not matter: the walk of ResolveWider. Conditions: the table of kinds; the list can be read.
-/
import Derived.Test.YtnjlbmdpfhiojaaDoorProg
import Derived.Test.YtnjlbmdpfhiojaaDoorRwn
namespace Go.Proofs.YtnjlbmdpfhiojaaDoor
open Go.RowKit

/-- two conditions that differ in their rank alone -/
def BR (a b : Cd) : Prop := a.kind = b.kind ∧ a.value = b.value ∧ a.from_ = b.from_ ∧ a.to_ = b.to_ ∧ a.above = b.above ∧ a.below = b.below
def SameR (a b : List Cd) : Prop := b.length = a.length ∧ ∀ (i : Nat) (h : i < a.length) (h2 : i < b.length), BR a[i] b[i] ∧ b[i].err = 0
theorem SameR.set {a b : List Cd} (h : SameR a b) {j : Nat} (hj : j < b.length) {r k v f t x y r' : Int} (e : b[j] = ⟨r, k, v, f, t, x, y⟩) (h1 : 1 ≤ r') (h2 : r' ≤ 9) : SameR a (b.set j ⟨r', k, v, f, t, x, y⟩) := by
  refine ⟨by simpa using h.1, fun i hi hi2 => ?_⟩
  have hib : i < b.length := by simpa using hi2
  obtain ⟨h3, h4⟩ := h.2 i hi hib
  rw [List.getElem_set]
  split
  · rename_i hij
    subst hij
    rw [e] at h3 h4
    refine ⟨h3, ?_⟩
    obtain ⟨_, hk, hr⟩ := err_zero h4
    exact err_none (by simp; omega) (by simpa using hk) hr
  · exact ⟨h3, h4⟩
theorem BR.bnd {a b : Cd} (h : BR a b) (bf : Int) : bLeast a bf = bLeast b bf ∧ bMost a bf = bMost b bf := by
  obtain ⟨h1, h2, _⟩ := h
  unfold bLeast bMost
  rw [h1, h2]; exact ⟨rfl, rfl⟩
theorem mem_act {cs : List Cd} {d lv i : Int} : i ∈ actC cs d lv ↔ (0 ≤ i ∧ i < cs.length) ∧ appC cs d lv i = true := by
  have ho : OrdOf cs cs.length (ixs cs.length) ∨ True := .inr trivial
  unfold actC keepL
  rw [List.mem_filter]
  have h : i ∈ ordC cs ↔ 0 ≤ i ∧ i < cs.length := by
    constructor
    · exact ordC_mem i
    · intro hi
      have hp := (sortK_sorted (f := cmpC cs) (R := fun _ _ => True) (xs := idxs cs.length) (fun _ _ _ _ _ _ _ _ => trivial) (by
        exact List.Pairwise.imp (R := fun _ _ => True) (fun _ => ⟨fun _ => trivial, fun _ => trivial⟩) (List.pairwise_of_forall fun _ _ => trivial))).2
      exact hp.mem_iff.2 (idxs_mem.2 hi)
  rw [h]
  simp
/-- what applies in one list applies in the other -/
theorem act_both {cs ds : List Cd} {d lv bf : Int} (h : ∀ j, j < ds.length → ∃ i, i < cs.length ∧ BR (cs.getD i cdz) (ds.getD j cdz)) : ∀ j ∈ actC ds d lv, ∃ i ∈ actC cs d lv, bLeast (cs.getD i.toNat cdz) bf = bLeast (ds.getD j.toNat cdz) bf ∧ bMost (cs.getD i.toNat cdz) bf = bMost (ds.getD j.toNat cdz) bf := by
  intro j hj
  rw [mem_act] at hj
  obtain ⟨⟨j0, j1⟩, ja⟩ := hj
  obtain ⟨i, hi, hb⟩ := h j.toNat (by omega)
  refine ⟨(i : Int), mem_act.2 ⟨⟨by omega, by omega⟩, ?_⟩, hb.bnd bf⟩
  obtain ⟨_, _, h3, h4, h5, h6⟩ := hb
  unfold appC at ja ⊢
  rw [show cd0 = cdz from rfl] at ja ⊢
  rw [Int.toNat_natCast, h3, h4, h5, h6]
  exact ja
theorem rot_both {cs ds : List Cd} {k : Nat} (h : SameR (cs.drop k ++ cs.take k) ds) : (∀ j, j < ds.length → ∃ i, i < cs.length ∧ BR (cs.getD i cdz) (ds.getD j cdz)) ∧ (∀ i, i < cs.length → ∃ j, j < ds.length ∧ BR (cs.getD i cdz) (ds.getD j cdz)) := by
  obtain ⟨hl, he⟩ := h
  constructor
  · intro j hj
    have hja : j < (cs.drop k ++ cs.take k).length := by omega
    have hm : (cs.drop k ++ cs.take k)[j] ∈ cs := by
      rcases List.mem_append.1 (List.getElem_mem hja) with h | h
      · exact List.mem_of_mem_drop h
      · exact List.mem_of_mem_take h
    obtain ⟨i, hi, e⟩ := List.getElem_of_mem hm
    refine ⟨i, hi, ?_⟩
    have := (he j hja hj).1
    simp only [List.getD_eq_getElem?_getD, List.getElem?_eq_getElem hi, List.getElem?_eq_getElem hj, Option.getD_some]
    rw [e]; exact this
  · intro i hi
    have hm : cs[i] ∈ cs.drop k ++ cs.take k := by
      have this : cs[i] ∈ cs.take k ++ cs.drop k := by rw [List.take_append_drop]; exact List.getElem_mem hi
      rcases List.mem_append.1 this with h | h
      · exact List.mem_append.2 (.inr h)
      · exact List.mem_append.2 (.inl h)
    obtain ⟨j, hj, e⟩ := List.getElem_of_mem hm
    refine ⟨j, by omega, ?_⟩
    have := (he j hj (by omega)).1
    simp only [List.getD_eq_getElem?_getD, List.getElem?_eq_getElem hi, List.getElem?_eq_getElem (show j < ds.length by omega), Option.getD_some]
    rw [← e]; exact this
theorem cdCells_setR : ∀ (cs : List Cd) (k : Nat) (h : k < cs.length) {r k1 v f t x y : Int} (r' : Int), cs[k] = ⟨r, k1, v, f, t, x, y⟩ → (cdCells cs).set (k * 7) (.int .i64 r') = cdCells (cs.set k ⟨r', k1, v, f, t, x, y⟩)
  | c :: cs, 0, _, r, k1, v, f, t, x, y, r', he => by
    simp at he; subst he
    simp [cdCells, Cd.arr]
  | c :: cs, k + 1, h, r, k1, v, f, t, x, y, r', he => by
    have ih := cdCells_setR cs k (by simpa using h) r' (by simpa using he)
    have e : cdCells (c :: cs) = c.arr.toList ++ cdCells cs := by simp [cdCells]
    have e2 : cdCells ((c :: cs).set (k + 1) ⟨r', k1, v, f, t, x, y⟩) = c.arr.toList ++ cdCells (cs.set k ⟨r', k1, v, f, t, x, y⟩) := by simp [cdCells]
    have hl : c.arr.toList.length = 7 := rfl
    rw [e, e2, ← ih, List.set_append_right _ _ (by rw [hl]; omega), hl]
    rw [show (k + 1) * 7 - 7 = k * 7 by omega]
theorem mod9 (n : Int) (w : World) : Calls Tryd.prog 15 #[.int .i64 n, .int .i64 9] w fun e w' => ∃ z : Int, e = .returned (.int .i64 z) ∧ 0 ≤ z ∧ z < 9 ∧ w = w' :=
  (mod_any n 9 (by omega) (by omega) w).mono fun _ _ h => ⟨n % 9, h.1, by omega, by omega, h.2⟩
theorem SameR.start {cs : List Cd} {k : Nat} (hg : ∀ x ∈ cs, x.err = 0) : SameR (cs.drop k ++ cs.take k) (cs.drop k ++ cs.take k) := by
  refine ⟨rfl, fun i h h2 => ⟨⟨rfl, rfl, rfl, rfl, rfl, rfl⟩, hg _ ?_⟩⟩
  rcases List.mem_append.1 (List.getElem_mem h) with h | h
  · exact List.mem_of_mem_drop h
  · exact List.mem_of_mem_take h
theorem SameR.all {a b : List Cd} (h : SameR a b) : ∀ x ∈ b, x.err = 0 := by
  intro x hx
  obtain ⟨i, hi, rfl⟩ := List.getElem_of_mem hx
  exact (h.2 i (by rw [← h.1]; exact hi) hi).2
theorem rel_same {wn : Int} {s t : Chs} (h1 : s.ys = []) (h2 : t.ys = []) (h3 : s.lo = t.lo) (h4 : s.hi = t.hi) : chRel wn s = chRel wn t := by
  unfold chRel; rw [if_pos h1, if_pos h2, h3, h4]
theorem sl_drop {w : World} {B n c b o k : Nat} {cs : List Cd} (h : Sl w B 7 (some ⟨b, o, none⟩) n c (cdCells cs)) (hk : k ≤ n) : Sl w B 7 (some ⟨b, o + k * 7, none⟩) (n - k) (c - k) (cdCells (cs.drop k)) := by
  obtain ⟨h1, h2, h3, h4⟩ := h
  have hl : cs.length = n := by rw [cdCells_length] at h1; omega
  refine ⟨by rw [cdCells_length, List.length_drop, hl], by omega, by omega, fun hn => ?_⟩
  obtain ⟨b', o', e, hb, hc⟩ := h4 (by omega)
  injection e with e
  injection e with e1 e2 _
  subst e1 e2
  refine ⟨b, o + k * 7, rfl, hb, fun j u hu => ?_⟩
  have hs : cdCells cs = cdCells (cs.take k) ++ cdCells (cs.drop k) := by rw [← cdCells_append, List.take_append_drop]
  have := hc (k * 7 + j) u (by rw [hs, List.getElem?_append_right (by rw [cdCells_length, List.length_take]; have := Nat.min_le_left k cs.length; have := Nat.mul_le_mul_right 7 this; omega), cdCells_length, List.length_take, Nat.min_eq_left (by omega)]; rw [show k * 7 + j - k * 7 = j by omega]; exact hu)
  rw [show o + k * 7 + j = o + (k * 7 + j) by omega]; exact this
theorem sl_take {w : World} {B n c b o k : Nat} {cs : List Cd} (h : Sl w B 7 (some ⟨b, o, none⟩) n c (cdCells cs)) (hk : k ≤ n) : Sl w B 7 (some ⟨b, o, none⟩) k c (cdCells (cs.take k)) := by
  obtain ⟨h1, h2, h3, h4⟩ := h
  have hl : cs.length = n := by rw [cdCells_length] at h1; omega
  refine ⟨by rw [cdCells_length, List.length_take, hl, Nat.min_eq_left hk], by omega, by omega, fun hn => ?_⟩
  obtain ⟨b', o', e, hb, hc⟩ := h4 (by omega)
  injection e with e
  injection e with e1 e2 _
  subst e1 e2
  refine ⟨b, o, rfl, hb, fun j u hu => hc j u ?_⟩
  have hs : cdCells cs = cdCells (cs.take k) ++ cdCells (cs.drop k) := by rw [← cdCells_append, List.take_append_drop]
  rw [hs, List.getElem?_append_left (List.getElem?_eq_some_iff.1 hu).1]; exact hu
/-- the runs of 'append(append(nil, list[k:]...), list[:k]...)' -/
theorem rot_run {w4 : World} {b o m k c : Nat} {cs : List Cd} (hm : m ≤ 40) (hk : k ≤ m) (hs : Sl w4 w4.heap.size 7 (some ⟨b, o, none⟩) m c (cdCells cs)) : ∃ vA wA g cB wB,
    (Builtin.append_ #[22, 22] 22 #[.slice none 0 0, .slice (some ⟨b, o + k * 7, none⟩) (m - k) (c - k)]).run Tryd.prog w4.drew = .ok vA wA ∧
    (Builtin.append_ #[22, 22] 22 #[vA, .slice (some ⟨b, o, none⟩) k c]).run Tryd.prog wA = .ok (.slice g m cB) wB ∧
    Below w4.heap.size w4 wA ∧ Below w4.heap.size w4 wB ∧ wB.ownsRow w4.heap.size 45 7 (.slice g m cB) m (cdCells (cs.drop k ++ cs.take k)) := by
  obtain ⟨vA, wA, rA, oA, gA, nA⟩ := run_ext (P := Tryd.prog) w4.drew w4.heap.size 22 22 45 7 slCond (.slice none 0 0) 0 [] (World.ownsRow_nil _ _ _ _) (some ⟨b, o + k * 7, none⟩) (m - k) (c - k) w4.heap.size (cdCells (cs.drop k)) (sl_drop hs hk) (cd_one7 _) (by omega) (Nat.le_refl _)
  have bA : Below w4.heap.size w4 wA := ((Below.refl w4.heap.size w4).drew).grown gA (Nat.le_refl _) (fun k hk => by cases hk)
  obtain ⟨vB, wB, rB, oB, gB, _⟩ := run_ext (P := Tryd.prog) wA w4.heap.size 22 22 45 7 slCond vA (0 + (m - k)) _ oA (some ⟨b, o, none⟩) k c _ (cdCells (cs.take k)) (sl_take (hs.thr bA) hk) (cd_one7 _) (by omega) bA.size
  have bB := bA.grown gB bA.size (fun k hk => (oA.lt k hk).1)
  rw [List.nil_append, ← cdCells_append, show 0 + (m - k) + k = m by omega] at oB
  obtain ⟨g, cB, rfl, _⟩ := own_sl oB
  exact ⟨vA, wA, g, cB, wB, rA, rB, bA, bB, oB⟩
set_option maxHeartbeats 1600000 in
set_option maxRecDepth 20000 in
theorem wider_walk {A : Option Addr} {n c : Nat} {zs : List Int} {w : World} (hT : KT w) (hs : Sl w w.heap.size 1 A n c (ints zs)) (turn : Int) : Calls Tryd.prog 6 #[.slice A n c, .int .i64 turn] w fun e w' => e = .returned (.bool true) ∧ Below w.heap.size w w' := by
  have hw0 := hT.pos
  go_enter Tryd.func6, Tryd.ntmps6
  go_wp2_with fail
  refine (new_any _ _ _ _ _ hs).mono ?_
  rintro e w1 ⟨rfl, hD1, hb1⟩
  have hw1 := hD1.lt
  clear hs
  go_wp2_with fail
  refine (made_any _ _ hD1).mono ?_
  rintro e w2 ⟨A2, c2, cs, d, lv, bf, wn, g0, g1, rfl, hcl, hcg, hv, hd, hlv, hbf, hwn, h0, h01, h1, hD2, hg2⟩
  have hB2 := below_grown hb1 hg2 hb1.size (Nat.le_refl _)
  have HG := hide (fun x hx => good_err (hcg x hx))
  have HRK := hide (fun x hx => (hcg x hx).1)
  obtain ⟨m, hm⟩ : ∃ m, cs.length = m := ⟨_, rfl⟩
  have HM := hide hm
  rw [hm] at hcl hv
  simp only [hm]
  clear hD1 hb1 hcg hm hg2 hD2
  have q5 := Blk.new w2 30 #[.slice A2 m c2, .int .i64 d, .int .i64 lv, .int .i64 bf, .int .i64 wn, .int .i64 g0, .int .i64 g1]
  have hB3 := hB2.alloc hB2.size (.cells #[.slice A2 m c2, .int .i64 d, .int .i64 lv, .int .i64 bf, .int .i64 wn, .int .i64 g0, .int .i64 g1] 30)
  have hs3 := (sl_own hv).allocw (.cells #[.slice A2 m c2, .int .i64 d, .int .i64 lv, .int .i64 bf, .int .i64 wn, .int .i64 g0, .int .i64 g1] 30)
  have hT3 := hT.below hB3 hw0
  obtain ⟨⟨y0, y1, y2, y3, y4, y5, y6⟩, _⟩ := Blk.facts7 q5
  have HW := hide (show wit d 364 = true ∧ wit lv 16777216 = true ∧ wit bf 1073741824 = true ∧ wit wn 1073741824 = true ∧ wit g0 1073741824 = true ∧ wit g1 1073741824 = true from ⟨wit_of (by omega) (by omega), wit_of (by omega) (by omega), wit_of (by omega) (by omega), wit_of (by omega) (by omega), wit_of (by omega) (by omega), wit_of (by omega) (by omega)⟩)
  clear hv hB2 hd hlv hbf hwn
  go_wp2_with fail
  generalize w2.alloc _ = w3 at *
  generalize w2.heap.size = g5 at *
  with_reducible refine (Choose_ok A2 m c2 cs d lv bf g0 g1 wn w3 hT3 (by omega) HG.out HW.out.1 HW.out.2.1 HW.out.2.2.1 HW.out.2.2.2.1 HW.out.2.2.2.2.1 HW.out.2.2.2.2.2 h01 hs3).mono ?_
  rintro e w4 ⟨s, A4, c4, hs4, rfl, hy4, hb4⟩
  rcases s with ⟨lo, hi, lb, mb, ys, f0, f1⟩
  simp only at hy4 ⊢
  obtain ⟨rl, hrl⟩ : ∃ rl, chRel wn ⟨lo, hi, lb, mb, ys, f0, f1⟩ = rl := ⟨_, rfl⟩
  have HRL := hide hrl
  rw [hrl]
  clear hrl
  have HS4 := hide hs4
  obtain ⟨p, hp⟩ : ∃ p, ys.length = p := ⟨_, rfl⟩
  have HP := hide hp
  rw [hp] at hy4
  simp only [hp]
  have q5b := (q5.below hb4 q5.lt).alloc (.cells #[.int .i64 rl, .int .i64 lo, .int .i64 hi, .slice A4 p c4] 35)
  have q6 := Blk.new w4 35 #[.int .i64 rl, .int .i64 lo, .int .i64 hi, .slice A4 p c4]
  have hB5 := (bthr hB3 hb4 hB3.size).alloc (bthr hB3 hb4 hB3.size).size (.cells #[.int .i64 rl, .int .i64 lo, .int .i64 hi, .slice A4 p c4] 35)
  have hs5 := (hs3.thr hb4).allocw (.cells #[.int .i64 rl, .int .i64 lo, .int .i64 hi, .slice A4 p c4] 35)
  have hy5 := (sl_own hy4).allocw (.cells #[.int .i64 rl, .int .i64 lo, .int .i64 hi, .slice A4 p c4] 35)
  clear q5 hs4 hp hB3 hb4 hs3 hy4 hT3 y0 y1 y2 y3 y4 y5 y6
  obtain ⟨⟨y0, y1, y2, y3, y4, y5, y6⟩, _⟩ := Blk.facts7 q5b
  obtain ⟨c60, c61, c62, c63, _⟩ := q6.facts4
  have HS5 := hide hs5
  have HY5 := hide hy5
  have HB5 := hide hB5
  have HQ5 := hide q5b
  have HQ6 := hide q6
  have hT5 := hT.below hB5 hw0
  clear hs5 hy5 hB5 q5b q6
  go_upto_region 3 with fail
  generalize w4.alloc _ = w5 at *
  generalize w4.heap.size = g6 at *
  have HKEEP := hide (fun (h0 : g0 ≤ wn) (h1 : wn ≤ g1) (h : ∀ i ∈ actC cs d lv, bLeast (cs.getD i.toNat cdz) bf ≤ wn ∧ wn ≤ bMost (cs.getD i.toNat cdz) bf) => wider_keep (bf := bf) h0 h1 h)
  rw [← HS4.out, HRL.out] at HKEEP
  simp only at HKEEP
  go_wp2_with fail
  with_reducible refine (rkept_ok A2 m c2 cs d lv bf wn w5 (by omega) HG.out HW.out.1 HW.out.2.1 (wit_iff.1 HW.out.2.2.1) (wit_iff.1 HW.out.2.2.2.1) HS5.out).mono ?_
  rintro e w6 ⟨A10, c10, A11, c11, os, ho, rfl, -, -, hb6⟩
  have HBRK := hide (fun (h : keepL (fun i => kepC cs bf wn i) (ractL cs d lv os) = []) => show ∀ i ∈ actC cs d lv, bLeast (cs.getD i.toNat cdz) bf ≤ wn ∧ wn ≤ bMost (cs.getD i.toNat cdz) bf by
    intro i hi
    unfold keepL at h
    rw [List.filter_eq_nil_iff] at h
    have h2 := h i ((ract_act ho HM.out.symm).2 hi)
    simp [kepC, kepB] at h2
    exact h2)
  have HS6 := hide (HS5.out.thr hb6)
  have HQ56 := hide (HQ5.out.below hb6 HQ5.out.lt)
  have HQ66 := hide (HQ6.out.below hb6 HQ6.out.lt)
  have HB6 := hide (bthr HB5.out hb6 HB5.out.size)
  clear ho hb6 y0 y1 y2 y3 y4 y5 y6 c60 c61 c62 c63 HS5 HY5 HQ5 HQ6 HB5
  generalize keepL (fun i => kepC cs bf wn i) (ractL cs d lv os) = L at *
  generalize keepL (fun i => !kepC cs bf wn i) (ractL cs d lv os) = L2 at *
  obtain ⟨⟨y0, y1, y2, y3, y4, y5, y6⟩, _⟩ := Blk.facts7 HQ56.out
  obtain ⟨c60, c61, c62, c63, _⟩ := HQ66.out.facts4
  go_upto_region 6 with fail
  go_cut [87] (fun v87 wx => v87 = .bool false ∧ w6 = wx)
  case first =>
    by_cases hL : L = []
    · have hl0 : ((L.length : Int) == 0) = true := by rw [hL]; rfl
      by_cases h0 : g0 ≤ wn
      · by_cases h1' : wn ≤ g1
        · obtain ⟨k1, k2⟩ := HKEEP.out h0 h1' (HBRK.out hL)
          have hp0 : p = 0 := by rw [← HP.out, k1]; rfl
          subst hp0
          have hrw : (rl != wn) = false := by simp [k2]
          have K2 := hide k2
          clear k1 k2 hL
          go_wp2_with fail
          go_meet
          exact ⟨rfl, rfl⟩
        · clear hL
          go_wp2_with fail
          go_meet
          exact ⟨rfl, rfl⟩
      · clear hL
        go_wp2_with fail
        go_meet
        exact ⟨rfl, rfl⟩
    · have hl0 : ((L.length : Int) == 0) = false := by
        have : L.length ≠ 0 := fun e => hL (List.eq_nil_of_length_eq_zero e)
        simp; omega
      clear hL
      go_wp2_with fail
      go_meet
      exact ⟨rfl, rfl⟩
  case rest =>
  obtain ⟨rfl, rfl⟩ := hcut
  have hT6 := hT.below HB6.out hw0
  clear HBRK HKEEP
  by_cases hp0 : 0 < p
  · have hpi : (0 : Int) < (p : Int) := by omega
    go_wp2_with fail
    refine (awake_any _ hT6).mono ?_
    rintro e w7 ⟨rfl, hb7⟩
    have HB7 := hide (bthr HB6.out hb7 HB6.out.size)
    clear hb7
    go_wp2
    go_ret
    exact ⟨rfl, HB7.out⟩
  · obtain rfl : p = 0 := by omega
    by_cases hm0 : m = 0
    · subst hm0
      go_wp2_with fail
      refine (awake_any _ hT6).mono ?_
      rintro e w7 ⟨rfl, hb7⟩
      have HB7 := hide (bthr HB6.out hb7 HB6.out.size)
      clear hb7
      go_wp2
      go_ret
      exact ⟨rfl, HB7.out⟩
    · have hmi : ((m : Int) == 0) = false := by simp; omega
      have hmp : (0 : Int) < (m : Int) := by omega
      go_wp2_with fail
      refine (mod_any turn (m : Int) hmp (by omega) _).mono ?_
      rintro e w' ⟨rfl, rfl⟩
      obtain ⟨k, hk⟩ : ∃ k : Nat, turn % (m : Int) = (k : Int) := ⟨(turn % (m : Int)).toNat, by have := Int.emod_nonneg turn (show (m : Int) ≠ 0 by omega); omega⟩
      have hkm : k < m := by have := Int.emod_lt_of_pos turn hmp; omega
      rw [hk]
      obtain ⟨bl, ol, rfl, -, -⟩ := HS6.out.at_ hkm
      have hmc := HS6.out.2.1
      have hcm := HS6.out.2.2.1
      unfold maxLen at hcm
      obtain ⟨vA, wA, gB, cB, wB, rA, rB, bA, bB, oB⟩ := rot_run (k := k) (show m ≤ 40 by omega) (by omega) HS6.out
      obtain ⟨d', hd'⟩ : ∃ d', d' = m - k := ⟨_, rfl⟩
      obtain ⟨e', he'⟩ : ∃ e', e' = c2 - k := ⟨_, rfl⟩
      have RA := hide rA
      have RB := hide rB
      have HBB := hide bB
      have HOB := hide oB
      have hck : ¬ c2 = k := by omega
      have hkc : k ≤ c2 := by omega
      have hkm2 : k ≤ m := by omega
      have hki0 : (0 : Int) ≤ (k : Int) := by omega
      have hki1 : (k : Int) ≤ (m : Int) := by omega
      have hki2 : (m : Int) ≤ (c2 : Int) := by omega
      have hki3 : (c2 : Int) ≤ 9223372036854775807 := by omega
      obtain ⟨⟨x0, x1, x2, x3, x4, x5, x6⟩, _⟩ := Blk.facts7 (HQ56.out.below bA HQ56.out.lt)
      clear hk rA rB bB oB hmc hcm hd' he'
      go_upto_region 11 with fail
      go_cut [12] (fun v12 wx => v12 = .slice gB m cB ∧ wB = wx)
      case first =>
        go_region_law (first | ((refine step_run rfl (.const (.slice none 0 0)) (.tmp 107) 22 rfl _ _ _ _ (by first | rfl | simp [Act.eval, Act.put]) (by first | rfl | simp [Act.eval, Act.put]) RA.out ?_)) | ((refine step_run rfl (.tmp 108) (.tmp 112) 22 rfl _ _ _ _ (by first | rfl | simp [Act.eval, Act.put]) (by first | rfl | simp [Act.eval, Act.put]) RB.out ?_)))
        all_goals
          clear RA RB
          go_wp2_with fail
          go_meet
          exact ⟨rfl, rfl⟩
      case rest =>
      obtain ⟨rfl, rfl⟩ := hcut
      go_wp2
      clear x0 x1 x2 x3 x4 x5 x6 y0 y1 y2 y3 y4 y5 y6 c60 c61 c62 c63 RA RB
      go_loopw [116] (fun i wr => ∃ (j : Nat) (l' : List Cd), j ≤ m ∧ i = .int .i64 j ∧ Hid (SameR (cs.drop k ++ cs.take k) l') ∧ wr.ownsRow w6.heap.size 45 7 (.slice gB m cB) m (cdCells l') ∧ Below w6.heap.size w6 wr) (fun i _ => m - (intOf i).toNat)
      case atStart => exact ⟨0, _, by omega, rfl, hide (SameR.start HG.out), HOB.out, HBB.out⟩
      case round =>
        obtain ⟨j, l', hj, rfl, HSR, hv, hb⟩ := hrel
        have hlr : (cs.drop k ++ cs.take k).length = m := by have := HM.out; rw [List.length_append, List.length_drop, List.length_take]; omega
        have hll : l'.length = m := HSR.out.1.trans hlr
        by_cases hlt : j < m
        · obtain ⟨g, cap, he, _, _⟩ := hv.form (by omega)
          injection he with e1 _ e3
          subst e1 e3
          rcases ej : l'[j]'(by omega) with ⟨r, k1, v1, f1', t1, x1, y1'⟩
          have hjl : j < l'.length := by omega
          have e0 : wr.cell? ⟨g, j * 7, none⟩ = some (.int .i64 r) := by
            have := (hv.cellAt (j * 7 + 0) (by omega)).trans (cdCells_get l' j hjl 0 (by omega))
            rw [ej] at this
            exact this
          have fz0 := hv.frozenAt (j * 7)
          have hji : (j : Int) < (m : Int) := by omega
          have HST := hide (fun (r' : Int) (h1 : 1 ≤ r') (h2 : r' ≤ 9) => show Hid (SameR (cs.drop k ++ cs.take k) (l'.set j ⟨r', k1, v1, f1', t1, x1, y1'⟩)) ∧ (wr.setCell ⟨g, j * 7, none⟩ (.int .i64 r')).ownsRow w6.heap.size 45 7 (.slice (some ⟨g, 0, none⟩) m cB) m (cdCells (l'.set j ⟨r', k1, v1, f1', t1, x1, y1'⟩)) ∧ Below w6.heap.size w6 (wr.setCell ⟨g, j * 7, none⟩ (.int .i64 r')) from by
            obtain ⟨st, sg⟩ := hv.stored (j * 7) (.int .i64 r')
            exact ⟨hide (HSR.out.set hjl ej h1 h2), own_cells st (cdCells_setR l' j hjl r' ej), hb.grown sg hb.size (fun i hi => by injection hi; omega)⟩)
          clear hv hb ej hjl hll hlr
          go_wp2_with fail
          refine (mod9 _ _).mono ?_
          rintro e w' ⟨z, rfl, hz0, hz1, rfl⟩
          have HSZ := hide (HST.out (1 + z) (by omega) (by omega))
          clear HST
          go_wp2
          go_roundw
          case rel => exact ⟨j + 1, _, by omega, by go_num, HSZ.out.1, HSZ.out.2.1, HSZ.out.2.2⟩
          case measure => simp [intOf]; omega
        · have hji : ¬ ((j : Int) < (m : Int)) := by omega
          have hs7 := sl_own hv
          have q5 := HQ56.out.below hb HQ56.out.lt
          have q6 := HQ66.out.below hb HQ66.out.lt
          have hB7 := bthr HB6.out hb HB6.out.size
          have hT7 := hT.below hB7 hw0
          obtain ⟨⟨y0, y1, y2, y3, y4, y5, y6⟩, _⟩ := Blk.facts7 q5
          have HRB := hide (rot_both HSR.out)
          clear hv hb HQ56 HQ66 hlr
          go_wp2_with fail
          with_reducible refine (Choose_ok gB m cB l' d lv bf g0 g1 wn wr hT7 (by omega) HSR.out.all HW.out.1 HW.out.2.1 HW.out.2.2.1 HW.out.2.2.2.1 HW.out.2.2.2.2.1 HW.out.2.2.2.2.2 h01 hs7).mono ?_
          rintro e w8 ⟨s', A8, c8, hs8, rfl, hy8, hb8⟩
          have hys : ys = [] := List.eq_nil_of_length_eq_zero HP.out
          have hwt := wider_turn (bf := bf) (cs := cs) (ds := l') h01 (xs := actC cs d lv) (zs := actC l' d lv) (by rw [← HS4.out]; exact hys) (act_both HRB.out.1) (fun i hi => by
            obtain ⟨j, hj, e1, e2⟩ := act_both (cs := l') (ds := cs) (d := d) (lv := lv) (bf := bf) (fun i hi => by
              obtain ⟨j, hj, hb⟩ := HRB.out.2 i hi
              obtain ⟨b1, b2, b3, b4, b5, b6⟩ := hb
              exact ⟨j, hj, b1.symm, b2.symm, b3.symm, b4.symm, b5.symm, b6.symm⟩) i hi
            exact ⟨j, hj, e1.symm, e2.symm⟩)
          rw [← hs8, ← HS4.out] at hwt
          obtain ⟨t0, t1, t2⟩ := hwt
          have hrl : chRel wn s' = rl := by rw [← HRL.out]; exact rel_same t0 hys t1 t2
          rcases s' with ⟨lo', hi', lb', mb', ys', f0', f1'⟩
          simp only at t0 t1 t2
          subst t0 t1 t2
          rw [hrl]
          simp only [List.length_nil] at hy8 ⊢
          have q6b := (q6.below hb8 q6.lt).alloc (.cells #[.int .i64 rl, .int .i64 lo', .int .i64 hi', .slice A8 0 c8] 35)
          have q14 := Blk.new w8 35 #[.int .i64 rl, .int .i64 lo', .int .i64 hi', .slice A8 0 c8]
          have hB8 := bthr hB7 hb8 hB7.size
          have HB9 := hide (hB8.alloc hB8.size (.cells #[.int .i64 rl, .int .i64 lo', .int .i64 hi', .slice A8 0 c8] 35))
          have hT9 := hT.below HB9.out hw0
          obtain ⟨c60, c61, c62, c63, _⟩ := q6b.facts4
          obtain ⟨u0, u1, u2, u3, _⟩ := q14.facts4
          clear hs8 hrl hb8 hB8 hB7 hy8 hs7 q5 q6 y0 y1 y2 y3 y4 y5 y6 hT7 q6b q14 HS4 HRB HSR HRL HP
          have hrr : (rl == rl) = true := by simp
          go_wp2_with fail
          refine (awake_any _ hT9).mono ?_
          rintro e w10 ⟨rfl, hb10⟩
          have HBZ := hide (bthr HB9.out hb10 HB9.out.size)
          clear hb10 c60 c61 c62 c63 u0 u1 u2 u3
          go_wp2
          go_ret
          exact ⟨rfl, HBZ.out⟩
end Go.Proofs.YtnjlbmdpfhiojaaDoor
