/-
  The contract of make.Curve: a curve of two to five points, its places rising, in a row of the call's own. Condition: the deck lies in memory; the numbers are small.
  The contract of make.Reservoir: a valid reservoir, its curve in a row of the call's own. Condition: the deck lies in memory.
-/
import Derived.Test.YtodamjjlnagpjaaGreatDoorProg
import Derived.Test.YtodamjjlnagpjaaGreatDoorTs4
import Derived.Test.YtodamjjlnagpjaaGreatDoorTul
import Derived.Laws.OwnMore
namespace Go.Proofs.YtodamjjlnagpjaaGreatDoor
open Go.RowKit

/-- A curve that begins at x, y and rises by at most 200 a point. -/
structure Climb (st : Bool) (x y : Int) (ps : List Pt) : Prop where
  ne : 0 < ps.length
  hd : ps[0]'ne = ⟨x, y⟩
  up : ∀ (i : Nat) (h : i + 1 < ps.length), (ps[i]'(by omega)).x < ps[i + 1].x ∧ (ps[i]'(by omega)).y ≤ ps[i + 1].y ∧ (st = true → (ps[i]'(by omega)).y < ps[i + 1].y)
  bd : ∀ p ∈ ps, x ≤ p.x ∧ p.x ≤ x + 200 * ((ps.length : Int) - 1) ∧ y ≤ p.y ∧ p.y ≤ y + 200 * ((ps.length : Int) - 1)
theorem Climb.one (st : Bool) (x y : Int) : Climb st x y [⟨x, y⟩] := ⟨by simp, rfl, fun i h => by simp at h, fun p hp => by rw [List.mem_singleton] at hp; subst hp; simp⟩
theorem Climb.snoc {st : Bool} {x y a b c d : Int} {ps : List Pt} (h : Climb st x y ps) (hl : ps[ps.length - 1]? = some ⟨a, b⟩) (hc : a < c ∧ c ≤ a + 200) (hd : b ≤ d ∧ d ≤ b + 200) (hs : st = true → b < d) : Climb st x y (ps ++ [⟨c, d⟩]) := by
  have hn := h.ne
  have hla : ps[ps.length - 1]'(by omega) = ⟨a, b⟩ := by rw [List.getElem?_eq_getElem (by omega)] at hl; injection hl
  have hmem : (⟨a, b⟩ : Pt) ∈ ps := hla ▸ List.getElem_mem _
  have hlast := h.bd _ hmem
  refine ⟨by simp, ?_, fun i hi => ?_, fun p hp => ?_⟩
  · rw [List.getElem_append_left hn]; exact h.hd
  · simp only [List.length_append, List.length_cons, List.length_nil] at hi
    by_cases hi2 : i + 1 < ps.length
    · rw [List.getElem_append_left (by omega), List.getElem_append_left hi2]
      exact h.up i hi2
    · have he : i = ps.length - 1 := by omega
      subst he
      rw [List.getElem_append_left (by omega), List.getElem_append_right (by omega), hla]
      simp only [Nat.sub_add_cancel (show 1 ≤ ps.length by omega), Nat.sub_self, List.getElem_cons_zero]
      exact ⟨hc.1, hd.1, hs⟩
  · simp only [List.length_append, List.length_cons, List.length_nil]
    simp only at hlast
    rcases List.mem_append.1 hp with h1 | h1
    · have := h.bd p h1
      omega
    · rw [List.mem_singleton] at h1; subst h1
      simp only
      omega
theorem Climb.step {st : Bool} {x y a b c d : Int} {ps : List Pt} (h : Climb st x y ps) (hl : ps[ps.length - 1]? = some ⟨a, b⟩) (hc : a < c ∧ c ≤ a + 200) (hd : b ≤ d ∧ d ≤ b + 200) (hs : st = true → b < d) (hx : 0 ≤ x ∧ x ≤ 1000) (hy : 0 ≤ y ∧ y ≤ 1000) (hn : ps.length ≤ 4) :
    Climb st x y (ps ++ [⟨c, d⟩]) ∧ (ps ++ [(⟨c, d⟩ : Pt)])[(ps ++ [(⟨c, d⟩ : Pt)]).length - 1]? = some ⟨c, d⟩ ∧ (0 ≤ c ∧ c ≤ 2000 ∧ 0 ≤ d ∧ d ≤ 2000) := by
  have h1 := h.snoc hl hc hd hs
  refine ⟨h1, by simp, ?_⟩
  have h2 := h1.bd (⟨c, d⟩ : Pt) (by simp)
  simp only [List.length_append, List.length_cons, List.length_nil] at h2
  omega
theorem Climb.curve {st : Bool} {x y : Int} {ps : List Pt} (h : Climb st x y ps) (hx : 0 ≤ x ∧ x ≤ 1000) (hy : 0 ≤ y ∧ y ≤ 1000) (hl : ps.length ≤ 5) : CvG 2000 ps :=
  ⟨h.ne, by omega, fun p hp => by have := h.bd p hp; omega, fun i hi => ⟨(h.up i hi).1, (h.up i hi).2.1⟩⟩
theorem slPt : SlT Tryz.prog 25 57 2 := slT_of (z := .agg #[.int .i64 0, .int .i64 0]) (bytes := 16) Tryz.underlying25 (by kernel_rfl) rfl (by decide) (by decide)
def CurveMade (b : Nat) (st : Bool) (x y : Int) (w : World) (e : Ending) (w' : World) : Prop := ∃ (A : Option Addr) (n c : Nat) (ps : List Pt), e = .returned (.slice A n c) ∧ n = ps.length ∧ 2 ≤ n ∧ n ≤ 5 ∧ Climb st x y ps ∧ w'.ownsRow w.heap.size 57 2 (.slice A n c) n (ptCells ps) ∧ Dk w' b ∧ w.grownBy w' (some b)
set_option maxHeartbeats 1600000 in
set_option maxRecDepth 20000 in
theorem mkcurve_any (b : Nat) (x y dx dy : Int) (st : Bool) (hx : 0 ≤ x ∧ x ≤ 1000) (hy : 0 ≤ y ∧ y ≤ 1000) (hdx : 1 ≤ dx ∧ dx ≤ 200) (hdy : 1 ≤ dy ∧ dy ≤ 200) (w : World) (hD : Dk w b) :
    Calls Tryz.prog 41 #[.pointer (some ⟨b, 0, none⟩), .int .i64 x, .int .i64 y, .int .i64 dx, .int .i64 dy, .bool st] w (CurveMade b st x y w) := by
  have hbl := hD.lt
  have ho := World.ownsRow_lit (base := w.heap.size) (e := 57) (size := 2) w #[.int .i64 x, .int .i64 y] 1 (Nat.le_refl _) (by unfold maxLen; omega) rfl
  have hD1 := hD.alloc (.cells #[.int .i64 x, .int .i64 y] 57)
  have hg1 : w.grownBy (w.alloc (.cells #[.int .i64 x, .int .i64 y] 57)) (some b) := grown_alloc (grown_refl _ _) _
  have hsz1 : w.heap.size < (w.alloc (.cells #[.int .i64 x, .int .i64 y] 57)).heap.size := by simp
  obtain ⟨s2, hs2⟩ : ∃ s2 : Bool, s2 = st := ⟨_, rfl⟩
  have HS2 := hide hs2
  clear hs2
  cases st
  all_goals
    go_enter Tryz.func41, Tryz.ntmps41
    go_wp2_with fail
    refine (next_any _ _ (by omega) _ hD1).mono ?_
    rintro e w1 ⟨v0, rfl, hv0, hv1, hD2, hg2, hz2⟩
    have hgB := hide (grown_trans hg1 hg2)
    have hoB := hide (own_deck ho hg2 hbl)
    clear hD hD1 hg1 hg2 ho hz2 hsz1
    go_wp2
    go_loopw [1, 2, 14, 15] (fun xv yv cv kv wr => ∃ (m n : Nat) (ps : List Pt) (x1 y1 : Int), kv = .int .i64 m ∧ m + ps.length ≤ 5 ∧ (ps.length = 1 → 0 < m) ∧ xv = .int .i64 x1 ∧ yv = .int .i64 y1 ∧ (0 ≤ x1 ∧ x1 ≤ 2000 ∧ 0 ≤ y1 ∧ y1 ≤ 2000) ∧ n = ps.length ∧ Hid (ps[ps.length - 1]? = some ⟨x1, y1⟩) ∧ Hid (Climb s2 x y ps) ∧ wr.ownsRow w.heap.size 57 2 cv n (ptCells ps) ∧ Dk wr b ∧ w.grownBy wr (some b)) (fun _ _ _ i _ => (intOf i).toNat)
    case atStart =>
      exact ⟨(1 + v0).toNat, 1, [⟨x, y⟩], x, y, by rw [Int.toNat_of_nonneg (by omega)], by simp; omega, by simp; omega, rfl, rfl, by omega, rfl, hide rfl, hide (Climb.one _ _ _), hoB.out, hD2, hgB.out⟩
    case round =>
      obtain ⟨m, n, ps, x1, y1, rfl, hm, hm1, rfl, rfl, ⟨hx0, hx1, hy0, hy1⟩, hn, hla, hcl, hv, hDr, hgr⟩ := hrel
      have hne := hcl.out.ne
      by_cases h0 : m = 0
      · subst h0
        obtain ⟨A, c, rfl, _⟩ := own_sl hv
        have HV := hide hv
        clear hv
        go_wp2
        go_ret
        exact ⟨A, n, c, ps, rfl, hn, by omega, by omega, HS2.out ▸ hcl.out, HV.out, hDr, hgr⟩
      · have hm0' : (0 : Int) < (m : Int) := by omega
        have HV := hide hv
        have HGR := hide hgr
        have hszr := hgr.size
        clear hv hgr
        go_wp2_with fail
        refine (next_any _ _ (by omega) _ hDr).mono ?_
        rintro e w2 ⟨v2, rfl, h20, h21, hD2, hg2, hz2⟩
        have HV2 := hide (own_deck HV.out hg2 hbl)
        have HGR2 := hide (grown_trans HGR.out hg2)
        have hszr2 := HGR2.out.size
        clear hDr hg2 HV HGR hz2 hszr
        go_wp2_with fail
        refine (next_any _ _ (by omega) _ hD2).mono ?_
        rintro e w3 ⟨v3, rfl, h30, h31, hD3, hg3, hz3⟩
        have hv3 := own_deck HV2.out hg3 hbl
        have HGR3 := hide (grown_trans HGR2.out hg3)
        have hsz3 := HGR3.out.size
        clear hD2 hg3 HV2 HGR2 hz3 hszr2
        go_wp2_with (at_builtin; refine wpList_push rfl _ _ _ rfl w.heap.size _ _ slPt _ _ _ rfl hv3 _ _ rfl rfl rfl (by omega) hsz3 ?_)
        intro v' w4 hv4 hg4 _
        have hD4 := hD3.other hg4 (fun k hk => by have := (hv3.lt k hk).1; omega)
        have HGR4 := hide (grown_push HGR3.out hg4 (fun k hk => (hv3.lt k hk).1))
        have HV4 := hide hv4
        clear hv3 hv4 hg4 hD3
        go_wp2
        go_roundw
        case rel =>
          first
          | (obtain ⟨q1, q2, q3⟩ := hcl.out.step hla.out (c := x1 + 1 + v2) (d := y1 + v3) (by omega) (by omega) (by intro h; rw [HS2.out] at h; cases h) hx hy (by omega)
             exact ⟨m - 1, ps.length + 1, _, _, _, by go_num, by simp; omega, by intro h; simp only [List.length_append, List.length_cons, List.length_nil] at h; omega, rfl, rfl, q3, by simp, hide q2, hide q1, own_cells HV4.out (by rw [ptCells_append]; rfl), hD4, HGR4.out⟩)
          | (obtain ⟨q1, q2, q3⟩ := hcl.out.step hla.out (c := x1 + 1 + v2) (d := y1 + 1 + v3) (by omega) (by omega) (by intro _; omega) hx hy (by omega)
             exact ⟨m - 1, ps.length + 1, _, _, _, by go_num, by simp; omega, by intro h; simp only [List.length_append, List.length_cons, List.length_nil] at h; omega, rfl, rfl, q3, by simp, hide q2, hide q1, own_cells HV4.out (by rw [ptCells_append]; rfl), hD4, HGR4.out⟩)
        case measure => simp [intOf]; omega
end Go.Proofs.YtodamjjlnagpjaaGreatDoor
namespace Go.Proofs.YtodamjjlnagpjaaGreatDoor
open Go.RowKit

structure LvS (k : Nat) (f a : Int) (ls : List Int) : Prop where
  len : ls.length = 5
  up : ∀ i j, i ≤ j → j < k → ls.getD i 0 ≤ ls.getD j 0
  lo : ∀ j, j < k → f ≤ ls.getD j 0
  hi : ∀ j, j < k → ls.getD j 0 ≤ a
theorem LvS.step {k : Nat} {f a a2 : Int} {ls : List Int} (h : LvS k f a ls) (ha : f ≤ a ∧ a ≤ a2) (hk : k < 5) : LvS (k + 1) f a2 (ls.set k a2) := by
  have hl := h.len
  have e : ∀ j, (ls.set k a2).getD j 0 = if j = k then a2 else ls.getD j 0 := fun j => by
    rw [List.getD_eq_getElem?_getD, List.getElem?_set, List.getD_eq_getElem?_getD]
    by_cases hj : k = j
    · subst hj; simp [show k < ls.length by omega]
    · rw [if_neg hj, if_neg (fun e => hj e.symm)]
  refine ⟨by simpa using hl, fun i j hij hj => ?_, fun j hj => ?_, fun j hj => ?_⟩
  · rw [e, e]
    split
    · split
      · exact Int.le_refl _
      · omega
    · split
      · have := h.hi i (by omega); omega
      · exact h.up i j hij (by omega)
  · rw [e]; split
    · omega
    · exact h.lo j (by omega)
  · rw [e]; split
    · exact Int.le_refl _
    · have := h.hi j (by omega); omega
theorem ints_set (ls : List Int) (k : Nat) (v : Int) : (ints ls).toArray.setIfInBounds k (.int .i64 v) = (ints (ls.set k v)).toArray := by
  simp [ints, List.map_set]
theorem div_in {n m : Int} (hn : 0 ≤ n) (hm : 0 < m) : 0 ≤ n / m ∧ n / m ≤ n := ⟨Int.ediv_nonneg hn (by omega), Int.ediv_le_self m hn⟩
theorem rs_of {A : Option Addr} {m c : Nat} {ps : List Pt} {v1 v2 la ya a x0 x1 x2 x3 x4 : Int} (hcl : Climb true (100 + v1) v2 ps) (hnn : m + 1 = ps.length) (hn2 : 2 ≤ m + 1) (hn5 : m + 1 ≤ 5) (hv1 : 0 ≤ v1 ∧ v1 ≤ 10) (hv2 : 0 ≤ v2 ∧ v2 ≤ 20) (hlaf : ps[m]? = some ⟨la, ya⟩) (hls : LvS 5 (100 + v1) a [x0, x1, x2, x3, x4]) (ha : a ≤ la) : RsG ⟨⟨A, m + 1, c, ps⟩, x0, x1, x2, x3, x4⟩ := by
  have h2 : (ps[ps.length - 1]'(by omega)).x = la := by
    have h3 : ps[ps.length - 1]? = some ⟨la, ya⟩ := by rw [← hnn]; exact hlaf
    rw [List.getElem?_eq_getElem (by omega)] at h3
    injection h3 with h3
    rw [h3]
  have h1 := hls.hi 4 (by omega)
  have h0 := hls.lo 0 (by omega)
  simp only [List.getD_cons_succ, List.getD_cons_zero] at h1 h0
  exact ⟨hcl.curve (by omega) (by omega) (by omega), by simp only; omega, fun i h => (hcl.up i h).2.2 rfl, by simp only; rw [hcl.hd]; exact h0, hls.up 0 1 (by omega) (by omega), hls.up 1 2 (by omega) (by omega), hls.up 2 3 (by omega) (by omega), hls.up 3 4 (by omega) (by omega), by simp only; rw [h2]; omega⟩
theorem grown_drew {a w : World} {row : Option Nat} (h : a.grownBy w row) : a.grownBy w.drew row := grown_drewN h 1
def ReservoirMade (b : Nat) (w : World) (e : Ending) (w' : World) : Prop := ∃ r : Rs, e = .returned (.agg r.arr) ∧ RsG r ∧ w'.ownsRow w.heap.size 57 2 r.st.v r.st.n (ptCells r.st.ps) ∧ Dk w' b ∧ w.grownBy w' (some b)
set_option maxHeartbeats 1600000 in
set_option maxRecDepth 20000 in
theorem reservoir_any (b : Nat) (w : World) (hD : Dk w b) : Calls Tryz.prog 17 #[.pointer (some ⟨b, 0, none⟩)] w (ReservoirMade b w) := by
  have hbl := hD.lt
  have hD0 := hD.alloc (.cells #[.slice none 0 0, .int .i64 0, .int .i64 0, .int .i64 0, .int .i64 0, .int .i64 0] 27)
  have q0 := Blk.new w 27 #[.slice none 0 0, .int .i64 0, .int .i64 0, .int .i64 0, .int .i64 0, .int .i64 0]
  have hg0 : w.grownBy (w.alloc (.cells #[.slice none 0 0, .int .i64 0, .int .i64 0, .int .i64 0, .int .i64 0, .int .i64 0] 27)) (some b) := grown_alloc (grown_refl _ _) _
  have hsz0 : w.heap.size < (w.alloc (.cells #[.slice none 0 0, .int .i64 0, .int .i64 0, .int .i64 0, .int .i64 0, .int .i64 0] 27)).heap.size := by simp
  go_enter Tryz.func17, Tryz.ntmps17
  go_wp2_with fail
  generalize w.alloc _ = w0 at *
  refine (next_any _ _ (by omega) _ hD0).mono ?_
  rintro e w1 ⟨v1, rfl, h10, h11, hD1, hg1, hz1⟩
  go_wp2_with fail
  refine (next_any _ _ (by omega) _ hD1).mono ?_
  rintro e w2 ⟨v2, rfl, h20, h21, hD2, hg2, hz2⟩
  go_wp2_with fail
  refine (mkcurve_any b (100 + v1) v2 40 200 true (by omega) (by omega) (by omega) (by omega) w2 hD2).mono ?_
  rintro e w3 ⟨A, n, c, ps, rfl, hn, hn2, hn5, hcl, hrow, hD3, hg3⟩
  have q3 := ((q0.only hg1 (by omega)).only hg2 (by omega)).only hg3 (by omega)
  have hgr3 := hide (grown_trans (grown_trans (grown_trans hg0 hg1) hg2) hg3)
  have hz3 : w.heap.size < w3.heap.size := by have := hg3.size; omega
  have hrow' := hide (show w3.ownsRow w.heap.size 57 2 (.slice A n c) n (ptCells ps) from ownsRow_base hrow (by omega))
  have HCL := hide hcl
  have HN := hide hn
  obtain ⟨g, cap, hv, hge, hlt⟩ := hrow.form (by omega)
  injection hv with hv1 hv2 hv3
  subst hv1
  clear hv2 hv3
  have hgw : w.heap.size < g := by omega
  obtain ⟨m, rfl⟩ : ∃ m, n = m + 1 := ⟨n - 1, by omega⟩
  have hfirst := hcl.hd
  obtain ⟨⟨la, ya⟩, hla⟩ : ∃ P, ps[m]? = some P := ⟨_, List.getElem?_eq_getElem (show m < ps.length by omega)⟩
  have hlg : ps[m]'(by omega) = ⟨la, ya⟩ := by rw [List.getElem?_eq_getElem (show m < ps.length by omega)] at hla; injection hla
  have z0 : w3.cell? ⟨g, 0, none⟩ = some (.int .i64 (100 + v1)) := by
    have h1 := hrow.cellAt 0 (by omega)
    have h2 := (ptCells_get ps 0 (by omega)).1
    rw [Nat.zero_mul] at h2
    rw [h1, h2, hfirst]
  have zl : w3.cell? ⟨g, m * 2, none⟩ = some (.int .i64 la) := by
    have h1 := hrow.cellAt (m * 2) (by omega)
    have h2 := (ptCells_get ps m (by omega)).1
    rw [h1, h2, hlg]
  have hlb : 100 + v1 ≤ la ∧ la ≤ 2000 := by
    have h1 := hcl.bd _ (List.getElem_mem (show m < ps.length by omega))
    rw [hlg] at h1
    simp only at h1
    omega
  have HLA := hide hla
  have hax := bel1 (w := w3) (o := .cells #[.slice (some ⟨g, 0, none⟩) (m + 1) c, .int .i64 0, .int .i64 0, .int .i64 0, .int .i64 0, .int .i64 0] 27)
  have z0a := cell_thr hax z0
  have zla := cell_thr hax zl
  have r4 := Blk.new w3 27 #[.slice (some ⟨g, 0, none⟩) (m + 1) c, .int .i64 0, .int .i64 0, .int .i64 0, .int .i64 0, .int .i64 0]
  obtain ⟨c0, c1, c2, c3, c4, c5, cf⟩ := r4.facts6
  have hmi : (m : Int) < (m : Int) + 1 := by omega
  have hv12 : (0 ≤ v1 ∧ v1 ≤ 10) ∧ (0 ≤ v2 ∧ v2 ≤ 20) := by omega
  have HRS := hide (fun (a x0 x1 x2 x3 x4 : Int) (hls : LvS 5 (100 + v1) a [x0, x1, x2, x3, x4]) (ha : a ≤ la) => rs_of (A := some ⟨g, 0, none⟩) (c := c) hcl hn hn2 hn5 hv12.1 hv12.2 hla hls ha)
  clear hD hD0 hD1 hD2 hg0 hg1 hg2 hg3 q0 hrow hsz0 hla hlg hfirst z0 zl hcl hn
  go_upto_region 5 with fail
  have l4 := (Blk.new (w3.alloc (.cells #[.slice (some ⟨g, 0, none⟩) (m + 1) c, .int .i64 0, .int .i64 0, .int .i64 0, .int .i64 0, .int .i64 0] 27)) 114 (ints [0, 0, 0, 0, 0]).toArray)
  rw [World.size_alloc] at l4
  have r5 := r4.alloc (.cells (ints [0, 0, 0, 0, 0]).toArray 114)
  have hD5 := (hD3.alloc (.cells #[.slice (some ⟨g, 0, none⟩) (m + 1) c, .int .i64 0, .int .i64 0, .int .i64 0, .int .i64 0, .int .i64 0] 27)).alloc (.cells (ints [0, 0, 0, 0, 0]).toArray 114)
  have hg5 : w3.grownBy ((w3.alloc (.cells #[.slice (some ⟨g, 0, none⟩) (m + 1) c, .int .i64 0, .int .i64 0, .int .i64 0, .int .i64 0, .int .i64 0] 27)).alloc (.cells (ints [0, 0, 0, 0, 0]).toArray 114)) (some b) := grown_alloc (grown_alloc (grown_refl _ _) _) _
  have hLS : LvS 0 (100 + v1) (100 + v1) [0, 0, 0, 0, 0] := ⟨rfl, fun i j _ h => absurd h (by omega), fun j h => absurd h (by omega), fun j h => absurd h (by omega)⟩
  have HLS := hide hLS
  simp only [ints, List.map_cons, List.map_nil] at l4 r5 hD5 hg5
  clear hax z0a zla c0 c1 c2 c3 c4 c5 cf r4 hD3 hLS
  generalize (w3.alloc _).alloc _ = w5 at *
  go_wp2_with fail
  go_loopw [4, 30] (fun av iv wr => ∃ (k : Nat) (a : Int) (ls : List Int), k ≤ 5 ∧ iv = .int .i64 k ∧ av = .int .i64 a ∧ (100 + v1 ≤ a ∧ a ≤ la) ∧ Hid (LvS k (100 + v1) a ls) ∧ Blk wr (w3.heap.size + 1) 114 (ints ls).toArray ∧ Blk wr w3.heap.size 27 #[.slice (some ⟨g, 0, none⟩) (m + 1) c, .int .i64 0, .int .i64 0, .int .i64 0, .int .i64 0, .int .i64 0] ∧ Dk wr b ∧ w3.grownBy wr (some b)) (fun _ iv _ => 5 - (intOf iv).toNat)
  case atStart => exact ⟨0, _, [0, 0, 0, 0, 0], by omega, rfl, rfl, by omega, HLS, l4, r5, hD5, hg5⟩
  case round =>
    obtain ⟨k, a, ls, hk, rfl, rfl, ⟨ha0, ha1⟩, hls, hbl5, hbr5, hDr, hgr⟩ := hrel
    have HGR := hide hgr
    have hzr := hgr.size
    have hlen := hls.out.len
    clear hgr
    by_cases hlt : k < 5
    · have hki : (k : Int) < 5 := by omega
      have hd0 : 0 < (5 : Int) - k := by omega
      have hd1 : 0 ≤ la - a := by omega
      obtain ⟨hq0, hq1⟩ := div_in hd1 hd0
      go_wp2_with fail
      generalize (la - a) / ((5 : Int) - k) = Q at *
      refine (next_any _ _ (by omega) _ hDr).mono ?_
      rintro e w6 ⟨v, rfl, hv0, hv1, hD6, hg6, hz6⟩
      have hbl6 := hbl5.only hg6 (by omega)
      have hbr6 := hbr5.only hg6 (by omega)
      have HG6 := hide (grown_trans HGR.out hg6)
      obtain ⟨a2, ha2⟩ : ∃ a2, a + v = a2 := ⟨_, rfl⟩
      have ha2b : a ≤ a2 ∧ a2 ≤ la := by omega
      have hwr : IntKind.i64.wrap a2 = a2 := by rw [IntKind.wrap_i64]; omega
      obtain ⟨zk, hzk⟩ : ∃ u, w6.cell? ⟨w3.heap.size + 1, k, none⟩ = some u := ⟨.int .i64 (ls.getD k 0), by rw [(Blk.facts hbl6).1 k, List.getElem?_toArray]; exact ints_get ls k (by omega)⟩
      have hfk := (Blk.facts hbl6).2 k
      have HBL := hide (Blk.set_ hbl6 k (.int .i64 a2))
      rw [ints_set] at HBL
      have HBR := hide (hbr6.far (p := ⟨w3.heap.size + 1, k, none⟩) (by simp) (.int .i64 a2))
      have HD7 := hide (hD6.set (p := ⟨w3.heap.size + 1, k, none⟩) (by simp only; omega) (.int .i64 a2))
      have HG7 := hide (grown_set HG6.out (p := ⟨w3.heap.size + 1, k, none⟩) (.inr (by simp)) (.int .i64 a2))
      have HL7 := hide (hls.out.step (a2 := a2) ⟨ha0, ha2b.1⟩ hlt)
      clear hbl5 hbr5 hbl6 hbr6 hDr hD6 hg6 HGR HG6 hd0 hd1 hq0 hq1 hv0 hv1
      go_wp2
      go_roundw
      case rel => exact ⟨k + 1, a2, ls.set k a2, by omega, by go_num, rfl, by omega, HL7, HBL.out, HBR.out, HD7.out, HG7.out⟩
      case measure => simp [intOf]; omega
    · have hki : ¬ ((k : Int) < 5) := by omega
      obtain rfl : k = 5 := by omega
      obtain ⟨x0, x1, x2, x3, x4, rfl⟩ : ∃ x0 x1 x2 x3 x4, ls = [x0, x1, x2, x3, x4] := by
        match ls, hlen with
        | [x0, x1, x2, x3, x4], _ => exact ⟨x0, x1, x2, x3, x4, rfl⟩
      have q9 : Blk wr w.heap.size 27 #[.slice none 0 0, .int .i64 0, .int .i64 0, .int .i64 0, .int .i64 0, .int .i64 0] := (HGR.out.block _ hz3 (fun e => by injection e with e; omega)).trans q3
      have hl5 : Blk wr (w3.heap.size + 1) 114 #[.int .i64 x0, .int .i64 x1, .int .i64 x2, .int .i64 x3, .int .i64 x4] := hbl5
      have hR0 := hbr5
      have hne : w3.heap.size + 1 ≠ w3.heap.size := by omega
      have hne2 : w.heap.size ≠ w3.heap.size := by omega
      have l6 := hl5.far (p := ⟨w3.heap.size, 1, none⟩) hne (.int .i64 x0)
      have q10 := q9.far (p := ⟨w3.heap.size, 1, none⟩) hne2 (.int .i64 x0)
      have r6 := hR0.set_ 1 (.int .i64 x0)
      have d6 := hDr.set (p := ⟨w3.heap.size, 1, none⟩) (by simp only; omega) (.int .i64 x0)
      have g6 := grown_set HGR.out (p := ⟨w3.heap.size, 1, none⟩) (.inr (by simp)) (.int .i64 x0)
      have l7 := l6.far (p := ⟨w3.heap.size, 2, none⟩) hne (.int .i64 x1)
      have q11 := q10.far (p := ⟨w3.heap.size, 2, none⟩) hne2 (.int .i64 x1)
      have r7 := r6.set_ 2 (.int .i64 x1)
      have d7 := d6.set (p := ⟨w3.heap.size, 2, none⟩) (by simp only; omega) (.int .i64 x1)
      have g7 := grown_set g6 (p := ⟨w3.heap.size, 2, none⟩) (.inr (by simp)) (.int .i64 x1)
      have l8 := l7.far (p := ⟨w3.heap.size, 3, none⟩) hne (.int .i64 x2)
      have q12 := q11.far (p := ⟨w3.heap.size, 3, none⟩) hne2 (.int .i64 x2)
      have r8 := r7.set_ 3 (.int .i64 x2)
      have d8 := d7.set (p := ⟨w3.heap.size, 3, none⟩) (by simp only; omega) (.int .i64 x2)
      have g8 := grown_set g7 (p := ⟨w3.heap.size, 3, none⟩) (.inr (by simp)) (.int .i64 x2)
      have l9 := l8.far (p := ⟨w3.heap.size, 4, none⟩) hne (.int .i64 x3)
      have q13 := q12.far (p := ⟨w3.heap.size, 4, none⟩) hne2 (.int .i64 x3)
      have r9 := r8.set_ 4 (.int .i64 x3)
      have d9 := d8.set (p := ⟨w3.heap.size, 4, none⟩) (by simp only; omega) (.int .i64 x3)
      have g9 := grown_set g8 (p := ⟨w3.heap.size, 4, none⟩) (.inr (by simp)) (.int .i64 x3)
      have l10 := l9.far (p := ⟨w3.heap.size, 5, none⟩) hne (.int .i64 x4)
      have q14 := q13.far (p := ⟨w3.heap.size, 5, none⟩) hne2 (.int .i64 x4)
      have r10 := r9.set_ 5 (.int .i64 x4)
      have d10 := d9.set (p := ⟨w3.heap.size, 5, none⟩) (by simp only; omega) (.int .i64 x4)
      have g10 := grown_set g9 (p := ⟨w3.heap.size, 5, none⟩) (.inr (by simp)) (.int .i64 x4)
      simp only [List.setIfInBounds_toArray, List.set_cons_zero, List.set_cons_succ] at r6 r7 r8 r9 r10
      have HR10 := hide r10.drew
      have HQ14 := hide q14.drew
      have HD10 := hide d10.drew
      have HG10 := hide (grown_drew g10)
      have hSF : ∀ W : World, Blk W (w3.heap.size + 1) 114 #[.int .i64 x0, .int .i64 x1, .int .i64 x2, .int .i64 x3, .int .i64 x4] → W.cell? ⟨w3.heap.size + 1, 0, none⟩ = some (.int .i64 x0) ∧ W.cell? ⟨w3.heap.size + 1, 1, none⟩ = some (.int .i64 x1) ∧ W.cell? ⟨w3.heap.size + 1, 2, none⟩ = some (.int .i64 x2) ∧ W.cell? ⟨w3.heap.size + 1, 3, none⟩ = some (.int .i64 x3) ∧ W.cell? ⟨w3.heap.size + 1, 4, none⟩ = some (.int .i64 x4) := fun W h => ⟨(Blk.facts h).1 0, (Blk.facts h).1 1, (Blk.facts h).1 2, (Blk.facts h).1 3, (Blk.facts h).1 4⟩
      have S5 := hSF wr.drew hl5.drew
      have S6 := hSF _ l6.drew
      have S7 := hSF _ l7.drew
      have S8 := hSF _ l8.drew
      have S9 := hSF _ l9.drew
      have S10 := hSF _ l10.drew
      obtain ⟨c0, c1, c2, c3, c4, c5, cf⟩ := hR0.facts6
      have hRS := hide (HRS.out a x0 x1 x2 x3 x4 hls.out ha1)
      clear hls hbl5 hbr5 hDr r6 r7 r8 r9 r10 q10 q11 q12 q13 q14 d6 d7 d8 d9 d10 g6 g7 g8 g9 g10 hlen
      go_wp2_with fail
      go_region_held3 (fun W => W.cell? ⟨w3.heap.size + 1, 0, none⟩ = some (.int .i64 x0) ∧ W.cell? ⟨w3.heap.size + 1, 1, none⟩ = some (.int .i64 x1) ∧ W.cell? ⟨w3.heap.size + 1, 2, none⟩ = some (.int .i64 x2) ∧ W.cell? ⟨w3.heap.size + 1, 3, none⟩ = some (.int .i64 x3) ∧ W.cell? ⟨w3.heap.size + 1, 4, none⟩ = some (.int .i64 x4))
        (first | with_reducible exact S5 | with_reducible exact S6 | with_reducible exact S7 | with_reducible exact S8 | with_reducible exact S9 | with_reducible exact S10)
        (fail)
      all_goals
        generalize World.drew _ = w7 at *
        clear S5 S6 S7 S8 S9 S10 l6 l7 l8 l9 l10 hSF c0 c1 c2 c3 c4 c5 cf
        obtain ⟨d0, d1, d2, d3, d4, d5, df⟩ := HR10.out.facts6
        obtain ⟨z0, z1, z2, z3, z4, z5, zf⟩ := HQ14.out.facts6
        have hfin := (((((HQ14.out.set_ 0 (.slice (some ⟨g, 0, none⟩) (m + 1) c)).set_ 1 (.int .i64 x0)).set_ 2 (.int .i64 x1)).set_ 3 (.int .i64 x2)).set_ 4 (.int .i64 x3)).set_ 5 (.int .i64 x4)
        have hDf := (((((HD10.out.set (p := ⟨w.heap.size, 0, none⟩) hbl (.slice (some ⟨g, 0, none⟩) (m + 1) c)).set (p := ⟨w.heap.size, 1, none⟩) hbl (.int .i64 x0)).set (p := ⟨w.heap.size, 2, none⟩) hbl (.int .i64 x1)).set (p := ⟨w.heap.size, 3, none⟩) hbl (.int .i64 x2)).set (p := ⟨w.heap.size, 4, none⟩) hbl (.int .i64 x3)).set (p := ⟨w.heap.size, 5, none⟩) hbl (.int .i64 x4)
        have hGf := grown_set (grown_set (grown_set (grown_set (grown_set (grown_set (grown_trans hgr3.out HG10.out) (p := ⟨w.heap.size, 0, none⟩) (.inr (Nat.le_refl _)) (.slice (some ⟨g, 0, none⟩) (m + 1) c)) (p := ⟨w.heap.size, 1, none⟩) (.inr (Nat.le_refl _)) (.int .i64 x0)) (p := ⟨w.heap.size, 2, none⟩) (.inr (Nat.le_refl _)) (.int .i64 x1)) (p := ⟨w.heap.size, 3, none⟩) (.inr (Nat.le_refl _)) (.int .i64 x2)) (p := ⟨w.heap.size, 4, none⟩) (.inr (Nat.le_refl _)) (.int .i64 x3)) (p := ⟨w.heap.size, 5, none⟩) (.inr (Nat.le_refl _)) (.int .i64 x4)
        have hro7 := own_deck hrow'.out HG10.out (show b < w.heap.size by omega) 
        have hnb : ∀ o, (Value.slice (some ⟨g, 0, none⟩) (m + 1) c).ownBlock ≠ some (⟨w.heap.size, o, none⟩ : Addr).block := fun o e => by simp only [Value.ownBlock, Option.some.injEq] at e; omega
        have hRf := own_set (own_set (own_set (own_set (own_set (own_set hro7 (hnb 0) (.slice (some ⟨g, 0, none⟩) (m + 1) c)) (hnb 1) (.int .i64 x0)) (hnb 2) (.int .i64 x1)) (hnb 3) (.int .i64 x2)) (hnb 4) (.int .i64 x3)) (hnb 5) (.int .i64 x4)
        simp only [List.setIfInBounds_toArray, List.set_cons_zero, List.set_cons_succ] at hfin
        obtain ⟨u0, u1, u2, u3, u4, u5, uf⟩ := hfin.facts6
        have hP : ReservoirMade b w (.returned (.agg #[.slice (some ⟨g, 0, none⟩) (m + 1) c, .int .i64 x0, .int .i64 x1, .int .i64 x2, .int .i64 x3, .int .i64 x4])) _ := ⟨⟨⟨some ⟨g, 0, none⟩, m + 1, c, ps⟩, x0, x1, x2, x3, x4⟩, rfl, hRS.out, hRf, hDf, hGf⟩
        have HP := hide hP
        clear hP hRf hDf hGf hfin hro7
        go_wp2
        refine bodyPost_ret (v := .agg #[.slice (some ⟨g, 0, none⟩) (m + 1) c, .int .i64 x0, .int .i64 x1, .int .i64 x2, .int .i64 x3, .int .i64 x4]) (by simp [results, Tryz.results17, go_sem, u0, u1, u2, u3, u4, u5]) rfl HP.out
end Go.Proofs.YtodamjjlnagpjaaGreatDoor
