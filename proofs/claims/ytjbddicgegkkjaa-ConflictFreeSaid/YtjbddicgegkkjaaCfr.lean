/-
  Conditions none of which may exclude another one all hold, at any day, level and release before: the walk of ConflictFree. Condition: the list can be read.
-/
import Derived.Test.YtjbddicgegkkjaaProg
import Derived.Test.YtjbddicgegkkjaaCfl
import Derived.Test.YtjbddicgegkkjaaConA
import Derived.Laws.OwnMore
namespace Go.Proofs.Ytjbddicgegkkjaa
open Go.RowKit

/-- Block g holds n bools. -/
def BRow (w : World) (g n : Nat) (dr : Nat → Bool) : Prop := ∃ cur : Array Value, w.heap[g]? = some (.cells cur 4 (0, 0)) ∧ ∀ i, i < n → cur[i]? = some (.bool (dr i))
section
variable {w w' : World} {g n : Nat} {dr : Nat → Bool}
theorem BRow.lt (h : BRow w g n dr) : g < w.heap.size := by
  obtain ⟨cur, h, _⟩ := h
  rcases Nat.lt_or_ge g w.heap.size with hlt | hge
  · exact hlt
  · rw [Array.getElem?_eq_none hge] at h; cases h
theorem BRow.cell (h : BRow w g n dr) {i : Nat} (hi : i < n) : w.cell? ⟨g, i, none⟩ = some (.bool (dr i)) := by
  obtain ⟨cur, h, hc⟩ := h
  simp [World.cell?, h, hc i hi]
theorem BRow.frozen (h : BRow w g n dr) (i : Nat) : w.frozen? ⟨g, i, none⟩ = false := by
  obtain ⟨cur, h, _⟩ := h
  simp [World.frozen?, h]
theorem BRow.keep (h : BRow w g n dr) (hk : w'.heap[g]? = w.heap[g]?) : BRow w' g n dr := by
  obtain ⟨cur, h, hc⟩ := h
  exact ⟨cur, hk.trans h, hc⟩
theorem BRow.alloc (h : BRow w g n dr) (o : Obj) : BRow (w.alloc o) g n dr := h.keep (Below.heap_alloc w o g h.lt)
theorem BRow.set_ (h : BRow w g n dr) (j : Nat) : BRow (w.setCell ⟨g, j, none⟩ (.bool true)) g n (fun i => dr i || j == i) := by
  obtain ⟨cur, h, hc⟩ := h
  refine ⟨cur.setIfInBounds j (.bool true), by simp [World.setCell, Array.getElem?_modify, h], fun i hi => ?_⟩
  have h2 := hc i hi
  by_cases e : j = i
  · subst e
    have : j < cur.size := by
      rcases Nat.lt_or_ge j cur.size with h3 | h3
      · exact h3
      · rw [Array.getElem?_eq_none h3] at h2; cases h2
    simp [this]
  · simp [e, h2]
end
theorem make_bools (w : World) (n : Nat) (hn : n ≤ 4096) : ∃ w', (Instr.makeSlice 47 (.int .i64 (n : Int)) (.int .i64 (n : Int))).run Try.prog w = .ok (.slice (some ⟨w.heap.size, 0, none⟩) n n) w' ∧ BRow w' w.heap.size n (fun _ => false) ∧ w.grownBy w' none := by
  obtain ⟨i, hi, h1, h2, h3⟩ := info_parts (P := Try.prog) (e := 4) (z := .bool false) (size := 1) (bytes := 1) rfl
  obtain ⟨w', r1, r2, r3⟩ := run_make_full (P := Try.prog) w w.heap.size 47 4 i (.bool false) 1 (by kernel_rfl) hi h1 h2 .i64 .i64 n (by rw [h3]; omega) (by unfold maxLen; omega) (Nat.le_refl _)
  refine ⟨w', r1, ?_, r3⟩
  rcases r2.2 with ⟨h4, _⟩ | ⟨g', cap, cur, hv, hg, hh, h5, h6, h7, h8⟩
  · simp at h4
  · injection hv with e1 e2 e3
    injection e1 with e1
    injection e1 with e1
    subst e1
    refine ⟨cur, hh, fun j hj => ?_⟩
    have h9 : (madeCells #[.bool false] (n * 1)).toList = List.replicate n (.bool false) := by rw [toList_madeCells_one]; simp
    have h10 : cur.toList.take (n * 1) = List.replicate n (.bool false) := h8.trans h9
    have h11 : (cur.toList.take (n * 1))[j]? = some (.bool false) := by rw [h10]; simp [hj]
    rw [List.getElem?_take, if_pos (by omega)] at h11
    simpa using h11
theorem own_neC {w : World} {base b : Nat} {e : TypeId} {size n : Nat} {v : Value} {xs : List Value} (h : w.ownsRow base e size v n xs) (hb : b < base) : v.ownBlock = none ∨ v.ownBlock ≠ some b := by
  cases hv : v.ownBlock with
  | none => exact .inl rfl
  | some g => exact .inr (fun e => by injection e with e; have := (h.lt g hv).1; omega)
/-- Which numbers are a second one of the first k pairs. -/
def secB (ps : List (Int × Int)) (k i : Nat) : Bool := (ps.take k).any fun q => q.2 == (i : Int)
theorem secB_succ {ps : List (Int × Int)} {k : Nat} (h : k < ps.length) {a b : Nat} (he : ps[k] = ((a : Int), (b : Int))) : secB ps (k + 1) = fun i => secB ps k i || b == i := by
  funext i
  unfold secB
  rw [List.take_succ_eq_append_getElem h, List.any_append]
  congr 1
  simp only [List.any_cons, List.any_nil, Bool.or_false, he]
  rw [Bool.eq_iff_iff]; simp only [beq_iff_eq]; omega
theorem pCells_get : ∀ (ps : List (Int × Int)) (k : Nat) (h : k < ps.length), (pCells ps)[k * 2]? = some (.int .i64 ps[k].1) ∧ (pCells ps)[k * 2 + 1]? = some (.int .i64 ps[k].2)
  | q :: t, 0, _ => ⟨rfl, rfl⟩
  | q :: t, k + 1, h => by
    have := pCells_get t k (by simpa using h)
    rw [show (k + 1) * 2 = k * 2 + 2 by omega, show k * 2 + 2 + 1 = k * 2 + 1 + 2 by omega]
    exact this
theorem ch_neg : ∀ (x : Int), (0 : Int) ≤ x → decide (x < 0) = false := fun x h => decide_eq_false (by omega)
set_option maxHeartbeats 1600000 in
set_option maxRecDepth 20000 in
theorem free_walk {A : Option Addr} {n c : Nat} {zs : List Int} {w : World} (hs : Sl w w.heap.size 1 A n c (ints zs)) : Calls Try.prog 5 #[.slice A n c] w fun e w' => e = .returned (.bool true) ∧ Below w.heap.size w w' := by
  go_enter Try.func5, Try.ntmps5
  go_wp2_with fail
  refine (new_any _ _ _ _ _ hs).mono ?_
  rintro e w1 ⟨rfl, hD1, hb1⟩
  have hw1 := hD1.lt
  clear hs
  go_wp2_with fail
  refine (conds_any _ _ hD1).mono ?_
  rintro e w2 ⟨v, cs, rfl, hcl, hcg, hv, hD2, hg2⟩
  have hB := below_grown hb1 hg2 hb1.size (Nat.le_refl _)
  have hw2 := hg2.size
  clear hD1 hg2 hb1
  obtain ⟨A2, c2, rfl, hsl⟩ := own_sl hv
  obtain ⟨m, hm⟩ : ∃ m, m = cs.length := ⟨_, rfl⟩
  rw [← hm] at hsl hcl ⊢
  have HG := hide (fun x hx => good_err (hcg x hx))
  have HM := hide hm
  have HD2 := hide hD2
  have HB2 := hide hB
  have HS2 := hide hsl
  clear hcg hm hv hD2 hB
  go_wp2_with fail
  refine (find_ok A2 m c2 cs w2 (by omega) HG.out hsl).mono ?_
  rintro e w3 ⟨vp, rfl, hvp, hb3⟩
  obtain ⟨ps, hps⟩ : ∃ ps, ps = allP (mayF cs) m m := ⟨_, rfl⟩
  rw [← hps] at hvp
  obtain ⟨Ap, cp, rfl, hsp⟩ := own_sl hvp
  obtain ⟨P, hP⟩ : ∃ P, P = ps.length := ⟨_, rfl⟩
  rw [← hP] at hsp ⊢
  have HPS := hide hps
  have HPP := hide hP
  have hPl : P ≤ 1000 := by
    have h1 := allP_len (mayF cs) m m
    have h2 : m * m ≤ 6 * 6 := Nat.mul_le_mul hcl hcl
    rw [hP, hps]; omega
  obtain ⟨w4, hmk, hbr, hg4⟩ := make_bools w3 m (by omega)
  have hB24 : Below w2.heap.size w2 w4 := hb3.grown hg4 hb3.size (fun k hk => by cases hk)
  have HSP := hide (show Sl w4 w3.heap.size 2 Ap P cp (pCells ps) from hsp.keep (fun b o hb => World.cell?_of_block (hg4.block b hb (fun e => by cases e))))
  have hz3 := hb3.size
  have hz4 := hg4.size
  clear hps hP hvp hsp hb3 hg4 hsl
  go_wp2
  clear hmk
  go_loopw [29] (fun vi wr => ∃ k : Nat, k ≤ P ∧ vi = .int .i64 k ∧ BRow wr w3.heap.size m (secB ps k) ∧ Below w2.heap.size w2 wr ∧ Hid (∀ b o, b < w3.heap.size → wr.cell? ⟨b, o, none⟩ = w4.cell? ⟨b, o, none⟩) ∧ w4.heap.size ≤ wr.heap.size) (fun vi _ => P - (intOf vi).toNat)
  case atStart => exact ⟨0, by omega, rfl, hbr, hB24, hide (fun _ _ _ => rfl), Nat.le_refl _⟩
  case round =>
    obtain ⟨k, hk, rfl, hbr, hB, hkeep, hsz⟩ := hrel
    by_cases hlt : k < P
    · have hPP := HPP.out
      have hkl : k < ps.length := by omega
      obtain ⟨a, b, ha, hab, hbm, _, he⟩ := allP_mem.1 (show ps[k] ∈ allP (mayF cs) m m by rw [← HPS.out]; exact List.getElem_mem hkl)
      obtain ⟨bp, op, rfl, hbp, hcp⟩ := HSP.out.at_ hlt
      obtain ⟨g0, g1⟩ := pCells_get ps k hkl
      rw [he] at g0 g1
      have x0 := (hkeep.out _ _ hbp).trans (hcp _ _ g0)
      have x1 := (hkeep.out _ _ hbp).trans (hcp _ _ g1)
      rw [← Nat.add_assoc] at x1
      have HSB := hide (secB_succ hkl he)
      have f1 := (hbr.alloc (.cells #[.int .i64 a, .int .i64 b] 48)).frozen b
      have y1 := (hbr.alloc (.cells #[.int .i64 a, .int .i64 b] 48)).cell hbm
      have HBR := hide ((hbr.set_ b).alloc (.cells #[.int .i64 a, .int .i64 b] 48))
      have HBB := hide ((hB.setCell (p := ⟨w3.heap.size, b, none⟩) (show w2.heap.size ≤ w3.heap.size from hz3) (.bool true)).alloc (by simpa [World.setCell] using hB.size) (.cells #[.int .i64 a, .int .i64 b] 48))
      have HK := hide hkeep.out
      have D1 : decide ((a : Int) < 0) = false := decide_eq_false (by omega)
      have D2 : decide (b ≤ a) = false := decide_eq_false (by omega)
      have D3 : decide (m ≤ b) = false := decide_eq_false (by omega)
      have a0 : (0 : Int) ≤ (b : Int) := by omega
      have a1 : (b : Int) < (m : Int) := by omega
      have hlt3 := hbr.lt
      clear hPP he hcp g0 g1 hbr hB hkeep
      go_wp2
      go_roundw
      case rel => exact ⟨k + 1, by omega, by go_num, by rw [HSB.out]; exact HBR.out, HBB.out, hide (fun b' o' hb' => ((World.cell?_alloc_lt _ _ ⟨b', o', none⟩ (by simp [World.setCell]; omega)).trans (World.cell?_of_block (Below.heap_setCell _ _ _ _ (by show b' ≠ w3.heap.size; omega)))).trans (HK.out b' o' hb')), by simp [World.setCell]; omega⟩
      case measure => simp [intOf]; omega
    · obtain rfl : k = P := by omega
      obtain ⟨dr, hdr⟩ : ∃ dr, dr = secB ps k := ⟨_, rfl⟩
      rw [← hdr] at hbr
      have HDR := hide (show ∀ a b, a < b → b < cs.length → mayF cs a b = true → dr b = true by
        intro a b h1 h2 h3
        rw [hdr]
        unfold secB
        rw [List.take_of_length_le (by rw [← HPP.out]; exact Nat.le_refl _), List.any_eq_true]
        refine ⟨((a : Int), (b : Int)), ?_, by simp⟩
        rw [HPS.out]
        exact allP_mem.2 ⟨a, b, by rw [HM.out]; omega, h1, by rw [HM.out]; omega, h3, rfl⟩)
      have HBR := hide hbr
      have HBB := hide hB
      obtain ⟨wo, hwo⟩ : ∃ wo : World, wo = wr := ⟨_, rfl⟩
      have hzo : w4.heap.size ≤ wo.heap.size := by rw [hwo]; exact hsz
      clear hdr hkeep hsz
      subst hwo
      clear hbr hB
      go_wp2
      go_loopw [10, 57] (fun v vi wq => ∃ j : Nat, j ≤ m ∧ vi = .int .i64 j ∧ wq.ownsRow wo.heap.size 28 7 v (leftL cs dr j).length (cdCells (leftL cs dr j)) ∧ Below wo.heap.size wo wq) (fun _ vi _ => m - (intOf vi).toNat)
      case atStart => exact ⟨0, by omega, rfl, World.ownsRow_nil _ _ _ _, Below.refl _ _⟩
      case round =>
        obtain ⟨j, hj, rfl, hv, hb⟩ := hrel
        by_cases hlt2 : j < m
        · have hB2q := HBB.out.trans (hb.mono HBB.out.size)
          have hL := HM.out
          obtain ⟨bl, ol, rfl, _, hcl2⟩ := (HS2.out.below hB2q).at_ hlt2
          rcases ej : cs[j]'(by omega) with ⟨r, kd, vv, f, t, x, y⟩
          obtain ⟨e0, e1, e2, e3, e4, e5, e6⟩ := cd_cells (B := 0) (n := 0) (c := 0) hcl2 (by omega) ej
          have hgd : cs.getD j cdn = ⟨r, kd, vv, f, t, x, y⟩ := by simp [List.getD_eq_getElem?_getD, show j < cs.length by omega, ej]
          have hdc := (hb.cell (p := ⟨w3.heap.size, j, none⟩) HBR.out.lt).trans (HBR.out.cell hlt2)
          have hdc2 := (World.cell?_alloc_lt wr (.cells #[.int .i64 r, .int .i64 kd, .int .i64 vv, .int .i64 f, .int .i64 t, .int .i64 x, .int .i64 y] 28) ⟨w3.heap.size, j, none⟩ (World.block_lt_of_cell? _ _ hdc)).trans hdc
          have q1 := Blk.new wr 28 #[.int .i64 r, .int .i64 kd, .int .i64 vv, .int .i64 f, .int .i64 t, .int .i64 x, .int .i64 y]
          have hb2 := hb.alloc hb.size (.cells #[.int .i64 r, .int .i64 kd, .int .i64 vv, .int .i64 f, .int .i64 t, .int .i64 x, .int .i64 y] 28)
          have hv2 := hv.alloc (.cells #[.int .i64 r, .int .i64 kd, .int .i64 vv, .int .i64 f, .int .i64 t, .int .i64 x, .int .i64 y] 28)
          have HI := hide (fun (h : dr j = false) => left_in (cs := cs) h)
          have HU := hide (fun (h : dr j = true) => left_out (cs := cs) h)
          rw [hgd] at HI
          have hll := left_len cs dr j
          have hzq := hb.size
          obtain ⟨⟨a0, a1, a2, a3, a4, a5, a6⟩, _⟩ := Blk.facts7 q1
          cases hdj : dr j
          · rw [hdj] at hdc2
            have A1 := hide (HI.out hdj)
            have HB2 := hide hb2
            clear HI HU hdj hcl2 ej hgd hL hb hb2 hv q1 hB2q hdc
            go_wp2_with (at_builtin; refine wpList_pushG (wr.heap.size + 1) (by simp) rfl _ _ _ rfl wo.heap.size _ _ slCond _ _ _ rfl hv2 _ _ rfl rfl rfl (by omega) (by simp; omega) ?_)
            intro v' w9 hv9 hg9 _
            have hb9 := hide (HB2.out.trans ((below_push hv2 hg9 (by simp; omega)).mono (by omega)))
            have hva := hide (own_cells hv9 (ys := cdCells (leftL cs dr (j + 1))) (by rw [A1.out, cdCells_append]; rfl))
            clear hv9 hg9 hv2 a0 a1 a2 a3 a4 a5 a6 e0 e1 e2 e3 e4 e5 e6 hdc2
            go_wp2
            go_roundw
            case rel => exact ⟨j + 1, by omega, by go_num, by rw [show (leftL cs dr (j + 1)).length = (leftL cs dr j).length + 1 by rw [A1.out]; simp]; exact hva.out, hb9.out⟩
            case measure => simp [intOf]; omega
          · rw [hdj] at hdc2
            have A1 := hide (HU.out hdj)
            have HB2 := hide hb2
            have HV2 := hide hv2
            clear HI HU hdj hcl2 ej hgd hL hb hb2 hv hv2 q1 hB2q hdc
            go_wp2
            go_roundw
            case rel => exact ⟨j + 1, by omega, by go_num, by rw [A1.out]; exact HV2.out, HB2.out⟩
            case measure => simp [intOf]; omega
        · obtain rfl : j = m := by omega
          have hB2q := HBB.out.trans (hb.mono HBB.out.size)
          have hDq := HD2.out.below hB2q
          have hBq := HB2.out.trans (hB2q.mono HB2.out.size)
          have hLG := hide (left_ok (dr := dr) HG.out)
          have hLM := hide (fun x hx y hy => left_may (cs := cs) HDR.out (x := x) (y := y) hx hy)
          rw [← HM.out] at hLG hLM
          have hll := left_len cs dr j
          generalize leftL cs dr j = ds at *
          have hwo : w.heap.size < wo.heap.size := by omega
          clear hb hB2q
          go_wp2_with fail
          refine (next_any _ _ (by omega) _ hDq).mono ?_
          rintro e x1 ⟨d, rfl, hd0, hd1, hE1, hh1, _⟩
          have hC1 := below_grown hBq hh1 hBq.size (Nat.le_refl _)
          have hv1 := hv.kept hh1 (own_neC hv hwo)
          have hd : 0 ≤ d ∧ d < 365 := by omega
          clear hDq hBq hh1 hv hd0 hd1
          go_wp2_with fail
          refine (next_any _ _ (by omega) _ hE1).mono ?_
          rintro e x2 ⟨lv, rfl, hd0, hd1, hE2, hh2, _⟩
          have hC2 := below_grown hC1 hh2 hC1.size (Nat.le_refl _)
          have hv2 := hv1.kept hh2 (own_neC hv1 hwo)
          have hlv : 0 ≤ lv ∧ lv < 150 := by omega
          clear hE1 hC1 hh2 hv1 hd0 hd1
          go_wp2_with fail
          refine (next_any _ _ (by omega) _ hE2).mono ?_
          rintro e x3 ⟨bf, rfl, hd0, hd1, hE3, hh3, _⟩
          have hC3 := below_grown hC2 hh3 hC2.size (Nat.le_refl _)
          have hv3 := hv2.kept hh3 (own_neC hv2 hwo)
          have hbf : 0 ≤ bf ∧ bf < 40 := by omega
          clear hE2 hC2 hh3 hv2 hd0 hd1
          go_wp2_with fail
          refine (next_any _ _ (by omega) _ hE3).mono ?_
          rintro e x4 ⟨wn, rfl, hd0, hd1, hE4, hh4, _⟩
          have hC4 := below_grown hC3 hh4 hC3.size (Nat.le_refl _)
          have hv4 := hv3.kept hh4 (own_neC hv3 hwo)
          have hwn : 0 ≤ wn ∧ wn < 60 := by omega
          clear hE3 hC3 hh4 hv3 hd0 hd1 hE4
          obtain ⟨Av, cv, rfl, hsv⟩ := own_sl hv4
          clear hv4
          go_wp2_with fail
          with_reducible refine (rchoose_ok Av ds.length cv ds d (80 + lv) bf 0 1073741824 wn x4 (by omega) hLG.out (wit_of (by omega) (by omega)) (wit_of (by omega) (by omega)) (wit_of (by omega) (by omega)) (wit_of (by omega) (by omega)) (wit_of (by omega) (by omega)) (wit_of (by omega) (by omega)) (by omega) hsv).mono ?_
          rintro e x5 ⟨os, s, A9, c9, ho, hs9, rfl, _, hb9⟩
          have hys : s.ys = [] := by rw [hs9]; exact free_ys hLG.out hLM.out (by omega) ho
          have hC5 := hide (bthr hC4 hb9 hC4.size)
          simp only [hys, List.length_nil]
          generalize chRel wn s = q9 at *
          generalize s.lo = q1 at *
          generalize s.hi = q2 at *
          clear hys hs9 ho hb9 hC4 hsv hd hlv hbf hwn
          have hC6 := hide (hC5.out.alloc hC5.out.size (.cells #[.int .i64 q9, .int .i64 q1, .int .i64 q2, .slice A9 0 c9] 51))
          have hb7 := (Blk.new x5 51 #[.int .i64 q9, .int .i64 q1, .int .i64 q2, .slice A9 0 c9]).facts4
          obtain ⟨y0, y1, y2, y3, _⟩ := hb7
          go_wp2_with fail
          refine (awake_any _).mono ?_
          rintro e x6 ⟨rfl, hb8⟩
          have hC7 := hide (bthr hC6.out hb8 hC6.out.size)
          clear hb8 y0 y1 y2 y3
          go_wp2
          go_ret
          exact ⟨rfl, hC7.out⟩
end Go.Proofs.Ytjbddicgegkkjaa
