/-
  What is kept of the stronger conditions does not depend on weaker ones: the walk of ResolveStronger. Conditions: the table of kinds; the list can be read.
-/
import Derived.Test.YtnjlbmdpfhiojaaDoorProg
import Derived.Test.YtnjlbmdpfhiojaaDoorStw
namespace Go.Proofs.YtnjlbmdpfhiojaaDoor
open Go.RowKit

theorem str_at {cs : List Cd} {rk : Int} {xs : List Int} {ys ys' r : List (Int × Int)} (h : ys = ys' ++ r) (h1 : ∀ y ∈ ys', rkC cs y.1 ≤ rk ∧ y.1 ∈ xs) (h2 : ∀ y ∈ r, rk < rkC cs y.1 ∧ y.1 ∈ xs) {k : Nat} (hk : k < ys.length) {y0 y1 : Int} (e : ys[k] = (y0, y1)) :
    y0 ∈ xs ∧ (∀ hq : k < ys'.length, ys'[k] = (y0, y1) ∧ rkC cs y0 ≤ rk) ∧ (ys'.length ≤ k → rk < rkC cs y0) := by
  subst h
  by_cases hq : k < ys'.length
  · rw [List.getElem_append_left hq] at e
    have hm := h1 _ (List.getElem_mem hq)
    rw [e] at hm
    exact ⟨hm.2, fun _ => ⟨e, hm.1⟩, fun h => absurd hq (by omega)⟩
  · have hk2 := hk
    rw [List.length_append] at hk2
    rw [List.getElem_append_right (by omega)] at e
    have hm := h2 _ (List.getElem_mem (show k - ys'.length < r.length by omega))
    rw [e] at hm
    exact ⟨hm.2, fun h => absurd h hq, fun _ => hm.1⟩
/-- what the second choice holds against the first -/
def StrAt (cs : List Cd) (rk : Int) (ys ys' : List (Int × Int)) (p q : Nat) : Prop := ∀ (k : Nat) (hk : k < ys.length) (y0 y1 : Int), ys[k] = (y0, y1) → (0 ≤ y0 ∧ y0 < cs.length) ∧ (∀ hq : k < ys'.length, ys'[k] = (y0, y1) ∧ rkC cs y0 ≤ rk) ∧ (ys'.length ≤ k → rk < rkC cs y0)
theorem weak_set {rk : Int} {cs : List Cd} {k : Nat} (h : k < cs.length) {r k1 v f t x y : Int} (e : cs[k] = ⟨r, k1, v, f, t, x, y⟩) (hr : rk < r) : ((cdCells (weakK rk cs k)).set (k * 7 + 1) (.int .i64 1)).set (k * 7 + 2) (.int .i64 0) = cdCells (weakK rk cs (k + 1)) := by
  rw [cdCells_set (weakK rk cs k) k (by rw [weakK_len]; exact h) ((weakK_get h).trans e), weakK_succ h, e]
  unfold weakC
  rw [if_pos hr]
set_option maxHeartbeats 1600000 in
set_option maxRecDepth 20000 in
theorem stronger_walk {A : Option Addr} {n c : Nat} {zs : List Int} {w : World} (hT : KT w) (hs : Sl w w.heap.size 1 A n c (ints zs)) (cut : Int) : Calls Tryd.prog 4 #[.slice A n c, .int .i64 cut] w fun e w' => e = .returned (.bool true) ∧ Below w.heap.size w w' := by
  have hw0 := hT.pos
  go_enter Tryd.func4, Tryd.ntmps4
  go_wp2_with fail
  refine (new_any _ _ _ _ _ hs).mono ?_
  rintro e w1 ⟨rfl, hD1, hb1⟩
  have hw1 := hD1.lt
  clear hs
  go_wp2_with fail
  refine (made_any _ _ hD1).mono ?_
  rintro e w2 ⟨A2, c2, cs, d, lv, bf, wn, g0, g1, rfl, hcl, hcg, hv, hd, hlv, hbf, hwn, h0, h01, h1, hD2, hg2⟩
  have hB2 := below_grown hb1 hg2 hb1.size (Nat.le_refl _)
  have HG := hide (fun x hx => good_err (hcg x hx))
  obtain ⟨m, hm⟩ : ∃ m, cs.length = m := ⟨_, rfl⟩
  have HM := hide hm
  rw [hm] at hcl hv
  simp only [hm]
  clear hD1 hb1 hcg hm hg2 hD2
  have q5 := Blk.new w2 30 #[.slice A2 m c2, .int .i64 d, .int .i64 lv, .int .i64 bf, .int .i64 wn, .int .i64 g0, .int .i64 g1]
  have hB3 := hB2.alloc hB2.size (.cells #[.slice A2 m c2, .int .i64 d, .int .i64 lv, .int .i64 bf, .int .i64 wn, .int .i64 g0, .int .i64 g1] 30)
  have hs3 := (sl_own hv).allocw (.cells #[.slice A2 m c2, .int .i64 d, .int .i64 lv, .int .i64 bf, .int .i64 wn, .int .i64 g0, .int .i64 g1] 30)
  have hT3 := hT.below hB3 hw0
  obtain ⟨⟨y0, y1, y2, y3, y4, y5, y6⟩, _⟩ := Blk.facts7 q5
  have HW := hide (show wit d 364 = true ∧ wit lv 16777216 = true ∧ wit bf 1073741824 = true ∧ wit wn 1073741824 = true ∧ wit g0 1073741824 = true ∧ wit g1 1073741824 = true from ⟨wit_of (by omega) (by omega), wit_of (by omega) (by omega), wit_of (by omega) (by omega), wit_of (by omega) (by omega), wit_of (by omega) (by omega), wit_of (by omega) (by omega)⟩)
  clear hv hB2 hd hlv hbf hwn
  go_wp2_with fail
  generalize w2.alloc _ = w3 at *
  generalize w2.heap.size = g5 at *
  with_reducible refine (Choose_ok A2 m c2 cs d lv bf g0 g1 wn w3 hT3 (by omega) HG.out HW.out.1 HW.out.2.1 HW.out.2.2.1 HW.out.2.2.2.1 HW.out.2.2.2.2.1 HW.out.2.2.2.2.2 h01 hs3).mono ?_
  rintro e w4 ⟨s, A4, c4, hs4, rfl, hy4, hb4⟩
  rcases s with ⟨lo, hi, lb, mb, ys, f0, f1⟩
  simp only at hy4 ⊢
  generalize chRel wn ⟨lo, hi, lb, mb, ys, f0, f1⟩ = rl
  have HS4 := hide hs4
  obtain ⟨p, hp⟩ : ∃ p, ys.length = p := ⟨_, rfl⟩
  have HP := hide hp
  rw [hp] at hy4
  simp only [hp]
  have q5b := (q5.below hb4 q5.lt).alloc (.cells #[.int .i64 rl, .int .i64 lo, .int .i64 hi, .slice A4 p c4] 35)
  have q6 := Blk.new w4 35 #[.int .i64 rl, .int .i64 lo, .int .i64 hi, .slice A4 p c4]
  have hB5 := (bthr hB3 hb4 hB3.size).alloc (bthr hB3 hb4 hB3.size).size (.cells #[.int .i64 rl, .int .i64 lo, .int .i64 hi, .slice A4 p c4] 35)
  have hs5 := (hs3.thr hb4).allocw (.cells #[.int .i64 rl, .int .i64 lo, .int .i64 hi, .slice A4 p c4] 35)
  have hy5 := (sl_own hy4).allocw (.cells #[.int .i64 rl, .int .i64 lo, .int .i64 hi, .slice A4 p c4] 35)
  clear q5 hs4 hp hB3 hb4 hs3 hy4 hT3 y0 y1 y2 y3 y4 y5 y6
  obtain ⟨⟨y0, y1, y2, y3, y4, y5, y6⟩, _⟩ := Blk.facts7 q5b
  go_wp2_with fail
  generalize w4.alloc _ = w5 at *
  generalize w4.heap.size = g6 at *
  refine (mod_any cut 5 (by omega) (by omega) _).mono ?_
  rintro e w' ⟨rfl, rfl⟩
  obtain ⟨z, hz⟩ : ∃ z, z = cut % 5 := ⟨_, rfl⟩
  have hz0 : 0 ≤ z ∧ z < 5 := by omega
  rw [← hz]
  clear hz
  have HS5 := hide hs5
  have HY5 := hide hy5
  clear hs5 hy5
  go_wp2_with (at_builtin; refine wpList_ext rfl _ _ _ rfl w5.heap.size _ 7 slCond _ 0 [] rfl (World.ownsRow_nil _ _ _ _) A2 m c2 _ _ rfl HS5.out (cd_one7 cs) (by omega) (Nat.le_refl _) ?_)
  intro v6 w6 hv6 hg6 _
  try rw [Nat.zero_add, List.nil_append] at hv6
  obtain ⟨A6, c6, rfl, -⟩ := own_sl hv6
  have hb6 := (Below.refl w5.heap.size w5).grown hg6 (Nat.le_refl _) (fun k hk => by cases hk)
  obtain ⟨rk, hrk⟩ : ∃ rk, rk = 1 + z := ⟨_, rfl⟩
  have hrk0 : 1 ≤ rk ∧ rk ≤ 5 := by omega
  have HB5 := hide hB5
  have HQ5 := hide q5b
  have HQ6 := hide q6
  rw [← hrk]
  clear y0 y1 y2 y3 y4 y5 y6 hg6 hB5 q5b q6 hz0 hrk
  go_wp2
  go_loopw [43] (fun i wr => ∃ k : Nat, k ≤ m ∧ i = .int .i64 k ∧ wr.ownsRow w5.heap.size 45 7 (.slice A6 m c6) m (cdCells (weakK rk cs k)) ∧ Below w5.heap.size w5 wr) (fun i _ => m - (intOf i).toNat)
  case atStart => exact ⟨0, by omega, rfl, by rw [weakK_zero]; exact hv6, hb6⟩
  case round =>
    obtain ⟨k, hk, rfl, hv, hb⟩ := hrel
    by_cases hlt : k < m
    · obtain ⟨g, cap, he, _, _⟩ := hv.form (by omega)
      injection he with e1 _ e3
      subst e1 e3
      have hM := HM.out
      rcases ek : cs[k]'(by omega) with ⟨r, k1, v1, f1', t1, x1, y1'⟩
      have ew := (weakK_get (rk := rk) (show k < cs.length by omega)).trans ek
      have hlen := weakK_len rk cs k
      have hkw : k < (weakK rk cs k).length := by omega
      have gt := fun j (hj : j < 7) => (hv.cellAt (k * 7 + j) (by omega)).trans (cdCells_get (weakK rk cs k) k hkw j hj)
      rw [ew] at gt
      have e0 : wr.cell? ⟨g, k * 7, none⟩ = some (.int .i64 r) := gt 0 (by omega)
      have e1 : wr.cell? ⟨g, k * 7 + 1, none⟩ = some (.int .i64 k1) := gt 1 (by omega)
      have e2 : wr.cell? ⟨g, k * 7 + 2, none⟩ = some (.int .i64 v1) := gt 2 (by omega)
      have fz1 := hv.frozenAt (k * 7 + 1)
      have fz2 := hv.frozenAt (k * 7 + 2)
      obtain ⟨st1, sg1⟩ := hv.stored (k * 7 + 1) (.int .i64 1)
      obtain ⟨st2, sg2⟩ := st1.stored (k * 7 + 2) (.int .i64 0)
      have e3 : (wr.setCell ⟨g, k * 7 + 1, none⟩ (.int .i64 1)).cell? ⟨g, k * 7 + 2, none⟩ = some (.int .i64 v1) := by
        rw [st1.cellAt (k * 7 + 2) (by omega), List.getElem?_set_ne (by omega), ← hv.cellAt (k * 7 + 2) (by omega), e2]
      have fz3 := st1.frozenAt (k * 7 + 2)
      have hki : (k : Int) < (m : Int) := by omega
      have HV := hide hv
      have HB := hide hb
      have hgg := (hv.lt g rfl).1
      have HSET := hide (fun (hr : rk < r) => weak_set (rk := rk) (show k < cs.length by omega) ek hr)
      have HSAME := hide (fun (hr : ¬ rk < r) => weakK_same (rk := rk) (show k < cs.length by omega) (by rw [ek]; exact hr))
      clear ek ew gt hM hlen hkw
      by_cases hr : rk < r
      · have HVV := hide (own_cells st2 (HSET.out hr))
        have HBB := hide (((HB.out.grown sg1 HB.out.size (fun j hj => by injection hj; omega)).grown sg2 (by have := HB.out.size; simpa [World.setCell] using this) (fun j hj => by injection hj; omega)))
        clear hv hb st1 st2 sg1 sg2 HSET HSAME
        go_wp2
        go_roundw
        case rel => exact ⟨k + 1, by omega, by go_num, HVV.out, HBB.out⟩
        case measure => simp [intOf]; omega
      · have HVV := hide (own_cells hv (show cdCells (weakK rk cs k) = cdCells (weakK rk cs (k + 1)) by rw [HSAME.out hr]))
        clear hv hb st1 st2 sg1 sg2 HSET HSAME
        go_wp2
        go_roundw
        case rel => exact ⟨k + 1, by omega, by go_num, HVV.out, HB.out⟩
        case measure => simp [intOf]; omega
    · have hki : ¬ ((k : Int) < (m : Int)) := by omega
      rw [weakK_all (by have := HM.out; omega)] at hv
      have hs7 := sl_own hv
      have q5 := HQ5.out.below hb HQ5.out.lt
      have q6 := HQ6.out.below hb HQ6.out.lt
      have hB7 := bthr HB5.out hb HB5.out.size
      have hT7 := hT.below hB7 hw0
      have HS7 := hide (HS5.out.thr hb)
      have HY7 := hide (HY5.out.thr hb)
      obtain ⟨⟨y0, y1, y2, y3, y4, y5, y6⟩, _⟩ := Blk.facts7 q5
      clear hv6 hb6 hv hb HQ5 HQ6 HB5 HS5 HY5
      go_wp2_with fail
      with_reducible refine (Choose_ok A6 m c6 (cs.map (weakC rk)) d lv bf g0 g1 wn wr hT7 (by omega) (fun x hx => by obtain ⟨y, hy, rfl⟩ := List.mem_map.1 hx; exact weak_err (HG.out y hy)) HW.out.1 HW.out.2.1 HW.out.2.2.1 HW.out.2.2.2.1 HW.out.2.2.2.2.1 HW.out.2.2.2.2.2 h01 hs7).mono ?_
      rintro e w8 ⟨s', A8, c8, hs8, rfl, hy8, hb8⟩
      rw [weak_act] at hs8
      obtain ⟨r, t1, t2, t3, t4, t5⟩ := stronger (bf := bf) (rk := rk) h0 h01 h1 (act_ranks cs d lv) act_in
      rw [← HS4.out, ← hs8] at t1
      rw [← hs8] at t2 t4 t5
      rw [← HS4.out] at t4 t5
      rcases s' with ⟨lo', hi', lb', mb', ys', f0', f1'⟩
      simp only at t1 t2 t4 t5 hy8 ⊢
      generalize chRel wn ⟨lo', hi', lb', mb', ys', f0', f1'⟩ = rl'
      obtain ⟨q, hq⟩ : ∃ q, ys'.length = q := ⟨_, rfl⟩
      rw [hq] at hy8
      simp only [hq]
      have hqp : q ≤ p := by have := HP.out; rw [t1, List.length_append] at this; omega
      have hpm : p ≤ 9223372036854775807 := by have a1 := HY7.out.2.1; have a2 := HY7.out.2.2.1; unfold maxLen at a2; omega
      have HST := hide (show StrAt cs rk ys ys' p q from fun k hk y0 y1 e => by
        obtain ⟨a1, a2, a3⟩ := str_at t1 t2 t3 hk e
        exact ⟨act_in _ a1, a2, a3⟩)
      have HQ := hide hq
      have q5b := (q5.below hb8 q5.lt).alloc (.cells #[.int .i64 rl', .int .i64 lo', .int .i64 hi', .slice A8 q c8] 35)
      have q6b := (q6.below hb8 q6.lt).alloc (.cells #[.int .i64 rl', .int .i64 lo', .int .i64 hi', .slice A8 q c8] 35)
      have q11 := Blk.new w8 35 #[.int .i64 rl', .int .i64 lo', .int .i64 hi', .slice A8 q c8]
      have hB8 := bthr hB7 hb8 hB7.size
      have HB9 := hide (hB8.alloc hB8.size (.cells #[.int .i64 rl', .int .i64 lo', .int .i64 hi', .slice A8 q c8] 35))
      have HS9 := hide ((HS7.out.thr hb8).allocw (.cells #[.int .i64 rl', .int .i64 lo', .int .i64 hi', .slice A8 q c8] 35))
      have HY9 := hide ((HY7.out.thr hb8).allocw (.cells #[.int .i64 rl', .int .i64 lo', .int .i64 hi', .slice A8 q c8] 35))
      have HX9 := hide ((sl_own hy8).allocw (.cells #[.int .i64 rl', .int .i64 lo', .int .i64 hi', .slice A8 q c8] 35))
      have HT9 := hide (hT.below HB9.out hw0)
      have HLO := hide (show lo' ≤ lo ∧ hi ≤ hi' from ⟨t4, t5⟩)
      clear hs8 t1 t2 t3 t4 t5 hq hb8 hB8 hB7 hy8 hs7 HS7 HY7 q5 q6 y0 y1 y2 y3 y4 y5 y6 hT7 HS4 HW HG
      go_upto_region 15 with fail
      generalize w8.alloc _ = w9 at *
      generalize w8.heap.size = g11 at *
      obtain ⟨c60, c61, c62, c63, _⟩ := q6b.facts4
      go_wp2
      clear c60 c61 c62 c63
      have HQ5 := hide q5b
      have HQ6 := hide q6b
      have HQ11 := hide q11
      clear q5b q6b q11
      go_loopw [13, 86] (fun nv i wq => ∃ (k j : Nat), k ≤ p ∧ j = min k q ∧ i = .int .i64 k ∧ nv = .int .i64 j ∧ Below w9.heap.size w9 wq) (fun _ i _ => p - (intOf i).toNat)
      case atStart => exact ⟨0, 0, by omega, by omega, rfl, rfl, Below.refl _ _⟩
      case round =>
        rename World => wq
        obtain ⟨i, j, hip, hj, rfl, rfl, hb⟩ := hrel
        by_cases hlt2 : i < p
        · obtain ⟨b2, o2, rfl, _, hyc⟩ := (HY9.out.below hb).at_ hlt2
          have hP := HP.out
          rcases ey : ys[i]'(by omega) with ⟨z0, z1⟩
          obtain ⟨c0, c1⟩ := y_cells hyc (by omega) ey
          obtain ⟨⟨i0, i1⟩, a2, a3⟩ := HST.out i (by omega) z0 z1 ey
          have hbn := hb.alloc hb.size (.cells #[.int .i64 z0, .int .i64 z1] 47)
          have q1 := Blk.new wq 47 #[.int .i64 z0, .int .i64 z1]
          have q5 := HQ5.out.below hbn HQ5.out.lt
          have q11 := HQ11.out.below hbn HQ11.out.lt
          obtain ⟨jn, rfl⟩ : ∃ jn : Nat, z0 = (jn : Int) := ⟨z0.toNat, by omega⟩
          have hM := HM.out
          obtain ⟨bl, ol, rfl, _, hcl9⟩ := (HS9.out.below hbn).at_ (show jn < m by omega)
          rcases ej : cs[jn]'(by omega) with ⟨r, kd, vv, f, t, x, y⟩
          obtain ⟨e0, -⟩ := cd_cells (B := 0) (n := 0) (c := 0) hcl9 (by omega) ej
          have hrr := rk_at (show jn < cs.length by omega) ej
          have hii : (i : Int) < (p : Int) := by omega
          have hjm : (jn : Int) < (m : Int) := by omega
          have hjm2 : ¬ ((m : Int) ≤ (jn : Int)) := by omega
          have hj0 : ¬ ((jn : Int) < 0) := by omega
          obtain ⟨y0, -⟩ := Blk.facts7 q5
          obtain ⟨y0, -⟩ := y0
          obtain ⟨x0, x1, _⟩ := q1.facts2
          obtain ⟨u0, u1, u2, u3, _⟩ := q11.facts4
          rw [hrr] at a2 a3
          by_cases hiq : i < q
          · obtain rfl : j = i := by omega
            have hQ := HQ.out
            obtain ⟨a21, a22⟩ := a2 (by omega)
            obtain ⟨b8, o8, rfl, _, hx9⟩ := (HX9.out.below hbn).at_ hiq
            obtain ⟨d0, d1⟩ := y_cells hx9 (by omega) a21
            have hrk2 : ¬ rk < r := by omega
            have hdq : decide ((q : Int) ≤ (j : Int)) = false := by simp; omega
            have hiq2 : (j : Int) < (q : Int) := by omega
            have HBN := hide hbn
            clear hyc ey a2 a3 q1 q5 q11 hcl9 ej hrr hM hP hx9 a21 hbn hb hj
            go_wp2
            go_quiet (fail)
            go_wp2
            go_roundw
            case rel => exact ⟨j + 1, j + 1, by omega, by omega, by go_num, by go_num, by first | exact HBN.out | exact below_drewN HBN.out _⟩
            case measure => simp [intOf]; omega
          · have hrk2 : rk < r := a3 (by have := HQ.out; omega)
            have HBN := hide hbn
            clear hyc ey a2 a3 q1 q5 q11 hcl9 ej hrr hM hP hbn hb
            have HJ := hide hj
            clear hj
            go_wp2
            go_roundw
            case rel => exact ⟨i + 1, j, by omega, by have := HJ.out; omega, by go_num, rfl, HBN.out⟩
            case measure => simp [intOf]; omega
        · have hii : ¬ ((i : Int) < (p : Int)) := by omega
          obtain rfl : j = q := by omega
          clear hj
          have q6 := HQ6.out.below hb HQ6.out.lt
          have q11 := HQ11.out.below hb HQ11.out.lt
          obtain ⟨c60, c61, c62, c63, _⟩ := q6.facts4
          obtain ⟨u0, u1, u2, u3, _⟩ := q11.facts4
          obtain ⟨l0, l1⟩ := HLO.out
          have hjj : ((j : Int) == (j : Int)) = true := by simp
          have HBZ := hide (bthr HB9.out hb HB9.out.size)
          have hTz := HT9.out.below hb HT9.out.pos
          clear hb q6 q11
          go_wp2_with fail
          refine (awake_any _ hTz).mono ?_
          rintro e wz ⟨rfl, hbz⟩
          have HBY := hide (bthr HBZ.out hbz HBZ.out.size)
          clear hbz c60 c61 c62 c63 u0 u1 u2 u3
          go_wp2
          go_ret
          exact ⟨rfl, HBY.out⟩
end Go.Proofs.YtnjlbmdpfhiojaaDoor
