/-
  Every choice proves itself: the walk of ResolveProves. Conditions: the table of kinds; the list can be read.
-/
import Derived.Test.YtnjlbmdpfhiojaaDoorProg
import Derived.Test.YtnjlbmdpfhiojaaDoorPvw
import Derived.Test.YtnjlbmdpfhiojaaDoorRwn
import Derived.Test.YtnjlbmdpfhiojaaDoorSym
namespace Go.Proofs.YtnjlbmdpfhiojaaDoor
open Go.RowKit

theorem ord_spec (cs : List Cd) : (ordC cs).Pairwise (RkR cs) ∧ (ordC cs).Perm (ixs cs.length) := by
  have h := sortK_sorted (f := cmpC cs) (R := RkR cs) (xs := idxs cs.length) (fun x y z _ _ _ h1 h2 => by unfold RkR at *; omega) (by
    unfold idxs
    rw [List.pairwise_map]
    refine List.pairwise_lt_range.imp fun {a b} hab => ?_
    unfold cmpC cmp3 rankC RkR rkC cd0 cdz
    constructor
    · intro h; left; split at h
      · assumption
      · split at h <;> omega
    · intro h
      split at h
      · omega
      · by_cases h2 : (cs.getD (a : Int).toNat ⟨0, 0, 0, 0, 0, 0, 0⟩).rank < (cs.getD (b : Int).toNat ⟨0, 0, 0, 0, 0, 0, 0⟩).rank
        · exact .inl h2
        · right; exact ⟨by omega, by omega⟩)
  exact h
theorem act_nodup (cs : List Cd) (d lv : Int) : (actC cs d lv).Nodup := by
  have h : (ordC cs).Nodup := (ord_spec cs).1.imp fun {x y} h => by unfold RkR at h; intro e; subst e; omega
  exact List.Pairwise.filter _ h
/-- the reference's active ones are the program's -/
theorem ract_eq {cs : List Cd} {d lv : Int} {n : Nat} {os : List Int} (ho : OrdOf cs n os) (hn : n = cs.length) : ractL cs d lv os = actC cs d lv := by
  have e : os = ordC cs := perm_sorted_eq (R := RkR cs) (fun x y h1 h2 => by unfold RkR at *; omega) (by subst hn; exact ho.2.trans (ord_spec cs).2.symm) ho.1 (ord_spec cs).1
  rw [e, actC_ract]
theorem viol_fsts {cs : List Cd} {d lv bf g0 g1 rl : Int} (hgg : g0 ≤ g1) (hg : ∀ x ∈ cs, x.err = 0) (hb : 0 ≤ bf ∧ bf ≤ 1073741824) (h0 : (chAll bf cs g0 g1 (actC cs d lv)).lo ≤ rl) (h1 : rl ≤ (chAll bf cs g0 g1 (actC cs d lv)).hi) :
    fsts (chAll bf cs g0 g1 (actC cs d lv)).ys = violL cs d lv bf rl ∧ (∀ y ∈ (chAll bf cs g0 g1 (actC cs d lv)).ys, y.1 ∈ actC cs d lv ∧ Why cs bf g0 g1 (actC cs d lv) (chAll bf cs g0 g1 (actC cs d lv)).ys y.1 y.2) := by
  obtain ⟨a, b⟩ := proves (bf := bf) hgg (act_nodup cs d lv) (fun x hx => by
    obtain ⟨x0, x1⟩ := act_in x hx
    have hl : x.toNat < cs.length := by omega
    unfold bL bM
    rw [List.getD_eq_getElem?_getD, List.getElem?_eq_getElem hl]
    exact (bnd_le (hg _ (List.getElem_mem hl)) hb).2.1) h0 h1
  exact ⟨a, b⟩
theorem filt_at {xs : List Int} {V : Int → Bool} {k : Nat} (hk : k < xs.length) (hv : V xs[k] = true) : (xs.filter V)[((xs.take k).filter V).length]? = some xs[k] := by
  have e : xs.filter V = (xs.take k).filter V ++ (xs[k] :: (xs.drop (k + 1)).filter V) := by
    conv => lhs; rw [← List.take_append_drop k xs, List.filter_append, List.drop_eq_getElem_cons hk, List.filter_cons, if_pos hv]
  rw [e, List.getElem?_append_right (Nat.le_refl _)]
  simp
theorem filt_succ {xs : List Int} {V : Int → Bool} {k : Nat} (hk : k < xs.length) : ((xs.take (k + 1)).filter V).length = ((xs.take k).filter V).length + (if V xs[k] then 1 else 0) := by
  rw [List.take_succ_eq_append_getElem hk, List.filter_append, List.length_append]
  cases h : V xs[k] <;> simp [h]
/-- what stands behind the bounds of a violated one -/
theorem bnd_at {cs : List Cd} {bf : Int} (hb : 0 ≤ bf ∧ bf ≤ 1073741824) {i : Nat} (h : i < cs.length) {r k v f t x y : Int} (e : cs[i] = ⟨r, k, v, f, t, x, y⟩) (he : Cd.err ⟨r, k, v, f, t, x, y⟩ = 0) (W : World) :
    Calls Tryd.prog 22 #[.agg #[.int .i64 r, .int .i64 k, .int .i64 v, .int .i64 f, .int .i64 t, .int .i64 x, .int .i64 y], .int .i64 bf] W fun e w' => e = .returned (.tuple #[.agg #[.int .i64 (bL cs bf i), .int .i64 (bM cs bf i)], .bool true]) ∧ Below W.heap.size W w' := by
  have h1 := rbounds_any ⟨r, k, v, f, t, x, y⟩ bf W
  unfold BndPost at h1
  rw [bnd_yes (by unfold bOk; rw [he, wit_iff.2 hb]; rfl)] at h1
  have e1 : bL cs bf i = bLeast ⟨r, k, v, f, t, x, y⟩ bf := by unfold bL; simp [List.getD_eq_getElem?_getD, h, e]
  have e2 : bM cs bf i = bMost ⟨r, k, v, f, t, x, y⟩ bf := by unfold bM; simp [List.getD_eq_getElem?_getD, h, e]
  rw [e1, e2]
  exact h1
theorem met_none {a0 a1 b0 b1 : Int} (h : a1 < b0 ∨ b1 < a0) : metVal a0 a1 b0 b1 = .tuple #[.agg #[.int .i64 0, .int .i64 0], .bool false] := met_no (by omega)
theorem rank_before {cs : List Cd} {d lv : Int} {a b : Int} (h : [a, b].Sublist (actC cs d lv)) : rkC cs a ≤ rkC cs b := by
  obtain ⟨i, j, h1, h2, h3⟩ := sub2 h
  obtain ⟨l0, e0⟩ := List.getElem?_eq_some_iff.1 h2
  obtain ⟨l1, e1⟩ := List.getElem?_eq_some_iff.1 h3
  have := List.pairwise_iff_getElem.1 (act_ranks cs d lv) i j l0 l1 h1
  rw [e0, e1] at this; exact this
def BCut (w5 : World) (b0 b1 : Int) (v11 : Value) (wx : World) : Prop := ∃ g11 : Nat, v11 = .pointer (some ⟨g11, 0, none⟩) ∧ Blk wx g11 24 #[.int .i64 b0, .int .i64 b1] ∧ Below w5.heap.size w5 wx
theorem bcut_of {w8 w9 : World} {b0 b1 : Int} (h : Below w8.drew.heap.size w8.drew w9) : BCut w8 b0 b1 (.pointer (some ⟨w9.heap.size, 0, none⟩)) (w9.alloc (.cells #[.int .i64 b0, .int .i64 b1] 24)) :=
  ⟨_, rfl, Blk.new _ _ _, (((Below.refl w8.heap.size w8).drew).trans (h.mono (Nat.le_refl _))).alloc (show w8.heap.size ≤ w9.heap.size from h.size) _⟩
theorem bcut_of2 {w8 w9 : World} {b0 b1 : Int} {z0 z1 : Value} (h : Below (w8.alloc (.cells #[z0, z1] 24)).drew.heap.size (w8.alloc (.cells #[z0, z1] 24)).drew w9) : BCut w8 b0 b1 (.pointer (some ⟨w8.heap.size, 0, none⟩)) ((w9.setCell ⟨w8.heap.size, 0, none⟩ (.int .i64 b0)).setCell ⟨w8.heap.size, 1, none⟩ (.int .i64 b1)) := by
  have q := ((Blk.new w8 24 #[z0, z1]).drew).below h (by simp)
  have hB : Below w8.heap.size w8 w9 := bthr (((Below.refl w8.heap.size w8).alloc (Nat.le_refl _) _).drew) h (by simp)
  exact ⟨_, rfl, (q.setB 0 _).setB 1 _, (hB.setCell (p := ⟨w8.heap.size, 0, none⟩) (Nat.le_refl _) _).setCell (p := ⟨w8.heap.size, 1, none⟩) (Nat.le_refl _) _⟩
/-- behind the second bounds -/
def BCut2 (w7 : World) (g11 g13 : Nat) (b0 b1 d0 d1 : Int) (wx : World) : Prop := Blk wx g11 24 #[.int .i64 b0, .int .i64 b1] ∧ Blk wx g13 24 #[.int .i64 d0, .int .i64 d1] ∧ Below w7.heap.size w7 wx
theorem bcut2_of {w7 w8 w9 : World} {g11 g13 : Nat} {b0 b1 c0 c1 d0 d1 : Int} (hne : g11 ≠ g13) (hg : w7.heap.size ≤ g13) (hb : Below w7.heap.size w7 w8) (q11 : Blk w8 g11 24 #[.int .i64 b0, .int .i64 b1]) (q13 : Blk w8 g13 24 #[.int .i64 c0, .int .i64 c1]) (h : Below w8.drew.heap.size w8.drew w9) :
    BCut2 w7 g11 g13 b0 b1 d0 d1 ((w9.setCell ⟨g13, 0, none⟩ (.int .i64 d0)).setCell ⟨g13, 1, none⟩ (.int .i64 d1)) := by
  have h1 : Below w8.heap.size w8 w9 := ((Below.refl w8.heap.size w8).drew).trans (h.mono (Nat.le_refl _))
  have k11 := q11.below h1 q11.lt
  have k13 := q13.below h1 q13.lt
  have hB := bthr hb h1 hb.size
  exact ⟨(k11.farB (p := ⟨g13, 0, none⟩) hne _).farB (p := ⟨g13, 1, none⟩) hne _, (k13.setB 0 _).setB 1 _, (hB.setCell (p := ⟨g13, 0, none⟩) hg _).setCell (p := ⟨g13, 1, none⟩) hg _⟩
set_option maxHeartbeats 3200000 in
set_option maxRecDepth 20000 in
theorem proves_walk {A : Option Addr} {n c : Nat} {zs : List Int} {w : World} (hT : KT w) (hs : Sl w w.heap.size 1 A n c (ints zs)) : Calls Tryd.prog 7 #[.slice A n c] w fun e w' => e = .returned (.bool true) ∧ Below w.heap.size w w' := by
  have hw0 := hT.pos
  go_enter Tryd.func7, Tryd.ntmps7
  go_wp2_with fail
  refine (new_any _ _ _ _ _ hs).mono ?_
  rintro e w1 ⟨rfl, hD1, hb1⟩
  have hw1 := hD1.lt
  clear hs
  go_wp2_with fail
  refine (made_any _ _ hD1).mono ?_
  rintro e w2 ⟨A2, c2, cs, d, lv, bf, wn, g0, g1, rfl, hcl, hcg, hv, hd, hlv, hbf, hwn, h0, h01, h1, hD2, hg2⟩
  have hB2 := below_grown hb1 hg2 hb1.size (Nat.le_refl _)
  have HG := hide (fun x hx => good_err (hcg x hx))
  have HRK := hide (fun x hx => (hcg x hx).1)
  obtain ⟨m, hm⟩ : ∃ m, cs.length = m := ⟨_, rfl⟩
  have HM := hide hm
  rw [hm] at hcl hv
  simp only [hm]
  clear hD1 hb1 hcg hm hg2 hD2
  have q5 := Blk.new w2 30 #[.slice A2 m c2, .int .i64 d, .int .i64 lv, .int .i64 bf, .int .i64 wn, .int .i64 g0, .int .i64 g1]
  have hB3 := hB2.alloc hB2.size (.cells #[.slice A2 m c2, .int .i64 d, .int .i64 lv, .int .i64 bf, .int .i64 wn, .int .i64 g0, .int .i64 g1] 30)
  have hs3 := (sl_own hv).allocw (.cells #[.slice A2 m c2, .int .i64 d, .int .i64 lv, .int .i64 bf, .int .i64 wn, .int .i64 g0, .int .i64 g1] 30)
  have hT3 := hT.below hB3 hw0
  obtain ⟨⟨y0, y1, y2, y3, y4, y5, y6⟩, _⟩ := Blk.facts7 q5
  have HW := hide (show wit d 364 = true ∧ wit lv 16777216 = true ∧ wit bf 1073741824 = true ∧ wit wn 1073741824 = true ∧ wit g0 1073741824 = true ∧ wit g1 1073741824 = true from ⟨wit_of (by omega) (by omega), wit_of (by omega) (by omega), wit_of (by omega) (by omega), wit_of (by omega) (by omega), wit_of (by omega) (by omega), wit_of (by omega) (by omega)⟩)
  clear hv hB2 hd hlv hbf hwn
  go_wp2_with fail
  generalize w2.alloc _ = w3 at *
  generalize w2.heap.size = g5 at *
  with_reducible refine (Choose_ok A2 m c2 cs d lv bf g0 g1 wn w3 hT3 (by omega) HG.out HW.out.1 HW.out.2.1 HW.out.2.2.1 HW.out.2.2.2.1 HW.out.2.2.2.2.1 HW.out.2.2.2.2.2 h01 hs3).mono ?_
  rintro e w4 ⟨s, A4, c4, hs4, rfl, hy4, hb4⟩
  rcases s with ⟨lo, hi, lb, mb, ys, f0, f1⟩
  simp only at hy4 ⊢
  obtain ⟨rl, hrl⟩ : ∃ rl, chRel wn ⟨lo, hi, lb, mb, ys, f0, f1⟩ = rl := ⟨_, rfl⟩
  have HRL := hide hrl
  rw [hrl]
  clear hrl
  have HS4 := hide hs4
  obtain ⟨p, hp⟩ : ∃ p, ys.length = p := ⟨_, rfl⟩
  have HP := hide hp
  rw [hp] at hy4
  simp only [hp]
  have q5b := (q5.below hb4 q5.lt).alloc (.cells #[.int .i64 rl, .int .i64 lo, .int .i64 hi, .slice A4 p c4] 35)
  have q6 := Blk.new w4 35 #[.int .i64 rl, .int .i64 lo, .int .i64 hi, .slice A4 p c4]
  have hB5 := (bthr hB3 hb4 hB3.size).alloc (bthr hB3 hb4 hB3.size).size (.cells #[.int .i64 rl, .int .i64 lo, .int .i64 hi, .slice A4 p c4] 35)
  have hs5 := (hs3.thr hb4).allocw (.cells #[.int .i64 rl, .int .i64 lo, .int .i64 hi, .slice A4 p c4] 35)
  have hy5 := (sl_own hy4).allocw (.cells #[.int .i64 rl, .int .i64 lo, .int .i64 hi, .slice A4 p c4] 35)
  clear q5 hs4 hp hB3 hb4 hs3 hy4 hT3 y0 y1 y2 y3 y4 y5 y6
  obtain ⟨⟨y0, y1, y2, y3, y4, y5, y6⟩, _⟩ := Blk.facts7 q5b
  obtain ⟨c60, c61, c62, c63, _⟩ := q6.facts4
  have HS5 := hide hs5
  have HY5 := hide hy5
  have HB5 := hide hB5
  have HQ5 := hide q5b
  have HQ6 := hide q6
  have hT5 := hT.below hB5 hw0
  clear hs5 hy5 hB5 q5b q6
  go_upto_region 3 with fail
  generalize w4.alloc _ = w5 at *
  generalize w4.heap.size = g6 at *
  have hci := ch_in (bf := bf) (cs := cs) h01 (actC cs d lv)
  rw [← HS4.out] at hci
  simp only at hci
  obtain ⟨hc0, hc1, hc2, -⟩ := hci
  have hr0 := rel_in (wn := wn) (s := ⟨lo, hi, lb, mb, ys, f0, f1⟩) hc2
  rw [HRL.out] at hr0
  simp only at hr0
  obtain ⟨hr0, hr1⟩ := hr0
  have hvf := viol_fsts (cs := cs) (d := d) (lv := lv) (rl := rl) h01 HG.out (wit_iff.1 HW.out.2.2.1) (by rw [← HS4.out]; exact hr0) (by rw [← HS4.out]; exact hr1)
  rw [← HS4.out] at hvf
  simp only at hvf
  obtain ⟨hV, hWy⟩ := hvf
  have HVV := hide hV
  have HWY := hide hWy
  have hg0r : g0 ≤ rl := by omega
  have hrg1 : rl ≤ g1 := by omega
  clear hV hWy
  go_wp2_with fail
  with_reducible refine (proved_ok A2 A4 m c2 p c4 cs ys d lv bf g0 g1 rl lo hi w5 hT5 (by omega) HG.out HW.out.1 HW.out.2.1 HW.out.2.2.1 HW.out.2.2.2.2.1 HW.out.2.2.2.2.2 h01 hg0r hrg1 HVV.out (act_nodup cs d lv) HWY.out HS5.out HY5.out).mono ?_
  rintro e w6 ⟨rfl, hb6⟩
  have HB6 := hide (bthr HB5.out hb6 HB5.out.size)
  have HS6 := hide (HS5.out.thr hb6)
  have HY6 := hide (HY5.out.thr hb6)
  have HQ56 := hide (HQ5.out.below hb6 HQ5.out.lt)
  have HQ66 := hide (HQ6.out.below hb6 HQ6.out.lt)
  clear hb6 y0 y1 y2 y3 y4 y5 y6 c60 c61 c62 c63 HB5 HS5 HY5 HQ5 HQ6 hT5
  obtain ⟨⟨y0, y1, y2, y3, y4, y5, y6⟩, _⟩ := Blk.facts7 HQ56.out
  obtain ⟨c60, c61, c62, c63, _⟩ := HQ66.out.facts4
  go_wp2_with fail
  with_reducible refine (ractive_ok A2 m c2 cs d lv w6 (by omega) HG.out HW.out.1 HW.out.2.1 HS6.out).mono ?_
  rintro e w7 ⟨va, os, rfl, ho, ha, hb7⟩
  rw [ract_eq ho HM.out.symm] at ha
  obtain ⟨A7, c7, rfl, hsa⟩ := own_sl ha
  have HIN := hide (fun x hx => act_in (cs := cs) (d := d) (lv := lv) x hx)
  have HVL := hide (HVV.out.trans (show violL cs d lv bf rl = (actC cs d lv).filter (fun i => !kepC cs bf rl i) from rfl))
  obtain ⟨xs, hxs⟩ : ∃ xs, xs = actC cs d lv := ⟨_, rfl⟩
  rw [← hxs] at hsa HIN HVL HWY ⊢
  have HXS := hide hxs
  obtain ⟨q, hq⟩ : ∃ q, q = xs.length := ⟨_, rfl⟩
  have HQL := hide hq
  rw [← hq] at hsa ⊢
  have HA7 := hide hsa
  have HB7 := hide (bthr HB6.out hb7 HB6.out.size)
  have HS7 := hide (HS6.out.thr hb7)
  have HY7 := hide (HY6.out.thr hb7)
  have HQ57 := hide (HQ56.out.below hb7 HQ56.out.lt)
  have HQ67 := hide (HQ66.out.below hb7 HQ66.out.lt)
  have HFL := hide (fsts_len ys)
  have hq63 : q ≤ 9223372036854775807 := by have a1 := hsa.2.1; have a2 := hsa.2.2.1; unfold maxLen at a2; omega
  have hpl : (fsts ys).length = p := (fsts_len ys).trans HP.out
  have hp63 : p ≤ 9223372036854775807 := by have a1 := HY7.out.2.1; have a2 := HY7.out.2.2.1; unfold maxLen at a2; omega
  clear ho ha hsa hb7 y0 y1 y2 y3 y4 y5 y6 c60 c61 c62 c63 HB6 HS6 HY6 HQ56 HQ66 hxs hq
  go_wp2
  go_loopw [8, 81] (fun nv i wr => ∃ (k j : Nat), k ≤ q ∧ j = ((xs.take k).filter (fun i => !kepC cs bf rl i)).length ∧ i = .int .i64 k ∧ nv = .int .i64 j ∧ Below w7.heap.size w7 wr) (fun _ i _ => q - (intOf i).toNat)
  case atStart => exact ⟨0, 0, by omega, by simp, rfl, rfl, Below.refl _ _⟩
  case round =>
    obtain ⟨k, j, hk, hj, rfl, rfl, hb⟩ := hrel
    by_cases hlt : k < q
    · have hQL := HQL.out
      obtain ⟨ba, oa, rfl, _, hac⟩ := (HA7.out.below hb).at_ hlt
      have ca := hac k _ (ints_get xs k (by omega))
      have hxk : xs.getD k 0 = xs[k]'(by omega) := by simp [List.getD_eq_getElem?_getD, show k < xs.length by omega]
      rw [hxk] at ca
      obtain ⟨i0, i1⟩ := HIN.out _ (List.getElem_mem (show k < xs.length by omega))
      have HSUCC := hide (filt_succ (V := fun i => !kepC cs bf rl i) (show k < xs.length by omega))
      have hkx : k < xs.length := by omega
      have HAT := hide (fun (hv : (!kepC cs bf rl (xs[k]'hkx)) = true) => filt_at (V := fun i => !kepC cs bf rl i) hkx hv)
      rw [← hj] at HSUCC HAT
      generalize xs[k]'(by omega) = x0 at *
      obtain ⟨pi, rfl⟩ : ∃ pi : Nat, x0 = (pi : Int) := ⟨x0.toNat, by omega⟩
      have hM := HM.out
      obtain ⟨bl, ol, rfl, _, hcl⟩ := (HS7.out.below hb).at_ (show pi < m by omega)
      rcases ep : cs[pi]'(by omega) with ⟨r, kd, vv, f, t, x, y⟩
      obtain ⟨e0, e1, e2, e3, e4, e5, e6⟩ := cd_cells (B := 0) (n := 0) (c := 0) hcl (by omega) ep
      have hek := HG.out _ (List.getElem_mem (show pi < cs.length by omega))
      rw [ep] at hek
      have hkp : kepC cs bf rl (pi : Int) = rkB ⟨r, kd, vv, f, t, x, y⟩ bf rl := by
        rw [rkB_ok hek (wit_iff.1 HW.out.2.2.1)]; unfold kepC; simp [List.getD_eq_getElem?_getD, show pi < cs.length by omega, ep]
      have HKE := hide (fun W => show Calls Tryd.prog 21 #[.agg #[.int .i64 r, .int .i64 kd, .int .i64 vv, .int .i64 f, .int .i64 t, .int .i64 x, .int .i64 y], .int .i64 bf, .int .i64 rl] W fun e w' => e = .returned (.bool (kepC cs bf rl (pi : Int))) ∧ Below W.heap.size W w' from by rw [hkp]; exact rkeeps_any ⟨r, kd, vv, f, t, x, y⟩ bf rl W)
      have HEP := hide (show ∃ h : pi < cs.length, cs[pi] = ⟨r, kd, vv, f, t, x, y⟩ from ⟨by omega, ep⟩)
      have HEK := hide hek
      obtain ⟨⟨y0, y1, y2, y3, y4, y5, y6⟩, _⟩ := Blk.facts7 (HQ57.out.below hb HQ57.out.lt)
      obtain ⟨c60, c61, c62, c63, _⟩ := (HQ67.out.below hb HQ67.out.lt).facts4
      have hki : (k : Int) < (q : Int) := by omega
      have hpi : (pi : Int) < (m : Int) := by omega
      have hpi0 : (0 : Int) ≤ (pi : Int) := by omega
      have HB := hide hb
      have HJ := hide hj
      clear hac hxk i0 i1 hM hcl ep hek hkp hb hQL hj
      have hne : Nonempty (InW fun W => Below wr.heap.size wr W) := ⟨⟨wr, Below.refl _ _⟩⟩
      have HCA := hide ca
      replace y0 := inv_cell y0
      replace y3 := inv_cell y3
      replace c60 := inv_cell c60
      replace e0 := inv_cell e0
      replace e1 := inv_cell e1
      replace e2 := inv_cell e2
      replace e3 := inv_cell e3
      replace e4 := inv_cell e4
      replace e5 := inv_cell e5
      replace e6 := inv_cell e6
      go_upto_region 10 with fail
      refine wp_region_inv (I := fun W => Below wr.heap.size wr W) (by kernel_rfl) (by kernel_rfl) (Below.refl _ _).drew ?_
      repeat (go_big_quiet_step (first | (go_at_call 21; refine inv_call (inv_closed wr) (HKE.out _))))
      refine wpQuiet_nil ?_
      rintro _ ⟨⟨w8, h8⟩, rfl⟩
      rename World => w8
      have HB8 := hide (HB.out.trans (h8.mono HB.out.size))
      clear h8 hne y0 y1 y2 y3 y4 y5 y6 c60 c61 c62 c63 e0 e1 e2 e3 e4 e5 e6 ca HCA HKE HB
      cases hkb : kepC cs bf rl (pi : Int)
      · have hne2 := HAT.out (by rw [hkb]; rfl)
        rw [← HVL.out] at hne2
        obtain ⟨hjl, hje⟩ := List.getElem?_eq_some_iff.1 hne2
        have hjp : j < p := by omega
        have HJ2 := hide (show j + 1 = ((xs.take (k + 1)).filter (fun i => !kepC cs bf rl i)).length by rw [HSUCC.out, hkb]; rfl)
        have hyl : ys.length = p := HP.out
        rcases ey : ys[j]'(by omega) with ⟨z0, z1⟩
        have hz0 : z0 = (pi : Int) := by
          have := fsts_at (show j < ys.length by omega) ey
          rw [← this]; exact hje
        subst hz0
        have hwy := (HWY.out _ (show ((pi : Int), z1) ∈ ys by rw [← ey]; exact List.getElem_mem _)).2
        simp only at hwy
        have HWHY := hide hwy
        have HEY := hide (show ∃ h : j < ys.length, ys[j] = ((pi : Int), z1) from ⟨by omega, ey⟩)
        clear hne2 hjl hje hyl ey hwy HSUCC HAT hkb
        obtain ⟨bY, oY, rfl, _, hyc⟩ := (HY7.out.below HB8.out).at_ hjp
        obtain ⟨hjl, ey⟩ := HEY.out
        obtain ⟨s0, s1⟩ := y_cells hyc hjl ey
        obtain ⟨c60, c61, c62, c63, _⟩ := (HQ67.out.below HB8.out HQ67.out.lt).facts4
        obtain ⟨⟨y0, y1, y2, y3, y4, y5, y6⟩, _⟩ := Blk.facts7 (HQ57.out.below HB8.out HQ57.out.lt)
        obtain ⟨hpl2, ep⟩ := HEP.out
        obtain ⟨_, _, hAA, _, hcl⟩ := (HS7.out.below HB8.out).at_ (show pi < m by omega)
        injection hAA with hAA
        injection hAA with hA1 hA2 _
        subst hA1 hA2
        obtain ⟨e0, e1, e2, e3, e4, e5, e6⟩ := cd_cells (B := 0) (n := 0) (c := 0) hcl hpl2 ep
        have HBN := hide (fun W => bnd_at (wit_iff.1 HW.out.2.2.1) hpl2 ep HEK.out W)
        have hji : (j : Int) < (p : Int) := by omega
        have hrki := rk_at hpl2 ep
        have HRKI := hide hrki
        have HPI := hide (show bL cs bf (pi : Int) = bL cs bf (pi : Int) from rfl)
        obtain ⟨b0, hb0⟩ : ∃ b0, bL cs bf (pi : Int) = b0 := ⟨_, rfl⟩
        obtain ⟨b1, hb1⟩ : ∃ b1, bM cs bf (pi : Int) = b1 := ⟨_, rfl⟩
        have HB0 := hide hb0
        have HB1 := hide hb1
        rw [hb0, hb1] at HBN
        clear hyc hjl ey hpl2 ep hcl hrki hb0 hb1 HPI
        go_upto_region 13 with fail
        have hax := bel1 (w := w8) (o := .cells #[.int .i64 0, .int .i64 0] 24)
        have y0a := cell_thr hax y0
        have y3a := cell_thr hax y3
        have e0a := cell_thr hax e0
        have e1a := cell_thr hax e1
        have e2a := cell_thr hax e2
        have e3a := cell_thr hax e3
        have e4a := cell_thr hax e4
        have e5a := cell_thr hax e5
        have e6a := cell_thr hax e6
        clear hax
        go_cut [11] (fun v11 wx => BCut w8 b0 b1 v11 wx)
        case first =>
          go_region_law (go_simp; go_at_call 22; refine (HBN.out _).mono ?_; rintro e w9 ⟨rfl, hb9⟩; (try (obtain ⟨u0, u1, uF⟩ := (Blk.below (Blk.drew (Blk.new w8 24 #[.int .i64 0, .int .i64 0])) hb9 (by simp)).facts2)))
          all_goals
            go_wp2_with fail
            go_meet
            first | (with_reducible exact bcut_of hb9) | (with_reducible exact bcut_of2 hb9) | fail
        case rest =>
          obtain ⟨g11, rfl, q11, hb10⟩ := hcut
          clear y0a y3a e0a e1a e2a e3a e4a e5a e6a
          clear s0 s1 c60 c61 c62 c63 y0 y1 y2 y3 y4 y5 y6 e0 e1 e2 e3 e4 e5 e6 HBN
          have hB10 := HB8.out.trans (hb10.mono HB8.out.size)
          have hB11 := hB10.alloc hB10.size (.cells #[.int .i64 g0, .int .i64 g1] 24)
          have q13 := Blk.new wc 24 #[.int .i64 g0, .int .i64 g1]
          have q11b := q11.alloc (.cells #[.int .i64 g0, .int .i64 g1] 24)
          have hg13 : w7.heap.size ≤ wc.heap.size := hB10.size
          have hne13 : g11 ≠ wc.heap.size := Nat.ne_of_lt q11.lt
          obtain ⟨⟨y0, y1, y2, y3, y4, y5, y6⟩, _⟩ := Blk.facts7 (HQ57.out.below hB10 HQ57.out.lt)
          clear hb10 hB10 q11
          go_upto_region 15 with fail
          generalize wc.alloc _ = w12 at *
          generalize wc.heap.size = g13 at *
          clear y0 y1 y2 y3 y4 y5 y6
          obtain ⟨_, _, hAA, _, hyc⟩ := (HY7.out.below hB11).at_ hjp
          injection hAA with hAA
          injection hAA with hA1 hA2 _
          subst hA1 hA2
          obtain ⟨hjl, ey⟩ := HEY.out
          obtain ⟨s0, s1⟩ := y_cells hyc hjl ey
          obtain ⟨c60, c61, c62, c63, _⟩ := (HQ67.out.below hB11 HQ67.out.lt).facts4
          obtain ⟨⟨y0, y1, y2, y3, y4, y5, y6⟩, _⟩ := Blk.facts7 (HQ57.out.below hB11 HQ57.out.lt)
          have HB11 := hide hB11
          clear hyc hjl ey
          rcases HWHY.out with ⟨hby, hap⟩ | ⟨hby, hbn, hsub, hap⟩
          · subst hby
            rw [HB0.out, HB1.out] at hap
            have HME := hide (fun W => rmeet_any b0 b1 g0 g1 W)
            rw [met_none hap] at HME
            obtain ⟨x0, x1, _⟩ := q11b.facts2
            obtain ⟨x2, x3, _⟩ := q13.facts2
            clear hap hB11
            go_wp2_with fail
            refine (HME.out _).mono ?_
            rintro e w13 ⟨rfl, hb13⟩
            have hB13 := HB11.out.trans (hb13.mono HB11.out.size)
            have HB14 := hide (hB13.alloc hB13.size (.cells #[.int .i64 0, .int .i64 0] 24))
            clear hb13 hB13 x0 x1 x2 x3 s0 s1 c60 c61 c62 c63 y0 y1 y2 y3 y4 y5 y6 q11b q13
            go_wp2
            go_roundw
            case rel => exact ⟨k + 1, j + 1, by omega, HJ2.out, by go_num, by go_num, HB14.out⟩
            case measure => simp [intOf]; omega
          · have hqa := HIN.out _ hby
            obtain ⟨bq, rfl⟩ : ∃ bq : Nat, z1 = (bq : Int) := ⟨z1.toNat, by omega⟩
            have hL := HM.out
            rcases eq : cs[bq]'(by omega) with ⟨r', kd', vv', f', t', x', y'⟩
            have hek := HG.out _ (List.getElem_mem (show bq < cs.length by omega))
            rw [eq] at hek
            have hkp : kepC cs bf rl (bq : Int) = true := by
              rcases hc : kepC cs bf rl (bq : Int) with _ | _
              · exact absurd (by rw [HVL.out, List.mem_filter]; exact ⟨hby, by rw [hc]; rfl⟩) hbn
              · rfl
            have hkp2 : rkB ⟨r', kd', vv', f', t', x', y'⟩ bf rl = true := by
              rw [rkB_ok hek (wit_iff.1 HW.out.2.2.1), ← hkp]; unfold kepC; simp [List.getD_eq_getElem?_getD, show bq < cs.length by omega, eq]
            have HKE := hide (fun W => show Calls Tryd.prog 21 #[.agg #[.int .i64 r', .int .i64 kd', .int .i64 vv', .int .i64 f', .int .i64 t', .int .i64 x', .int .i64 y'], .int .i64 bf, .int .i64 rl] W fun e w' => e = .returned (.bool true) ∧ Below W.heap.size W w' from by rw [← hkp2]; exact rkeeps_any ⟨r', kd', vv', f', t', x', y'⟩ bf rl W)
            have hrk := rank_before (cs := cs) (d := d) (lv := lv) (by rw [← HXS.out]; exact hsub)
            rw [HRKI.out, rk_at (show bq < cs.length by omega) eq] at hrk
            have HBN := hide (fun W => bnd_at (wit_iff.1 HW.out.2.2.1) (show bq < cs.length by omega) eq hek W)
            obtain ⟨d0, hd0⟩ : ∃ d0, bL cs bf (bq : Int) = d0 := ⟨_, rfl⟩
            obtain ⟨d1, hd1⟩ : ∃ d1, bM cs bf (bq : Int) = d1 := ⟨_, rfl⟩
            rw [hd0, hd1] at HBN
            rw [HB0.out, HB1.out, hd0, hd1] at hap
            have HME := hide (fun W => rmeet_any b0 b1 d0 d1 W)
            rw [met_none hap] at HME
            have hbm : (bq : Int) < (m : Int) := by omega
            have hb0' : (0 : Int) ≤ (bq : Int) := by omega
            have hbq1 : ((bq : Int) != -1) = true := by first | (simp; done) | (simp; omega)
            have hk1 : decide ((bq : Int) < 0) = false := decide_eq_false (by omega)
            have hk2 : decide ((m : Int) ≤ (bq : Int)) = false := decide_eq_false (by omega)
            have hk2n : decide (m ≤ bq) = false := decide_eq_false (by omega)
            have hk3 : decide (r < r') = false := decide_eq_false (by omega)
            obtain ⟨_, _, hAA, _, hcl⟩ := (HS7.out.below hB11).at_ (show bq < m by omega)
            injection hAA with hAA
            injection hAA with hA1 hA2 _
            subst hA1 hA2
            obtain ⟨e0, e1, e2, e3, e4, e5, e6⟩ := cd_cells (B := 0) (n := 0) (c := 0) hcl (by omega) eq
            obtain ⟨_, _, hAA, _, hcl2⟩ := (HS7.out.below hB11).at_ (show pi < m by omega)
            injection hAA with hAA
            injection hAA with hA1 hA2 _
            subst hA1 hA2
            obtain ⟨hpl2, ep⟩ := HEP.out
            obtain ⟨f0', -⟩ := cd_cells (B := 0) (n := 0) (c := 0) hcl2 hpl2 ep
            have HEQ := hide (show ∃ h : bq < cs.length, cs[bq] = ⟨r', kd', vv', f', t', x', y'⟩ from ⟨by omega, eq⟩)
            clear hap hek hkp hkp2 hrk hd0 hd1 hcl hcl2 hpl2 ep eq hL hqa hby hbn hsub
            go_upto_region 17 with fail
            have hne : Nonempty (InW fun W => Below w12.heap.size w12 W) := ⟨⟨w12, Below.refl _ _⟩⟩
            replace y0 := inv_cell y0
            replace y3 := inv_cell y3
            replace c60 := inv_cell c60
            replace e0 := inv_cell e0
            replace e1 := inv_cell e1
            replace e2 := inv_cell e2
            replace e3 := inv_cell e3
            replace e4 := inv_cell e4
            replace e5 := inv_cell e5
            replace e6 := inv_cell e6
            replace f0' := inv_cell f0'
            refine wp_region_inv (I := fun W => Below w12.heap.size w12 W) (by kernel_rfl) (by kernel_rfl) (Below.refl _ _).drew ?_
            repeat (go_big_quiet_step (first | (go_at_call 21; refine inv_call (inv_closed w12) (HKE.out _))))
            refine wpQuiet_nil ?_
            rintro _ ⟨⟨w13, h13⟩, rfl⟩
            rename World => w13
            have hB13 := HB11.out.trans (h13.mono HB11.out.size)
            have q11c := q11b.below h13 q11b.lt
            have q13c := q13.below h13 q13.lt
            clear h13 hne y0 y1 y2 y3 y4 y5 y6 c60 c61 c62 c63 e0 e1 e2 e3 e4 e5 e6 f0' s0 s1 q11b q13 hB11 HKE
            obtain ⟨⟨y0, y1, y2, y3, y4, y5, y6⟩, _⟩ := Blk.facts7 (HQ57.out.below hB13 HQ57.out.lt)
            obtain ⟨_, _, hAA, _, hcl⟩ := (HS7.out.below hB13).at_ (show bq < m by omega)
            injection hAA with hAA
            injection hAA with hA1 hA2 _
            subst hA1 hA2
            obtain ⟨hql, eq⟩ := HEQ.out
            obtain ⟨e0, e1, e2, e3, e4, e5, e6⟩ := cd_cells (B := 0) (n := 0) (c := 0) hcl hql eq
            have HB13 := hide hB13
            clear hcl hql eq
            go_upto_region 19 with fail
            go_cut [] (fun wx => BCut2 w7 g11 g13 b0 b1 d0 d1 wx)
            case first =>
              go_region_law (go_simp; go_at_call 22; refine (HBN.out _).mono ?_; rintro e w9 ⟨rfl, hb9⟩; have q13d := q13c.below (((Below.refl w13.heap.size w13).drew).trans (hb9.mono (Nat.le_refl _))) q13c.lt; obtain ⟨u0, u1, uF⟩ := q13d.facts2)
              all_goals
                go_wp2_with fail
                go_meet
                exact bcut2_of hne13 hg13 HB13.out q11c q13c hb9
            case rest =>
              obtain ⟨k11, k13, hB14⟩ := hcut
              clear y0 y1 y2 y3 y4 y5 y6 e0 e1 e2 e3 e4 e5 e6 q11c q13c HBN hB13
              obtain ⟨x0, x1, _⟩ := k11.facts2
              obtain ⟨x2, x3, _⟩ := k13.facts2
              have HB14 := hide hB14
              clear hB14 k11 k13
              go_wp2_with fail
              refine (HME.out _).mono ?_
              rintro e w15 ⟨rfl, hb15⟩
              have hB15 := HB14.out.trans (hb15.mono HB14.out.size)
              have HB16 := hide (hB15.alloc hB15.size (.cells #[.int .i64 0, .int .i64 0] 24))
              clear hb15 hB15 x0 x1 x2 x3
              go_wp2
              go_roundw
              case rel => exact ⟨k + 1, j + 1, by omega, HJ2.out, by go_num, by go_num, HB16.out⟩
              case measure => simp [intOf]; omega
      · have HJ2 := hide (show j = ((xs.take (k + 1)).filter (fun i => !kepC cs bf rl i)).length by rw [HSUCC.out, hkb]; rfl)
        clear hkb HAT HSUCC
        go_wp2
        go_roundw
        case rel => exact ⟨k + 1, j, by omega, HJ2.out, by go_num, rfl, HB8.out⟩
        case measure => simp [intOf]; omega
    · have hki : ¬ ((k : Int) < (q : Int)) := by omega
      have hjp : j = p := by
        rw [hj, List.take_of_length_le (by have := HQL.out; omega), ← HVL.out, hpl]
      subst hjp
      obtain ⟨c60, c61, c62, c63, _⟩ := (HQ67.out.below hb HQ67.out.lt).facts4
      have HBZ := hide (bthr HB7.out hb HB7.out.size)
      have hTz := hT.below HBZ.out hw0
      have hjj : ((j : Int) == (j : Int)) = true := by simp
      clear hb hj
      go_wp2_with fail
      refine (awake_any _ hTz).mono ?_
      rintro e wz ⟨rfl, hbz⟩
      have HBY := hide (bthr HBZ.out hbz HBZ.out.size)
      clear hbz c60 c61 c62 c63
      go_wp2
      go_ret
      exact ⟨rfl, HBY.out⟩
end Go.Proofs.YtnjlbmdpfhiojaaDoor
