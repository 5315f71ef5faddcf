/-
  Contracts of the reference's Keeps, of any condition, and Kept, of valid ones. Conditions of Kept: there are 200 at most, and a valid day, level and releases.
-/
import Derived.Test.YtphgddanbgdemaaDoorProg
import Derived.Test.YtphgddanbgdemaaDoorKep
import Derived.Test.YtphgddanbgdemaaDoorRbnd
import Derived.Test.YtphgddanbgdemaaDoorCho
namespace Go.Proofs.YtphgddanbgdemaaDoor
open Go.RowKit

def rkB (c : Cd) (bf rl : Int) : Bool := bOk c bf && decide (bLeast c bf ≤ rl) && decide (rl ≤ bMost c bf)
theorem rkB_ok {c : Cd} {bf rl : Int} (he : c.err = 0) (hb : 0 ≤ bf ∧ bf ≤ 1073741824) : rkB c bf rl = kepB c bf rl := by
  unfold rkB kepB bOk
  rw [he, wit_iff.2 hb]; simp
set_option maxHeartbeats 1600000 in
set_option maxRecDepth 20000 in
theorem rkeeps_any (c : Cd) (bf rl : Int) (w : World) : Calls Tryd.prog 54 #[.agg c.arr, .int .i64 bf, .int .i64 rl] w fun e w' => e = .returned (.bool (rkB c bf rl)) ∧ Below w.heap.size w w' := by
  have h0 := Blk.new w 47 c.arr
  have hB := bel1 (w := w) (o := .cells c.arr 47)
  have HP := hide (fun W => rbounds_any c bf W)
  by_cases hok : bOk c bf = true
  · have HE := hide (show rkB c bf rl = (decide (bLeast c bf ≤ rl) && decide (rl ≤ bMost c bf)) by unfold rkB; rw [hok, Bool.true_and])
    unfold BndPost at HP
    rw [bnd_yes hok] at HP
    generalize bLeast c bf = l at *
    generalize bMost c bf = m at *
    generalize rkB c bf rl = kb at *
    clear hok
    obtain ⟨r, k, v, f, t, a, b⟩ := c
    unfold Cd.arr at h0 hB HP ⊢
    obtain ⟨⟨z0, z1, z2, z3, z4, z5, z6⟩, _⟩ := Blk.facts7 h0
    go_enter Tryd.func54, Tryd.ntmps54
    go_wp2_with fail
    generalize (w.alloc _) = w2 at *
    refine (HP.out _).mono ?_
    rintro e w3 ⟨rfl, hb1⟩
    have hB1 := bthr hB hb1 hB.size
    have h1 := Blk.new w3 23 #[.int .i64 l, .int .i64 m]
    have hB2 := hide (hB1.alloc hB1.size (.cells #[.int .i64 l, .int .i64 m] 23))
    obtain ⟨c0, c1, _⟩ := h1.facts2
    clear hB hb1 h0 hB1 h1 z0 z1 z2 z3 z4 z5 z6
    by_cases g1 : l ≤ rl <;> by_cases g2 : rl ≤ m
    all_goals
      go_wp2
      go_ret
      exact ⟨ret_bool (by rw [HE.out]; simp [g1, g2]), hB2.out⟩
  · have hok2 : bOk c bf = false := by simpa using hok
    have HE := hide (show rkB c bf rl = false by unfold rkB; rw [hok2]; rfl)
    unfold BndPost at HP
    rw [bnd_no hok2] at HP
    generalize rkB c bf rl = kb at *
    clear hok hok2
    obtain ⟨r, k, v, f, t, a, b⟩ := c
    unfold Cd.arr at h0 hB HP ⊢
    obtain ⟨⟨z0, z1, z2, z3, z4, z5, z6⟩, _⟩ := Blk.facts7 h0
    go_enter Tryd.func54, Tryd.ntmps54
    go_wp2_with fail
    generalize (w.alloc _) = w2 at *
    refine (HP.out _).mono ?_
    rintro e w3 ⟨rfl, hb1⟩
    have hB1 := bthr hB hb1 hB.size
    have hB2 := hide (hB1.alloc hB1.size (.cells #[.int .i64 0, .int .i64 0] 23))
    clear hB hb1 h0 hB1 z0 z1 z2 z3 z4 z5 z6
    go_wp2
    go_ret
    exact ⟨ret_bool (by rw [HE.out]), hB2.out⟩
def RKptPost (w : World) (n : Nat) (cs : List Cd) (d lv bf rl : Int) (e : Ending) (w' : World) : Prop := ∃ (A : Option Addr) (c : Nat) (A2 : Option Addr) (c2 : Nat) (os : List Int), OrdOf cs n os ∧
  e = .returned (.tuple #[.slice A (keepL (fun i => !kepC cs bf rl i) (ractL cs d lv os)).length c, .slice A2 (keepL (fun i => kepC cs bf rl i) (ractL cs d lv os)).length c2, .int .i64 0]) ∧ Sl w' w'.heap.size 1 A (keepL (fun i => !kepC cs bf rl i) (ractL cs d lv os)).length c (ints (keepL (fun i => !kepC cs bf rl i) (ractL cs d lv os))) ∧ Sl w' w'.heap.size 1 A2 (keepL (fun i => kepC cs bf rl i) (ractL cs d lv os)).length c2 (ints (keepL (fun i => kepC cs bf rl i) (ractL cs d lv os))) ∧ Below w.heap.size w w'
set_option maxHeartbeats 3200000 in
set_option maxRecDepth 20000 in
theorem rkept_ok (A : Option Addr) (n c : Nat) (cs : List Cd) (d lv bf rl : Int) (w : World) (hn : n ≤ 200) (hg : ∀ x ∈ cs, x.err = 0) (hd : wit d 364 = true) (hv : wit lv 16777216 = true) (hbf : 0 ≤ bf ∧ bf ≤ 1073741824) (hrl : 0 ≤ rl ∧ rl ≤ 1073741824) (hs : Sl w w.heap.size 7 A n c (cdCells cs)) :
    Calls Tryd.prog 33 #[.slice A n c, .int .i64 d, .int .i64 lv, .int .i64 bf, .int .i64 rl] w (RKptPost w n cs d lv bf rl) := by
  have hl : n = cs.length := by have := hs.1; rw [cdCells_length] at this; omega
  have HG := hide hg
  have HL := hide hl
  have HBF := hide hbf
  have HI1 := hide (wit_iff.2 hbf)
  have HI2 := hide (wit_iff.2 hrl)
  clear hg hl hbf
  go_enter Tryd.func33, Tryd.ntmps33
  go_wp2_with fail
  refine (ractive_ok A n c cs d lv w hn HG.out hd hv hs).mono ?_
  rintro e w4 ⟨va, os, rfl, ho, ha, hb4⟩
  obtain ⟨A4, c4, rfl, hsa⟩ := own_sl ha
  have HS := hide (hs.thr hb4)
  have HA := hide hsa
  have HB4 := hide hb4
  have HO := hide ho
  have hLn := ho.len
  have hle := ract_le cs d lv os
  clear hs ha hsa hb4 hd hv hrl ho
  have HIN := hide (fun (k : Nat) (h : k < (ractL cs d lv os).length) => ract_mem HO.out h)
  have HK := hide (show ractL cs d lv os = ractL cs d lv os from rfl)
  obtain ⟨xs, hxs⟩ : ∃ xs, xs = ractL cs d lv os := ⟨_, rfl⟩
  have HXS := hide hxs
  rw [← hxs] at HIN HA hle ⊢
  clear hxs HK
  obtain ⟨q, hq⟩ : ∃ q, q = xs.length := ⟨_, rfl⟩
  have HQ := hide hq
  rw [← hq] at HA hle ⊢
  clear hq
  obtain ⟨p, hp⟩ : ∃ p : Int → Bool, p = kepC cs bf rl := ⟨_, rfl⟩
  have HP := hide hp
  clear hp
  go_wp2_with (go_at_call 38; refine (refIn_any _ _ _).mono ?_; rintro e w' ⟨rfl, rfl⟩; first | rw [HI1.out] | rw [HI2.out])
  go_loopw [15, 16, 39] (fun v u i wr => ∃ k : Nat, k ≤ q ∧ i = .int .i64 k ∧ wr.ownsRow w4.heap.size 3 1 v (keepL (fun i => !p i) (xs.take k)).length (ints (keepL (fun i => !p i) (xs.take k))) ∧ wr.ownsRow w4.heap.size 3 1 u (keepL (fun i => p i) (xs.take k)).length (ints (keepL (fun i => p i) (xs.take k))) ∧ Apart v u ∧ Below w4.heap.size w4 wr) (fun _ _ i _ => q - (intOf i).toNat)
  case atStart => exact ⟨0, by omega, rfl, World.ownsRow_nil _ _ _ _, World.ownsRow_nil _ _ _ _, (fun g hg => by simp [Value.ownBlock] at hg), Below.refl _ _⟩
  case round =>
    obtain ⟨k, hk, rfl, h1, h2, hap, hb⟩ := hrel
    by_cases hlt : k < q
    · have hQ := HQ.out
      obtain ⟨o0, o1⟩ := HIN.out k (by omega)
      obtain ⟨bo, oo, rfl, hbo, hco⟩ := (HA.out.thr hb).at_ hlt
      have co := hco k _ (ints_get xs k (by omega))
      have hM := HL.out
      obtain ⟨m, hm⟩ : ∃ m : Nat, xs.getD k 0 = (m : Int) := ⟨(xs.getD k 0).toNat, by omega⟩
      rw [hm] at co
      have hmn : m < n := by omega
      obtain ⟨bl, ol, rfl, hbl, hcl⟩ := (HS.out.thr hb).at_ hmn
      rcases ek : cs[m]'(by omega) with ⟨r, k1, v1, f1, t1, x1, y1⟩
      obtain ⟨e0, e1, e2, e3, e4, e5, e6⟩ := cd_cells (B := 0) (n := 0) (c := 0) hcl (by omega) ek
      have hek := HG.out _ (List.getElem_mem (show m < cs.length by omega))
      rw [ek] at hek
      have hpm : p m = kepB ⟨r, k1, v1, f1, t1, x1, y1⟩ bf rl := by
        rw [HP.out]; unfold kepC; simp [List.getD_eq_getElem?_getD, show m < cs.length by omega, ek]
      have HKP := hide (fun W => show Calls Tryd.prog 54 #[.agg #[.int .i64 r, .int .i64 k1, .int .i64 v1, .int .i64 f1, .int .i64 t1, .int .i64 x1, .int .i64 y1], .int .i64 bf, .int .i64 rl] W fun e w' => e = .returned (.bool (p m)) ∧ Below W.heap.size W w' by
        rw [hpm, ← rkB_ok hek HBF.out]; exact rkeeps_any ⟨r, k1, v1, f1, t1, x1, y1⟩ bf rl W)
      have HI1 := hide (fun (h : p (xs.getD k 0) = true) => keepL_snoc_in (p := fun i => !p i) (xs := xs) (k := k) (by omega) (by rw [h]; rfl))
      have HO1 := hide (fun (h : p (xs.getD k 0) = false) => keepL_snoc_out (p := fun i => !p i) (xs := xs) (k := k) (by omega) (by rw [h]; rfl))
      have HI2 := hide (fun (h : p (xs.getD k 0) = false) => keepL_snoc_in (p := fun i => p i) (xs := xs) (k := k) (by omega) h)
      have HO2 := hide (fun (h : p (xs.getD k 0) = true) => keepL_snoc_out (p := fun i => p i) (xs := xs) (k := k) (by omega) h)
      rw [hm] at HI1 HI2 HO1 HO2
      have hk1 := keepL_le (fun i => !p i) (xs.take k)
      have hk2 := keepL_le (fun i => p i) (xs.take k)
      rw [List.length_take] at hk1 hk2
      have m0 : (0 : Int) ≤ (m : Int) := by omega
      have m1 : (m : Int) < (n : Int) := by omega
      have HH1 := hide h1
      have HH2 := hide h2
      have HAP := hide hap
      have HB := hide hb
      clear o0 o1 hM hQ ek hek hpm hco hcl hm h1 h2 hap hb
      go_wp2_with fail
      refine (HKP.out _).mono ?_
      rintro e w5 ⟨rfl, hb5⟩
      have hz5 := Nat.le_trans HB.out.size hb5.size
      have hB5 := HB.out.trans (hb5.mono HB.out.size)
      have hv5 := ownsRow_below HH1.out hb5
      have hu5 := ownsRow_below HH2.out hb5
      clear hb5 e0 e1 e2 e3 e4 e5 e6 co HH1 HH2 HKP
      cases hp : p m
      · have A1 := hide (HO1.out hp)
        have A2 := hide (HI2.out hp)
        clear hp
        go_wp2_with (at_builtin; refine wpList_push rfl _ _ _ rfl w4.heap.size _ _ slInt _ _ _ rfl hu5 _ _ rfl rfl rfl (by omega) hz5 ?_)
        intro v' w6 hu6 hg6 hn6
        have hv6 := hide (hv5.kept hg6 HAP.out.or)
        have hap6 := hide (HAP.out.symm.left (fun k hk => (hv5.lt k hk).2) hn6).symm
        have hB6 := hide (hB5.trans (below_push hu5 hg6 hz5))
        have hu7 := hide (own_cells hu6 (ys := ints (keepL (fun i => p i) (xs.take (k + 1)))) (by rw [A2.out, ints_append]; rfl))
        clear hv5 hu5 hu6 hg6 hn6 hB5
        go_wp2
        go_roundw
        case rel => exact ⟨k + 1, by omega, by go_num, by rw [A1.out]; exact hv6.out, by rw [show (keepL (fun i => p i) (xs.take (k + 1))).length = (keepL (fun i => p i) (xs.take k)).length + 1 by rw [A2.out]; simp]; exact hu7.out, hap6.out, hB6.out⟩
        case measure => simp [intOf]; omega
      · have A1 := hide (HI1.out hp)
        have A2 := hide (HO2.out hp)
        clear hp
        go_wp2_with (at_builtin; refine wpList_push rfl _ _ _ rfl w4.heap.size _ _ slInt _ _ _ rfl hv5 _ _ rfl rfl rfl (by omega) hz5 ?_)
        intro v' w6 hv6 hg6 hn6
        have hu6 := hide (hu5.kept hg6 HAP.out.symm.or)
        have hap6 := hide (HAP.out.left (fun k hk => (hu5.lt k hk).2) hn6)
        have hB6 := hide (hB5.trans (below_push hv5 hg6 hz5))
        have hv7 := hide (own_cells hv6 (ys := ints (keepL (fun i => !p i) (xs.take (k + 1)))) (by rw [A1.out, ints_append]; rfl))
        clear hv5 hu5 hv6 hg6 hn6 hB5
        go_wp2
        go_roundw
        case rel => exact ⟨k + 1, by omega, by go_num, by rw [show (keepL (fun i => !p i) (xs.take (k + 1))).length = (keepL (fun i => !p i) (xs.take k)).length + 1 by rw [A1.out]; simp]; exact hv7.out, by rw [A2.out]; exact hu6.out, hap6.out, hB6.out⟩
        case measure => simp [intOf]; omega
    · obtain rfl : k = q := by omega
      rw [List.take_of_length_le (by have := HQ.out; omega)] at h1 h2
      obtain ⟨A1, c1, rfl, s1⟩ := own_sl h1
      obtain ⟨A2, c2, rfl, s2⟩ := own_sl h2
      have S1 := hide s1
      have S2 := hide s2
      have HB5 := hide (bthr HB4.out hb HB4.out.size)
      clear h1 h2 s1 s2 hb hap
      go_wp2
      refine bodyPost_ret (v := .tuple #[.slice A1 (keepL (fun i => !p i) xs).length c1, .slice A2 (keepL (fun i => p i) xs).length c2, .int .i64 0]) (by simp [results, Tryd.results33, go_sem]) rfl ⟨A1, c1, A2, c2, os, HO.out, by rw [← HP.out, ← HXS.out], by rw [← HP.out, ← HXS.out]; exact S1.out, by rw [← HP.out, ← HXS.out]; exact S2.out, HB5.out⟩
end Go.Proofs.YtphgddanbgdemaaDoor
