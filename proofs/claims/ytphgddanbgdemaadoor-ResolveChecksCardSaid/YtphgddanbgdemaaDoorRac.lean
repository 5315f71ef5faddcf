/-
  The contract of the reference's Active of conditions: the part of the order that applies. Conditions: each condition is valid, there are 200 at most, and the day and the level are valid.
-/
import Derived.Test.YtphgddanbgdemaaDoorProg
import Derived.Test.YtphgddanbgdemaaDoorRor
import Derived.Test.YtphgddanbgdemaaDoorRap
namespace Go.Proofs.YtphgddanbgdemaaDoor
open Go.RowKit

/-- Which of some numbers apply. -/
def ractL (cs : List Cd) (d lv : Int) (os : List Int) : List Int := os.filter fun x => apyB d lv (cs.getD x.toNat cdz)
theorem ract_in {cs : List Cd} {d lv : Int} {os : List Int} {k : Nat} (h : k < os.length) (hp : apyB d lv (cs.getD (os.getD k 0).toNat cdz) = true) : ractL cs d lv (os.take (k + 1)) = ractL cs d lv (os.take k) ++ [os.getD k 0] := by
  have e := List.take_succ_eq_append_getElem h
  have e2 : os.getD k 0 = os[k] := by simp [List.getD_eq_getElem?_getD, h]
  rw [e2] at hp ⊢
  unfold ractL
  rw [e, List.filter_append]
  have e3 : [os[k]].filter (fun x => apyB d lv (cs.getD x.toNat cdz)) = [os[k]] := by rw [List.filter_cons]; simp only [hp, if_true]; rfl
  rw [e3]
theorem ract_out {cs : List Cd} {d lv : Int} {os : List Int} {k : Nat} (h : k < os.length) (hp : apyB d lv (cs.getD (os.getD k 0).toNat cdz) = false) : ractL cs d lv (os.take (k + 1)) = ractL cs d lv (os.take k) := by
  have e := List.take_succ_eq_append_getElem h
  have e2 : os.getD k 0 = os[k] := by simp [List.getD_eq_getElem?_getD, h]
  rw [e2] at hp
  unfold ractL
  rw [e, List.filter_append]
  have e3 : [os[k]].filter (fun x => apyB d lv (cs.getD x.toNat cdz)) = [] := by rw [List.filter_cons]; simp only [hp]; rfl
  rw [e3, List.append_nil]
theorem ract_le (cs : List Cd) (d lv : Int) (os : List Int) : (ractL cs d lv os).length ≤ os.length := List.length_filter_le _ _
def RActPost (w : World) (n : Nat) (cs : List Cd) (d lv : Int) (e : Ending) (w' : World) : Prop := ∃ (v : Value) (os : List Int), e = .returned (.tuple #[v, .int .i64 0]) ∧ OrdOf cs n os ∧ w'.ownsRow w.heap.size 3 1 v (ractL cs d lv os).length (ints (ractL cs d lv os)) ∧ Below w.heap.size w w'
set_option maxHeartbeats 3200000 in
set_option maxRecDepth 20000 in
theorem ractive_ok (A : Option Addr) (n c : Nat) (cs : List Cd) (d lv : Int) (w : World) (hn : n ≤ 200) (hg : ∀ x ∈ cs, x.err = 0) (hd : wit d 364 = true) (hv : wit lv 16777216 = true) (hs : Sl w w.heap.size 7 A n c (cdCells cs)) :
    Calls Tryd.prog 20 #[.slice A n c, .int .i64 d, .int .i64 lv] w (RActPost w n cs d lv) := by
  have hl : n = cs.length := by have := hs.1; rw [cdCells_length] at this; omega
  have HL := hide hl
  have HG := hide hg
  have HD := hide hd
  have HV := hide hv
  clear hl hg hd hv
  go_enter Tryd.func20, Tryd.ntmps20
  go_wp2_with fail
  refine (rcheck_ok A n c cs w hn HG.out hs).mono ?_
  rintro e w1 ⟨rfl, hb1⟩
  have hs1 := hs.thr hb1
  clear hs
  go_wp2_with (first | (go_at_call 40; refine (risday_any _ _).mono ?_; rintro e w' ⟨rfl, rfl⟩; rw [HD.out]) | (go_at_call 38; refine (refIn_any _ _ _).mono ?_; rintro e w' ⟨rfl, rfl⟩; rw [HV.out]))
  refine (rorder_any A n c cs w1 (by omega) hs1).mono ?_
  rintro e w2 ⟨v, os, rfl, ho, hv2, hb2⟩
  obtain ⟨A2, c2, rfl, hso⟩ := own_sl hv2
  have hB2 := bthr hb1 hb2 hb1.size
  have HS := hide (hs1.thr hb2)
  have HSO := hide hso
  have HO := hide ho
  have HB2 := hide hB2
  clear hs1 hb1 hb2 hv2 hso ho hB2
  go_wp2
  go_loopw [9, 28] (fun v i wr => ∃ k : Nat, k ≤ n ∧ i = .int .i64 k ∧ wr.ownsRow w2.heap.size 3 1 v (ractL cs d lv (os.take k)).length (ints (ractL cs d lv (os.take k))) ∧ Below w2.heap.size w2 wr) (fun _ i _ => n - (intOf i).toNat)
  case atStart => exact ⟨0, by omega, rfl, World.ownsRow_nil _ _ _ _, Below.refl _ _⟩
  case round =>
    obtain ⟨k, hk, rfl, hv, hb⟩ := hrel
    by_cases hlt : k < n
    · have hlo := HO.out.len
      obtain ⟨p0, p1⟩ := HO.out.in_ (gd_mem (show k < os.length by omega))
      obtain ⟨bo, oo, rfl, _, hco⟩ := (HSO.out.thr hb).at_ hlt
      have co := hco k _ (ints_get os k (by omega))
      obtain ⟨p, hp⟩ : ∃ p : Nat, os.getD k 0 = (p : Int) := ⟨(os.getD k 0).toNat, by omega⟩
      rw [hp] at co
      have hL := HL.out
      obtain ⟨bl, ol, rfl, _, hcl⟩ := (HS.out.thr hb).at_ (show p < n by omega)
      rcases ep : cs[p]'(by omega) with ⟨r, kd, vv, f, t, x, y⟩
      obtain ⟨e0, e1, e2, e3, e4, e5, e6⟩ := cd_cells (B := 0) (n := 0) (c := 0) hcl (by omega) ep
      have hek := HG.out _ (List.getElem_mem (show p < cs.length by omega))
      rw [ep] at hek
      have HA := hide (fun W => rapplies_ok ⟨r, kd, vv, f, t, x, y⟩ d lv W hek)
      have hgd : cs.getD (os.getD k 0).toNat cdz = ⟨r, kd, vv, f, t, x, y⟩ := by rw [hp]; simp [List.getD_eq_getElem?_getD, show p < cs.length by omega, ep]
      have HI := hide (fun (h : apyB d lv ⟨r, kd, vv, f, t, x, y⟩ = true) => ract_in (cs := cs) (d := d) (lv := lv) (os := os) (k := k) (by omega) (by rw [hgd]; exact h))
      have HU := hide (fun (h : apyB d lv ⟨r, kd, vv, f, t, x, y⟩ = false) => ract_out (cs := cs) (d := d) (lv := lv) (os := os) (k := k) (by omega) (by rw [hgd]; exact h))
      have hle := ract_le cs d lv (os.take k)
      rw [List.length_take] at hle
      have HP := hide hp
      generalize apyB d lv ⟨r, kd, vv, f, t, x, y⟩ = ab at *
      unfold Cd.arr at HA
      have i2 : (0 : Int) ≤ (p : Int) := by omega
      have i3 : (p : Int) < (n : Int) := by omega
      have HVV := hide hv
      have HB := hide hb
      clear hco hcl ep hek hgd hL p0 p1 hp hv hb hlo
      go_wp2_with fail
      refine (HA.out _).mono ?_
      rintro e w5 ⟨rfl, hb5⟩
      have hz5 := Nat.le_trans HB.out.size hb5.size
      have hB5 := HB.out.trans (hb5.mono HB.out.size)
      have hv5 := ownsRow_below HVV.out hb5
      clear hb5 e0 e1 e2 e3 e4 e5 e6 co HVV
      cases ab
      · have A1 := hide (HU.out rfl)
        have HV5 := hide hv5
        have HB5 := hide hB5
        clear HI HU hv5 hB5
        go_wp2
        go_roundw
        case rel => exact ⟨k + 1, by omega, by go_num, by rw [A1.out]; exact HV5.out, HB5.out⟩
        case measure => simp [intOf]; omega
      · have A1 := HI.out rfl
        rw [HP.out] at A1
        have A1 := hide A1
        clear HI HU
        go_wp2_with (at_builtin; refine wpList_push rfl _ _ _ rfl w2.heap.size _ _ slIntO _ _ _ rfl hv5 _ _ rfl rfl rfl (by omega) hz5 ?_)
        intro v' w6 hv6 hg6 hn6
        have hB6 := hide (hB5.trans (below_push hv5 hg6 hz5))
        have hv7 := hide (own_cells hv6 (ys := ints (ractL cs d lv (os.take (k + 1)))) (by rw [A1.out, ints_append]; rfl))
        clear hv5 hv6 hg6 hn6 hB5
        go_wp2
        go_roundw
        case rel => exact ⟨k + 1, by omega, by go_num, by rw [show (ractL cs d lv (os.take (k + 1))).length = (ractL cs d lv (os.take k)).length + 1 by rw [A1.out]; simp]; exact hv7.out, hB6.out⟩
        case measure => simp [intOf]; omega
    · obtain rfl : k = n := by omega
      rw [List.take_of_length_le (by have := HO.out.len; omega)] at hv
      have HB5 := hide (bthr HB2.out hb HB2.out.size)
      have HV5 := hide (ownsRow_base hv HB2.out.size)
      clear hv hb
      go_wp2
      go_ret2
      exact ⟨_, os, rfl, HO.out, HV5.out, HB5.out⟩
end Go.Proofs.YtphgddanbgdemaaDoor
