/-
  Without the conditions that never matter a choice is the same, if none yields: the walk of ConflictDead. Condition: the list can be read.
-/
import Derived.Test.YtjbddicgegkkjaaProg
import Derived.Test.YtjbddicgegkkjaaSim
import Derived.Test.YtjbddicgegkkjaaGiv
import Derived.Test.YtjbddicgegkkjaaConA
import Derived.Laws.OwnMore
import Derived.Deep.DeepCutAuto
namespace Go.Proofs.Ytjbddicgegkkjaa
open Go.RowKit

/-- behind the list's making: at most seven valid conditions, and the deck -/
def ListMade (w : World) (b : Nat) (v : Value) (wx : World) : Prop := ∃ (A : Option Addr) (c : Nat) (cs : List Cd), v = .slice A cs.length c ∧ cs.length ≤ 7 ∧ (∀ x ∈ cs, x.err = 0) ∧ wx.ownsRow (b + 1) 28 7 (.slice A cs.length c) cs.length (cdCells cs) ∧ Dk wx b ∧ Below w.heap.size w wx
theorem rank_ok {r k v f t x y r' : Int} (h : Cd.err ⟨r, k, v, f, t, x, y⟩ = 0) (h1 : 1 ≤ r') (h2 : r' ≤ 9) : Cd.err ⟨r', k, v, f, t, x, y⟩ = 0 := by
  obtain ⟨_, hk, hr⟩ := err_zero h
  refine err_none (by simp; omega) (by simp at hk ⊢; omega) ?_
  exact hr
set_option maxHeartbeats 1600000 in
set_option maxRecDepth 20000 in
theorem cdead_walk {A : Option Addr} {n c : Nat} {zs : List Int} {w : World} (hs : Sl w w.heap.size 1 A n c (ints zs)) : Calls Try.prog 6 #[.slice A n c] w fun e w' => e = .returned (.bool true) ∧ Below w.heap.size w w' := by
  go_enter Try.func6, Try.ntmps6
  go_wp2_with fail
  refine (new_any _ _ _ _ _ hs).mono ?_
  rintro e w1 ⟨rfl, hD1, hb1⟩
  have hw1 := hD1.lt
  clear hs
  go_wp2_with fail
  refine (conds_any _ _ hD1).mono ?_
  rintro e w2 ⟨v, cs, rfl, hcl, hcg, hv, hD2, hg2⟩
  have hB := below_grown hb1 hg2 hb1.size (Nat.le_refl _)
  have hw2 := hg2.size
  have HG := hide (fun x hx => good_err (hcg x hx))
  clear hD1 hg2 hb1 hcg
  obtain ⟨A2, c2, rfl, hsl⟩ := own_sl hv
  go_upto_region 3 with fail
  go_cut [32] (fun v32 wx => ∃ bb : Bool, v32 = .bool bb ∧ (bb = true → 0 < cs.length) ∧ wx.ownsRow w1.heap.size 28 7 (.slice A2 cs.length c2) cs.length (cdCells cs) ∧ Dk wx w.heap.size ∧ Below w.heap.size w wx)
  case first =>
    obtain ⟨m, hm⟩ : ∃ m, cs.length = m := ⟨_, rfl⟩
    rw [hm] at hcl ⊢
    simp only [hm] at *
    have HV := hide hv
    have HB := hide hB
    have HM := hide hm
    clear hsl hB hv hm
    by_cases hm0 : m = 0
    · have hmi : (m : Int) ≤ 0 := by omega
      have HD := hide hD2
      clear hD2 hm0
      go_wp2_with fail
      go_meet
      exact ⟨false, rfl, fun h => by simp at h, HV.out, HD.out, HB.out⟩
    · have hmi : (0 : Int) < (m : Int) := by omega
      clear hm0
      go_wp2_with fail
      refine (next_any _ 2 (by omega) _ hD2).mono ?_
      rintro e w3 ⟨z, rfl, hz0, hz1, hD3, hg3, hz3⟩
      have HB3 := hide (below_grown HB.out hg3 HB.out.size (Nat.le_refl _))
      have HV3 := hide (own_deck HV.out hg3 hw1)
      have HD3 := hide hD3
      obtain ⟨bb, hbb⟩ : ∃ bb, (z == 0) = bb := ⟨_, rfl⟩
      clear hD2 hg3 hz1 hD3
      go_wp2_with fail
      go_meet
      exact ⟨bb, rfl, fun _ => by omega, HV3.out, HD3.out, HB3.out⟩
  case rest =>
  obtain ⟨bb, rfl, hbm, hv3, hD3, hB3⟩ := hcut
  have HB3 := hide hB3
  have HV3 := hide hv3
  clear hv hsl hD2 hB hB3 hv3
  go_upto_if 32 with fail
  go_cut [4] (fun v4 wx => ListMade w w.heap.size v4 wx)
  case first =>
    obtain ⟨m, hm⟩ : ∃ m, cs.length = m := ⟨_, rfl⟩
    have HM := hide hm
    rw [hm] at hcl hbm
    have hv3 := HV3.out
    rw [hm] at hv3
    simp only [hm]
    clear hm HV3
    cases bb
    · have HD3 := hide hD3
      have HS3 := hide (ownsRow_base hv3 (show w.heap.size + 1 ≤ w1.heap.size by omega))
      clear hD3 hv3
      go_wp2_with fail
      go_meet
      exact ⟨A2, c2, cs, by rw [HM.out], by rw [HM.out]; omega, HG.out, by rw [HM.out]; exact HS3.out, HD3.out, HB3.out⟩
    · have hm0 := hbm rfl
      have hmi : (0 : Int) < (m : Int) := by omega
      clear hbm
      go_wp2_with fail
      refine (next_any _ (m : Int) (by omega) _ hD3).mono ?_
      rintro e w4 ⟨q, rfl, hq0, hq1, hD4, hg4, hz4⟩
      obtain ⟨q, rfl⟩ : ∃ q' : Nat, q = (q' : Int) := ⟨q.toNat, by omega⟩
      have HB4 := hide (below_grown HB3.out hg4 HB3.out.size (Nat.le_refl _))
      have hv4 := own_deck hv3 hg4 hw1
      have hqm : q < m := by omega
      obtain ⟨_, _, hgg, hsl4⟩ := own_sl hv4
      injection hgg with e1 e2 e3
      subst e1 e3
      obtain ⟨bl, ol, rfl, hbl, hcl4⟩ := hsl4.at_ hqm
      rcases ej : cs[q]'(by have := HM.out; omega) with ⟨r, kd, vv, f, t, x, y⟩
      obtain ⟨e0, e1, e2, e3, e4, e5, e6⟩ := cd_cells (B := 0) (n := 0) (c := 0) hcl4 (by have := HM.out; omega) ej
      have HQ := hide (by have := HG.out _ (List.getElem_mem (show q < cs.length by have := HM.out; omega)); rw [ej] at this; exact this)
      have hqi : (q : Int) < (m : Int) := by omega
      clear hD3 hg4 hq1 hsl4 hcl4 ej hv3
      have qq := Blk.new w4 28 #[.int .i64 r, .int .i64 kd, .int .i64 vv, .int .i64 f, .int .i64 t, .int .i64 x, .int .i64 y]
      have hD5 := hD4.alloc (.cells #[.int .i64 r, .int .i64 kd, .int .i64 vv, .int .i64 f, .int .i64 t, .int .i64 x, .int .i64 y] 28)
      have hv5 := hv4.alloc (.cells #[.int .i64 r, .int .i64 kd, .int .i64 vv, .int .i64 f, .int .i64 t, .int .i64 x, .int .i64 y] 28)
      have hB5 := HB4.out.alloc HB4.out.size (.cells #[.int .i64 r, .int .i64 kd, .int .i64 vv, .int .i64 f, .int .i64 t, .int .i64 x, .int .i64 y] 28)
      have hz5 : (w4.alloc (.cells #[.int .i64 r, .int .i64 kd, .int .i64 vv, .int .i64 f, .int .i64 t, .int .i64 x, .int .i64 y] 28)).heap.size = w4.heap.size + 1 := by simp
      have hgw := hD4.lt
      clear hz4
      go_wp2_with fail
      clear e0 e1 e2 e3 e4 e5 e6 hD4 hv4
      generalize w4.alloc _ = w5 at *
      generalize w4.heap.size = g5 at *
      obtain ⟨⟨q0, q1, q2, q3, q4, q5, q6⟩, qf⟩ := Blk.facts7 qq
      have HD5 := hide hD5
      have HV5 := hide hv5
      have HB5 := hide hB5
      have HQQ := hide qq
      have hrk := (err_zero HQ.out).1
      simp only at hrk
      obtain ⟨hrk0, hrk1⟩ := hrk
      have HD5d := hide (HD5.out.keep (w' := w5.drew) (fun i _ => rfl))
      have HQd : Hid (Blk w5.drew g5 28 #[.int .i64 r, .int .i64 kd, .int .i64 vv, .int .i64 f, .int .i64 t, .int .i64 x, .int .i64 y]) := hide qq
      clear qq hD5 hv5 hB5
      go_region_with (go_at_call 18; refine (next_any w.heap.size 2 (by omega) _ HD5d.out).mono ?_; rintro e w8 ⟨z2, rfl, hz20, hz21, hD8, hg8, hz8⟩; obtain ⟨⟨p0, p1, p2, p3, p4, p5, p6⟩, pf⟩ := Blk.facts7 (HQd.out.only hg8 (by omega)))
      all_goals
        have hwr : IntKind.i64.wrap (r + z2) = r + z2 := by rw [IntKind.wrap_i64]; omega
        obtain ⟨r9, hr9⟩ : ∃ r9, (if IntKind.i64.wrap (r + z2) < 9 then IntKind.i64.wrap (r + z2) else 9) = r9 := ⟨_, rfl⟩
        have hr91 : 1 ≤ r9 ∧ r9 ≤ 9 := by rw [← hr9, hwr]; split <;> omega
        simp only [hr9]
        have hv8 := own_deck (show w5.drew.ownsRow w1.heap.size 28 7 (.slice (some ⟨bl, ol, none⟩) m c2) m (cdCells cs) from HV5.out) hg8 hw1
        have hg9 := grown_set (grown_refl w8 (some g5)) (p := ⟨g5, 0, none⟩) (.inl rfl) (.int .i64 r9)
        have hv9 := hv8.kept hg9 (.inr (by simp [Value.ownBlock]; omega))
        have hk9 := (HQd.out.only hg8 (by omega)).set_ 0 (.int .i64 r9)
        have hD9 := hD8.set (p := ⟨g5, 0, none⟩) hgw (.int .i64 r9)
        have hb8 := below_grown (show Below w.heap.size w w5.drew from HB5.out.drew) hg8 (by simp only [World.drew]; have := HB5.out.size; omega) (Nat.le_refl _)
        have hB9 := hb8.setCell (p := ⟨g5, 0, none⟩) (by show w.heap.size ≤ g5; omega) (.int .i64 r9)
        obtain ⟨⟨k0, k1, k2, k3, k4, k5, k6⟩, _⟩ := Blk.facts7 hk9
        have HR := hide (rank_ok (r' := r9) HQ.out hr91.1 hr91.2)
        have hz9 := hv9.lt bl rfl
        clear hwr hr9 hr91 hv8 hg9 hk9 hb8 hD8 hg8 p0 p1 p2 p3 p4 p5 p6 pf q0 q1 q2 q3 q4 q5 q6 qf HD5d HQd HQQ HV5 HD5 HB5
        generalize w8.setCell ⟨g5, 0, none⟩ (.int .i64 r9) = w9 at *
        have hzB : w1.heap.size ≤ w9.heap.size := by omega
        go_wp2_with (at_builtin; refine wpList_push rfl _ _ _ rfl w1.heap.size _ _ slCond _ _ _ rfl hv9 _ _ rfl rfl rfl (by omega) hzB ?_)
        intro v' w10 hv10 hg10 _
        have hD10 := hD9.other hg10 (fun k hk => by have := (hv9.lt k hk).1; omega)
        have hB10 := hB9.grown hg10 hB9.size (fun k hk => by have := (hv9.lt k hk).1; omega)
        have hv11 := own_cells hv10 (ys := cdCells (cs ++ [⟨r9, kd, vv, f, t, x, y⟩])) (by rw [cdCells_append]; rfl)
        have HD10 := hide hD10
        have HB10 := hide hB10
        obtain ⟨A11, c11, rfl, -⟩ := own_sl hv11
        have HS11 := hide (ownsRow_base hv11 (show w.heap.size + 1 ≤ w1.heap.size by omega))
        clear hv9 hv10 hg10 hD9 hB9 hD10 hB10 hv11 k0 k1 k2 k3 k4 k5 k6
        go_wp2_with fail
        go_meet
        exact ⟨A11, c11, cs ++ [⟨r9, kd, vv, f, t, x, y⟩], by simp [HM.out], by simp [HM.out]; omega, fun z hz => by
          rcases List.mem_append.1 hz with h | h
          · exact HG.out z h
          · rw [List.mem_singleton] at h; subst h; exact HR.out, by simp only [List.length_append, List.length_singleton, HM.out]; exact HS11.out, HD10.out, HB10.out⟩
  case rest =>
    obtain ⟨A3, c3, cs3, rfl, hcl3, hcg3, hr3, hD3, hB3⟩ := hcut
    have hbc := hD3.lt
    have HG := hide hcg3
    have HD := hide hD3
    have HB := hide hB3
    obtain ⟨m, hm⟩ : ∃ m, cs3.length = m := ⟨_, rfl⟩
    rw [hm] at hcl3
    have HM := hide hm
    have HCG := hide (fun x hx => HG.out x hx)
    rw [hm] at hr3
    simp only [hm]
    obtain ⟨_, _, hgg, hsl3⟩ := own_sl hr3
    injection hgg with e1 e2 e3
    subst e1 e3
    have HR3 := hide hr3
    clear hm hcg3 hD3 hB3 hr3
    go_wp2_with fail
    refine (simple_ok A3 m c3 cs3 wc (by omega) HG.out hsl3).mono ?_
    rintro e w4 ⟨v4, rfl, hv4, hb4⟩
    have HDS := hide (show leftL cs3 (deadB cs3) cs3.length = leftL cs3 (deadB cs3) m by rw [HM.out])
    obtain ⟨ds, hds⟩ : ∃ ds, leftL cs3 (deadB cs3) m = ds := ⟨_, rfl⟩
    rw [hds] at hv4 HDS
    have HLD := hide (deadL_len cs3 m)
    rw [hds] at HLD
    obtain ⟨p, hp⟩ : ∃ p, ds.length = p := ⟨_, rfl⟩
    rw [hp] at hv4 HLD
    have HP := hide hp
    obtain ⟨A4, c4, rfl, -⟩ := own_sl hv4
    have HS4 := hide (hsl3.thr hb4)
    have HR4 := hide (ownsRow_below HR3.out hb4)
    have HB4 := hide (bthr HB.out hb4 HB.out.size)
    have HD4 := hide (HD.out.below hb4)
    clear hb4 hds hp hsl3 HB HD HR3
    go_wp2_with fail
    refine (cdead_ok A3 m c3 cs3 w4 (by omega) HG.out HS4.out).mono ?_
    rintro e w5 ⟨v5, rfl, hv5, hb5⟩
    obtain ⟨q, hq⟩ : ∃ q, (deadL cs3 m).length = q := ⟨_, rfl⟩
    rw [hq] at hv5 HLD
    obtain ⟨A5, c5, rfl, -⟩ := own_sl hv5
    have hv5' := ownsRow_below hv4 hb5
    have HR5 := hide (ownsRow_below HR4.out hb5)
    have HE5 := hide (ownsRow_base hv5' (show w.heap.size + 1 ≤ wc.heap.size by omega))
    have HB5 := hide (bthr HB4.out hb5 HB4.out.size)
    have HD5 := hide (HD4.out.below hb5)
    obtain ⟨_, _, hgg, hsl5⟩ := own_sl hv5'
    injection hgg with e1 e2 e3
    subst e1 e3
    have HGD := hide (show ∀ x ∈ ds, x.err = 0 by rw [← HDS.out]; exact left_ok HG.out)
    have HND := hide (none_list (ds := ds) (none_dead (cs := cs3) HDS.out.symm) p (by rw [HP.out]; exact Nat.le_refl _))
    have hpm : p ≤ m := by have := HLD.out; omega
    clear hb5 hq hv4 hv5 hv5' HS4 HB4 HD4 HR4
    go_wp2_with fail
    refine (cdead_ok A4 p c4 ds w5 (by omega) HGD.out hsl5).mono ?_
    rintro e w6 ⟨v6, rfl, hv6, hb6⟩
    rw [HND.out] at hv6
    simp only [List.length_nil] at hv6
    obtain ⟨A6, c6, rfl, -⟩ := own_sl hv6
    have HR6 := hide (ownsRow_below HR5.out hb6)
    have HE6 := hide (ownsRow_below HE5.out hb6)
    have HB6 := hide (bthr HB5.out hb6 HB5.out.size)
    have hD6 := HD5.out.below hb6
    have hpq : (p : Int) + (q : Int) = (m : Int) := by have := HLD.out; omega
    have hpi : (p : Int) ≤ 7 := by omega
    have hqi : (q : Int) ≤ 7 := by omega
    have hpqb : ((p : Int) + (q : Int) != (m : Int)) = false := by simp [hpq]
    clear hb6 hv6 hsl5 HR5 HE5 HB5 HD5 hpq
    go_wp2_with fail
    refine (next_any _ 365 (by omega) _ hD6).mono ?_
    rintro e x1 ⟨d, rfl, hd0, hd1, hE1, hh1, -⟩
    have hC1 := below_grown HB6.out hh1 HB6.out.size (Nat.le_refl _)
    have K1 := hh1
    have hd : 0 ≤ d ∧ d < 365 := by omega
    clear hD6 hh1 hd0 hd1
    go_wp2_with fail
    refine (next_any _ 150 (by omega) _ hE1).mono ?_
    rintro e x2 ⟨lv, rfl, hd0, hd1, hE2, hh2, -⟩
    have hC2 := below_grown hC1 hh2 hC1.size (Nat.le_refl _)
    have K2 := grown_trans K1 hh2
    have hlv : 0 ≤ lv ∧ lv < 150 := by omega
    clear hE1 hC1 hh2 hd0 hd1 K1
    go_wp2_with fail
    refine (next_any _ 30 (by omega) _ hE2).mono ?_
    rintro e x3 ⟨bf, rfl, hd0, hd1, hE3, hh3, -⟩
    have hC3 := below_grown hC2 hh3 hC2.size (Nat.le_refl _)
    have K3 := grown_trans K2 hh3
    have hbf : 0 ≤ bf ∧ bf < 30 := by omega
    clear hE2 hC2 hh3 hd0 hd1 K2
    go_wp2_with fail
    refine (given_any _ _ hE3).mono ?_
    rintro e x4 ⟨g0, g1, rfl, hg0, hg01, hg1, hE4, hh4⟩
    have hC4 := below_grown hC3 hh4 hC3.size (Nat.le_refl _)
    have K4 := grown_trans K3 hh4
    clear hE3 hC3 hh4 K3
    go_wp2_with fail
    refine (next_any _ 60 (by omega) _ hE4).mono ?_
    rintro e x5 ⟨wn, rfl, hd0, hd1, hE5, hh5, -⟩
    have hC5 := below_grown hC4 hh5 hC4.size (Nat.le_refl _)
    have K5 := grown_trans K4 hh5
    have hwn : 0 ≤ wn ∧ wn < 60 := by omega
    clear hE4 hC4 hh5 hd0 hd1 K4 hE5
    go_wp2_with fail
    have hr5 := own_deck HR6.out K5 (by omega)
    have he5 := own_deck HE6.out K5 (by omega)
    have HR7 := hide (hr5.alloc (.cells #[.int .i64 g0, .int .i64 g1] 34))
    have HE7 := hide (he5.alloc (.cells #[.int .i64 g0, .int .i64 g1] 34))
    have HC7 := hide (hC5.alloc hC5.size (.cells #[.int .i64 g0, .int .i64 g1] 34))
    have hq7 := Blk.new x5 34 #[.int .i64 g0, .int .i64 g1]
    have HQ7 := hide hq7
    obtain ⟨_, _, hgg, hsA⟩ := own_sl HR7.out
    injection hgg with e1 e2 e3
    subst e1 e3
    clear hr5 he5 hC5 K5 hq7 HR6 HE6
    have H1 := hide (wit_of (n := d) (m := 364) (by omega) (by omega))
    have H2 := hide (wit_of (n := 80 + lv) (m := 16777216) (by omega) (by omega))
    have H3 := hide (wit_of (n := bf) (m := 1073741824) (by omega) (by omega))
    have H4 := hide (wit_of (n := wn) (m := 1073741824) (by omega) (by omega))
    have H5 := hide (wit_of (n := g0) (m := 1073741824) (by omega) (by omega))
    have H6 := hide (wit_of (n := g1) (m := 1073741824) (by omega) (by omega))
    with_reducible refine (rchoose_ok A3 m c3 cs3 d (80 + lv) bf g0 g1 wn _ (by omega) HG.out H1.out H2.out H3.out H4.out H5.out H6.out hg01 hsA).mono ?_
    rintro e x7 ⟨os, s, A8, c8, ho, hs8, rfl, _, hb8⟩
    have HOS := hide (show OrdOf cs3 cs3.length os by rw [HM.out]; exact ho)
    have HSS := hide hs8
    have HC8 := hide (bthr HC7.out hb8 HC7.out.size)
    have HE8 := hide (ownsRow_below HE7.out hb8)
    have HQ8 := hide (HQ7.out.below hb8 HQ7.out.lt)
    obtain ⟨yl, hyl⟩ : ∃ yl, s.ys.length = yl := ⟨_, rfl⟩
    have HYL := hide hyl
    obtain ⟨rl, hrl⟩ : ∃ rl, chRel wn s = rl := ⟨_, rfl⟩
    have HRL := hide hrl
    obtain ⟨l0, hl0⟩ : ∃ l0, s.lo = l0 := ⟨_, rfl⟩
    have HL0 := hide hl0
    obtain ⟨l1, hl1⟩ : ∃ l1, s.hi = l1 := ⟨_, rfl⟩
    have HL1 := hide hl1
    rw [hyl, hrl, hl0, hl1]
    clear ho hs8 hb8 hyl hrl hl0 hl1 HC7 HE7 HQ7 HR7 hsA
    have hq9 := Blk.new x7 51 #[.int .i64 rl, .int .i64 l0, .int .i64 l1, .slice A8 yl c8]
    have HQ9 := hide hq9
    have HE9 := hide (HE8.out.alloc (.cells #[.int .i64 rl, .int .i64 l0, .int .i64 l1, .slice A8 yl c8] 51))
    have HC9 := hide (HC8.out.alloc HC8.out.size (.cells #[.int .i64 rl, .int .i64 l0, .int .i64 l1, .slice A8 yl c8] 51))
    have hqb := (HQ8.out.alloc (.cells #[.int .i64 rl, .int .i64 l0, .int .i64 l1, .slice A8 yl c8] 51)).facts.1
    have y0 := hqb 0
    have y1 := hqb 1
    simp only [List.getElem?_toArray, List.getElem?_cons_zero, List.getElem?_cons_succ] at y0 y1
    clear hq9 hqb HC8 HE8 HQ8
    go_wp2_with fail
    obtain ⟨_, _, hgg, hsB⟩ := own_sl HE9.out
    injection hgg with e1 e2 e3
    subst e1 e3
    with_reducible refine (rchoose_ok A4 p c4 ds d (80 + lv) bf g0 g1 wn _ (by omega) HGD.out H1.out H2.out H3.out H4.out H5.out H6.out hg01 hsB).mono ?_
    rintro e x8 ⟨os2, s2, A9, c9, ho2, hs29, rfl, _, hb9⟩
    have HC10 := hide (bthr HC9.out hb9 HC9.out.size)
    have HQ10 := hide (HQ9.out.below hb9 HQ9.out.lt)
    have HO2 := hide (show OrdOf ds ds.length os2 by rw [HP.out]; exact ho2)
    have HS2 := hide hs29
    clear ho2 hs29 hb9 HQ9 HC9 HE9 hsB y0 y1 H1 H2 H3 H4 H5 H6 HND HLD HGD hd hlv hbf hwn
    generalize x7.heap.size = gA at *
    by_cases hys : s.ys = []
    · have hD := dead_same HG.out HDS.out.symm hg01 HOS.out HO2.out (by rw [← HSS.out]; exact hys)
      rw [← HSS.out, ← HS2.out] at hD
      obtain ⟨t0, t1, t2⟩ := hD
      have t3 := dead_rel (wn := wn) hys t0 t1 t2
      rw [HL0.out] at t1
      rw [HL1.out] at t2
      rw [HRL.out] at t3
      have hy0 : yl = 0 := by rw [← HYL.out, hys]; rfl
      rw [t0, t1, t2, t3]
      simp only [List.length_nil]
      subst hy0
      clear t0 t1 t2 t3 hys HOS HO2 HSS HS2 HYL HRL HL0 HL1 HDS HG HP HM HCG hcl3 hpm hpi hqi hg0 hg1 hg01
      have q1 := HQ10.out.alloc (.cells #[.int .i64 rl, .int .i64 l0, .int .i64 l1, .slice A9 0 c9] 51)
      have q2 := Blk.new x8 51 #[.int .i64 rl, .int .i64 l0, .int .i64 l1, .slice A9 0 c9]
      have HCe := hide (HC10.out.alloc HC10.out.size (.cells #[.int .i64 rl, .int .i64 l0, .int .i64 l1, .slice A9 0 c9] 51))
      obtain ⟨a0, a1, a2, a3, _⟩ := q1.facts4
      obtain ⟨b0, b1, b2, b3, _⟩ := q2.facts4
      clear HC10 HQ10 q1 q2
      go_wp2_with fail
      refine (awake_any _).mono ?_
      rintro e x9 ⟨rfl, hbz⟩
      have HCf := hide (bthr HCe.out hbz HCe.out.size)
      clear hbz a0 a1 a2 a3 b0 b1 b2 b3 HCe
      go_wp2
      go_ret
      exact ⟨rfl, HCf.out⟩
    · have hy0 : 0 < yl := by rw [← HYL.out]; exact List.length_pos_iff.2 hys
      have hy1 : (0 : Int) < (yl : Int) := by omega
      clear hys HOS HO2 HSS HS2 HYL HRL HL0 HL1 HDS HG HP HM HCG hcl3 hpm hpi hqi hg0 hg1 hg01
      generalize chRel wn s2 = r2
      generalize s2.lo = m0
      generalize s2.hi = m1
      generalize s2.ys.length = y2
      have q1 := HQ10.out.alloc (.cells #[.int .i64 r2, .int .i64 m0, .int .i64 m1, .slice A9 y2 c9] 51)
      have q2 := Blk.new x8 51 #[.int .i64 r2, .int .i64 m0, .int .i64 m1, .slice A9 y2 c9]
      have HCe := hide (HC10.out.alloc HC10.out.size (.cells #[.int .i64 r2, .int .i64 m0, .int .i64 m1, .slice A9 y2 c9] 51))
      obtain ⟨a0, a1, a2, a3, _⟩ := q1.facts4
      obtain ⟨b0, b1, b2, b3, _⟩ := q2.facts4
      clear HC10 HQ10 q1 q2
      go_wp2_with fail
      refine (awake_any _).mono ?_
      rintro e x9 ⟨rfl, hbz⟩
      have HCf := hide (bthr HCe.out hbz HCe.out.size)
      clear hbz a0 a1 a2 a3 b0 b1 b2 b3 HCe
      go_wp2
      go_ret
      exact ⟨rfl, HCf.out⟩
end Go.Proofs.Ytjbddicgegkkjaa
