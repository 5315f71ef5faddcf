/-
  The contract of the reference's Check of a gate at valid gates. Condition: the gate lies in memory and is valid.
  The contracts of the reference's chapters 18 and 20 that ask whether a state is valid, at valid states. Condition: the unit lies in memory.
  The contract of the reference's Check of a dam at valid dams. Condition: the dam lies in memory and is valid.
  The contract of the reference's Valid of a dam and its state where they are valid. Condition: the dam and its state lie in memory and are valid.
-/
import Derived.Test.YtodamjjlnagpjaaGreatDoorProg
import Derived.Test.YtodamjjlnagpjaaGreatDoorTgd
import Derived.Test.YtodamjjlnagpjaaGreatDoorTcz
import Derived.Test.YtodamjjlnagpjaaGreatDoorTmc
import Derived.Test.YtodamjjlnagpjaaGreatDoorTdd
import Derived.Test.YtodamjjlnagpjaaGreatDoorTs4
namespace Go.Proofs.YtodamjjlnagpjaaGreatDoor
open Go.RowKit

set_option maxHeartbeats 3200000 in
set_option maxRecDepth 20000 in
theorem rgcheck_ok (g : Gt) (hg : GtG g) (w : World) (hs : g.ok w) :
    Calls Tryz.prog 60 #[.agg g.arr] w fun e w' => e = .returned (.int .i64 0) ∧ Below w.heap.size w w' := by
  have q0 := Blk.new w 96 g.arr
  have hb0 := bel1 (w := w) (o := .cells g.arr 96)
  have hs0 := hs.below hb0
  have HL := hide hs.len
  obtain ⟨ne, le, lv, up, cv, ⟨mo0, mo1⟩, ⟨mv0, mv1⟩⟩ := hg
  obtain ⟨A, n, c, rs, mo, mv⟩ := g
  unfold Gt.arr at q0 hb0 hs0 ⊢
  simp only at ne le lv up cv mo0 mo1 mv0 mv1 HL q0 hb0 hs0 ⊢
  obtain ⟨c0, c1, c2, cf⟩ := q0.facts3
  have HLV := hide lv
  have HUP := hide up
  have HCV := hide cv
  have hz := pt_zero
  have hn1 : 0 < n := by have := HL.out; omega
  have hn10 : n ≤ 10 := by have := HL.out; omega
  have hd1 : ((n : Int) == 0) = false := by simp; omega
  have hd2 : decide ((10 : Int) < (n : Int)) = false := by simp; omega
  have HB0 := hide hb0
  clear hs lv up cv
  go_enter Tryz.func60, Tryz.ntmps60
  go_wp2
  clear c0 c1 c2 cf
  generalize w.alloc _ = w1 at *
  go_loopw [17] (fun i wr => ∃ k : Nat, k ≤ n ∧ i = .int .i64 k ∧ Below w1.heap.size w1 wr) (fun i _ => n - (intOf i).toNat)
  case atStart => exact ⟨0, by omega, rfl, Below.refl _ _⟩
  case round =>
    obtain ⟨k, hk, rfl, hb⟩ := hrel
    have HB := hide hb
    have hsr := Gt.ok.below hs0 hb
    have qr := q0.below hb q0.lt
    by_cases hlt : k < n
    · have hki : (k : Int) < (n : Int) := by omega
      have hkl : k < rs.length := by have := HL.out; omega
      obtain ⟨b, o, hA, hbl, hc⟩ := hsr.1.at_ hlt
      simp only at hA hc
      subst hA
      obtain ⟨e0, e1⟩ := gr_cells hc hkl
      have hmem := List.getElem_mem hkl
      have hlv := HLV.out _ hmem
      obtain ⟨hcg, t, hct⟩ := HCV.out _ hmem
      have hcv := hsr.2 _ hmem
      have HUPK := hide (fun (i : Nat) (hi : k = i + 1) => show ∃ hi2 : i < rs.length, (rs[i]'hi2).lv < (rs[k]'hkl).lv from by
        subst hi; exact ⟨by omega, HUP.out i hkl⟩)
      have HE := hide (fun (W : World) (hW : Below wr.heap.size wr W) (i : Nat) (hi2 : i < rs.length) => cell_thr hW (gr_cells hc hi2).1)
      generalize rs[k]'hkl = r at *
      obtain ⟨lv, cA, cn, cc, ps⟩ := r
      simp only at e0 e1 hlv hcg hct hcv HUPK
      have hps : 0 < ps.length := hcg.ne
      have n5 := Blk.new wr 101 #[.int .i64 lv, .slice cA cn cc]
      have hb5 := bel1 (w := wr) (o := .cells #[.int .i64 lv, .slice cA cn cc] 101)
      have HB5 := hide (bthr hb hb5 hb.size)
      have q5 := qr.below hb5 qr.lt
      have hcv5 := hcv.below hb5
      clear hb hc hsr qr hmem hcv
      go_upto_region 8 with fail
      clear e0 e1
      generalize wr.alloc _ = w5 at *
      obtain ⟨x0, x1, xf⟩ := n5.facts2
      obtain ⟨c0, c1, c2, cf⟩ := q5.facts3
      go_wp2_with fail
      refine (rin_true _ _ (by omega) (by omega) _).mono ?_
      rintro e w' ⟨rfl, rfl⟩
      rename World => w5
      have hne5 : wr.heap.size < w5.heap.size := n5.lt
      by_cases hk0 : k = 0
      · subst hk0
        go_wp2_with fail
        go_quiet (fail)
        go_wp2_with fail
        refine (rcvck_ok ⟨cA, cn, cc, ps⟩ hcg _ (hcv5.below (below_drewN (Below.refl _ _) _))).mono ?_
        rintro e w7 ⟨rfl, hb7⟩
        have hb7' : Below w5.heap.size w5 w7 := ⟨hb7.os, hb7.tape, hb7.output, hb7.size, hb7.block⟩
        have HB7 := hide (bthr HB5.out hb7' HB5.out.size)
        have n7 := n5.below hb7' n5.lt
        have hcv7 := Cv.ok.below hcv5 hb7'
        obtain ⟨bc, oc, hAc, hblc, hcc⟩ := hcv7.block hps
        simp only at hAc hcc
        subst hAc
        have hlc := hcv7.len
        simp only at hlc
        have hcn : 0 < cn := by omega
        have hcni : (0 : Int) < (cn : Int) := by omega
        have hcn100 : cn ≤ 100 := by have := hcg.le; omega
        obtain ⟨z0, z1⟩ := hcc 0 hps
        obtain ⟨m, hm⟩ : ∃ m : Nat, cn = m + 1 := ⟨cn - 1, by omega⟩
        have hml : m < ps.length := by omega
        obtain ⟨m0, m1⟩ := hcc m hml
        have hmb := hcg.at_ hml
        have hz0 : ps[0]'hps = ⟨0, 0⟩ := by subst hct; rfl
        rw [hz0] at z0 z1
        generalize ps[m]'hml = pm at *
        obtain ⟨mx, my⟩ := pm
        simp only [Nat.zero_mul, Nat.add_zero] at z0 z1 m0 m1 hmb
        have hmi : (cn : Int) - 1 = (m : Int) := by omega
        have hmn : m < cn := by omega
        have hmni : (m : Int) < (cn : Int) := by omega
        have hdm : decide (1073741824 < my) = false := by simp; omega
        have HM := hide hm
        have HLC := hide hlc
        clear x0 x1 xf c0 c1 c2 cf n5 hcv5 hb7 hb7' hcv7 hcc hct hcg hz0 hm hlc HUPK HE q5 m0
        obtain ⟨x0, x1, xf⟩ := n7.facts2
        go_wp2
        go_roundw
        case rel => exact ⟨1, by omega, rfl, HB7.out⟩
        case measure => simp [intOf]; omega
      · obtain ⟨i, hi⟩ : ∃ i : Nat, k = i + 1 := ⟨k - 1, by omega⟩
        obtain ⟨hi2, hlt2⟩ := HUPK.out i hi
        have f0 := HE.out w5 hb5 i hi2
        generalize (rs[i]'hi2).lv = lq at *
        have hkp : decide ((0 : Int) < (k : Int)) = true := by simp; omega
        have hkpn : decide (0 < k) = true := by simp; omega
        have hii : (k : Int) - 1 = (i : Int) := by omega
        have hwi : IntKind.i64.wrap (i : Int) = (i : Int) := by rw [IntKind.wrap_i64]; omega
        have hin : i < n := by omega
        have hini : (i : Int) < (n : Int) := by omega
        have hdd : decide (lv ≤ lq) = false := by simp; omega
        have HHI := hide hi
        clear hi hk0
        go_wp2_with fail
        go_quiet (fail)
        clear f0 hdd
        go_wp2_with fail
        refine (rcvck_ok ⟨cA, cn, cc, ps⟩ hcg _ (hcv5.below (below_drewN (Below.refl _ _) _))).mono ?_
        rintro e w7 ⟨rfl, hb7⟩
        have hb7' : Below w5.heap.size w5 w7 := ⟨hb7.os, hb7.tape, hb7.output, hb7.size, hb7.block⟩
        have HB7 := hide (bthr HB5.out hb7' HB5.out.size)
        have n7 := n5.below hb7' n5.lt
        have hcv7 := Cv.ok.below hcv5 hb7'
        obtain ⟨bc, oc, hAc, hblc, hcc⟩ := hcv7.block hps
        simp only at hAc hcc
        subst hAc
        have hlc := hcv7.len
        simp only at hlc
        have hcn : 0 < cn := by omega
        have hcni : (0 : Int) < (cn : Int) := by omega
        have hcn100 : cn ≤ 100 := by have := hcg.le; omega
        obtain ⟨z0, z1⟩ := hcc 0 hps
        obtain ⟨m, hm⟩ : ∃ m : Nat, cn = m + 1 := ⟨cn - 1, by omega⟩
        have hml : m < ps.length := by omega
        obtain ⟨m0, m1⟩ := hcc m hml
        have hmb := hcg.at_ hml
        have hz0 : ps[0]'hps = ⟨0, 0⟩ := by subst hct; rfl
        rw [hz0] at z0 z1
        generalize ps[m]'hml = pm at *
        obtain ⟨mx, my⟩ := pm
        simp only [Nat.zero_mul, Nat.add_zero] at z0 z1 m0 m1 hmb
        have hmi : (cn : Int) - 1 = (m : Int) := by omega
        have hmn : m < cn := by omega
        have hmni : (m : Int) < (cn : Int) := by omega
        have hdm : decide (1073741824 < my) = false := by simp; omega
        have HM := hide hm
        have HLC := hide hlc
        clear x0 x1 xf c0 c1 c2 cf n5 hcv5 hb7 hb7' hcv7 hcc hct hcg hz0 hm hlc HUPK HE q5 m0
        obtain ⟨x0, x1, xf⟩ := n7.facts2
        go_wp2
        go_roundw
        case rel => exact ⟨k + 1, by omega, by go_num, HB7.out⟩
        case measure => simp [intOf]; omega
    · have hki : ¬ ((k : Int) < (n : Int)) := by omega
      obtain ⟨c0, c1, c2, cf⟩ := qr.facts3
      have HBZ := hide (bthr HB0.out hb HB0.out.size)
      clear hb hsr qr
      go_wp2_with fail
      refine (rin_true _ _ (by omega) (by omega) _).mono ?_
      rintro e w' ⟨rfl, rfl⟩
      go_wp2_with fail
      refine (rin_true _ _ (by omega) (by omega) _).mono ?_
      rintro e w' ⟨rfl, rfl⟩
      go_wp2
      go_ret
      exact ⟨rfl, HBZ.out⟩
end Go.Proofs.YtodamjjlnagpjaaGreatDoor
namespace Go.Proofs.YtodamjjlnagpjaaGreatDoor
open Go.RowKit

set_option maxHeartbeats 1600000 in
set_option maxRecDepth 20000 in
theorem inside_clear (u : Un) (x : Int) (hg : UnG u) (hcl : clearB u.r.ps x = true) (w : World) (hs : u.ok w) :
    Calls Tryz.prog 88 #[.agg u.arr, .int .i64 x] w fun e w' => e = .returned (.tuple #[.int .i64 0, .bool false]) ∧ Below w.heap.size w w' := by
  have q0 := Blk.new w 90 u.arr
  have hb0 := bel1 (w := w) (o := .cells u.arr 90)
  have hs0 := hs.2.below hb0
  have HZ := hide hg.z
  have hzn := hg.zn
  have HL := hide hs.2.len
  have HCX := hide (clearB_iff.1 hcl)
  rw [Un.arr6] at q0 hb0 hs0 ⊢
  clear hcl
  generalize hr : u.r = r at *
  obtain ⟨A, n, c, zs⟩ := r
  simp only at HL HZ hzn HCX
  unfold Cv.v at q0 hb0 hs0 ⊢
  simp only at q0 hb0 hs0 ⊢
  obtain ⟨c0, c1, c2, c3, c4, c5, cf⟩ := q0.facts6
  have hn10 : n ≤ 10 := by have := HL.out; omega
  clear hr hs
  go_enter Tryz.func88, Tryz.ntmps88
  go_wp2
  generalize w.alloc _ = w1 at *
  go_loopw [11] (fun v wr => ∃ j : Nat, j ≤ n ∧ v = .int .i64 j ∧ Below w1.heap.size w1 wr) (fun i _ => n - (intOf i).toNat)
  case atStart => exact ⟨0, by omega, rfl, Below.refl _ _⟩
  case round =>
    obtain ⟨j, hj, rfl, hb3⟩ := hrel
    have HB3 := hide hb3
    by_cases hlt : j < n
    · have hjl : j < zs.length := by have := HL.out; omega
      have hji : (j : Int) < (n : Int) := by omega
      have hs3 := Cv.ok.below hs0 hb3
      obtain ⟨b, o, hA, hb, hc⟩ := hs3.cells (k := j) hlt
      simp only at hA hc
      subst hA
      obtain ⟨e0, e1⟩ := hc j hjl
      have hzb := HZ.out _ (List.getElem_mem hjl)
      have hnot := HCX.out _ (List.getElem_mem hjl)
      generalize zs[j]'hjl = z at *
      obtain ⟨zx, zy⟩ := z
      simp only at e0 e1 hzb hnot
      have q1 := Blk.new wr 45 #[.int .i64 zx, .int .i64 zy]
      have HB5 := hide (hb3.alloc hb3.size (.cells #[.int .i64 zx, .int .i64 zy] 45))
      clear hb3 hc hs3
      go_upto_region 4 with fail
      clear e0 e1
      generalize wr.alloc _ = w5 at *
      generalize wr.heap.size = g5 at *
      obtain ⟨x0, x1, xf⟩ := q1.facts2
      by_cases h1 : zx < x
      · have h2d : decide (x < zy) = false := by
          have : ¬ x < zy := fun h2 => hnot ⟨h1, h2⟩
          simpa using this
        have h1d : decide (zx < x) = true := by simpa using h1
        clear q1 hnot
        go_wp2
        go_roundw
        case rel => exact ⟨j + 1, by omega, by go_num, HB5.out⟩
        case measure => simp [intOf]; omega
      · have h1d : decide (zx < x) = false := by simpa using h1
        clear q1 hnot
        go_wp2
        go_roundw
        case rel => exact ⟨j + 1, by omega, by go_num, HB5.out⟩
        case measure => simp [intOf]; omega
    · have hji : ¬ ((j : Int) < (n : Int)) := by omega
      have HBZ := hide (bthr hb0 hb3 hb0.size)
      clear hb3
      go_wp2
      go_ret2
      exact ⟨rfl, HBZ.out⟩
set_option maxHeartbeats 1600000 in
set_option maxRecDepth 20000 in
theorem rruns_ok (u : Un) (f : Int) (hg : UnG u) (hr : runsB u f = true) (w : World) (hs : u.ok w) :
    Calls Tryz.prog 62 #[.agg u.arr, .int .i64 f] w fun e w' => e = .returned (.bool true) ∧ Below w.heap.size w w' := by
  have q0 := Blk.new w 90 u.arr
  have hb0 := bel1 (w := w) (o := .cells u.arr 90)
  have hs0 := hs.below hb0
  obtain ⟨⟨hr0, hr1⟩, hcl⟩ := runsB_iff.1 hr
  have HK := hide (fun W h => rucheck_ok u hg W h)
  have HI := hide (fun W h => inside_clear u f hg hcl W h)
  rw [Un.arr6] at q0 hb0 hs0 HK HI ⊢
  have hd1 : decide (f < u.lo) = false := by simp; omega
  have hd2 : decide (u.hi < f) = false := by simp; omega
  have HB0 := hide hb0
  obtain ⟨c0, c1, c2, c3, c4, c5, cf⟩ := q0.facts6
  clear hr hcl hs hg
  go_enter Tryz.func62, Tryz.ntmps62
  go_wp2_with fail
  generalize w.alloc _ = w1 at *
  refine (HK.out _ hs0).mono ?_
  rintro e w2 ⟨rfl, hb2⟩
  have q2 := q0.below hb2 q0.lt
  have hs2 := hs0.below hb2
  have hB2 := bthr hb0 hb2 hb0.size
  clear c0 c1 c2 c3 c4 c5 cf hs0 hb0 hb2 q0 HB0
  obtain ⟨c0, c1, c2, c3, c4, c5, cf⟩ := q2.facts6
  go_wp2_with fail
  refine (HI.out _ hs2).mono ?_
  rintro e w3 ⟨rfl, hb3⟩
  have HB := hide (bthr hB2 hb3 hB2.size)
  clear c0 c1 c2 c3 c4 c5 cf hs2 hB2 hb3 q2
  go_wp2
  go_ret
  exact ⟨rfl, HB.out⟩
set_option maxHeartbeats 1600000 in
set_option maxRecDepth 20000 in
theorem ruvalid_ok (u : Un) (s : Us) (hg : UnG u) (hu : UsG u s) (w : World) (hs : u.ok w) :
    Calls Tryz.prog 34 #[.agg u.arr, .agg s.arr] w fun e w' => e = .returned (.bool true) ∧ Below w.heap.size w w' := by
  obtain ⟨q0, p0, hb0⟩ := blk_two w 90 93 u.arr s.arr
  have hs0 := hs.below hb0
  have HK := hide (fun W h => rucheck_ok u hg W h)
  have HR := hide (fun (hr : runsB u s.fl = true) (W : World) h => rruns_ok u s.fl hg hr W h)
  obtain ⟨si0, si1⟩ := hu.si
  have hfl := hu.fl
  rw [Un.arr6] at q0 p0 hb0 hs0 HK HR ⊢
  generalize runsB u s.fl = rb at *
  obtain ⟨fl, si, out⟩ := s
  unfold Us.arr at q0 p0 hb0 hs0 ⊢
  simp only at q0 p0 hb0 hs0 HR si0 si1 hfl ⊢
  obtain ⟨c0, c1, c2, c3, c4, c5, cf⟩ := q0.facts6
  obtain ⟨d0, d1, d2, df⟩ := p0.facts3
  clear hu hg hs
  by_cases hf0 : fl = 0
  · subst hf0
    clear hfl HR
    go_enter Tryz.func34, Tryz.ntmps34
    go_wp2_with fail
    refine (HK.out _ hs0).mono ?_
    rintro e w2 ⟨rfl, hb2⟩
    have p2 := p0.below hb2 p0.lt
    have HB2 := hide (bthr hb0 hb2 hb0.size)
    clear c0 c1 c2 c3 c4 c5 cf d0 d1 d2 df hs0 hb0 hb2 q0 p0
    obtain ⟨d0, d1, d2, df⟩ := p2.facts3
    go_wp2_with fail
    refine (rin_true _ _ si0 si1 _).mono ?_
    rintro e w' ⟨rfl, rfl⟩
    go_wp2
    go_ret
    exact ⟨rfl, HB2.out⟩
  · obtain ⟨rfl, rfl⟩ : out = false ∧ rb = true := by rcases hfl with h | h; exact absurd h hf0; exact h
    have hfd : (fl == 0) = false := by simpa using hf0
    have HRR := hide (fun W h => HR.out rfl W h)
    clear hfl HR
    go_enter Tryz.func34, Tryz.ntmps34
    go_wp2_with fail
    refine (HK.out _ hs0).mono ?_
    rintro e w2 ⟨rfl, hb2⟩
    have q2 := q0.below hb2 q0.lt
    have p2 := p0.below hb2 p0.lt
    have hs2 := hs0.below hb2
    have hB2 := bthr hb0 hb2 hb0.size
    clear c0 c1 c2 c3 c4 c5 cf d0 d1 d2 df hs0 hb0 hb2 q0 p0
    obtain ⟨c0, c1, c2, c3, c4, c5, cf⟩ := q2.facts6
    obtain ⟨d0, d1, d2, df⟩ := p2.facts3
    go_wp2_with fail
    refine (rin_true _ _ si0 si1 _).mono ?_
    rintro e w' ⟨rfl, rfl⟩
    go_wp2_with fail
    refine (HRR.out _ hs2).mono ?_
    rintro e w3 ⟨rfl, hb3⟩
    have p3 := p2.below hb3 p2.lt
    have HB := hide (bthr hB2 hb3 hB2.size)
    clear c0 c1 c2 c3 c4 c5 cf d0 d1 d2 df hs2 hB2 hb3 q2 p2
    obtain ⟨d0, d1, d2, df⟩ := p3.facts3
    go_wp2
    go_ret
    exact ⟨rfl, HB.out⟩
set_option maxRecDepth 20000 in
theorem rgvalid_ok (g : Gt) (x : Gs) (h0 : 0 ≤ x.op) (h1 : x.op ≤ g.mo) (w : World) :
    Calls Tryz.prog 35 #[.agg g.arr, .agg x.arr] w fun e w' => e = .returned (.bool true) ∧ Below w.heap.size w w' := by
  obtain ⟨q0, p0, hb0⟩ := blk_two w 96 99 g.arr x.arr
  unfold Gt.arr Gs.arr at *
  obtain ⟨c0, c1, c2, cf⟩ := q0.facts3
  obtain ⟨d0, d1, df⟩ := p0.facts2
  have HB := hide hb0
  clear hb0
  go_enter Tryz.func35, Tryz.ntmps35
  go_wp2_with fail
  refine (rin_true _ _ h0 h1 _).mono ?_
  rintro e w' ⟨rfl, rfl⟩
  go_wp2
  go_ret
  exact ⟨rfl, HB.out⟩
end Go.Proofs.YtodamjjlnagpjaaGreatDoor
namespace Go.Proofs.YtodamjjlnagpjaaGreatDoor
open Go.RowKit

set_option maxHeartbeats 3200000 in
set_option maxRecDepth 20000 in
theorem rdcheck_ok (d : Dm) (hg : DmG d) (w : World) (hs : d.ok w) :
    Calls Tryz.prog 32 #[.agg d.arr] w fun e w' => e = .returned (.int .i64 0) ∧ Below w.heap.size w w' := by
  have q0 := Blk.new w 31 d.arr
  have hb0 := bel1 (w := w) (o := .cells d.arr 31)
  have hs0 := hs.below hb0
  have hnu : d.un ≤ 6 := by have := hs.lenU; have := hg.un; omega
  have hng : d.gn ≤ 8 := by have := hs.lenG; have := hg.gn; omega
  have HSC := hide (rscheck_ok d.r hg.r _ hs0.1)
  have HAU := hide (fun (W : World) (hW : Below w.heap.size w W) (k : Nat) (hk : k < d.un) => Dm.unit (hs.below hW) hg hk)
  have HAG := hide (fun (W : World) (hW : Below w.heap.size w W) (k : Nat) (hk : k < d.gn) => Dm.gate (hs.below hW) hg hk)
  have hgr := hg.gr
  obtain ⟨⟨⟨sA, sn, sc, sps⟩, de, lw, fu, su, cr⟩, uA, un, uc, us, gA, gn, gc, gs, gr⟩ := d
  obtain ⟨gr0, gr1⟩ := hgr
  simp only at gr0 gr1 hnu hng
  unfold Dm.arr at *
  unfold Rs.arr at HSC
  unfold Cv.v at *
  simp only at HSC HAU HAG q0 hb0 ⊢
  obtain ⟨c0, c1, c2, c3, c4, c5, c6, c7, c8, cf⟩ := Blk.facts9 q0
  have hd1 : decide ((6 : Int) < (un : Int)) = false := by simp; omega
  have hd2 : decide ((8 : Int) < (gn : Int)) = false := by simp; omega
  clear hs hs0 hg
  go_enter Tryz.func32, Tryz.ntmps32
  go_wp2_with fail
  refine HSC.out.mono ?_
  rintro e w1 ⟨rfl, hb1⟩
  have q1 := q0.below hb1 q0.lt
  have hB1 := bthr hb0 hb1 hb0.size
  clear c0 c1 c2 c3 c4 c5 c6 c7 c8 cf q0 hb0 hb1 HSC
  obtain ⟨c0, c1, c2, c3, c4, c5, c6, c7, c8, cf⟩ := Blk.facts9 q1
  go_wp2
  clear c0 c1 c2 c3 c4 c5 c6 c7 c8 cf
  go_loopw [29] (fun i wr => ∃ k : Nat, k ≤ un ∧ i = .int .i64 k ∧ Below w1.heap.size w1 wr) (fun i _ => un - (intOf i).toNat)
  case atStart => exact ⟨0, by omega, rfl, Below.refl _ _⟩
  case round =>
    obtain ⟨k, hk, rfl, hb⟩ := hrel
    have HB := hide hb
    have hbw := bthr hB1 hb hB1.size
    by_cases hlt : k < un
    · have hki : (k : Int) < (un : Int) := by omega
      obtain ⟨b, o, u, rfl, _, huo, hug, e0, e1, e2, e3, e4, e5⟩ := HAU.out wr hbw k hlt
      have q2 := Blk.new wr 90 u.arr
      have hb2 := bel1 (w := wr) (o := .cells u.arr 90)
      have hB2 := bthr hb hb2 hb.size
      have HP := hide (fun W h => rucheck_ok u hug W h)
      have hu2 := huo.below hb2
      rw [Un.arr7] at q2 hb2 hB2 HP hu2
      clear hb huo hug hbw
      go_upto_region 9 with fail
      clear e0 e1 e2 e3 e4 e5
      generalize wr.alloc _ = w5 at *
      obtain ⟨c0, c1, c2, c3, c4, c5, cf⟩ := q2.facts6
      go_wp2_with fail
      refine (HP.out _ hu2).mono ?_
      rintro e w9 ⟨rfl, h9⟩
      have HB9 := hide (bthr hB2 h9 hB2.size)
      clear c0 c1 c2 c3 c4 c5 cf hb2 hB2 q2 h9 hu2
      go_wp2
      go_roundw
      case rel => exact ⟨k + 1, by omega, by go_num, HB9.out⟩
      case measure => simp [intOf]; omega
    · have hki : ¬ ((k : Int) < (un : Int)) := by omega
      have qr := q1.below hb q1.lt
      obtain ⟨c0, c1, c2, c3, c4, c5, c6, c7, c8, cf⟩ := Blk.facts9 qr
      clear hb
      go_wp2
      clear c0 c1 c2 c3 c4 c5 c6 c7 c8 cf
      go_loopw [42] (fun i wr => ∃ k : Nat, k ≤ gn ∧ i = .int .i64 k ∧ Below w1.heap.size w1 wr) (fun i _ => gn - (intOf i).toNat)
      case atStart => exact ⟨0, by omega, rfl, HB.out⟩
      case round =>
        rename World => wr
        obtain ⟨k, hk, rfl, hb⟩ := hrel
        have HB := hide hb
        have hbw := bthr hB1 hb hB1.size
        by_cases hlt : k < gn
        · have hki : (k : Int) < (gn : Int) := by omega
          obtain ⟨b, o, g, rfl, _, hgo, hgg, e0, e1, e2⟩ := HAG.out wr hbw k hlt
          have q2 := Blk.new wr 96 g.arr
          have hb2 := bel1 (w := wr) (o := .cells g.arr 96)
          have hB2 := bthr hb hb2 hb.size
          have HP := hide (fun W h => rgcheck_ok g hgg W h)
          have hg2 := hgo.below hb2
          unfold Gt.arr at q2 hb2 hB2 HP hg2
          clear hb hgo hgg hbw
          go_upto_region 16 with fail
          clear e0 e1 e2
          generalize wr.alloc _ = w5 at *
          obtain ⟨c0, c1, c2, cf⟩ := q2.facts3
          go_wp2_with fail
          refine (HP.out _ hg2).mono ?_
          rintro e w9 ⟨rfl, h9⟩
          have HB9 := hide (bthr hB2 h9 hB2.size)
          clear c0 c1 c2 cf hb2 hB2 q2 h9 hg2
          go_wp2
          go_roundw
          case rel => exact ⟨k + 1, by omega, by go_num, HB9.out⟩
          case measure => simp [intOf]; omega
        · have hki : ¬ ((k : Int) < (gn : Int)) := by omega
          have qr := q1.below hb q1.lt
          obtain ⟨c0, c1, c2, c3, c4, c5, c6, c7, c8, cf⟩ := Blk.facts9 qr
          have hg1d : decide (gr < 1) = false := by simp; omega
          have hg2d : decide (1073741824 < gr) = false := by simp; omega
          have HBE := hide hbw
          clear hb hbw
          go_wp2
          go_ret
          exact ⟨rfl, HBE.out⟩
end Go.Proofs.YtodamjjlnagpjaaGreatDoor
namespace Go.Proofs.YtodamjjlnagpjaaGreatDoor
open Go.RowKit

theorem cr_in {d : Dm} (hg : DmG d) : 0 ≤ d.r.cr ∧ d.r.cr ≤ 16777216 := by
  have h := hg.r
  have h0 := (h.st.bd _ (List.getElem_mem h.st.ne)).1
  have h1 := (h.st.bd _ (List.getElem_mem (show d.r.st.ps.length - 1 < d.r.st.ps.length by have := h.st.ne; omega))).1
  have := h.l0
  have := h.l1
  have := h.l2
  have := h.l3
  have := h.l4
  have := h.l5
  omega
set_option maxHeartbeats 3200000 in
set_option maxRecDepth 20000 in
theorem rdvalid_ok (d : Dm) (s : Ds) (hg : DmG d) (hsg : DsG d s) (w : World) (hs : d.ok w) (ht : s.ok w) :
    Calls Tryz.prog 13 #[.agg d.arr, .agg s.arr] w fun e w' => e = .returned (.bool true) ∧ Below w.heap.size w w' := by
  obtain ⟨q0, p0, hb0⟩ := blk_two w 31 35 d.arr s.arr
  have hs0 := hs.below hb0
  have hnu : d.un ≤ 6 := by have := hs.lenU; have := hg.un; omega
  have hng : d.gn ≤ 8 := by have := hs.lenG; have := hg.gn; omega
  have hu1 : s.un = d.un := by have := hs.lenU; have := ht.lenU; have := hsg.ul; omega
  have hu2 : s.gn = d.gn := by have := hs.lenG; have := ht.lenG; have := hsg.gl; omega
  have HC := hide (fun W h => rdcheck_ok d hg W h)
  have HV := hide (fun (W : World) (h : d.ok W) => rvolume_any d.r hg.r d.r.cr (cr_in hg) W h.1)
  have HAU := hide (fun (W : World) (hW : Below w.heap.size w W) (k : Nat) (hk : k < d.un) => And.intro (Dm.unit (hs.below hW) hg hk) (Ds.unit (ht.below hW) hsg (k := k) (by have := hs.lenU; omega)))
  have HAG := hide (fun (W : World) (hW : Below w.heap.size w W) (k : Nat) (hk : k < d.gn) => And.intro (Dm.gate (hs.below hW) hg hk) (Ds.gate (ht.below hW) hsg (k := k) (by have := hs.lenG; omega)))
  obtain ⟨v0, v1⟩ := hsg.vo
  obtain ⟨r0, r1⟩ := hsg.re
  have HW1 := hide (fun W => rin_true s.vo (crestV d) v0 v1 W)
  have HW2 := hide (fun W => rin_true s.re 1073741824 r0 r1 W)
  unfold crestV at HW1
  generalize val d.r.st.ps d.r.cr = C at *
  have HDK := hide (fun (W : World) (hW : Below w.heap.size w W) => hs.below hW)
  clear ht hsg hs hg hs0 v1
  obtain ⟨vo, re, sUA, sun, suc, sus, sGA, sgn, sgc, sgs⟩ := s
  obtain ⟨⟨⟨sA, sn, sc, sps⟩, de, lw, fu, su, cr⟩, uA, un, uc, us, gA, gn, gc, gs, gr⟩ := d
  unfold Dm.arr at *
  unfold Rs.arr at HV
  unfold Cv.v at *
  unfold Ds.arr at *
  simp only at hu1 hu2 HW1 HW2 HAU HAG q0 p0 hb0 HC HV v0 r0 r1 hnu hng ⊢
  obtain rfl : sun = un := hu1
  obtain rfl : sgn = gn := hu2
  obtain ⟨c0, c1, c2, c3, c4, c5, c6, c7, c8, cf⟩ := Blk.facts9 q0
  obtain ⟨f0, f1, f2, f3, ff⟩ := p0.facts4
  have hq1 : ((sun : Int) != (sun : Int)) = false := by simp
  have hq2 : ((sgn : Int) != (sgn : Int)) = false := by simp
  go_enter Tryz.func13, Tryz.ntmps13
  go_wp2_with fail
  generalize (w.alloc _).alloc _ = w1 at *
  refine (HC.out w1 (HDK.out w1 hb0)).mono ?_
  rintro e w2 ⟨rfl, hb2⟩
  have q2 := q0.below hb2 q0.lt
  have p2 := p0.below hb2 p0.lt
  have hB2 := bthr hb0 hb2 hb0.size
  clear c0 c1 c2 c3 c4 c5 c6 c7 c8 cf f0 f1 f2 f3 ff q0 p0 hb0 hb2 HC
  obtain ⟨c0, c1, c2, c3, c4, c5, c6, c7, c8, cf⟩ := Blk.facts9 q2
  obtain ⟨f0, f1, f2, f3, ff⟩ := p2.facts4
  go_wp2_with fail
  refine (HW2.out _).mono ?_
  rintro e w' ⟨rfl, rfl⟩
  go_wp2_with fail
  refine (HV.out _ (HDK.out _ hB2)).mono ?_
  rintro e w3 ⟨rfl, hb3⟩
  have q9 := q2.below hb3 q2.lt
  have p9 := p2.below hb3 p2.lt
  have hb9' := hide (bthr hB2 hb3 hB2.size)
  clear c0 c1 c2 c3 c4 c5 c6 c7 c8 cf f0 f1 f2 f3 ff q2 p2 hB2 hb3 HV
  obtain ⟨c0, c1, c2, c3, c4, c5, c6, c7, c8, cf⟩ := Blk.facts9 q9
  obtain ⟨f0, f1, f2, f3, ff⟩ := p9.facts4
  go_wp2_with fail
  refine (HW1.out _).mono ?_
  rintro e w9 ⟨rfl, rfl⟩
  go_wp2
  clear c0 c1 c2 c3 c4 c5 c6 c7 c8 cf f0 f1 f2 f3 ff
  go_loopw [55] (fun i wr => ∃ k : Nat, k ≤ sun ∧ i = .int .i64 k ∧ Below w9.heap.size w9 wr) (fun i _ => sun - (intOf i).toNat)
  case atStart => exact ⟨0, by omega, rfl, Below.refl _ _⟩
  case round =>
    obtain ⟨k, hk, rfl, hb⟩ := hrel
    have HB := hide hb
    have hbw := bthr hb9'.out hb hb9'.out.size
    by_cases hlt : k < sun
    · have hki : (k : Int) < (sun : Int) := by omega
      obtain ⟨⟨b, o, u, rfl, hu1, huo, hug, e0, e1, e2, e3, e4, e5⟩, b2, o2, u', x, rfl, hu2, hus, _, g0, g1, g2⟩ := HAU.out wr hbw k hlt
      obtain rfl : u = u' := by rw [hu1] at hu2; injection hu2
      have pr := p9.below hb p9.lt
      have q1 := Blk.new wr 90 u.arr
      have hb1 := bel1 (w := wr) (o := .cells u.arr 90)
      have hB1 := bthr hb hb1 hb.size
      have HP := hide (fun W h => ruvalid_ok u x hug hus W h)
      have hu5 := huo.below hb1
      replace pr := pr.below hb1 pr.lt
      replace g0 := cell_thr hb1 g0
      replace g1 := cell_thr hb1 g1
      replace g2 := cell_thr hb1 g2
      rw [Un.arr7] at q1 hb1 hB1 HP hu5 pr g0 g1 g2
      unfold Us.arr at HP
      clear hb huo hug hus hbw hu1 hu2
      go_upto_region 9 with fail
      clear e0 e1 e2 e3 e4 e5
      generalize wr.alloc _ = w5 at *
      obtain ⟨c0, c1, c2, c3, c4, c5, cf⟩ := q1.facts6
      obtain ⟨f0, f1, f2, f3, ff⟩ := pr.facts4
      have hne : Nonempty (InW fun w => Below w5.heap.size w5 w) := ⟨⟨w5, Below.refl _ _⟩⟩
      have HP2 := hide (fun (y : InW (fun w => Below w5.heap.size w5 w)) => HP.out y.val (hu5.below y.ok))
      replace c0 := inv_cell c0
      replace c1 := inv_cell c1
      replace c2 := inv_cell c2
      replace c3 := inv_cell c3
      replace c4 := inv_cell c4
      replace c5 := inv_cell c5
      replace f2 := inv_cell f2
      replace g0 := inv_cell g0
      replace g1 := inv_cell g1
      replace g2 := inv_cell g2
      refine wp_region_inv (I := fun w => Below w5.heap.size w5 w) (by kernel_rfl) (by kernel_rfl) (Below.refl _ _).drew ?_
      repeat (go_big_quiet_step (first | (go_at_call 34; with_reducible refine inv_call (inv_closed w5) (HP2.out _))))
      refine wpQuiet_nil ?_
      rintro _ ⟨⟨w6, h6⟩, rfl⟩
      have HB6 := hide (bthr hB1 h6 hB1.size)
      clear c0 c1 c2 c3 c4 c5 f0 f1 f2 f3 ff g0 g1 g2 cf hb1 hB1 q1 h6 HP HP2 hu5 pr
      go_wp2
      go_roundw
      case rel => exact ⟨k + 1, by omega, by go_num, HB6.out⟩
      case measure => simp [intOf]; omega
    · have hki : ¬ ((k : Int) < (sun : Int)) := by omega
      have qr := q9.below hb q9.lt
      obtain ⟨c0, c1, c2, c3, c4, c5, c6, c7, c8, cf⟩ := Blk.facts9 qr
      clear hb hbw
      go_wp2
      clear c0 c1 c2 c3 c4 c5 c6 c7 c8 cf qr
      go_loopw [72] (fun i wr => ∃ k : Nat, k ≤ sgn ∧ i = .int .i64 k ∧ Below w9.heap.size w9 wr) (fun i _ => sgn - (intOf i).toNat)
      case atStart => exact ⟨0, by omega, rfl, HB.out⟩
      case round =>
        rename World => wr
        obtain ⟨k, hk, rfl, hb⟩ := hrel
        have HB := hide hb
        have hbw := bthr hb9'.out hb hb9'.out.size
        by_cases hlt : k < sgn
        · have hki : (k : Int) < (sgn : Int) := by omega
          obtain ⟨⟨b, o, g, rfl, hg1, hgo, hgg, e0, e1, e2⟩, b2, o2, g', x, rfl, hg2, _, hx, g0, g1⟩ := HAG.out wr hbw k hlt
          obtain rfl : g = g' := by rw [hg1] at hg2; injection hg2
          have pr := p9.below hb p9.lt
          have q1 := Blk.new wr 96 g.arr
          have hb1 := bel1 (w := wr) (o := .cells g.arr 96)
          have hB1 := bthr hb hb1 hb.size
          have HP := hide (fun W => rgvalid_ok g x hx.1 hx.2 W)
          replace pr := pr.below hb1 pr.lt
          replace g0 := cell_thr hb1 g0
          replace g1 := cell_thr hb1 g1
          unfold Gt.arr at q1 hb1 hB1 pr g0 g1 HP
          unfold Gs.arr at HP
          clear hb hgo hgg hbw hg1 hg2 hx
          go_upto_region 15 with fail
          clear e0 e1 e2
          generalize wr.alloc _ = w5 at *
          obtain ⟨c0, c1, c2, cf⟩ := q1.facts3
          obtain ⟨f0, f1, f2, f3, ff⟩ := pr.facts4
          have hne : Nonempty (InW fun w => Below w5.heap.size w5 w) := ⟨⟨w5, Below.refl _ _⟩⟩
          have HP2 := hide (fun (y : InW (fun w => Below w5.heap.size w5 w)) => HP.out y.val)
          replace c0 := inv_cell c0
          replace c1 := inv_cell c1
          replace c2 := inv_cell c2
          replace f3 := inv_cell f3
          replace g0 := inv_cell g0
          replace g1 := inv_cell g1
          refine wp_region_inv (I := fun w => Below w5.heap.size w5 w) (by kernel_rfl) (by kernel_rfl) (Below.refl _ _).drew ?_
          repeat (go_big_quiet_step (first | (go_at_call 35; with_reducible refine inv_call (inv_closed w5) (HP2.out _))))
          refine wpQuiet_nil ?_
          rintro _ ⟨⟨w6, h6⟩, rfl⟩
          have HB6 := hide (bthr hB1 h6 hB1.size)
          clear c0 c1 c2 f0 f1 f2 f3 ff g0 g1 cf hb1 hB1 q1 h6 HP HP2 pr
          go_wp2
          go_roundw
          case rel => exact ⟨k + 1, by omega, by go_num, HB6.out⟩
          case measure => simp [intOf]; omega
        · have hki : ¬ ((k : Int) < (sgn : Int)) := by omega
          have HBE := hide hbw
          clear hb hbw
          go_wp2
          go_ret
          exact ⟨rfl, HBE.out⟩
end Go.Proofs.YtodamjjlnagpjaaGreatDoor
