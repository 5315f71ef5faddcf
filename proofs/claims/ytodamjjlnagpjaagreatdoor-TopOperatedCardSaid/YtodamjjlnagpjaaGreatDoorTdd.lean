/-
  The contract of dam.Check at valid dams. Condition: the dam lies in memory and is valid.
  The contract of dam.crest: the volume at the crest. Condition: the dam lies in memory and is valid.
  The contract of dam.fits at valid dams and states. Condition: the dam and its state lie in memory and are valid.
  The contracts of dam.asked and dam.Level at valid dams and states. Condition: the dam and its state lie in memory and are valid.
-/
import Derived.Test.YtodamjjlnagpjaaGreatDoorProg
import Derived.Test.YtodamjjlnagpjaaGreatDoorTgi
namespace Go.Proofs.YtodamjjlnagpjaaGreatDoor
open Go.RowKit

theorem Blk.facts9 {w : World} {g : Nat} {t : TypeId} {a0 a1 a2 a3 a4 a5 a6 a7 a8 : Value} (h : Blk w g t #[a0, a1, a2, a3, a4, a5, a6, a7, a8]) : w.cell? ⟨g, 0, none⟩ = some a0 ∧ w.cell? ⟨g, 1, none⟩ = some a1 ∧ w.cell? ⟨g, 2, none⟩ = some a2 ∧ w.cell? ⟨g, 3, none⟩ = some a3 ∧ w.cell? ⟨g, 4, none⟩ = some a4 ∧ w.cell? ⟨g, 5, none⟩ = some a5 ∧ w.cell? ⟨g, 6, none⟩ = some a6 ∧ w.cell? ⟨g, 7, none⟩ = some a7 ∧ w.cell? ⟨g, 8, none⟩ = some a8 ∧ ∀ o, w.frozen? ⟨g, o, none⟩ = false := by
  obtain ⟨c, f⟩ := Blk.facts h
  exact ⟨c 0, c 1, c 2, c 3, c 4, c 5, c 6, c 7, c 8, f⟩
/-- The cells of unit k of a dam. -/
theorem Dm.unit {d : Dm} {w : World} (h : d.ok w) (hg : DmG d) {k : Nat} (hk : k < d.un) : ∃ (b o : Nat) (u : Un), d.uA = some ⟨b, o, none⟩ ∧ d.us[k]? = some u ∧ u.ok w ∧ UnG u ∧
    (w.cell? ⟨b, o + k * 6, none⟩ = some u.t.v ∧ w.cell? ⟨b, o + k * 6 + 1, none⟩ = some (.int .i64 u.lo) ∧ w.cell? ⟨b, o + k * 6 + 2, none⟩ = some (.int .i64 u.hi) ∧ w.cell? ⟨b, o + k * 6 + 3, none⟩ = some u.r.v ∧ w.cell? ⟨b, o + k * 6 + 4, none⟩ = some (.int .i64 u.up) ∧ w.cell? ⟨b, o + k * 6 + 5, none⟩ = some (.int .i64 u.dn)) := by
  have hl := h.lenU
  obtain ⟨b, o, hA, _, hc⟩ := h.2.1.1.at_ hk
  exact ⟨b, o, d.us[k]'(by omega), hA, List.getElem?_eq_getElem _, h.2.1.2 _ (List.getElem_mem _), hg.u _ (List.getElem_mem _), un_cells hc (by omega)⟩
/-- The cells of gate k of a dam. -/
theorem Dm.gate {d : Dm} {w : World} (h : d.ok w) (hg : DmG d) {k : Nat} (hk : k < d.gn) : ∃ (b o : Nat) (g : Gt), d.gA = some ⟨b, o, none⟩ ∧ d.gs[k]? = some g ∧ g.ok w ∧ GtG g ∧
    (w.cell? ⟨b, o + k * 3, none⟩ = some (.slice g.A g.n g.c) ∧ w.cell? ⟨b, o + k * 3 + 1, none⟩ = some (.int .i64 g.mo) ∧ w.cell? ⟨b, o + k * 3 + 2, none⟩ = some (.int .i64 g.mv)) := by
  have hl := h.lenG
  obtain ⟨b, o, hA, _, hc⟩ := h.2.2.1.at_ hk
  exact ⟨b, o, d.gs[k]'(by omega), hA, List.getElem?_eq_getElem _, h.2.2.2 _ (List.getElem_mem _), hg.g _ (List.getElem_mem _), gt_cells hc (by omega)⟩
set_option maxHeartbeats 3200000 in
set_option maxRecDepth 20000 in
theorem dcheck_ok (d : Dm) (hg : DmG d) (w : World) (hs : d.ok w) :
    Calls Tryz.prog 46 #[.agg d.arr] w fun e w' => e = .returned (.int .i64 0) ∧ Below w.heap.size w w' := by
  have q0 := Blk.new w 31 d.arr
  have hb0 := bel1 (w := w) (o := .cells d.arr 31)
  have hs0 := hs.below hb0
  have hnu : d.un ≤ 6 := by have := hs.lenU; have := hg.un; omega
  have hng : d.gn ≤ 8 := by have := hs.lenG; have := hg.gn; omega
  have HSC := hide (scheck_ok d.r hg.r _ hs0.1)
  have HAU := hide (fun (W : World) (hW : Below w.heap.size w W) (k : Nat) (hk : k < d.un) => Dm.unit (hs.below hW) hg hk)
  have HAG := hide (fun (W : World) (hW : Below w.heap.size w W) (k : Nat) (hk : k < d.gn) => Dm.gate (hs.below hW) hg hk)
  have hgr := hg.gr
  obtain ⟨⟨⟨sA, sn, sc, sps⟩, de, lw, fu, su, cr⟩, uA, un, uc, us, gA, gn, gc, gs, gr⟩ := d
  obtain ⟨gr0, gr1⟩ := hgr
  simp only at gr0 gr1 hnu hng
  unfold Dm.arr at *
  unfold Rs.arr at HSC
  unfold Cv.v at *
  simp only at HSC HAU HAG q0 hb0 ⊢
  obtain ⟨c0, c1, c2, c3, c4, c5, c6, c7, c8, cf⟩ := Blk.facts9 q0
  have hd1 : decide ((6 : Int) < (un : Int)) = false := by simp; omega
  have hd2 : decide ((8 : Int) < (gn : Int)) = false := by simp; omega
  clear hs hs0 hg
  go_enter Tryz.func46, Tryz.ntmps46
  go_wp2_with fail
  refine HSC.out.mono ?_
  rintro e w1 ⟨rfl, hb1⟩
  have q1 := q0.below hb1 q0.lt
  have hB1 := bthr hb0 hb1 hb0.size
  clear c0 c1 c2 c3 c4 c5 c6 c7 c8 cf q0 hb0 hb1 HSC
  obtain ⟨c0, c1, c2, c3, c4, c5, c6, c7, c8, cf⟩ := Blk.facts9 q1
  go_wp2
  clear c0 c1 c2 c3 c4 c5 c6 c7 c8 cf
  go_loopw [29] (fun i wr => ∃ k : Nat, k ≤ un ∧ i = .int .i64 k ∧ Below w1.heap.size w1 wr) (fun i _ => un - (intOf i).toNat)
  case atStart => exact ⟨0, by omega, rfl, Below.refl _ _⟩
  case round =>
    obtain ⟨k, hk, rfl, hb⟩ := hrel
    have HB := hide hb
    have hbw := bthr hB1 hb hB1.size
    by_cases hlt : k < un
    · have hki : (k : Int) < (un : Int) := by omega
      obtain ⟨b, o, u, rfl, _, huo, hug, e0, e1, e2, e3, e4, e5⟩ := HAU.out wr hbw k hlt
      have q2 := Blk.new wr 90 u.arr
      have hb2 := bel1 (w := wr) (o := .cells u.arr 90)
      have hB2 := bthr hb hb2 hb.size
      have HP := hide (fun W h => ucheck_ok u hug W h)
      have hu2 := huo.below hb2
      rw [Un.arr7] at q2 hb2 hB2 HP hu2
      clear hb huo hug hbw
      go_upto_region 9 with fail
      clear e0 e1 e2 e3 e4 e5
      generalize wr.alloc _ = w5 at *
      obtain ⟨c0, c1, c2, c3, c4, c5, cf⟩ := q2.facts6
      go_wp2_with fail
      refine (HP.out _ hu2).mono ?_
      rintro e w9 ⟨rfl, h9⟩
      have HB9 := hide (bthr hB2 h9 hB2.size)
      clear c0 c1 c2 c3 c4 c5 cf hb2 hB2 q2 h9 hu2
      go_wp2
      go_roundw
      case rel => exact ⟨k + 1, by omega, by go_num, HB9.out⟩
      case measure => simp [intOf]; omega
    · have hki : ¬ ((k : Int) < (un : Int)) := by omega
      have qr := q1.below hb q1.lt
      obtain ⟨c0, c1, c2, c3, c4, c5, c6, c7, c8, cf⟩ := Blk.facts9 qr
      clear hb
      go_wp2
      clear c0 c1 c2 c3 c4 c5 c6 c7 c8 cf
      go_loopw [42] (fun i wr => ∃ k : Nat, k ≤ gn ∧ i = .int .i64 k ∧ Below w1.heap.size w1 wr) (fun i _ => gn - (intOf i).toNat)
      case atStart => exact ⟨0, by omega, rfl, HB.out⟩
      case round =>
        rename World => wr
        obtain ⟨k, hk, rfl, hb⟩ := hrel
        have HB := hide hb
        have hbw := bthr hB1 hb hB1.size
        by_cases hlt : k < gn
        · have hki : (k : Int) < (gn : Int) := by omega
          obtain ⟨b, o, g, rfl, _, hgo, hgg, e0, e1, e2⟩ := HAG.out wr hbw k hlt
          have q2 := Blk.new wr 96 g.arr
          have hb2 := bel1 (w := wr) (o := .cells g.arr 96)
          have hB2 := bthr hb hb2 hb.size
          have HP := hide (fun W h => gcheck_ok g hgg W h)
          have hg2 := hgo.below hb2
          unfold Gt.arr at q2 hb2 hB2 HP hg2
          clear hb hgo hgg hbw
          go_upto_region 16 with fail
          clear e0 e1 e2
          generalize wr.alloc _ = w5 at *
          obtain ⟨c0, c1, c2, cf⟩ := q2.facts3
          go_wp2_with fail
          refine (HP.out _ hg2).mono ?_
          rintro e w9 ⟨rfl, h9⟩
          have HB9 := hide (bthr hB2 h9 hB2.size)
          clear c0 c1 c2 cf hb2 hB2 q2 h9 hg2
          go_wp2
          go_roundw
          case rel => exact ⟨k + 1, by omega, by go_num, HB9.out⟩
          case measure => simp [intOf]; omega
        · have hki : ¬ ((k : Int) < (gn : Int)) := by omega
          have qr := q1.below hb q1.lt
          obtain ⟨c0, c1, c2, c3, c4, c5, c6, c7, c8, cf⟩ := Blk.facts9 qr
          have hg1d : decide (gr < 1) = false := by simp; omega
          have hg2d : decide (1073741824 < gr) = false := by simp; omega
          have HBE := hide hbw
          clear hb hbw
          go_wp2
          go_ret
          exact ⟨rfl, HBE.out⟩
end Go.Proofs.YtodamjjlnagpjaaGreatDoor
namespace Go.Proofs.YtodamjjlnagpjaaGreatDoor
open Go.RowKit

set_option maxHeartbeats 1600000 in
set_option maxRecDepth 20000 in
theorem crest_any (d : Dm) (hg : DmG d) (w : World) (hs : d.ok w) :
    Calls Tryz.prog 72 #[.agg d.arr] w fun e w' => e = .returned (.int .i64 (crestV d)) ∧ Below w.heap.size w w' := by
  have q0 := Blk.new w 31 d.arr
  have hb0 := bel1 (w := w) (o := .cells d.arr 31)
  have hs0 := hs.below hb0
  have HV := hide (value_any d.r.st d.r.cr hg.r.st _ hs0.1)
  unfold crestV
  obtain ⟨⟨⟨sA, sn, sc, sps⟩, de, lw, fu, su, cr⟩, uA, un, uc, us, gA, gn, gc, gs, gr⟩ := d
  unfold Dm.arr at *
  unfold Cv.v at *
  simp only at HV q0 hb0 ⊢
  obtain ⟨c0, c1, c2, c3, c4, c5, c6, c7, c8, cf⟩ := Blk.facts9 q0
  clear hs hs0 hg
  go_enter Tryz.func72, Tryz.ntmps72
  go_wp2_with fail
  refine HV.out.mono ?_
  rintro e w1 ⟨rfl, hb1⟩
  go_wp2
  go_ret
  exact ⟨rfl, bthr hb0 hb1 hb0.size⟩
end Go.Proofs.YtodamjjlnagpjaaGreatDoor
namespace Go.Proofs.YtodamjjlnagpjaaGreatDoor
open Go.RowKit

/-- The cells of unit state k of a dam's state. -/
theorem Ds.unit {d : Dm} {s : Ds} {w : World} (h : s.ok w) (hg : DsG d s) {k : Nat} (hk : k < d.us.length) : ∃ (b o : Nat) (u : Un) (x : Us), s.uA = some ⟨b, o, none⟩ ∧ d.us[k]? = some u ∧ UsG u x ∧ s.us[k]? = some x ∧
    (w.cell? ⟨b, o + k * 3, none⟩ = some (.int .i64 x.fl) ∧ w.cell? ⟨b, o + k * 3 + 1, none⟩ = some (.int .i64 x.si) ∧ w.cell? ⟨b, o + k * 3 + 2, none⟩ = some (.bool x.out)) := by
  have hl : s.un = s.us.length := by have := h.1.1; rw [usCells, cellsOf_len Us.arr 3 (fun _ => rfl)] at this; omega
  have hul := hg.ul
  obtain ⟨b, o, hA, _, hc⟩ := h.1.at_ (k := k) (by omega)
  exact ⟨b, o, d.us[k]'(by omega), s.us[k]'(by omega), hA, List.getElem?_eq_getElem _, hg.u k hk, List.getElem?_eq_getElem _, us_cells hc (by omega)⟩
/-- The cells of gate state k of a dam's state. -/
theorem Ds.gate {d : Dm} {s : Ds} {w : World} (h : s.ok w) (hg : DsG d s) {k : Nat} (hk : k < d.gs.length) : ∃ (b o : Nat) (g : Gt) (x : Gs), s.gA = some ⟨b, o, none⟩ ∧ d.gs[k]? = some g ∧ s.gs[k]? = some x ∧ (0 ≤ x.op ∧ x.op ≤ g.mo) ∧
    w.cell? ⟨b, o + k * 2, none⟩ = some (.int .i64 x.op) ∧ w.cell? ⟨b, o + k * 2 + 1, none⟩ = some (.bool x.jam) := by
  have hl : s.gn = s.gs.length := by have := h.2.1; rw [gsCells, cellsOf_len Gs.arr 2 (fun _ => rfl)] at this; omega
  have hgl := hg.gl
  obtain ⟨b, o, hA, _, hc⟩ := h.2.at_ (k := k) (by omega)
  exact ⟨b, o, d.gs[k]'(by omega), s.gs[k]'(by omega), hA, List.getElem?_eq_getElem _, List.getElem?_eq_getElem _, hg.g k hk, gs_cells hc (by omega)⟩
theorem Ds.ok.lenU {s : Ds} {w : World} (h : s.ok w) : s.un = s.us.length := by have := h.1.1; rw [usCells, cellsOf_len Us.arr 3 (fun _ => rfl)] at this; omega
theorem Ds.ok.lenG {s : Ds} {w : World} (h : s.ok w) : s.gn = s.gs.length := by have := h.2.1; rw [gsCells, cellsOf_len Gs.arr 2 (fun _ => rfl)] at this; omega
set_option maxHeartbeats 3200000 in
set_option maxRecDepth 20000 in
theorem fits_ok (d : Dm) (s : Ds) (hg : DmG d) (hsg : DsG d s) (w : World) (hs : d.ok w) (ht : s.ok w) :
    Calls Tryz.prog 47 #[.agg d.arr, .agg s.arr] w fun e w' => e = .returned (.bool true) ∧ Below w.heap.size w w' := by
  obtain ⟨q0, p0, hb0⟩ := blk_two w 31 35 d.arr s.arr
  have hs0 := hs.below hb0
  have hnu : d.un ≤ 6 := by have := hs.lenU; have := hg.un; omega
  have hng : d.gn ≤ 8 := by have := hs.lenG; have := hg.gn; omega
  have hu1 : s.un = d.un := by have := hs.lenU; have := ht.lenU; have := hsg.ul; omega
  have hu2 : s.gn = d.gn := by have := hs.lenG; have := ht.lenG; have := hsg.gl; omega
  have HC := hide (fun W h => crest_any d hg W h)
  have HSO := hide (fun (W : World) (hW : Below w.heap.size w W) => hs.below hW)
  have HAU := hide (fun (W : World) (hW : Below w.heap.size w W) (k : Nat) (hk : k < d.un) => And.intro (Dm.unit (hs.below hW) hg hk) (Ds.unit (ht.below hW) hsg (k := k) (by have := hs.lenU; omega)))
  have HAG := hide (fun (W : World) (hW : Below w.heap.size w W) (k : Nat) (hk : k < d.gn) => And.intro (Dm.gate (hs.below hW) hg hk) (Ds.gate (ht.below hW) hsg (k := k) (by have := hs.lenG; omega)))
  obtain ⟨v0, v1⟩ := hsg.vo
  obtain ⟨r0, r1⟩ := hsg.re
  have HW1 := hide (fun W => within_true s.vo (crestV d) v0 v1 W)
  have HW2 := hide (fun W => within_true s.re 1073741824 r0 r1 W)
  have hdok := hs0
  generalize crestV d = C at *
  have HDK := hide (fun (W : World) (hW : Below w.heap.size w W) => hs.below hW)
  clear hs ht hg hsg hs0
  obtain ⟨vo, re, sUA, sun, suc, sus, sGA, sgn, sgc, sgs⟩ := s
  obtain ⟨⟨⟨sA, sn, sc, sps⟩, de, lw, fu, su, cr⟩, uA, un, uc, us, gA, gn, gc, gs, gr⟩ := d
  unfold Dm.arr at *
  unfold Cv.v at *
  unfold Ds.arr at *
  simp only at hu1 hu2 HW1 HW2 HAU HAG q0 p0 hb0 hdok HC v0 v1 r0 r1 hnu hng ⊢
  obtain rfl : sun = un := hu1
  obtain rfl : sgn = gn := hu2
  obtain ⟨c0, c1, c2, c3, c4, c5, c6, c7, c8, cf⟩ := Blk.facts9 q0
  obtain ⟨f0, f1, f2, f3, ff⟩ := p0.facts4
  have hq1 : ((sun : Int) != (sun : Int)) = false := by simp
  have hq2 : ((sgn : Int) != (sgn : Int)) = false := by simp
  go_enter Tryz.func47, Tryz.ntmps47
  go_upto_region 1 with fail
  generalize hw1 : (w.alloc _).alloc _ = w1 at *
  clear hw1
  have hne : Nonempty (InW fun w => Below w1.heap.size w1 w) := ⟨⟨w1, Below.refl _ _⟩⟩
  have HC2 := hide (fun (y : InW (fun w => Below w1.heap.size w1 w)) => HC.out y.val (hdok.below y.ok))
  have HX1 := hide (fun (y : InW (fun w => Below w1.heap.size w1 w)) => (HW1.out y.val).mono (R' := fun e w' => e = .returned (.bool true) ∧ Below y.val.heap.size y.val w') fun e w' h => ⟨h.1, h.2 ▸ Below.refl _ _⟩)
  have HX2 := hide (fun (y : InW (fun w => Below w1.heap.size w1 w)) => (HW2.out y.val).mono (R' := fun e w' => e = .returned (.bool true) ∧ Below y.val.heap.size y.val w') fun e w' h => ⟨h.1, h.2 ▸ Below.refl _ _⟩)
  replace c0 := inv_cell c0
  replace c1 := inv_cell c1
  replace c2 := inv_cell c2
  replace c3 := inv_cell c3
  replace c4 := inv_cell c4
  replace c5 := inv_cell c5
  replace c6 := inv_cell c6
  replace c7 := inv_cell c7
  replace c8 := inv_cell c8
  replace f0 := inv_cell f0
  replace f1 := inv_cell f1
  replace f2 := inv_cell f2
  replace f3 := inv_cell f3
  clear HC HW1 HW2
  refine wp_region_inv (I := fun w => Below w1.heap.size w1 w) (by kernel_rfl) (by kernel_rfl) (Below.refl _ _).drew ?_
  repeat (go_big_quiet_step (first | (go_at_call 72; refine inv_call (inv_closed w1) (HC2.out _)) | (go_at_call 30; first | with_reducible refine inv_call (inv_closed w1) (HX1.out _) | with_reducible refine inv_call (inv_closed w1) (HX2.out _))))
  all_goals
    refine wpQuiet_nil ?_
  all_goals
    rintro _ ⟨⟨w9, h9⟩, rfl⟩
  rename World => w9
  have q9 := q0.below h9 q0.lt
  have p9 := p0.below h9 p0.lt
  have hb9 := bthr hb0 h9 hb0.size
  have HB9 := hide hb9
  clear c0 c1 c2 c3 c4 c5 c6 c7 c8 f0 f1 f2 f3 cf ff hne HC2 HX1 HX2 q0 p0 hb0 h9 hdok
  obtain ⟨c0, c1, c2, c3, c4, c5, c6, c7, c8, cf⟩ := Blk.facts9 q9
  obtain ⟨f0, f1, f2, f3, ff⟩ := p9.facts4
  clear HB9
  have hb9' := hide hb9
  clear hb9
  go_wp2
  clear c0 c1 c2 c3 c4 c5 c6 c7 c8 cf f0 f1 f2 f3 ff
  go_loopw [42] (fun i wr => ∃ k : Nat, k ≤ sun ∧ i = .int .i64 k ∧ Below w9.heap.size w9 wr) (fun i _ => sun - (intOf i).toNat)
  case atStart => exact ⟨0, by omega, rfl, Below.refl _ _⟩
  case round =>
    obtain ⟨k, hk, rfl, hb⟩ := hrel
    have HB := hide hb
    have hbw := bthr hb9'.out hb hb9'.out.size
    by_cases hlt : k < sun
    · have hki : (k : Int) < (sun : Int) := by omega
      obtain ⟨⟨b, o, u, rfl, hu1, huo, hug, e0, e1, e2, e3, e4, e5⟩, b2, o2, u', x, rfl, hu2, hus, _, g0, g1, g2⟩ := HAU.out wr hbw k hlt
      obtain rfl : u = u' := by rw [hu1] at hu2; injection hu2
      have pr := p9.below hb p9.lt
      have q1 := Blk.new wr 90 u.arr
      have hb1 := bel1 (w := wr) (o := .cells u.arr 90)
      have hB1 := bthr hb hb1 hb.size
      have HP := hide (fun W h => uvalid_ok u x hug hus W h)
      have hu5 := huo.below hb1
      replace pr := pr.below hb1 pr.lt
      replace g0 := cell_thr hb1 g0
      replace g1 := cell_thr hb1 g1
      replace g2 := cell_thr hb1 g2
      rw [Un.arr7] at q1 hb1 hB1 HP hu5 pr g0 g1 g2
      unfold Us.arr at HP
      clear hb huo hug hus hbw hu1 hu2
      go_upto_region 6 with fail
      clear e0 e1 e2 e3 e4 e5
      generalize wr.alloc _ = w5 at *
      obtain ⟨c0, c1, c2, c3, c4, c5, cf⟩ := q1.facts6
      obtain ⟨f0, f1, f2, f3, ff⟩ := pr.facts4
      have hne : Nonempty (InW fun w => Below w5.heap.size w5 w) := ⟨⟨w5, Below.refl _ _⟩⟩
      have HP2 := hide (fun (y : InW (fun w => Below w5.heap.size w5 w)) => HP.out y.val (hu5.below y.ok))
      replace c0 := inv_cell c0
      replace c1 := inv_cell c1
      replace c2 := inv_cell c2
      replace c3 := inv_cell c3
      replace c4 := inv_cell c4
      replace c5 := inv_cell c5
      replace f2 := inv_cell f2
      replace g0 := inv_cell g0
      replace g1 := inv_cell g1
      replace g2 := inv_cell g2
      refine wp_region_inv (I := fun w => Below w5.heap.size w5 w) (by kernel_rfl) (by kernel_rfl) (Below.refl _ _).drew ?_
      repeat (go_big_quiet_step (first | (go_at_call 73; with_reducible refine inv_call (inv_closed w5) (HP2.out _))))
      refine wpQuiet_nil ?_
      rintro _ ⟨⟨w6, h6⟩, rfl⟩
      have HB6 := hide (bthr hB1 h6 hB1.size)
      clear c0 c1 c2 c3 c4 c5 f0 f1 f2 f3 ff g0 g1 g2 cf hb1 hB1 q1 h6 HP HP2 hu5 pr
      go_wp2
      go_roundw
      case rel => exact ⟨k + 1, by omega, by go_num, HB6.out⟩
      case measure => simp [intOf]; omega
    · have hki : ¬ ((k : Int) < (sun : Int)) := by omega
      have qr := q9.below hb q9.lt
      obtain ⟨c0, c1, c2, c3, c4, c5, c6, c7, c8, cf⟩ := Blk.facts9 qr
      clear hb hbw
      go_wp2
      clear c0 c1 c2 c3 c4 c5 c6 c7 c8 cf qr
      go_loopw [59] (fun i wr => ∃ k : Nat, k ≤ sgn ∧ i = .int .i64 k ∧ Below w9.heap.size w9 wr) (fun i _ => sgn - (intOf i).toNat)
      case atStart => exact ⟨0, by omega, rfl, HB.out⟩
      case round =>
        rename World => wr
        obtain ⟨k, hk, rfl, hb⟩ := hrel
        have HB := hide hb
        have hbw := bthr hb9'.out hb hb9'.out.size
        by_cases hlt : k < sgn
        · have hki : (k : Int) < (sgn : Int) := by omega
          obtain ⟨⟨b, o, g, rfl, hg1, hgo, hgg, e0, e1, e2⟩, b2, o2, g', x, rfl, hg2, _, hx, g0, g1⟩ := HAG.out wr hbw k hlt
          obtain rfl : g = g' := by rw [hg1] at hg2; injection hg2
          have pr := p9.below hb p9.lt
          have q1 := Blk.new wr 96 g.arr
          have hb1 := bel1 (w := wr) (o := .cells g.arr 96)
          have hB1 := bthr hb hb1 hb.size
          have HP := hide (fun W => within_true x.op g.mo hx.1 hx.2 W)
          replace pr := pr.below hb1 pr.lt
          replace g0 := cell_thr hb1 g0
          unfold Gt.arr at q1 hb1 hB1 pr g0
          clear hb hgo hgg hbw hg1 hg2 hx
          go_upto_region 12 with fail
          clear e0 e1 e2
          generalize wr.alloc _ = w5 at *
          obtain ⟨c0, c1, c2, cf⟩ := q1.facts3
          obtain ⟨f0, f1, f2, f3, ff⟩ := pr.facts4
          have hne : Nonempty (InW fun w => Below w5.heap.size w5 w) := ⟨⟨w5, Below.refl _ _⟩⟩
          have HP2 := hide (fun (y : InW (fun w => Below w5.heap.size w5 w)) => (HP.out y.val).mono (R' := fun e w' => e = .returned (.bool true) ∧ Below y.val.heap.size y.val w') fun e w' h => ⟨h.1, h.2 ▸ Below.refl _ _⟩)
          replace c1 := inv_cell c1
          replace f3 := inv_cell f3
          replace g0 := inv_cell g0
          refine wp_region_inv (I := fun w => Below w5.heap.size w5 w) (by kernel_rfl) (by kernel_rfl) (Below.refl _ _).drew ?_
          repeat (go_big_quiet_step (first | (go_at_call 30; with_reducible refine inv_call (inv_closed w5) (HP2.out _))))
          refine wpQuiet_nil ?_
          rintro _ ⟨⟨w6, h6⟩, rfl⟩
          have HB6 := hide (bthr hB1 h6 hB1.size)
          clear c0 c1 c2 f0 f1 f2 f3 ff g0 g1 cf hb1 hB1 q1 h6 HP HP2 pr
          go_wp2
          go_roundw
          case rel => exact ⟨k + 1, by omega, by go_num, HB6.out⟩
          case measure => simp [intOf]; omega
        · have hki : ¬ ((k : Int) < (sgn : Int)) := by omega
          have HBE := hide hbw
          clear hb hbw
          go_wp2
          go_ret
          exact ⟨rfl, HBE.out⟩
end Go.Proofs.YtodamjjlnagpjaaGreatDoor
namespace Go.Proofs.YtodamjjlnagpjaaGreatDoor
open Go.RowKit

set_option maxHeartbeats 3200000 in
set_option maxRecDepth 20000 in
theorem dasked_ok (d : Dm) (s : Ds) (hg : DmG d) (hsg : DsG d s) (w : World) (hs : d.ok w) (ht : s.ok w) :
    Calls Tryz.prog 21 #[.agg d.arr, .agg s.arr] w fun e w' => e = .returned (.int .i64 0) ∧ Below w.heap.size w w' := by
  obtain ⟨q0, p0, hb0⟩ := blk_two w 31 35 d.arr s.arr
  have HC := hide (fun (W : World) (hW : Below w.heap.size w W) => dcheck_ok d hg W (hs.below hW))
  have HF := hide (fun (W : World) (hW : Below w.heap.size w W) => fits_ok d s hg hsg W (hs.below hW) (ht.below hW))
  clear hs ht hg hsg
  obtain ⟨vo, re, sUA, sun, suc, sus, sGA, sgn, sgc, sgs⟩ := s
  obtain ⟨⟨⟨sA, sn, sc, sps⟩, de, lw, fu, su, cr⟩, uA, un, uc, us, gA, gn, gc, gs, gr⟩ := d
  unfold Dm.arr at *
  unfold Cv.v at *
  unfold Ds.arr at *
  simp only at HC HF q0 p0 hb0 ⊢
  obtain ⟨c0, c1, c2, c3, c4, c5, c6, c7, c8, cf⟩ := Blk.facts9 q0
  go_enter Tryz.func21, Tryz.ntmps21
  go_wp2_with fail
  generalize (w.alloc _).alloc _ = w1 at *
  refine (HC.out w1 hb0).mono ?_
  rintro e w2 ⟨rfl, h2⟩
  replace q0 := q0.below h2 q0.lt
  replace p0 := p0.below h2 p0.lt
  replace hb0 := bthr hb0 h2 hb0.size
  clear c0 c1 c2 c3 c4 c5 c6 c7 c8 cf h2
  obtain ⟨c0, c1, c2, c3, c4, c5, c6, c7, c8, cf⟩ := Blk.facts9 q0
  obtain ⟨f0, f1, f2, f3, ff⟩ := p0.facts4
  go_wp2_with fail
  refine (HF.out w2 hb0).mono ?_
  rintro e w3 ⟨rfl, h3⟩
  have HB := hide (bthr hb0 h3 hb0.size)
  clear c0 c1 c2 c3 c4 c5 c6 c7 c8 cf h3 f0 f1 f2 f3 ff q0 p0 hb0
  go_wp2
  go_ret
  exact ⟨rfl, HB.out⟩
set_option maxHeartbeats 3200000 in
set_option maxRecDepth 20000 in
theorem dlevel_any (d : Dm) (s : Ds) (hg : DmG d) (hsg : DsG d s) (w : World) (hs : d.ok w) (ht : s.ok w) :
    Calls Tryz.prog 8 #[.agg d.arr, .agg s.arr] w fun e w' => e = .returned (.tuple #[.int .i64 (lastX d.r.st.ps s.vo), .int .i64 0]) ∧ Below w.heap.size w w' := by
  obtain ⟨q0, p0, hb0⟩ := blk_two w 31 35 d.arr s.arr
  have hcv := (val_in hg.r.st d.r.cr).2
  have hvo : 0 ≤ s.vo ∧ s.vo ≤ 274877906944 := ⟨hsg.vo.1, by have := hsg.vo.2; unfold crestV at this; omega⟩
  have HC := hide (fun (W : World) (hW : Below w.heap.size w W) => dasked_ok d s hg hsg W (hs.below hW) (ht.below hW))
  have HF := hide (fun (W : World) (hW : Below w.heap.size w W) => height_any d.r hg.r s.vo hvo W (hs.below hW).1)
  clear hs ht hg hsg hcv hvo
  obtain ⟨vo, re, sUA, sun, suc, sus, sGA, sgn, sgc, sgs⟩ := s
  obtain ⟨⟨⟨sA, sn, sc, sps⟩, de, lw, fu, su, cr⟩, uA, un, uc, us, gA, gn, gc, gs, gr⟩ := d
  unfold Dm.arr at *
  unfold Rs.arr at *
  unfold Cv.v at *
  unfold Ds.arr at *
  simp only at HC HF q0 p0 hb0 ⊢
  generalize lastX sps vo = L at *
  obtain ⟨c0, c1, c2, c3, c4, c5, c6, c7, c8, cf⟩ := Blk.facts9 q0
  obtain ⟨f0, f1, f2, f3, ff⟩ := p0.facts4
  go_enter Tryz.func8, Tryz.ntmps8
  go_wp2_with fail
  generalize (w.alloc _).alloc _ = w1 at *
  refine (HC.out w1 hb0).mono ?_
  rintro e w2 ⟨rfl, h2⟩
  replace q0 := q0.below h2 q0.lt
  replace p0 := p0.below h2 p0.lt
  replace hb0 := bthr hb0 h2 hb0.size
  clear c0 c1 c2 c3 c4 c5 c6 c7 c8 cf h2 f0 f1 f2 f3 ff
  obtain ⟨c0, c1, c2, c3, c4, c5, c6, c7, c8, cf⟩ := Blk.facts9 q0
  obtain ⟨f0, f1, f2, f3, ff⟩ := p0.facts4
  go_wp2_with fail
  refine (HF.out w2 hb0).mono ?_
  rintro e w3 ⟨rfl, h3⟩
  have HB := hide (bthr hb0 h3 hb0.size)
  clear c0 c1 c2 c3 c4 c5 c6 c7 c8 cf h3 f0 f1 f2 f3 ff q0 p0 hb0
  go_wp2
  go_ret2
  exact ⟨rfl, HB.out⟩
end Go.Proofs.YtodamjjlnagpjaaGreatDoor
