/-
  The walk of ResolveChecks: it answers true. Conditions: the table of kinds; its choice and its list can be read.
-/
import Derived.Test.YtphgddanbgdemaaDoorProg
import Derived.Test.YtphgddanbgdemaaDoorPrb
import Derived.Test.YtphgddanbgdemaaDoorOdC
import Derived.Test.YtphgddanbgdemaaDoorWor
import Derived.Test.YtphgddanbgdemaaDoorRaw2
import Derived.Test.YtphgddanbgdemaaDoorChr
import Derived.Deep.RegionHeld3
namespace Go.Proofs.YtphgddanbgdemaaDoor
open Go.RowKit

/-- one of the four choices -/
theorem ch_at {w : World} {g : Nat} {t : TypeId} {a0 a1 a2 b0 b1 b2 c0 c1 c2 d0 d1 d2 : Int} {A B C D : Option Addr} {an ac bn bc cn cc dn dc : Nat} {ay by_ cy dy : List (Int × Int)}
    (h : Blk w g t #[.int .i64 a0, .int .i64 a1, .int .i64 a2, .slice A an ac, .int .i64 b0, .int .i64 b1, .int .i64 b2, .slice B bn bc, .int .i64 c0, .int .i64 c1, .int .i64 c2, .slice C cn cc, .int .i64 d0, .int .i64 d1, .int .i64 d2, .slice D dn dc])
    (ha : Sl w w.heap.size 2 A an ac (yCells ay)) (hb : Sl w w.heap.size 2 B bn bc (yCells by_)) (hc : Sl w w.heap.size 2 C cn cc (yCells cy)) (hd : Sl w w.heap.size 2 D dn dc (yCells dy)) {k : Nat} (hk : k < 4) :
    ∃ (x0 x1 x2 : Int) (E : Option Addr) (n c : Nat) (ys : List (Int × Int)), w.cell? ⟨g, k * 4, none⟩ = some (.int .i64 x0) ∧ w.cell? ⟨g, k * 4 + 1, none⟩ = some (.int .i64 x1) ∧ w.cell? ⟨g, k * 4 + 2, none⟩ = some (.int .i64 x2) ∧ w.cell? ⟨g, k * 4 + 3, none⟩ = some (.slice E n c) ∧ Sl w w.heap.size 2 E n c (yCells ys) := by
  have hf := h.facts.1
  match k, hk with
  | 0, _ => exact ⟨a0, a1, a2, A, an, ac, ay, hf 0, hf 1, hf 2, hf 3, ha⟩
  | 1, _ => exact ⟨b0, b1, b2, B, bn, bc, by_, hf 4, hf 5, hf 6, hf 7, hb⟩
  | 2, _ => exact ⟨c0, c1, c2, C, cn, cc, cy, hf 8, hf 9, hf 10, hf 11, hc⟩
  | 3, _ => exact ⟨d0, d1, d2, D, dn, dc, dy, hf 12, hf 13, hf 14, hf 15, hd⟩
theorem two_at {w : World} {g j : Nat} {t : TypeId} {x y : Int} (h : Blk w g t #[.int .i64 x, .int .i64 y]) (hj : j < 2) : ∃ u : Int, w.cell? ⟨g, j, none⟩ = some (.int .i64 u) := by
  obtain ⟨a, b, _⟩ := h.facts2
  match j, hj with
  | 0, _ => exact ⟨_, a⟩
  | 1, _ => exact ⟨_, b⟩
set_option maxHeartbeats 6400000 in
set_option maxRecDepth 20000 in
theorem checks_walk {rl lo hi : Int} {A0 : Option Addr} {n0 c0 : Nat} {ys0 : List (Int × Int)} {A : Option Addr} {n c : Nat} {zs : List Int} {w : World} (hT : KT w) (hr : Sl w w.heap.size 2 A0 n0 c0 (yCells ys0)) (hs : Sl w w.heap.size 1 A n c (ints zs)) (dy : Int) :
    Calls Tryd.prog 3 #[.agg #[.int .i64 rl, .int .i64 lo, .int .i64 hi, .slice A0 n0 c0], .slice A n c, .int .i64 dy] w fun e w' => e = .returned (.bool true) ∧ Below w.heap.size w w' := by
  have hw0 := hT.pos
  have q0 := Blk.new w 26 #[.int .i64 rl, .int .i64 lo, .int .i64 hi, .slice A0 n0 c0]
  have hB0 := bel1 (w := w) (o := .cells #[.int .i64 rl, .int .i64 lo, .int .i64 hi, .slice A0 n0 c0] 26)
  have hz0 : (w.alloc (.cells #[.int .i64 rl, .int .i64 lo, .int .i64 hi, .slice A0 n0 c0] 26)).heap.size = w.heap.size + 1 := by simp
  have hs0 := hs.thr hB0
  have hr0 := hr.thr hB0
  have hT0 := hT.below hB0 hw0
  have hn63 := (len_y hr).2
  clear hs hr
  obtain ⟨r0, r1, r2, r3, _⟩ := q0.facts4
  by_cases hn : 40 < n0
  · have hni : 40 < (n0 : Int) := by omega
    have HB0 := hide hB0
    have HT0 := hide hT0
    clear q0 hB0 hz0 hs0 hr0 hT hT0
    go_enter Tryd.func3, Tryd.ntmps3
    go_wp2_with fail
    generalize w.alloc _ = w0 at *
    refine (awake_any w0 HT0.out).mono ?_
    rintro e w1 ⟨rfl, hb1⟩
    have HB1 := hide (bthr HB0.out hb1 HB0.out.size)
    clear hb1
    go_wp2
    go_ret
    exact ⟨rfl, HB1.out⟩
  · have hni : ¬ 40 < (n0 : Int) := by omega
    go_enter Tryd.func3, Tryd.ntmps3
    go_wp2_with fail
    generalize w.alloc _ = w0 at *
    refine (new_any _ _ _ _ _ hs0).mono ?_
    rintro e w1 ⟨rfl, hD1, hb1⟩
    rw [hz0] at hD1
    simp only [hz0]
    have hw1 := hD1.lt
    have q1 := q0.below hb1 q0.lt
    have hr1 := hr0.thr hb1
    have hB1 := bthr hB0 hb1 hB0.size
    clear hs0 hb1 hB0 q0 hr0 r0 r1 r2 r3 hT0
    go_wp2_with fail
    refine (made_any _ _ hD1).mono ?_
    rintro e w3 ⟨A2, c2, cs, d, lv, bf, wn, g0, g1, rfl, hcl, hcg, hv3, hd, hlv, hbf, hwn, hg00, hg01, hg1, hD3, hg3⟩
    have hr3 := sl_deckY hr1 hD1 hg3
    have q3 := q1.only hg3 (by omega)
    have hB3 := below_grown hB1 hg3 hB1.size (by omega)
    have HCE := hide (show chE cs.length cs d lv bf g0 g1 wn = 0 by
      refine chE_ok (askE_ok ?_ (wit_of (by omega) (by omega)) (wit_of (by omega) (by omega)) (any4.2 ⟨wit_of (by omega) (by omega), wit_of (by omega) (by omega), wit_of (by omega) (by omega), wit_of (by omega) (by omega)⟩)) (by omega)
      unfold errA
      rw [if_neg (by omega)]
      exact (errL_zero cs).2 (fun x hx => good_err (hcg x hx)))
    obtain ⟨ln, hln⟩ : ∃ ln, cs.length = ln := ⟨_, rfl⟩
    have HLN := hide hln
    rw [hln] at hv3 HCE hcl
    simp only [hln]
    have hbx := bel1 (w := w3) (o := .cells #[.slice A2 ln c2, .int .i64 d, .int .i64 lv, .int .i64 bf, .int .i64 wn, .int .i64 g0, .int .i64 g1] 33)
    have hB4 := bthr hB3 hbx hB3.size
    have q4 := q3.below hbx q3.lt
    have p8 := Blk.new w3 33 #[.slice A2 ln c2, .int .i64 d, .int .i64 lv, .int .i64 bf, .int .i64 wn, .int .i64 g0, .int .i64 g1]
    have hs4 := (sl_own hv3).thr hbx
    have hr4 := hr3.thr hbx
    have hD4 := hD3.below hbx
    have HV4 := hide (ownsRow_below hv3 hbx)
    have hw3b : w1.heap.size ≤ w3.heap.size := hg3.size
    obtain ⟨rl1, lo1, hi1, ys1, H1, H2, H3, -⟩ := choose_both A2 ln c2 cs d lv bf g0 g1 wn hln.symm
    rw [HCE.out] at H1 H2
    have H1 := hide H1
    have H2 := hide H2
    have HY1 := hide (show ys1.length ≤ 6 by
      rw [(H3 HCE.out).ys]
      have := chs_len (cs := cs) (d := d) (lv := lv) (bf := bf) (g0 := g0) (g1 := g1)
      omega)
    clear hcg hv3 hD3 hg3 hB3 q3 q1 hB1 hD1 hln hbx hr1 hr3 hd hlv hbf hwn hg00 hg01 hg1 H3
    go_upto_region 5 with fail
    generalize w3.alloc _ = w4 at *
    generalize w3.heap.size = g8 at *
    obtain ⟨⟨x0, x1, x2, x3, x4, x5, x6⟩, _⟩ := Blk.facts7 p8
    go_wp2_with fail
    refine (H2.out w4 hs4).mono ?_
    rintro e w5 ⟨A1, c1, rfl, hy5, hb5⟩
    obtain ⟨l1, hl1⟩ : ∃ l1, ys1.length = l1 := ⟨_, rfl⟩
    have HL1 := hide hl1
    rw [hl1] at hy5 HY1
    simp only [hl1]
    have hbx := bel1 (w := w5) (o := .cells #[.int .i64 rl1, .int .i64 lo1, .int .i64 hi1, .slice A1 l1 c1] 26)
    have p9 := Blk.new w5 26 #[.int .i64 rl1, .int .i64 lo1, .int .i64 hi1, .slice A1 l1 c1]
    have hb6 := bthr hb5 hbx hb5.size
    have hg8 : g8 < w4.heap.size := p8.lt
    have P8 := hide (p8.below hb6 p8.lt)
    have P9 := hide p9
    have Q6 := hide (q4.below hb6 q4.lt)
    have HY6 := hide (hy5.thr hbx)
    have HR6 := hide (hr4.thr hb6)
    have HD6 := hide (hD4.below hb6)
    have HS6 := hide (ownsRow_below HV4.out hb6)
    have HB6 := hide (bthr hB4 hb6 hB4.size)
    have hb5s : w4.heap.size ≤ w5.heap.size := hb5.size
    clear p8 p9 q4 hy5 hr4 hD4 hB4 hb5 hbx hb6 hs4 HV4 x0 x1 x2 x3 x4 x5 x6 hl1
    go_upto_region 6 with fail
    generalize w5.alloc _ = w6 at *
    generalize w5.heap.size = g9 at *
    obtain ⟨a0, a1, a2, a3, _⟩ := P9.out.facts4
    obtain ⟨b0, b1, b2, b3, _⟩ := Q6.out.facts4
    have hl16 : l1 ≤ 6 := HY1.out
    have HY6d := hide (show Sl w6.drew w6.drew.heap.size 2 A1 l1 c1 (yCells ys1) from HY6.out)
    have HD6d := hide (show Dk w6.drew (w.heap.size + 1) from HD6.out)
    have P9d := hide (show Blk w6.drew g9 26 #[.int .i64 rl1, .int .i64 lo1, .int .i64 hi1, .slice A1 l1 c1] from P9.out)
    have Q6d := hide (show Blk w6.drew w.heap.size 26 #[.int .i64 rl, .int .i64 lo, .int .i64 hi, .slice A0 n0 c0] from Q6.out)
    go_region_held3 (fun w' => w'.cell? ⟨g9, 0, none⟩ = some (.int .i64 rl1) ∧ w'.cell? ⟨g9, 1, none⟩ = some (.int .i64 lo1) ∧ w'.cell? ⟨g9, 2, none⟩ = some (.int .i64 hi1) ∧ w'.cell? ⟨g9, 3, none⟩ = some (.slice A1 l1 c1) ∧ w'.cell? ⟨w.heap.size, 0, none⟩ = some (.int .i64 rl) ∧ w'.cell? ⟨w.heap.size, 1, none⟩ = some (.int .i64 lo) ∧ w'.cell? ⟨w.heap.size, 2, none⟩ = some (.int .i64 hi) ∧ w'.cell? ⟨w.heap.size, 3, none⟩ = some (.slice A0 n0 c0))
      (first | exact ⟨a0, a1, a2, a3, b0, b1, b2, b3⟩ | exact ⟨s0, s1, s2, s3, t0, t1, t2, t3⟩ | exact ⟨s0', s1', s2', s3', t0', t1', t2', t3'⟩ | exact ⟨s0'', s1'', s2'', s3'', t0'', t1'', t2'', t3''⟩ | exact ⟨m0, m1, m2, m3, n0', n1', n2', n3'⟩)
      (first | (go_at_call 8; (with_reducible refine (odc_any (w.heap.size + 1) rl1 lo1 hi1 A1 l1 c1 ys1 (by omega) w6.drew HD6d.out HY6d.out).mono ?_); rintro e w7 ⟨f0, f1, f2, F, fn, fc, fy, rfl, hfn, hs7, hD7, hg7⟩; have P7 := hide (P9d.out.only hg7 (by omega)); have Q7 := hide (Q6d.out.only hg7 (by omega)); obtain ⟨s0, s1, s2, s3, _⟩ := P7.out.facts4; obtain ⟨t0, t1, t2, t3, _⟩ := Q7.out.facts4) | (go_at_call 8; (with_reducible refine (odc_any (w.heap.size + 1) rl1 lo1 hi1 A1 l1 c1 ys1 (by omega) w7 hD7 (sl_deckY HY6d.out HD6d.out hg7)).mono ?_); rintro e w8 ⟨h0, h1, h2, G, hn', hc', hy', rfl, hhn, hs8, hD8, hg8'⟩; have P8' := hide (P7.out.only hg8' (by omega)); have Q8 := hide (Q7.out.only hg8' (by omega)); obtain ⟨s0', s1', s2', s3', _⟩ := P8'.out.facts4; obtain ⟨t0', t1', t2', t3', _⟩ := Q8.out.facts4) | (go_at_call 8; (with_reducible refine (odc_any (w.heap.size + 1) h0 h1 h2 G hn' hc' hy' (by omega) w8 hD8 hs8).mono ?_); rintro e w9 ⟨i0, i1, i2, I, mn, mc, my, rfl, hmn, hs9, hD9, hg9'⟩; have P9' := hide (P8'.out.only hg9' (by omega)); have Q9 := hide (Q8.out.only hg9' (by omega)); obtain ⟨s0'', s1'', s2'', s3'', _⟩ := P9'.out.facts4; obtain ⟨t0'', t1'', t2'', t3'', _⟩ := Q9.out.facts4; obtain ⟨m0, m1, m2, m3, _⟩ := (P9'.out.alloc (.cells #[.int .i64 rl1, .int .i64 lo1, .int .i64 hi1, .slice A1 l1 c1, .int .i64 rl, .int .i64 lo, .int .i64 hi, .slice A0 n0 c0, .int .i64 f0, .int .i64 f1, .int .i64 f2, .slice F fn fc, .int .i64 i0, .int .i64 i1, .int .i64 i2, .slice I mn mc] 26)).facts4; obtain ⟨n0', n1', n2', n3', _⟩ := (Q9.out.alloc (.cells #[.int .i64 rl1, .int .i64 lo1, .int .i64 hi1, .slice A1 l1 c1, .int .i64 rl, .int .i64 lo, .int .i64 hi, .slice A0 n0 c0, .int .i64 f0, .int .i64 f1, .int .i64 f2, .slice F fn fc, .int .i64 i0, .int .i64 i1, .int .i64 i2, .slice I mn mc] 26)).facts4))
    have hzz6 : w.heap.size + 1 < w6.heap.size := HD6.out.lt
    have hz7 : w6.heap.size ≤ w7.heap.size := hg7.size
    have hz8 : w7.heap.size ≤ w8.heap.size := hg8'.size
    have hr9 := sl_deckY (sl_deckY (sl_deckY (show Sl w6.drew w6.drew.heap.size 2 A0 n0 c0 (yCells ys0) from HR6.out) HD6d.out hg7) hD7 hg8') hD8 hg9'
    have hy9 := sl_deckY (sl_deckY (sl_deckY HY6d.out HD6d.out hg7) hD7 hg8') hD8 hg9'
    have hf9 := sl_deckY (sl_deckY hs7 hD7 hg8') hD8 hg9'
    have p89 := (((show Blk w6.drew g8 33 #[.slice A2 ln c2, .int .i64 d, .int .i64 lv, .int .i64 bf, .int .i64 wn, .int .i64 g0, .int .i64 g1] from P8.out).only hg7 (by omega)).only hg8' (by omega)).only hg9' (by omega)
    have hl9 := own_deck (own_deck (own_deck (show w6.drew.ownsRow (w1.heap.size + 1) 47 7 (.slice A2 ln c2) ln (cdCells cs) from HS6.out) hg7 (by omega)) hg8' (by omega)) hg9' (by omega)
    have hB9 := below_grown (below_grown (below_grown (show Below w.heap.size w w6.drew from HB6.out.drew) hg7 (by have := HB6.out.size; exact this) (by omega)) hg8' (by have := HB6.out.size; omega) (by omega)) hg9' (by have := HB6.out.size; omega) (by omega)
    have hbx := bel1 (w := w9) (o := .cells #[.int .i64 rl1, .int .i64 lo1, .int .i64 hi1, .slice A1 l1 c1, .int .i64 rl, .int .i64 lo, .int .i64 hi, .slice A0 n0 c0, .int .i64 f0, .int .i64 f1, .int .i64 f2, .slice F fn fc, .int .i64 i0, .int .i64 i1, .int .i64 i2, .slice I mn mc] 26)
    have HR := hide (hr9.thr hbx)
    have HY := hide (hy9.thr hbx)
    have HF := hide (hf9.thr hbx)
    have HI := hide (hs9.thr hbx)
    have HP50 := hide (Blk.new w9 26 #[.int .i64 rl1, .int .i64 lo1, .int .i64 hi1, .slice A1 l1 c1, .int .i64 rl, .int .i64 lo, .int .i64 hi, .slice A0 n0 c0, .int .i64 f0, .int .i64 f1, .int .i64 f2, .slice F fn fc, .int .i64 i0, .int .i64 i1, .int .i64 i2, .slice I mn mc])
    have HP8 := hide (p89.below hbx p89.lt)
    have HP9 := hide (P9'.out.below hbx P9'.out.lt)
    have HSL := hide ((sl_own hl9).thr hbx)
    have HBW := hide (bthr hB9 hbx hB9.size)
    have HTW := hide (hT.below HBW.out hw0)
    clear hr9 hy9 hf9 p89 hl9 hB9 hbx hs7 hD7 hg7 hs8 hD8 hg8' hs9 hD9 hg9' P7 Q7 P8' Q8 P9' Q9 s0 s1 s2 s3 t0 t1 t2 t3 s0' s1' s2' s3' t0' t1' t2' t3' s0'' s1'' s2'' s3'' t0'' t1'' t2'' t3'' m0 m1 m2 m3 n0' n1' n2' n3' a0 a1 a2 a3 b0 b1 b2 b3 HY6d HD6d P9d Q6d HR6 HY6 HD6 HS6 HB6 P8 P9 Q6 hT hz7 hz8
    generalize w9.alloc _ = w10 at *
    generalize w9.heap.size = g50 at *
    go_wp2_with fail
    go_loopw [52] (fun v wr => ∃ k : Nat, k ≤ 4 ∧ v = .int .i64 k ∧ Below w10.heap.size w10 wr) (fun v _ => 4 - (intOf v).toNat)
    case atStart => exact ⟨0, by omega, rfl, Below.refl _ _⟩
    case round =>
      obtain ⟨k, hk, rfl, hb⟩ := hrel
      rename World => wr
      have HB := hide hb
      by_cases hlt : k < 4
      · have hki : (k : Int) < 4 := by omega
        have hki0 : (0 : Int) ≤ (k : Int) := by omega
        obtain ⟨x0, x1, x2, X, xn, xc, xs, e0, e1, e2, e3, hx⟩ := ch_at (HP50.out.below hb HP50.out.lt) (HY.out.thr hb) (HR.out.thr hb) (HF.out.thr hb) (HI.out.thr hb) hlt
        have p12 := Blk.new wr 26 #[.int .i64 x0, .int .i64 x1, .int .i64 x2, .slice X xn xc]
        have hb1 := bel1 (w := wr) (o := .cells #[.int .i64 x0, .int .i64 x1, .int .i64 x2, .slice X xn xc] 26)
        have HX := hide (hx.thr hb1)
        have HB11 := hide (bthr hb hb1 hb.size)
        have q8 := HP8.out.below HB11.out HP8.out.lt
        clear hb hb1 hx
        go_upto_region 9 with fail
        clear e0 e1 e2 e3
        generalize wr.alloc _ = w11 at *
        generalize wr.heap.size = g12 at *
        obtain ⟨⟨c0, c1', c2', c3, c4, c5, c6⟩, _⟩ := Blk.facts7 q8
        have p59 := Blk.new w11 3 #[.int .i64 d, .int .i64 dy]
        have hb2 := bel1 (w := w11) (o := .cells #[.int .i64 d, .int .i64 dy] 3)
        have HB12 := hide (bthr HB11.out hb2 HB11.out.size)
        have HP12 := hide (p12.below hb2 p12.lt)
        have HX12 := hide (HX.out.thr hb2)
        clear hb2 q8 p12 HX
        go_upto_region 10 with fail
        clear c0 c1' c2' c3 c4 c5 c6
        generalize w11.alloc _ = w12 at *
        generalize w11.heap.size = g59 at *
        have HP59 := hide p59
        have HT12 := hide (HTW.out.below HB12.out HTW.out.pos)
        have HS12 := hide (HSL.out.thr HB12.out)
        have HP8b := hide (HP8.out.below HB12.out HP8.out.lt)
        clear p59 HB11
        go_loopw [61] (fun v wq => ∃ j : Nat, j ≤ 2 ∧ v = .int .i64 j ∧ Below w12.heap.size w12 wq) (fun v _ => 2 - (intOf v).toNat)
        case atStart => exact ⟨0, by omega, rfl, Below.refl _ _⟩
        case round =>
          obtain ⟨j, hj, rfl, hbj⟩ := hrel
          rename World => wq
          have HBJ := hide hbj
          by_cases hj2 : j < 2
          · have hji : (j : Int) < 2 := by omega
            have hji0 : (0 : Int) ≤ (j : Int) := by omega
            obtain ⟨t, lt⟩ := two_at (HP59.out.below hbj HP59.out.lt) hj2
            obtain ⟨V, H3, H4⟩ := check_both A2 ln c2 cs t lv bf g0 g1 wn HLN.out.symm x0 x1 x2 X xn xc xs
            obtain ⟨pb, H5, H6⟩ := prov_both A2 ln c2 cs t lv bf g0 g1 x0 x1 x2 X xn xc xs
            have HWX := hide (fun (W : World) (hW : Below wq.heap.size wq W) => show KT W ∧ Sl W W.heap.size 7 A2 ln c2 (cdCells cs) ∧ Sl W W.heap.size 2 X xn xc (yCells xs) from
              ⟨HT12.out.below (bthr HBJ.out hW HBJ.out.size) HT12.out.pos, HS12.out.thr (bthr HBJ.out hW HBJ.out.size), HX12.out.thr (bthr HBJ.out hW HBJ.out.size)⟩)
            have K3 := hide (fun (W : World) (hW : Below wq.heap.size wq W) => H3 W (HWX.out W hW).1 (HWX.out W hW).2.1 (HWX.out W hW).2.2)
            have K4 := hide (fun (W : World) (hW : Below wq.heap.size wq W) => H4 W (HWX.out W hW).2.1 (HWX.out W hW).2.2)
            have K5 := hide (fun (W : World) (hW : Below wq.heap.size wq W) => H5 W (HWX.out W hW).1 (HWX.out W hW).2.1 (HWX.out W hW).2.2)
            have K6 := hide (fun (W : World) (hW : Below wq.heap.size wq W) => H6 W (HWX.out W hW).2.1 (HWX.out W hW).2.2)
            obtain ⟨⟨c0, c1', c2', c3, c4, c5, c6⟩, _⟩ := Blk.facts7 (HP8b.out.below hbj HP8b.out.lt)
            obtain ⟨z0, z1, z2, z3, _⟩ := (HP12.out.below hbj HP12.out.lt).facts4
            have h11 : (V != V) = false := by simp
            have h12 : (pb != pb) = false := by simp
            clear hbj H3 H4 H5 H6 HWX
            go_upto_region 12 with fail
            clear lt
            have hne : Nonempty (InW fun W => Below wq.heap.size wq W) := ⟨⟨wq, Below.refl _ _⟩⟩
            replace c0 := inv_cell c0
            replace c2' := inv_cell c2'
            replace c3 := inv_cell c3
            replace c4 := inv_cell c4
            replace c5 := inv_cell c5
            replace c6 := inv_cell c6
            replace z0 := inv_cell z0
            replace z1 := inv_cell z1
            replace z2 := inv_cell z2
            replace z3 := inv_cell z3
            clear c1'
            refine wp_region_inv (I := fun W => Below wq.heap.size wq W) (by kernel_rfl) (by kernel_rfl) (Below.refl _ _).drew ?_
            repeat (go_big_quiet_step (first | (go_at_call 9; refine inv_call (inv_closed wq) (K3.out _ (InW.ok (I := fun W => Below wq.heap.size wq W) _))) | (go_at_call 10; refine inv_call (inv_closed wq) (K4.out _ (InW.ok (I := fun W => Below wq.heap.size wq W) _))) | (go_at_call 11; refine inv_call (inv_closed wq) (K5.out _ (InW.ok (I := fun W => Below wq.heap.size wq W) _))) | (go_at_call 12; refine inv_call (inv_closed wq) (K6.out _ (InW.ok (I := fun W => Below wq.heap.size wq W) _)))))
            refine wpQuiet_nil ?_
            rintro _ ⟨⟨w13, h13⟩, rfl⟩
            rename World => w13
            have HB13 := hide (bthr HBJ.out h13 HBJ.out.size)
            clear h13 c0 c2' c3 c4 c5 c6 z0 z1 z2 z3 hne K3 K4 K5 K6 h11 h12
            go_wp2
            go_roundw
            case rel => exact ⟨j + 1, by omega, by go_num, HB13.out⟩
            case measure => simp [intOf]; omega
          · have hj3 : ¬ ((j : Int) < 2) := by omega
            have HWX := hide (fun (W : World) (hW : Below wq.heap.size wq W) => show Sl W W.heap.size 7 A2 ln c2 (cdCells cs) ∧ Sl W W.heap.size 2 X xn xc (yCells xs) from
              ⟨HS12.out.thr (bthr HBJ.out hW HBJ.out.size), HX12.out.thr (bthr HBJ.out hW HBJ.out.size)⟩)
            obtain ⟨wf, hwf⟩ : ∃ wf, worstF cs xs = wf := ⟨_, rfl⟩
            have K1 := hide (fun (W : World) (hW : Below wq.heap.size wq W) => worst_any A2 X ln c2 xn xc cs xs x0 x1 x2 W (HWX.out W hW).1 (HWX.out W hW).2)
            have K2 := hide (fun (W : World) (hW : Below wq.heap.size wq W) => rworst_any A2 X ln c2 xn xc cs xs x0 x1 x2 W (HWX.out W hW).1 (HWX.out W hW).2)
            rw [hwf] at K1 K2
            obtain ⟨⟨c0, c1', c2', c3, c4, c5, c6⟩, _⟩ := Blk.facts7 (HP8b.out.below hbj HP8b.out.lt)
            obtain ⟨z0, z1, z2, z3, _⟩ := (HP12.out.below hbj HP12.out.lt).facts4
            have h11 : (wf != wf) = false := by simp
            clear hbj hwf HWX
            go_upto_region 15 with fail
            have hne : Nonempty (InW fun W => Below wq.heap.size wq W) := ⟨⟨wq, Below.refl _ _⟩⟩
            replace c0 := inv_cell c0
            replace z0 := inv_cell z0
            replace z1 := inv_cell z1
            replace z2 := inv_cell z2
            replace z3 := inv_cell z3
            clear c1' c2' c3 c4 c5 c6
            refine wp_region_inv (I := fun W => Below wq.heap.size wq W) (by kernel_rfl) (by kernel_rfl) (Below.refl _ _).drew ?_
            repeat (go_big_quiet_step (first | (go_at_call 13; refine inv_call (inv_closed wq) (K1.out _ (InW.ok (I := fun W => Below wq.heap.size wq W) _))) | (go_at_call 14; refine inv_call (inv_closed wq) (K2.out _ (InW.ok (I := fun W => Below wq.heap.size wq W) _)))))
            refine wpQuiet_nil ?_
            rintro _ ⟨⟨w13, h13⟩, rfl⟩
            rename World => w13
            have HB13 := hide (bthr HB12.out (bthr HBJ.out h13 HBJ.out.size) HB12.out.size)
            clear h13 c0 z0 z1 z2 z3 hne K1 K2 h11
            go_wp2
            go_roundw
            case rel => exact ⟨k + 1, by omega, by go_num, HB13.out⟩
            case measure => simp [intOf]; omega
      · have hk4 : ¬ ((k : Int) < 4) := by omega
        have HK := hide (pchk A2 ln c2 cs d lv bf g0 g1 wn 0 rl1 lo1 hi1 ys1 H1.out rl1 lo1 hi1 A1 l1 c1 ys1 wr (HTW.out.below hb HTW.out.pos) (HSL.out.thr hb) (HY.out.thr hb))
        have HV := hide (show chkE 0 (decide (rl1 = rl1 ∧ lo1 = lo1 ∧ hi1 = hi1 ∧ ys1 = ys1)) = 0 by simp [chkE])
        rw [HV.out] at HK
        obtain ⟨⟨c0, c1', c2', c3, c4, c5, c6⟩, _⟩ := Blk.facts7 (HP8.out.below hb HP8.out.lt)
        obtain ⟨z0, z1, z2, z3, _⟩ := (HP9.out.below hb HP9.out.lt).facts4
        have HB14 := hide (bthr HBW.out hb HBW.out.size)
        have HT14 := hide (HTW.out.below hb HTW.out.pos)
        clear hb
        go_wp2_with fail
        refine HK.out.mono ?_
        rintro e w15 ⟨rfl, hb15⟩
        have HB15 := hide (bthr HB14.out hb15 HB14.out.size)
        have HT15 := hide (HT14.out.below hb15 HT14.out.pos)
        clear hb15 c0 c1' c2' c3 c4 c5 c6 z0 z1 z2 z3 HK HV HB14 HT14
        go_wp2_with fail
        refine (awake_any _ HT15.out).mono ?_
        rintro e wz ⟨rfl, hbz⟩
        have HBY := hide (bthr HB15.out hbz HB15.out.size)
        clear hbz
        go_wp2
        go_ret
        exact ⟨rfl, HBY.out⟩
end Go.Proofs.YtphgddanbgdemaaDoor
