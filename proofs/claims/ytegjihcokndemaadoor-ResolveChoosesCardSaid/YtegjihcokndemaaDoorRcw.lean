/-
  The walk of ResolveChooses: it answers true. Conditions: the table of kinds; its lists can be read.
-/
import Derived.Test.YtegjihcokndemaaDoorProg
import Derived.Test.YtegjihcokndemaaDoorChE
import Derived.Test.YtegjihcokndemaaDoorCsm
import Derived.Test.YtegjihcokndemaaDoorRaw2
import Derived.Test.YtegjihcokndemaaDoorRaw
namespace Go.Proofs.YtegjihcokndemaaDoor
open Go.RowKit

/-- two copies of the arguments, whichever was laid first -/
def SetsCut (w0 : World) (arr : Array Value) (v17 v18 : Value) (wx : World) : Prop := ∃ g h : Nat, v17 = .pointer (some ⟨g, 0, none⟩) ∧ v18 = .pointer (some ⟨h, 0, none⟩) ∧ g ≠ h ∧ w0.heap.size ≤ g ∧ w0.heap.size ≤ h ∧ Blk wx g 53 arr ∧ Blk wx h 53 arr ∧ Below w0.heap.size w0 wx
theorem sets_ab {w : World} {N : Nat} {arr : Array Value} (hN : w.heap.size = N) : SetsCut w arr (.pointer (some ⟨N, 0, none⟩)) (.pointer (some ⟨N + 1, 0, none⟩)) ((w.alloc (.cells arr 53)).alloc (.cells arr 53)).drew := by
  subst hN
  have e1 := (Blk.new w 53 arr).alloc (.cells arr 53)
  have e2 := Blk.new (w.alloc (.cells arr 53)) 53 arr
  rw [World.size_alloc] at e2
  exact ⟨_, _, rfl, rfl, by omega, by omega, by omega, e1, e2, (bel1.alloc (by simp) _).drew⟩
theorem sets_ba {w : World} {N : Nat} {arr : Array Value} (hN : w.heap.size = N) : SetsCut w arr (.pointer (some ⟨N + 1, 0, none⟩)) (.pointer (some ⟨N, 0, none⟩)) ((w.alloc (.cells arr 53)).alloc (.cells arr 53)).drew := by
  obtain ⟨g, h, e1, e2, h1, h2, h3, h4, h5, h6⟩ := sets_ab (arr := arr) hN
  exact ⟨h, g, e2, e1, fun e => h1 e.symm, h3, h2, h5, h4, h6⟩
/-- the second copy holds the given list and bounds -/
def SetG (w0 : World) (g h : Nat) (a0 a1 a2 a3 a4 a5 a6 r0 r5 r6 : Value) (wx : World) : Prop := Blk wx g 53 #[r0, a1, a2, a3, a4, r5, r6] ∧ Blk wx h 53 #[a0, a1, a2, a3, a4, a5, a6] ∧ Below w0.heap.size w0 wx
theorem setg_a {w0 w : World} {g h : Nat} {a0 a1 a2 a3 a4 a5 a6 r0 r5 r6 : Value} (hg : Blk w g 53 #[a0, a1, a2, a3, a4, a5, a6]) (hh : Blk w h 53 #[a0, a1, a2, a3, a4, a5, a6]) (hne : g ≠ h) (h1 : w0.heap.size ≤ g) (hb : Below w0.heap.size w0 w) :
    SetG w0 g h a0 a1 a2 a3 a4 a5 a6 r0 r5 r6 (((w.setCell ⟨g, 0, none⟩ r0).setCell ⟨g, 5, none⟩ r5).setCell ⟨g, 6, none⟩ r6).drew :=
  ⟨(((hg.setB 0 r0).setB 5 r5).setB 6 r6).drew, (((hh.farB (p := ⟨g, 0, none⟩) (fun e => hne e.symm) _).farB (p := ⟨g, 5, none⟩) (fun e => hne e.symm) _).farB (p := ⟨g, 6, none⟩) (fun e => hne e.symm) _).drew, (((hb.setCell h1 _).setCell h1 _).setCell h1 _).drew⟩
theorem setg_b {w0 w : World} {g h : Nat} {a0 a1 a2 a3 a4 a5 a6 r0 r5 r6 : Value} (hg : Blk w g 53 #[a0, a1, a2, a3, a4, a5, a6]) (hh : Blk w h 53 #[a0, a1, a2, a3, a4, a5, a6]) (hne : g ≠ h) (h1 : w0.heap.size ≤ g) (hb : Below w0.heap.size w0 w) :
    SetG w0 g h a0 a1 a2 a3 a4 a5 a6 r0 r5 r6 (((w.setCell ⟨g, 5, none⟩ r5).setCell ⟨g, 6, none⟩ r6).setCell ⟨g, 0, none⟩ r0).drew :=
  ⟨(((hg.setB 5 r5).setB 6 r6).setB 0 r0).drew, (((hh.farB (p := ⟨g, 5, none⟩) (fun e => hne e.symm) _).farB (p := ⟨g, 6, none⟩) (fun e => hne e.symm) _).farB (p := ⟨g, 0, none⟩) (fun e => hne e.symm) _).drew, (((hb.setCell h1 _).setCell h1 _).setCell h1 _).drew⟩
/-- one of the four arguments' sets -/
theorem st_at {w : World} {gg : Nat} {A A0 : Option Addr} {n c n0 c0 : Nat} {cs cs0 : List Cd} {d lv bf wn g0 g1 d' lv' bf' wn' r0 r1 : Int} (h : Blk w gg 53 #[.slice A n c, .int .i64 d, .int .i64 lv, .int .i64 bf, .int .i64 wn, .int .i64 g0, .int .i64 g1, .slice A0 n0 c0, .int .i64 d, .int .i64 lv, .int .i64 bf, .int .i64 wn, .int .i64 r0, .int .i64 r1, .slice A n c, .int .i64 d', .int .i64 lv', .int .i64 bf', .int .i64 wn', .int .i64 g0, .int .i64 g1, .slice A0 n0 c0, .int .i64 d, .int .i64 lv, .int .i64 bf, .int .i64 wn, .int .i64 g0, .int .i64 g1])
    (hs : Sl w w.heap.size 7 A n c (cdCells cs)) (hr : Sl w w.heap.size 7 A0 n0 c0 (cdCells cs0)) {k : Nat} (hk : k < 4) : ∃ (B : Option Addr) (m e : Nat) (xs : List Cd) (x1 x2 x3 x4 x5 x6 : Int),
      w.cell? ⟨gg, k * 7, none⟩ = some (.slice B m e) ∧ w.cell? ⟨gg, k * 7 + 1, none⟩ = some (.int .i64 x1) ∧ w.cell? ⟨gg, k * 7 + 2, none⟩ = some (.int .i64 x2) ∧ w.cell? ⟨gg, k * 7 + 3, none⟩ = some (.int .i64 x3) ∧ w.cell? ⟨gg, k * 7 + 4, none⟩ = some (.int .i64 x4) ∧ w.cell? ⟨gg, k * 7 + 5, none⟩ = some (.int .i64 x5) ∧ w.cell? ⟨gg, k * 7 + 6, none⟩ = some (.int .i64 x6) ∧ Sl w w.heap.size 7 B m e (cdCells xs) := by
  have hf := h.facts.1
  match k, hk with
  | 0, _ => exact ⟨A, n, c, cs, d, lv, bf, wn, g0, g1, hf 0, hf 1, hf 2, hf 3, hf 4, hf 5, hf 6, hs⟩
  | 1, _ => exact ⟨A0, n0, c0, cs0, d, lv, bf, wn, r0, r1, hf 7, hf 8, hf 9, hf 10, hf 11, hf 12, hf 13, hr⟩
  | 2, _ => exact ⟨A, n, c, cs, d', lv', bf', wn', g0, g1, hf 14, hf 15, hf 16, hf 17, hf 18, hf 19, hf 20, hs⟩
  | 3, _ => exact ⟨A0, n0, c0, cs0, d, lv, bf, wn, g0, g1, hf 21, hf 22, hf 23, hf 24, hf 25, hf 26, hf 27, hr⟩
set_option maxHeartbeats 3200000 in
set_option maxRecDepth 20000 in
theorem chooses_walk {A0 : Option Addr} {n0 c0 : Nat} {cs0 : List Cd} {A : Option Addr} {n c : Nat} {zs : List Int} {w : World} (hT : KT w) (hr : Sl w w.heap.size 7 A0 n0 c0 (cdCells cs0)) (r0 r1 : Int) (hs : Sl w w.heap.size 1 A n c (ints zs)) (dy lv bf wn : Int) :
    Calls Tryd.prog 4 #[.slice A0 n0 c0, .agg #[.int .i64 r0, .int .i64 r1], .slice A n c, .int .i64 dy, .int .i64 lv, .int .i64 bf, .int .i64 wn] w fun e w' => e = .returned (.bool true) ∧ Below w.heap.size w w' := by
  have hw0 := hT.pos
  have q0 := Blk.new w 47 #[.int .i64 r0, .int .i64 r1]
  have hB0 := bel1 (w := w) (o := .cells #[.int .i64 r0, .int .i64 r1] 47)
  have hz0 : (w.alloc (.cells #[.int .i64 r0, .int .i64 r1] 47)).heap.size = w.heap.size + 1 := by simp
  have hs0 := hs.thr hB0
  have hn63 := (len_cs hr).2
  clear hs
  by_cases hn : 60 < n0
  · have hni : 60 < (n0 : Int) := by omega
    have HB0 := hide hB0
    have HT0 := hide (hT.below hB0 hw0)
    clear q0 hB0 hz0 hs0 hr hT
    go_enter Tryd.func4, Tryd.ntmps4
    go_wp2_with fail
    generalize w.alloc _ = w0 at *
    refine (awake_any w0 HT0.out).mono ?_
    rintro e w1 ⟨rfl, hb1⟩
    have HB1 := hide (bthr HB0.out hb1 HB0.out.size)
    clear hb1
    go_wp2
    go_ret
    exact ⟨rfl, HB1.out⟩
  · have hni : ¬ 60 < (n0 : Int) := by omega
    go_enter Tryd.func4, Tryd.ntmps4
    go_wp2_with fail
    generalize w.alloc _ = w0 at *
    refine (new_any _ _ _ _ _ hs0).mono ?_
    rintro e w1 ⟨rfl, hD1, hb1⟩
    rw [hz0] at hD1
    simp only [hz0]
    have hw1 := hD1.lt
    have q1 := q0.below hb1 q0.lt
    have hB1 := bthr hB0 hb1 hB0.size
    clear hs0 hb1 hB0 q0
    go_wp2_with fail
    refine (made_any _ _ hD1).mono ?_
    rintro e w3 ⟨B, m, cs, d, lv0, bf0, wn0, g0, g1, rfl, hcl, hcg, hv3, -, -, -, -, -, -, -, hD3, hg3⟩
    have q3 := q1.only hg3 (by omega)
    have hB3 := below_grown hB1 hg3 hB1.size (by omega)
    obtain ⟨ln, hln⟩ : ∃ ln, cs.length = ln := ⟨_, rfl⟩
    simp only [hln] at hv3 ⊢
    have hB4 := hB3.alloc hB3.size (.cells #[.slice B ln m, .int .i64 d, .int .i64 lv0, .int .i64 bf0, .int .i64 wn0, .int .i64 g0, .int .i64 g1] 53)
    have q4 := q3.alloc (.cells #[.slice B ln m, .int .i64 d, .int .i64 lv0, .int .i64 bf0, .int .i64 wn0, .int .i64 g0, .int .i64 g1] 53)
    have p4 := Blk.new w3 53 #[.slice B ln m, .int .i64 d, .int .i64 lv0, .int .i64 bf0, .int .i64 wn0, .int .i64 g0, .int .i64 g1]
    have HS4 := hide ((sl_own hv3).allocw (.cells #[.slice B ln m, .int .i64 d, .int .i64 lv0, .int .i64 bf0, .int .i64 wn0, .int .i64 g0, .int .i64 g1] 53))
    clear hcl hcg hv3 hD3 hg3 hB3 q3 q1 hB1 hD1 hw1 hln
    go_upto_region 5 with fail
    generalize w3.alloc _ = w4 at *
    generalize w3.heap.size = g16 at *
    obtain ⟨⟨x0, x1, x2, x3, x4, x5, x6⟩, xf⟩ := Blk.facts7 p4
    have HR4 := hide (hr.thr hB4)
    have HT4 := hide (hT.below hB4 hw0)
    have HB4 := hide hB4
    have P4 := hide p4
    have Q4 := hide q4
    have hg16 : g16 < w4.heap.size := p4.lt
    have hwq : w.heap.size < w4.heap.size := q4.lt
    clear p4 q4 hB4 hr hT
    go_cut [17, 18] (fun v17 v18 wx => SetsCut w4 #[.slice B ln m, .int .i64 d, .int .i64 lv0, .int .i64 bf0, .int .i64 wn0, .int .i64 g0, .int .i64 g1] v17 v18 wx)
    case first =>
      have hN : w4.heap.size = w4.heap.size := rfl
      go_region_with (fail)
      all_goals
        go_wp2_with fail
        go_meet
        first | exact sets_ab rfl | exact sets_ba rfl
    case rest =>
      rename World => w5
      obtain ⟨g, h, rfl, rfl, hne, hg0, hh0, bg, bh, hb5⟩ := hcut
      have HB5 := hide hb5
      have BG := hide bg
      have BH := hide bh
      clear x0 x1 x2 x3 x4 x5 x6 xf
      obtain ⟨y0, y1, yf⟩ := (Q4.out.below hb5 Q4.out.lt).facts2
      obtain ⟨⟨x0, x1, x2, x3, x4, x5, x6⟩, xf⟩ := Blk.facts7 bg
      have hne1 : ¬ g = w.heap.size := by omega
      have hne2 : ¬ w.heap.size = g := by omega
      clear hb5 bg bh
      go_wp2_with fail
      go_cut [35] (fun _ wx => SetG w4 g h (.slice B ln m) (.int .i64 d) (.int .i64 lv0) (.int .i64 bf0) (.int .i64 wn0) (.int .i64 g0) (.int .i64 g1) (.slice A0 n0 c0) (.int .i64 r0) (.int .i64 r1) wx)
      case first =>
        go_region_with (fail)
        all_goals
          go_wp2_with fail
          go_meet
          first | with_reducible exact setg_a BG.out BH.out hne hg0 HB5.out | with_reducible exact setg_b BG.out BH.out hne hg0 HB5.out
      case rest =>
        rename World => w6
        obtain ⟨bg, bh, hb6⟩ := hcut
        clear x0 x1 x2 x3 x4 x5 x6 xf y0 y1 yf HB5 BG BH
        obtain ⟨⟨x0, x1, x2, x3, x4, x5, x6⟩, xf⟩ := Blk.facts7 bh
        have HBG := hide (show Blk ((((w6.setCell ⟨h, 1, none⟩ (.int .i64 dy)).setCell ⟨h, 2, none⟩ (.int .i64 lv)).setCell ⟨h, 3, none⟩ (.int .i64 bf)).setCell ⟨h, 4, none⟩ (.int .i64 wn)) g 53 #[.slice A0 n0 c0, .int .i64 d, .int .i64 lv0, .int .i64 bf0, .int .i64 wn0, .int .i64 r0, .int .i64 r1] from (((bg.farB (p := ⟨h, 1, none⟩) hne _).farB (p := ⟨h, 2, none⟩) hne _).farB (p := ⟨h, 3, none⟩) hne _).farB (p := ⟨h, 4, none⟩) hne _)
        have HBH := hide (show Blk ((((w6.setCell ⟨h, 1, none⟩ (.int .i64 dy)).setCell ⟨h, 2, none⟩ (.int .i64 lv)).setCell ⟨h, 3, none⟩ (.int .i64 bf)).setCell ⟨h, 4, none⟩ (.int .i64 wn)) h 53 #[.slice B ln m, .int .i64 dy, .int .i64 lv, .int .i64 bf, .int .i64 wn, .int .i64 g0, .int .i64 g1] from (((bh.setB 1 _).setB 2 _).setB 3 _).setB 4 _)
        have HB7 := hide (show Below w4.heap.size w4 ((((w6.setCell ⟨h, 1, none⟩ (.int .i64 dy)).setCell ⟨h, 2, none⟩ (.int .i64 lv)).setCell ⟨h, 3, none⟩ (.int .i64 bf)).setCell ⟨h, 4, none⟩ (.int .i64 wn)) from (((hb6.setCell hh0 _).setCell hh0 _).setCell hh0 _).setCell hh0 _)
        clear bg bh hb6
        go_upto_region 8 with fail
        clear x0 x1 x2 x3 x4 x5 x6 xf
        generalize World.setCell _ _ _ = w7 at *
        obtain ⟨⟨x0, x1, x2, x3, x4, x5, x6⟩, _⟩ := Blk.facts7 HBG.out
        obtain ⟨⟨y0, y1, y2, y3, y4, y5, y6⟩, _⟩ := Blk.facts7 HBH.out
        obtain ⟨⟨z0, z1, z2, z3, z4, z5, z6⟩, _⟩ := Blk.facts7 (P4.out.below HB7.out P4.out.lt)
        have p8 := Blk.new w7 53 #[.slice B ln m, .int .i64 d, .int .i64 lv0, .int .i64 bf0, .int .i64 wn0, .int .i64 g0, .int .i64 g1, .slice A0 n0 c0, .int .i64 d, .int .i64 lv0, .int .i64 bf0, .int .i64 wn0, .int .i64 r0, .int .i64 r1, .slice B ln m, .int .i64 dy, .int .i64 lv, .int .i64 bf, .int .i64 wn, .int .i64 g0, .int .i64 g1, .slice A0 n0 c0, .int .i64 d, .int .i64 lv0, .int .i64 bf0, .int .i64 wn0, .int .i64 g0, .int .i64 g1]
        have HB8 := hide (bthr HB7.out (bel1 (w := w7) (o := .cells #[.slice B ln m, .int .i64 d, .int .i64 lv0, .int .i64 bf0, .int .i64 wn0, .int .i64 g0, .int .i64 g1, .slice A0 n0 c0, .int .i64 d, .int .i64 lv0, .int .i64 bf0, .int .i64 wn0, .int .i64 r0, .int .i64 r1, .slice B ln m, .int .i64 dy, .int .i64 lv, .int .i64 bf, .int .i64 wn, .int .i64 g0, .int .i64 g1, .slice A0 n0 c0, .int .i64 d, .int .i64 lv0, .int .i64 bf0, .int .i64 wn0, .int .i64 g0, .int .i64 g1] 53)) HB7.out.size)
        go_upto_region 9 with fail
        clear x0 x1 x2 x3 x4 x5 x6 y0 y1 y2 y3 y4 y5 y6 z0 z1 z2 z3 z4 z5 z6 HBG HBH HB7
        generalize w7.alloc _ = w8 at *
        generalize w7.heap.size = gg at *
        have P8 := hide p8
        have HS8 := hide (HS4.out.thr HB8.out)
        have HR8 := hide (HR4.out.thr HB8.out)
        have HT8 := hide (HT4.out.below HB8.out HT4.out.pos)
        have HBW := hide (bthr HB4.out HB8.out HB4.out.size)
        clear p8 HS4 HR4 HB8 HB4 HT4 P4 Q4
        go_loopw [64] (fun v wr => ∃ k : Nat, k ≤ 4 ∧ v = .int .i64 k ∧ Below w8.heap.size w8 wr) (fun v _ => 4 - (intOf v).toNat)
        case atStart => exact ⟨0, by omega, rfl, Below.refl _ _⟩
        case round =>
          obtain ⟨k, hk, rfl, hb⟩ := hrel
          rename World => wr
          have HB := hide hb
          by_cases hlt : k < 4
          · have hki : (k : Int) < 4 := by omega
            have hki0 : (0 : Int) ≤ (k : Int) := by omega
            obtain ⟨C, q, e, xs, v1, v2, v3, v4, v5, v6, s0, s1, s2, s3, s4, s5, s6, hsl⟩ := st_at (P8.out.below hb P8.out.lt) (HS8.out.thr hb) (HR8.out.thr hb) hlt
            obtain ⟨hql, hq63⟩ := len_cs hsl
            have p9 := Blk.new wr 53 #[.slice C q e, .int .i64 v1, .int .i64 v2, .int .i64 v3, .int .i64 v4, .int .i64 v5, .int .i64 v6]
            have hb9 := bel1 (w := wr) (o := .cells #[.slice C q e, .int .i64 v1, .int .i64 v2, .int .i64 v3, .int .i64 v4, .int .i64 v5, .int .i64 v6] 53)
            have HB9 := hide (bthr hb hb9 hb.size)
            have hs9 := hsl.thr hb9
            have hT9 := HT8.out.below HB9.out HT8.out.pos
            obtain ⟨rl, lo, hi, ys, H1, H2, -, -⟩ := choose_both C q e xs v1 v2 v3 v5 v6 v4 hql
            generalize chE q xs v1 v2 v3 v5 v6 v4 = E at H1 H2
            have H1 := hide H1
            have H2 := hide H2
            have hee : (E != E) = false := by simp
            clear hb hb9 hsl hql
            go_upto_region 11 with fail
            clear s0 s1 s2 s3 s4 s5 s6
            generalize wr.alloc _ = w9 at *
            generalize wr.heap.size = g20 at *
            obtain ⟨⟨s0, s1, s2, s3, s4, s5, s6⟩, _⟩ := Blk.facts7 p9
            go_wp2_with fail
            refine (H1.out w9 hT9 hs9).mono ?_
            rintro e' w10 ⟨A1, c1, rfl, hy1, hb10⟩
            have hbx := bel1 (w := w10) (o := .cells #[.int .i64 rl, .int .i64 lo, .int .i64 hi, .slice A1 ys.length c1] 58)
            have p11 := Blk.new w10 58 #[.int .i64 rl, .int .i64 lo, .int .i64 hi, .slice A1 ys.length c1]
            have hb11 := bthr hb10 hbx hb10.size
            have p9b := p9.below hb11 p9.lt
            have hs11 := hs9.thr hb11
            have hy11 := hy1.thr hbx
            have HB11 := hide (bthr HB9.out hb11 HB9.out.size)
            clear s0 s1 s2 s3 s4 s5 s6 hy1 hb10 hbx hb11 hs9 p9 hT9 H1
            go_upto_region 12 with fail
            generalize w10.alloc _ = w11 at *
            generalize w10.heap.size = g21 at *
            obtain ⟨⟨s0, s1, s2, s3, s4, s5, s6⟩, _⟩ := Blk.facts7 p9b
            go_wp2_with fail
            refine (H2.out w11 hs11).mono ?_
            rintro e' w12 ⟨A2, c2, rfl, hy2, hb12⟩
            have hbx := bel1 (w := w12) (o := .cells #[.int .i64 rl, .int .i64 lo, .int .i64 hi, .slice A2 ys.length c2] 58)
            have p13 := Blk.new w12 58 #[.int .i64 rl, .int .i64 lo, .int .i64 hi, .slice A2 ys.length c2]
            have hb13 := bthr hb12 hbx hb12.size
            have p11b := p11.below hb13 p11.lt
            have hy13 := hy11.thr hb13
            have hy23 := hy2.thr hbx
            have HB13 := hide (bthr HB11.out hb13 HB11.out.size)
            clear s0 s1 s2 s3 s4 s5 s6 hy11 hy2 hb12 hbx hb13 hs11 p11 p9b H2
            go_upto_region 13 with fail
            generalize w12.alloc _ = w13 at *
            generalize w12.heap.size = g23 at *
            have HSM := hide (csame_yes rl lo hi A1 A2 ys.length c1 c2 ys w13 rfl hy13 hy23)
            obtain ⟨s0, s1, s2, s3, _⟩ := p11b.facts4
            obtain ⟨t0, t1, t2, t3, _⟩ := p13.facts4
            clear hy13 hy23 p11b p13
            generalize ys.length = yl at *
            go_wp2_with fail
            refine HSM.out.mono ?_
            rintro e' w14 ⟨rfl, hb14⟩
            have HB14 := hide (bthr HB13.out hb14 HB13.out.size)
            clear hb14 s0 s1 s2 s3 t0 t1 t2 t3 HSM
            go_wp2
            go_roundw
            case rel => exact ⟨k + 1, by omega, by go_num, HB14.out⟩
            case measure => simp [intOf]; omega
          · have hk3 : ¬ ((k : Int) < 4) := by omega
            have HTZ := hide (HT8.out.below hb HT8.out.pos)
            have HBZ := hide (bthr HBW.out hb HBW.out.size)
            clear hb
            go_wp2_with fail
            refine (awake_any _ HTZ.out).mono ?_
            rintro e' wz ⟨rfl, hbz⟩
            have HBY := hide (bthr HBZ.out hbz HBZ.out.size)
            clear hbz
            go_wp2
            go_ret
            exact ⟨rfl, HBY.out⟩
end Go.Proofs.YtegjihcokndemaaDoor
