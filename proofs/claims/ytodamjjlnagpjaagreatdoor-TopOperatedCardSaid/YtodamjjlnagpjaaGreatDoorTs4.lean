/-
  The contract of storage.Check at valid reservoirs. Condition: the reservoir lies in memory and is one of small numbers.
  The contract of the reference's Check of a reservoir, at valid ones. Condition: the reservoir lies in memory and is one of small numbers.
  The contracts of storage.asked, Height, Room, Volume and of the reference's Volume, at valid reservoirs. Condition: the reservoir lies in memory and is one of small numbers.
-/
import Derived.Test.YtodamjjlnagpjaaGreatDoorProg
import Derived.Test.YtodamjjlnagpjaaGreatDoorTcz
namespace Go.Proofs.YtodamjjlnagpjaaGreatDoor
open Go.RowKit

theorem Blk.facts6 {w : World} {g : Nat} {t : TypeId} {a0 a1 a2 a3 a4 a5 : Value} (h : Blk w g t #[a0, a1, a2, a3, a4, a5]) : w.cell? ⟨g, 0, none⟩ = some a0 ∧ w.cell? ⟨g, 1, none⟩ = some a1 ∧ w.cell? ⟨g, 2, none⟩ = some a2 ∧ w.cell? ⟨g, 3, none⟩ = some a3 ∧ w.cell? ⟨g, 4, none⟩ = some a4 ∧ w.cell? ⟨g, 5, none⟩ = some a5 ∧ (∀ o, w.frozen? ⟨g, o, none⟩ = false) := by
  unfold Blk at h
  exact ⟨by simp [World.cell?, h], by simp [World.cell?, h], by simp [World.cell?, h], by simp [World.cell?, h], by simp [World.cell?, h], by simp [World.cell?, h], fun o => by simp [World.frozen?, h]⟩
def LvBlk (w : World) (l0 l1 l2 l3 l4 l5 l6 : Int) (v : Value) (wx : World) : Prop := ∃ g : Nat, v = .pointer (some ⟨g, 0, none⟩) ∧ Blk wx g 149 #[.int .i64 l0, .int .i64 l1, .int .i64 l2, .int .i64 l3, .int .i64 l4, .int .i64 l5, .int .i64 l6] ∧ Below w.heap.size w wx
theorem lvBlk_of {w : World} {l0 l1 l2 l3 l4 l5 l6 : Int} : LvBlk w l0 l1 l2 l3 l4 l5 l6 (.pointer (some ⟨w.heap.size, 0, none⟩)) (w.alloc (.cells #[.int .i64 l0, .int .i64 l1, .int .i64 l2, .int .i64 l3, .int .i64 l4, .int .i64 l5, .int .i64 l6] 149)).drew :=
  ⟨_, rfl, Blk.drew (Blk.new _ _ _), Below.drew ((Below.refl _ _).alloc (Nat.le_refl _) _)⟩
theorem lv_cells {w : World} {g : Nat} {l0 l1 l2 l3 l4 l5 l6 : Int} (h : Blk w g 149 #[.int .i64 l0, .int .i64 l1, .int .i64 l2, .int .i64 l3, .int .i64 l4, .int .i64 l5, .int .i64 l6]) (h0 : l0 ≤ l1) (h1 : l1 ≤ l2) (h2 : l2 ≤ l3) (h3 : l3 ≤ l4) (h4 : l4 ≤ l5) (h5 : l5 ≤ l6) :
    ∃ f : Nat → Int, (∀ j, j < 7 → w.cell? ⟨g, j, none⟩ = some (.int .i64 (f j))) ∧ ∀ j, j < 6 → f j ≤ f (j + 1) := by
  refine ⟨fun j => [l0, l1, l2, l3, l4, l5, l6].getD j 0, fun j hj => ?_, fun j hj => ?_⟩
  · rw [h.facts.1 j]
    have : j = 0 ∨ j = 1 ∨ j = 2 ∨ j = 3 ∨ j = 4 ∨ j = 5 ∨ j = 6 := by omega
    rcases this with rfl | rfl | rfl | rfl | rfl | rfl | rfl <;> rfl
  · have : j = 0 ∨ j = 1 ∨ j = 2 ∨ j = 3 ∨ j = 4 ∨ j = 5 := by omega
    rcases this with rfl | rfl | rfl | rfl | rfl | rfl <;> simpa
theorem CvG.mono {ps : List Pt} (h : CvG 2000 ps) : ∀ (k : Nat) (hk : k < ps.length) (j : Nat) (hj : j < k), (ps[j]'(by omega)).x < ps[k].x := by
  intro k
  induction k with
  | zero => intro hk j hj; omega
  | succ k ih =>
    intro hk j hj
    have := (h.up k hk).1
    rcases Nat.lt_or_ge j k with h | h
    · have := ih (by omega) j h; omega
    · obtain rfl : j = k := by omega
      omega
set_option maxHeartbeats 3200000 in
set_option maxRecDepth 20000 in
theorem scheck_ok (r : Rs) (hg : RsG r) (w : World) (hs : r.st.ok w) :
    Calls Tryz.prog 49 #[.agg r.arr] w fun e w' => e = .returned (.int .i64 0) ∧ Below w.heap.size w w' := by
  have q0 := Blk.new w 27 r.arr
  have hb0 := bel1 (w := w) (o := .cells r.arr 27)
  have hs0 := hs.below hb0
  have HG := hide hg
  have hcv := hg.st
  have hne := hcv.ne
  have htwo := hg.two
  obtain ⟨⟨A, n, c, ps⟩, de, lw, fu, su, cr⟩ := r
  simp only at hcv hne htwo hs hs0
  have HL := hide hs.len
  simp only at HL
  unfold Rs.arr at q0 hb0 hs0 ⊢
  simp only at q0 hb0 hs0 ⊢
  obtain ⟨c0, c1, c2, c3, c4, c5, cf⟩ := q0.facts6
  unfold Cv.v at c0 q0 hb0 hs0 ⊢
  simp only at c0 q0 hb0 hs0 ⊢
  go_enter Tryz.func49, Tryz.ntmps49
  go_wp2_with fail
  generalize w.alloc _ = w1 at *
  refine (cvck_ok ⟨A, n, c, ps⟩ hcv w1 hs0).mono ?_
  rintro e w2 ⟨rfl, hb2⟩
  have q2 := q0.below hb2 q0.lt
  have hs2 := Cv.ok.below hs0 hb2
  have hB2 := bthr hb0 hb2 hb0.size
  clear c0 c1 c2 c3 c4 c5 cf hs0 hb2 q0 hb0 hs
  obtain ⟨c0, c1, c2, c3, c4, c5, cf⟩ := q2.facts6
  obtain ⟨b, o, hA, hb, hc⟩ := hs2.block hne
  simp only at hA hc
  subst hA
  have hn100 : n ≤ 100 := by have := HL.out; have := hcv.le; omega
  have hn2 : 2 ≤ n := by have := HL.out; omega
  obtain ⟨m, hm⟩ : ∃ m : Nat, n = m + 1 := ⟨n - 1, by omega⟩
  have hmi : (n : Int) - 1 = (m : Int) := by omega
  have hml : m < ps.length := by have := HL.out; omega
  obtain ⟨m0, m1⟩ := hc m hml
  obtain ⟨z0, z1⟩ := hc 0 hne
  have hmb := hcv.at_ hml
  have hl0 := HG.out.l0
  have hl1 := HG.out.l1
  have hl2 := HG.out.l2
  have hl3 := HG.out.l3
  have hl4 := HG.out.l4
  have hl5 := HG.out.l5
  simp only at hl0 hl1 hl2 hl3 hl4 hl5
  have em : ps.length - 1 = m := by have := HL.out; omega
  simp only [em] at hl5
  have HU := hide (fun (i : Nat) (h : i + 1 < ps.length) => HG.out.up i h)
  simp only at HU
  have hzb := hcv.at_ hne
  have HP := hide hcv
  have hmn : m < n := by omega
  have hmni : (m : Int) < (n : Int) := by omega
  generalize hpm : ps[m]'hml = pm at *
  generalize hpz : ps[0]'hne = pz at *
  obtain ⟨xm, ym⟩ := pm
  obtain ⟨xz, yz⟩ := pz
  simp only [Nat.zero_mul, Nat.add_zero] at m0 m1 z0 z1 hmb hzb hl0 hl5
  have hz0 : ((n : Int) < 2) = False := by simp; omega
  have HC := hide hc
  have HM := hide hm
  clear hcv HG hpm hpz hm hs2 hc htwo em
  have hn0i : (0 : Int) < (n : Int) := by omega
  have hn0 : 0 < n := by omega
  have hd1 : decide ((n : Int) < 2) = false := by simp; omega
  have hd2 : decide (16777216 < xm) = false := by simp; omega
  go_wp2
  go_loopw [5] (fun i wr => ∃ k : Nat, (1 ≤ k ∧ k ≤ n) ∧ i = .int .i64 k ∧ Below w2.heap.size w2 wr) (fun i _ => n - (intOf i).toNat)
  case atStart => exact ⟨1, by omega, rfl, Below.refl _ _⟩
  case round =>
    obtain ⟨k, ⟨hk1, hk⟩, rfl, hb3⟩ := hrel
    have q3 := q2.below hb3 q2.lt
    have HB3 := hide hb3
    clear c0 c1 c2 c3 c4 c5 cf
    obtain ⟨c0, c1, c2, c3, c4, c5, cf⟩ := q3.facts6
    by_cases hlt : k < n
    · have hki : (k : Int) < (n : Int) := by omega
      obtain ⟨i, hi⟩ : ∃ i : Nat, k = i + 1 := ⟨k - 1, by omega⟩
      have hkl : k < ps.length := by have := HL.out; omega
      have hi2 : i < ps.length := by omega
      have hup := HU.out i (by omega)
      have e0 := cell_thr hb3 (HC.out k hkl).1
      have e1 := cell_thr hb3 (HC.out k hkl).2
      have d0 := cell_thr hb3 (HC.out i hi2).1
      have d1 := cell_thr hb3 (HC.out i hi2).2
      have hup2 : (ps[i]'hi2).y < (ps[k]'hkl).y := by subst hi; exact hup
      generalize ps[k]'hkl = pk at *
      obtain ⟨px, py⟩ := pk
      generalize ps[i]'hi2 = qk at *
      obtain ⟨qx, qy⟩ := qk
      simp only at e0 e1 d0 d1 hup2
      have hii : (k : Int) - 1 = (i : Int) := by omega
      have hwi : IntKind.i64.wrap (i : Int) = (i : Int) := by rw [IntKind.wrap_i64]; omega
      have hin : i < n := by omega
      have hini : (i : Int) < (n : Int) := by omega
      have hdd : decide (py ≤ qy) = false := by simp; omega
      clear HU HC hb3 z0 z1 m0 m1 hi hup
      go_wp2_with fail
      go_quiet (fail)
      go_wp2
      go_roundw
      case rel => exact ⟨k + 1, by omega, by go_num, below_drewN HB3.out _⟩
      case measure => simp [intOf]; omega
    · have hki : ¬ ((k : Int) < (n : Int)) := by omega
      have hz0 := cell_thr hb3 z0
      have hm0 := cell_thr hb3 m0
      have hax := fun X : Obj => bel1 (w := wr) (o := X)
      have c0a := fun X => cell_thr (hax X) c0
      have c1a := fun X => cell_thr (hax X) c1
      have c2a := fun X => cell_thr (hax X) c2
      have c3a := fun X => cell_thr (hax X) c3
      have c4a := fun X => cell_thr (hax X) c4
      have c5a := fun X => cell_thr (hax X) c5
      have z0a := fun X => cell_thr (hax X) hz0
      have m0a := fun X => cell_thr (hax X) hm0
      have hwm : IntKind.i64.wrap (m : Int) = (m : Int) := by rw [IntKind.wrap_i64]; omega
      clear hax HU HC hb3 z0 z1 m0 m1
      go_wp2_with fail
      go_cut [6] (fun v6 wx => LvBlk wr xz de lw fu su cr xm v6 wx)
      case first =>
        go_region_held3 (fun w' => w'.cell? ⟨w.heap.size, 0, none⟩ = some (.slice (some ⟨b, o, none⟩) n c) ∧ w'.cell? ⟨w.heap.size, 1, none⟩ = some (.int .i64 de) ∧ w'.cell? ⟨w.heap.size, 2, none⟩ = some (.int .i64 lw) ∧ w'.cell? ⟨w.heap.size, 3, none⟩ = some (.int .i64 fu) ∧ w'.cell? ⟨w.heap.size, 4, none⟩ = some (.int .i64 su) ∧ w'.cell? ⟨w.heap.size, 5, none⟩ = some (.int .i64 cr) ∧ w'.cell? ⟨b, o, none⟩ = some (.int .i64 xz) ∧ w'.cell? ⟨b, o + m * 2, none⟩ = some (.int .i64 xm))
          (first | exact ⟨c0, c1, c2, c3, c4, c5, hz0, hm0⟩ | exact ⟨c0a _, c1a _, c2a _, c3a _, c4a _, c5a _, z0a _, m0a _⟩)
          (fail)
        all_goals
          go_wp2_with fail
          go_meet
          first | (with_reducible exact lvBlk_of) | fail
      case rest =>
        rename World => w4
        obtain ⟨g6, rfl, bg, hBc⟩ := hcut
        obtain ⟨f, hgc, hbd⟩ := lv_cells bg hl0 hl1 hl2 hl3 hl4 hl5
        have HGC := hide hgc
        have HBD := hide hbd
        have HB4 := hide (hB2.trans ((HB3.out.trans (hBc.mono HB3.out.size)).mono hB2.size))
        clear c0 c1 c2 c3 c4 c5 cf c0a c1a c2a c3a c4a c5a z0a m0a hz0 hm0 hgc hbd bg hBc q3 hl0 hl1 hl2 hl3 hl4 hl5
        go_wp2
        go_loopw [7] (fun i wr => ∃ k : Nat, (1 ≤ k ∧ k ≤ 7) ∧ i = .int .i64 k ∧ Below w4.heap.size w4 wr) (fun i _ => 7 - (intOf i).toNat)
        case atStart => exact ⟨1, by omega, rfl, Below.refl _ _⟩
        case round =>
          rename World => wr
          obtain ⟨k, ⟨hk1, hk⟩, rfl, hb5⟩ := hrel
          have HB5 := hide hb5
          by_cases hlt : k < 7
          · have hki : (k : Int) < 7 := by omega
            obtain ⟨i, hi⟩ : ∃ i : Nat, k = i + 1 := ⟨k - 1, by omega⟩
            have e0 := cell_thr hb5 (HGC.out k (by omega))
            have d0 := cell_thr hb5 (HGC.out i (by omega))
            have hup := HBD.out i (by omega)
            rw [← hi] at hup
            generalize f k = x at *
            generalize f i = y at *
            have hii : (k : Int) - 1 = (i : Int) := by omega
            have hwi : IntKind.i64.wrap (i : Int) = (i : Int) := by rw [IntKind.wrap_i64]; omega
            have hin : i < 7 := by omega
            have hini : (i : Int) < 7 := by omega
            have hdd : decide (x < y) = false := by simp; omega
            clear hb5 hi hup
            go_wp2_with fail
            go_quiet (fail)
            go_wp2
            go_roundw
            case rel => exact ⟨k + 1, by omega, by go_num, below_drewN HB5.out _⟩
            case measure => simp [intOf]; omega
          · have hki : ¬ ((k : Int) < 7) := by omega
            have HZ := hide (bthr HB4.out hb5 HB4.out.size)
            clear hb5
            go_wp2
            go_ret
            exact ⟨rfl, HZ.out⟩
end Go.Proofs.YtodamjjlnagpjaaGreatDoor
namespace Go.Proofs.YtodamjjlnagpjaaGreatDoor
open Go.RowKit

def LvSl (w : World) (l0 l1 l2 l3 l4 l5 l6 : Int) (v : Value) (wx : World) : Prop := ∃ g : Nat, v = .slice (some ⟨g, 0, none⟩) 7 7 ∧ Blk wx g 3 #[.int .i64 l0, .int .i64 l1, .int .i64 l2, .int .i64 l3, .int .i64 l4, .int .i64 l5, .int .i64 l6] ∧ Below w.heap.size w wx
theorem lvSl_of {w : World} {l0 l1 l2 l3 l4 l5 l6 : Int} : LvSl w l0 l1 l2 l3 l4 l5 l6 (.slice (some ⟨w.heap.size, 0, none⟩) 7 7) (w.alloc (.cells #[.int .i64 l0, .int .i64 l1, .int .i64 l2, .int .i64 l3, .int .i64 l4, .int .i64 l5, .int .i64 l6] 3)).drew :=
  ⟨_, rfl, Blk.drew (Blk.new _ _ _), Below.drew ((Below.refl _ _).alloc (Nat.le_refl _) _)⟩
theorem lvs_cells {w : World} {g : Nat} {t : TypeId} {l0 l1 l2 l3 l4 l5 l6 : Int} (h : Blk w g t #[.int .i64 l0, .int .i64 l1, .int .i64 l2, .int .i64 l3, .int .i64 l4, .int .i64 l5, .int .i64 l6]) (h0 : l0 ≤ l1) (h1 : l1 ≤ l2) (h2 : l2 ≤ l3) (h3 : l3 ≤ l4) (h4 : l4 ≤ l5) (h5 : l5 ≤ l6) :
    ∃ f : Nat → Int, (∀ j, j < 7 → w.cell? ⟨g, j, none⟩ = some (.int .i64 (f j))) ∧ ∀ j, j < 6 → f j ≤ f (j + 1) := by
  refine ⟨fun j => [l0, l1, l2, l3, l4, l5, l6].getD j 0, fun j hj => ?_, fun j hj => ?_⟩
  · rw [h.facts.1 j]
    have : j = 0 ∨ j = 1 ∨ j = 2 ∨ j = 3 ∨ j = 4 ∨ j = 5 ∨ j = 6 := by omega
    rcases this with rfl | rfl | rfl | rfl | rfl | rfl | rfl <;> rfl
  · have : j = 0 ∨ j = 1 ∨ j = 2 ∨ j = 3 ∨ j = 4 ∨ j = 5 := by omega
    rcases this with rfl | rfl | rfl | rfl | rfl | rfl <;> simpa
set_option maxHeartbeats 3200000 in
set_option maxRecDepth 20000 in
theorem rscheck_ok (r : Rs) (hg : RsG r) (w : World) (hs : r.st.ok w) :
    Calls Tryz.prog 58 #[.agg r.arr] w fun e w' => e = .returned (.int .i64 0) ∧ Below w.heap.size w w' := by
  have q0 := Blk.new w 27 r.arr
  have hb0 := bel1 (w := w) (o := .cells r.arr 27)
  have hs0 := hs.below hb0
  have HG := hide hg
  have hcv := hg.st
  have hne := hcv.ne
  have htwo := hg.two
  obtain ⟨⟨A, n, c, ps⟩, de, lw, fu, su, cr⟩ := r
  simp only at hcv hne htwo hs hs0
  have HL := hide hs.len
  simp only at HL
  unfold Rs.arr at q0 hb0 hs0 ⊢
  simp only at q0 hb0 hs0 ⊢
  obtain ⟨c0, c1, c2, c3, c4, c5, cf⟩ := q0.facts6
  unfold Cv.v at c0 q0 hb0 hs0 ⊢
  simp only at c0 q0 hb0 hs0 ⊢
  go_enter Tryz.func58, Tryz.ntmps58
  go_wp2_with fail
  generalize w.alloc _ = w1 at *
  refine (rcvck_ok ⟨A, n, c, ps⟩ hcv w1 hs0).mono ?_
  rintro e w2 ⟨rfl, hb2⟩
  have q2 := q0.below hb2 q0.lt
  have hs2 := Cv.ok.below hs0 hb2
  have hB2 := bthr hb0 hb2 hb0.size
  clear c0 c1 c2 c3 c4 c5 cf hs0 hb2 q0 hb0 hs
  obtain ⟨c0, c1, c2, c3, c4, c5, cf⟩ := q2.facts6
  obtain ⟨b, o, hA, hb, hc⟩ := hs2.block hne
  simp only at hA hc
  subst hA
  have hn100 : n ≤ 100 := by have := HL.out; have := hcv.le; omega
  have hn2 : 2 ≤ n := by have := HL.out; omega
  obtain ⟨m, hm⟩ : ∃ m : Nat, n = m + 1 := ⟨n - 1, by omega⟩
  have hmi : (n : Int) - 1 = (m : Int) := by omega
  have hml : m < ps.length := by have := HL.out; omega
  obtain ⟨m0, m1⟩ := hc m hml
  obtain ⟨z0, z1⟩ := hc 0 hne
  have hmb := hcv.at_ hml
  have hl0 := HG.out.l0
  have hl1 := HG.out.l1
  have hl2 := HG.out.l2
  have hl3 := HG.out.l3
  have hl4 := HG.out.l4
  have hl5 := HG.out.l5
  simp only at hl0 hl1 hl2 hl3 hl4 hl5
  have em : ps.length - 1 = m := by have := HL.out; omega
  simp only [em] at hl5
  have HU := hide (fun (i : Nat) (h : i + 1 < ps.length) => HG.out.up i h)
  simp only at HU
  have hzb := hcv.at_ hne
  have HP := hide hcv
  have hmn : m < n := by omega
  have hmni : (m : Int) < (n : Int) := by omega
  generalize hpm : ps[m]'hml = pm at *
  generalize hpz : ps[0]'hne = pz at *
  obtain ⟨xm, ym⟩ := pm
  obtain ⟨xz, yz⟩ := pz
  simp only [Nat.zero_mul, Nat.add_zero] at m0 m1 z0 z1 hmb hzb hl0 hl5
  have hz0 : ((n : Int) < 2) = False := by simp; omega
  have HC := hide hc
  have HM := hide hm
  clear hcv HG hpm hpz hm hs2 hc htwo em
  have hn0i : (0 : Int) < (n : Int) := by omega
  have hn0 : 0 < n := by omega
  have hd1 : decide ((n : Int) < 2) = false := by simp; omega
  have HBND := hide (fun (k : Nat) (h : k < ps.length) => HP.out.at_ h)
  go_wp2
  go_loopw [24] (fun i wr => ∃ k : Nat, k ≤ n ∧ i = .int .i64 k ∧ Below w2.heap.size w2 wr) (fun i _ => n - (intOf i).toNat)
  case atStart => exact ⟨0, by omega, rfl, Below.refl _ _⟩
  case round =>
   obtain ⟨kz, hkz, rfl, hb9⟩ := hrel
   have q9 := q2.below hb9 q2.lt
   have HB9 := hide hb9
   clear c0 c1 c2 c3 c4 c5 cf
   obtain ⟨c0, c1, c2, c3, c4, c5, cf⟩ := q9.facts6
   by_cases hltz : kz < n
   · have hki : (kz : Int) < (n : Int) := by omega
     have hkl : kz < ps.length := by have := HL.out; omega
     have e0 := cell_thr hb9 (HC.out kz hkl).1
     have e1 := cell_thr hb9 (HC.out kz hkl).2
     have hbn := HBND.out kz hkl
     generalize ps[kz]'hkl = pk at *
     obtain ⟨px, py⟩ := pk
     simp only at e0 e1 hbn
     have q1 := Blk.new wr 57 #[.int .i64 px, .int .i64 py]
     have HB5 := hide (hb9.alloc hb9.size (.cells #[.int .i64 px, .int .i64 py] 57))
     have hdx : decide (16777216 < px) = false := by simp; omega
     clear HU HC hb9 z0 z1 m0 m1
     go_upto_region 10 with fail
     clear e0 e1 c0 c1 c2 c3 c4 c5 cf
     generalize wr.alloc _ = w5 at *
     generalize wr.heap.size = g5 at *
     obtain ⟨x0, x1, xf⟩ := q1.facts2
     go_wp2
     go_roundw
     case rel => exact ⟨kz + 1, by omega, by go_num, HB5.out⟩
     case measure => simp [intOf]; omega
   have hkzi : ¬ ((kz : Int) < (n : Int)) := by omega
   go_wp2
   go_loopw [7] (fun i wr => ∃ k : Nat, (1 ≤ k ∧ k ≤ n) ∧ i = .int .i64 k ∧ Below w2.heap.size w2 wr) (fun i _ => n - (intOf i).toNat)
   case atStart => exact ⟨1, by omega, rfl, HB9.out⟩
   case round =>
     obtain ⟨k, ⟨hk1, hk⟩, rfl, hb3⟩ := hrel
     have q3 := q2.below hb3 q2.lt
     have HB3 := hide hb3
     clear c0 c1 c2 c3 c4 c5 cf
     obtain ⟨c0, c1, c2, c3, c4, c5, cf⟩ := q3.facts6
     by_cases hlt : k < n
     · have hki : (k : Int) < (n : Int) := by omega
       obtain ⟨i, hi⟩ : ∃ i : Nat, k = i + 1 := ⟨k - 1, by omega⟩
       have hkl : k < ps.length := by have := HL.out; omega
       have hi2 : i < ps.length := by omega
       have hup := HU.out i (by omega)
       have e0 := cell_thr hb3 (HC.out k hkl).1
       have e1 := cell_thr hb3 (HC.out k hkl).2
       have d0 := cell_thr hb3 (HC.out i hi2).1
       have d1 := cell_thr hb3 (HC.out i hi2).2
       have hup2 : (ps[i]'hi2).y < (ps[k]'hkl).y := by subst hi; exact hup
       generalize ps[k]'hkl = pk at *
       obtain ⟨px, py⟩ := pk
       generalize ps[i]'hi2 = qk at *
       obtain ⟨qx, qy⟩ := qk
       simp only at e0 e1 d0 d1 hup2
       have hii : (k : Int) - 1 = (i : Int) := by omega
       have hwi : IntKind.i64.wrap (i : Int) = (i : Int) := by rw [IntKind.wrap_i64]; omega
       have hin : i < n := by omega
       have hini : (i : Int) < (n : Int) := by omega
       have hdd : decide (py ≤ qy) = false := by simp; omega
       clear HU HC hb3 z0 z1 m0 m1 hi hup
       go_wp2_with fail
       go_quiet (fail)
       go_wp2
       go_roundw
       case rel => exact ⟨k + 1, by omega, by go_num, below_drewN HB3.out _⟩
       case measure => simp [intOf]; omega
     · have hki : ¬ ((k : Int) < (n : Int)) := by omega
       have hz0 := cell_thr hb3 z0
       have hm0 := cell_thr hb3 m0
       have hax := fun X : Obj => bel1 (w := wr) (o := X)
       have c0a := fun X => cell_thr (hax X) c0
       have c1a := fun X => cell_thr (hax X) c1
       have c2a := fun X => cell_thr (hax X) c2
       have c3a := fun X => cell_thr (hax X) c3
       have c4a := fun X => cell_thr (hax X) c4
       have c5a := fun X => cell_thr (hax X) c5
       have z0a := fun X => cell_thr (hax X) hz0
       have m0a := fun X => cell_thr (hax X) hm0
       have hwm : IntKind.i64.wrap (m : Int) = (m : Int) := by rw [IntKind.wrap_i64]; omega
       clear hax HU HC hb3 z0 z1 m0 m1
       go_wp2_with fail
       go_cut [8] (fun v6 wx => LvSl wr xz de lw fu su cr xm v6 wx)
       case first =>
         go_region_held3 (fun w' => w'.cell? ⟨w.heap.size, 0, none⟩ = some (.slice (some ⟨b, o, none⟩) n c) ∧ w'.cell? ⟨w.heap.size, 1, none⟩ = some (.int .i64 de) ∧ w'.cell? ⟨w.heap.size, 2, none⟩ = some (.int .i64 lw) ∧ w'.cell? ⟨w.heap.size, 3, none⟩ = some (.int .i64 fu) ∧ w'.cell? ⟨w.heap.size, 4, none⟩ = some (.int .i64 su) ∧ w'.cell? ⟨w.heap.size, 5, none⟩ = some (.int .i64 cr) ∧ w'.cell? ⟨b, o, none⟩ = some (.int .i64 xz) ∧ w'.cell? ⟨b, o + m * 2, none⟩ = some (.int .i64 xm))
           (first | exact ⟨c0, c1, c2, c3, c4, c5, hz0, hm0⟩ | exact ⟨c0a _, c1a _, c2a _, c3a _, c4a _, c5a _, z0a _, m0a _⟩)
           (fail)
         all_goals
           go_wp2_with fail
           go_meet
           first | (with_reducible exact lvSl_of) | fail
       case rest =>
         rename World => w4
         obtain ⟨g6, rfl, bg, hBc⟩ := hcut
         obtain ⟨f, hgc, hbd⟩ := lvs_cells bg hl0 hl1 hl2 hl3 hl4 hl5
         have HGC := hide hgc
         have HBD := hide hbd
         have HB4 := hide (hB2.trans ((HB3.out.trans (hBc.mono HB3.out.size)).mono hB2.size))
         clear c0 c1 c2 c3 c4 c5 cf c0a c1a c2a c3a c4a c5a z0a m0a hz0 hm0 hgc hbd bg hBc q3 hl0 hl1 hl2 hl3 hl4 hl5
         go_wp2
         go_loopw [9] (fun i wr => ∃ k : Nat, (1 ≤ k ∧ k ≤ 7) ∧ i = .int .i64 k ∧ Below w4.heap.size w4 wr) (fun i _ => 7 - (intOf i).toNat)
         case atStart => exact ⟨1, by omega, rfl, Below.refl _ _⟩
         case round =>
           rename World => wr
           obtain ⟨k, ⟨hk1, hk⟩, rfl, hb5⟩ := hrel
           have HB5 := hide hb5
           by_cases hlt : k < 7
           · have hki : (k : Int) < 7 := by omega
             obtain ⟨i, hi⟩ : ∃ i : Nat, k = i + 1 := ⟨k - 1, by omega⟩
             have e0 := cell_thr hb5 (HGC.out k (by omega))
             have d0 := cell_thr hb5 (HGC.out i (by omega))
             have hup := HBD.out i (by omega)
             rw [← hi] at hup
             generalize f k = x at *
             generalize f i = y at *
             have hii : (k : Int) - 1 = (i : Int) := by omega
             have hwi : IntKind.i64.wrap (i : Int) = (i : Int) := by rw [IntKind.wrap_i64]; omega
             have hin : i < 7 := by omega
             have hini : (i : Int) < 7 := by omega
             have hdd : decide (x < y) = false := by simp; omega
             clear hb5 hi hup
             go_wp2_with fail
             go_quiet (fail)
             go_wp2
             go_roundw
             case rel => exact ⟨k + 1, by omega, by go_num, below_drewN HB5.out _⟩
             case measure => simp [intOf]; omega
           · have hki : ¬ ((k : Int) < 7) := by omega
             have HZ := hide (bthr HB4.out hb5 HB4.out.size)
             clear hb5
             go_wp2
             go_ret
             exact ⟨rfl, HZ.out⟩
end Go.Proofs.YtodamjjlnagpjaaGreatDoor
namespace Go.Proofs.YtodamjjlnagpjaaGreatDoor
open Go.RowKit

set_option maxRecDepth 20000 in
theorem sasked_ok (r : Rs) (hg : RsG r) (v l : Int) (hv : 0 ≤ v ∧ v ≤ 274877906944) (hl : 0 ≤ l ∧ l ≤ 16777216) (w : World) (hs : r.st.ok w) :
    Calls Tryz.prog 23 #[.agg r.arr, .int .i64 v, .int .i64 l] w fun e w' => e = .returned (.int .i64 0) ∧ Below w.heap.size w w' := by
  have q0 := Blk.new w 27 r.arr
  have hb0 := bel1 (w := w) (o := .cells r.arr 27)
  have hs0 := hs.below hb0
  have HK := hide (fun W h => scheck_ok r hg W h)
  obtain ⟨v0, v1⟩ := hv
  obtain ⟨l0, l1⟩ := hl
  unfold Rs.arr at q0 hb0 hs0 HK ⊢
  obtain ⟨c0, c1, c2, c3, c4, c5, cf⟩ := q0.facts6
  go_enter Tryz.func23, Tryz.ntmps23
  go_wp2_with fail
  generalize w.alloc _ = w1 at *
  refine (HK.out w1 hs0).mono ?_
  rintro e w2 ⟨rfl, hb2⟩
  have HB := hide (bthr hb0 hb2 hb0.size)
  clear c0 c1 c2 c3 c4 c5 cf hs0 hb2 q0 hb0 hs
  go_wp2_with fail
  refine (within_true _ _ (by omega) (by omega) _).mono ?_
  rintro e w' ⟨rfl, rfl⟩
  go_wp2_with fail
  refine (within_true _ _ (by omega) (by omega) _).mono ?_
  rintro e w' ⟨rfl, rfl⟩
  go_wp2
  go_ret
  exact ⟨rfl, HB.out⟩
set_option maxRecDepth 20000 in
theorem height_any (r : Rs) (hg : RsG r) (v : Int) (hv : 0 ≤ v ∧ v ≤ 274877906944) (w : World) (hs : r.st.ok w) :
    Calls Tryz.prog 22 #[.agg r.arr, .int .i64 v] w fun e w' => e = .returned (.int .i64 (lastX r.st.ps v)) ∧ Below w.heap.size w w' := by
  have q0 := Blk.new w 27 r.arr
  have hb0 := bel1 (w := w) (o := .cells r.arr 27)
  have hs0 := hs.below hb0
  have hne := hg.st.ne
  have HK := hide (fun W h => last_any r.st v hv hg.st hne W h)
  unfold Rs.arr at q0 hb0 hs0 ⊢
  obtain ⟨c0, c1, c2, c3, c4, c5, cf⟩ := q0.facts6
  have hn1 : 0 < r.st.n := by rw [hs.len]; exact hne
  go_enter Tryz.func22, Tryz.ntmps22
  go_wp2_with fail
  generalize w.alloc _ = w1 at *
  refine (HK.out w1 hs0).mono ?_
  rintro e w2 ⟨x, ok, rfl, hx1, hx0, hb2⟩
  have hs2 := Cv.ok.below hs0 hb2
  have q2 := q0.below hb2 q0.lt
  have HB := hide (bthr hb0 hb2 hb0.size)
  clear c0 c1 c2 c3 c4 c5 cf hs0 hb2 q0 hb0 hs HK
  obtain ⟨c0, c1, c2, c3, c4, c5, cf⟩ := q2.facts6
  obtain ⟨b, o, hA, hb, hc⟩ := hs2.block hne
  obtain ⟨z0, z1⟩ := hc 0 hne
  have hc0 : w2.cell? ⟨w.heap.size, 0, none⟩ = some (.slice (some ⟨b, o, none⟩) r.st.n r.st.c) := by rw [c0, Cv.v, hA]
  generalize r.st.n = n at *
  generalize r.st.c = c at *
  generalize hvl : lastX r.st.ps v = vl at *
  have HVL := hide hvl
  clear hvl
  have HX1 := hide hx1
  have HX0 := hide hx0
  generalize r.st.ps[0]'hne = pz at *
  obtain ⟨xz, yz⟩ := pz
  simp only [Nat.zero_mul, Nat.add_zero] at z0 z1 HX0
  have hn1i : (0 : Int) < (n : Int) := by omega
  clear hx1 hx0 hc hs2 q2 c0 z1
  cases ok
  · have HX := hide (HX0.out rfl)
    clear HX0 HX1
    go_wp2
    go_ret
    exact ⟨ret_int (HX.out.symm.trans HVL.out.symm), HB.out⟩
  · have HX := hide (HX1.out rfl)
    clear HX0 HX1
    go_wp2
    go_ret
    exact ⟨ret_int (HX.out.trans HVL.out.symm), HB.out⟩
set_option maxRecDepth 20000 in
theorem room_any (r : Rs) (hg : RsG r) (v l : Int) (hv : 0 ≤ v ∧ v ≤ val r.st.ps l) (hl : 0 ≤ l ∧ l ≤ 16777216) (w : World) (hs : r.st.ok w) :
    Calls Tryz.prog 16 #[.agg r.arr, .int .i64 v, .int .i64 l] w fun e w' => e = .returned (.tuple #[.int .i64 (val r.st.ps l - v), .int .i64 0]) ∧ Below w.heap.size w w' := by
  have q0 := Blk.new w 27 r.arr
  have hb0 := bel1 (w := w) (o := .cells r.arr 27)
  have hs0 := hs.below hb0
  have hvi := val_in hg.st l
  have HK := hide (fun W h => sasked_ok r hg v l ⟨hv.1, by omega⟩ hl W h)
  have HV := hide (fun W h => value_any r.st l hg.st W h)
  unfold Rs.arr at q0 hb0 hs0 HK ⊢
  obtain ⟨c0, c1, c2, c3, c4, c5, cf⟩ := q0.facts6
  go_enter Tryz.func16, Tryz.ntmps16
  go_wp2_with fail
  generalize w.alloc _ = w1 at *
  refine (HK.out w1 hs0).mono ?_
  rintro e w2 ⟨rfl, hb2⟩
  have hs2 := Cv.ok.below hs0 hb2
  have q2 := q0.below hb2 q0.lt
  have hB2 := bthr hb0 hb2 hb0.size
  clear c0 c1 c2 c3 c4 c5 cf hs0 hb2 q0 hb0 hs HK
  obtain ⟨c0, c1, c2, c3, c4, c5, cf⟩ := q2.facts6
  go_wp2_with fail
  refine (HV.out w2 hs2).mono ?_
  rintro e w3 ⟨rfl, hb3⟩
  have HB := hide (bthr hB2 hb3 hB2.size)
  generalize hvl : val r.st.ps l = vl at *
  have HVL := hide hvl
  clear hvl
  obtain ⟨v0, v1⟩ := hv
  have hm : max (vl - v) 0 = vl - v := by omega
  clear c0 c1 c2 c3 c4 c5 cf hs2 hb3 q2 hB2 HV
  go_wp2
  go_ret2
  exact ⟨by rw [HVL.out]; rfl, HB.out⟩
set_option maxRecDepth 20000 in
theorem rvolume_any (r : Rs) (hg : RsG r) (l : Int) (hl : 0 ≤ l ∧ l ≤ 16777216) (w : World) (hs : r.st.ok w) :
    Calls Tryz.prog 15 #[.agg r.arr, .int .i64 l] w fun e w' => e = .returned (.tuple #[.int .i64 (val r.st.ps l), .int .i64 0]) ∧ Below w.heap.size w w' := by
  have q0 := Blk.new w 27 r.arr
  have hb0 := bel1 (w := w) (o := .cells r.arr 27)
  have hs0 := hs.below hb0
  have HK : Hid (∀ W, r.st.ok W → Calls Tryz.prog 39 #[.agg r.arr, .int .i64 l] W fun e w' => e = .returned (.int .i64 0) ∧ Below W.heap.size W w') := hide (by
    intro W hW
    have q0 := Blk.new W 27 r.arr
    have hb0 := bel1 (w := W) (o := .cells r.arr 27)
    have hs0 := hW.below hb0
    have HK := hide (fun W h => rscheck_ok r hg W h)
    obtain ⟨l0, l1⟩ := hl
    unfold Rs.arr at q0 hb0 hs0 HK ⊢
    obtain ⟨c0, c1, c2, c3, c4, c5, cf⟩ := q0.facts6
    go_enter Tryz.func39, Tryz.ntmps39
    go_wp2_with fail
    generalize W.alloc _ = w1 at *
    refine (HK.out w1 hs0).mono ?_
    rintro e w2 ⟨rfl, hb2⟩
    have HB := hide (bthr hb0 hb2 hb0.size)
    clear c0 c1 c2 c3 c4 c5 cf hs0 hb2 q0 hb0 hW
    go_wp2_with fail
    refine (rin_true _ _ (by omega) (by omega) _).mono ?_
    rintro e w' ⟨rfl, rfl⟩
    go_wp2
    go_ret
    exact ⟨rfl, HB.out⟩)
  have HV := hide (fun W h => rAt_ok r.st l hg.st W h)
  unfold Rs.arr at q0 hb0 hs0 HK ⊢
  obtain ⟨c0, c1, c2, c3, c4, c5, cf⟩ := q0.facts6
  go_enter Tryz.func15, Tryz.ntmps15
  go_wp2_with fail
  generalize w.alloc _ = w1 at *
  refine (HK.out w1 hs0).mono ?_
  rintro e w2 ⟨rfl, hb2⟩
  have hs2 := Cv.ok.below hs0 hb2
  have q2 := q0.below hb2 q0.lt
  have hB2 := bthr hb0 hb2 hb0.size
  clear c0 c1 c2 c3 c4 c5 cf hs0 hb2 q0 hb0 hs HK
  obtain ⟨c0, c1, c2, c3, c4, c5, cf⟩ := q2.facts6
  go_wp2_with fail
  refine (HV.out w2 hs2).mono ?_
  rintro e w3 ⟨rfl, hb3⟩
  have HB := hide (bthr hB2 hb3 hB2.size)
  clear c0 c1 c2 c3 c4 c5 cf hs2 hb3 q2 hB2 HV
  go_wp2
  go_ret2
  exact ⟨rfl, HB.out⟩
set_option maxRecDepth 20000 in
theorem volume_any (r : Rs) (hg : RsG r) (l : Int) (hl : 0 ≤ l ∧ l ≤ 16777216) (w : World) (hs : r.st.ok w) :
    Calls Tryz.prog 9 #[.agg r.arr, .int .i64 l] w fun e w' => e = .returned (.tuple #[.int .i64 (val r.st.ps l), .int .i64 0]) ∧ Below w.heap.size w w' := by
  have q0 := Blk.new w 27 r.arr
  have hb0 := bel1 (w := w) (o := .cells r.arr 27)
  have hs0 := hs.below hb0
  have HK := hide (fun W h => sasked_ok r hg 0 l ⟨by omega, by omega⟩ hl W h)
  have HV := hide (fun W h => value_any r.st l hg.st W h)
  unfold Rs.arr at q0 hb0 hs0 HK ⊢
  obtain ⟨c0, c1, c2, c3, c4, c5, cf⟩ := q0.facts6
  go_enter Tryz.func9, Tryz.ntmps9
  go_wp2_with fail
  generalize w.alloc _ = w1 at *
  refine (HK.out w1 hs0).mono ?_
  rintro e w2 ⟨rfl, hb2⟩
  have hs2 := Cv.ok.below hs0 hb2
  have q2 := q0.below hb2 q0.lt
  have hB2 := bthr hb0 hb2 hb0.size
  clear c0 c1 c2 c3 c4 c5 cf hs0 hb2 q0 hb0 hs HK
  obtain ⟨c0, c1, c2, c3, c4, c5, cf⟩ := q2.facts6
  go_wp2_with fail
  refine (HV.out w2 hs2).mono ?_
  rintro e w3 ⟨rfl, hb3⟩
  have HB := hide (bthr hB2 hb3 hB2.size)
  clear c0 c1 c2 c3 c4 c5 cf hs2 hb3 q2 hB2 HV
  go_wp2
  go_ret2
  exact ⟨rfl, HB.out⟩
end Go.Proofs.YtodamjjlnagpjaaGreatDoor
