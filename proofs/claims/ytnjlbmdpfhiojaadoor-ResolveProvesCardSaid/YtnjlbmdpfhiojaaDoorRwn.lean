/-
  If no condition yields the release is the one that is wanted, if it may be: the walk of ResolveWanted. Conditions: the table of kinds; the list can be read.
-/
import Derived.Test.YtnjlbmdpfhiojaaDoorProg
import Derived.Test.YtnjlbmdpfhiojaaDoorStw
import Derived.Test.YtnjlbmdpfhiojaaDoorRkp
namespace Go.Proofs.YtnjlbmdpfhiojaaDoor
open Go.RowKit

theorem ract_act {cs : List Cd} {d lv : Int} {n : Nat} {os : List Int} (ho : OrdOf cs n os) (hn : n = cs.length) {i : Int} : i ∈ ractL cs d lv os ↔ i ∈ actC cs d lv := by
  rw [actC_ract]
  unfold ractL
  rw [List.mem_filter, List.mem_filter, ho.2.mem_iff, ixs_mem]
  have h : i ∈ ordC cs ↔ 0 ≤ i ∧ i < cs.length := by
    constructor
    · exact ordC_mem i
    · intro hi
      have hp := (sortK_sorted (f := cmpC cs) (R := fun _ _ => True) (xs := idxs cs.length) (fun _ _ _ _ _ _ _ _ => trivial) (by
        exact List.Pairwise.imp (R := fun _ _ => True) (fun _ => ⟨fun _ => trivial, fun _ => trivial⟩) (List.pairwise_of_forall fun _ _ => trivial))).2
      exact hp.mem_iff.2 (idxs_mem.2 hi)
  rw [h, hn]
/-- Nothing is violated exactly if the release lies within what is left. -/
theorem broken_iff {cs : List Cd} {d lv bf g0 g1 q : Int} {n : Nat} {os : List Int} (ho : OrdOf cs n os) (hn : n = cs.length) (hgg : g0 ≤ g1) (h0 : g0 ≤ q) (h1 : q ≤ g1) (hy : (chAll bf cs g0 g1 (actC cs d lv)).ys = []) :
    keepL (fun i => kepC cs bf q i) (ractL cs d lv os) = [] ↔ (chAll bf cs g0 g1 (actC cs d lv)).lo ≤ q ∧ q ≤ (chAll bf cs g0 g1 (actC cs d lv)).hi := by
  rw [← wanted_iff hgg h0 h1 hy]
  unfold keepL
  rw [List.filter_eq_nil_iff]
  constructor
  · intro h i hi
    have h2 := h i ((ract_act ho hn).2 hi)
    simp [kepC, kepB] at h2
    exact h2
  · intro h i hi
    have h2 := h i ((ract_act ho hn).1 hi)
    simp [kepC, kepB]
    exact h2
theorem yield_ranks {cs : List Cd} {d lv bf g0 g1 : Int} (hgg : g0 ≤ g1) (hr : ∀ x ∈ cs, 1 ≤ x.rank ∧ x.rank ≤ 4) : ∀ y ∈ (chAll bf cs g0 g1 (actC cs d lv)).ys, (0 ≤ y.1 ∧ y.1 < cs.length) ∧ 1 ≤ rkC cs y.1 := by
  intro y hy
  have h := act_in _ ((ch_in (bf := bf) (cs := cs) hgg (actC cs d lv)).2.2.2 y hy)
  refine ⟨h, ?_⟩
  unfold rkC
  have hl : y.1.toNat < cs.length := by omega
  rw [List.getD_eq_getElem?_getD, List.getElem?_eq_getElem hl]
  exact (hr _ (List.getElem_mem hl)).1
set_option maxHeartbeats 1600000 in
set_option maxRecDepth 20000 in
theorem wanted_walk {A : Option Addr} {n c : Nat} {zs : List Int} {w : World} (hT : KT w) (hs : Sl w w.heap.size 1 A n c (ints zs)) : Calls Tryd.prog 5 #[.slice A n c] w fun e w' => e = .returned (.bool true) ∧ Below w.heap.size w w' := by
  have hw0 := hT.pos
  go_enter Tryd.func5, Tryd.ntmps5
  go_wp2_with fail
  refine (new_any _ _ _ _ _ hs).mono ?_
  rintro e w1 ⟨rfl, hD1, hb1⟩
  have hw1 := hD1.lt
  clear hs
  go_wp2_with fail
  refine (made_any _ _ hD1).mono ?_
  rintro e w2 ⟨A2, c2, cs, d, lv, bf, wn, g0, g1, rfl, hcl, hcg, hv, hd, hlv, hbf, hwn, h0, h01, h1, hD2, hg2⟩
  have hB2 := below_grown hb1 hg2 hb1.size (Nat.le_refl _)
  have HG := hide (fun x hx => good_err (hcg x hx))
  have HRK := hide (fun x hx => (hcg x hx).1)
  obtain ⟨m, hm⟩ : ∃ m, cs.length = m := ⟨_, rfl⟩
  have HM := hide hm
  rw [hm] at hcl hv
  simp only [hm]
  clear hD1 hb1 hcg hm hg2 hD2
  have q5 := Blk.new w2 30 #[.slice A2 m c2, .int .i64 d, .int .i64 lv, .int .i64 bf, .int .i64 wn, .int .i64 g0, .int .i64 g1]
  have hB3 := hB2.alloc hB2.size (.cells #[.slice A2 m c2, .int .i64 d, .int .i64 lv, .int .i64 bf, .int .i64 wn, .int .i64 g0, .int .i64 g1] 30)
  have hs3 := (sl_own hv).allocw (.cells #[.slice A2 m c2, .int .i64 d, .int .i64 lv, .int .i64 bf, .int .i64 wn, .int .i64 g0, .int .i64 g1] 30)
  have hT3 := hT.below hB3 hw0
  obtain ⟨⟨y0, y1, y2, y3, y4, y5, y6⟩, _⟩ := Blk.facts7 q5
  have HW := hide (show wit d 364 = true ∧ wit lv 16777216 = true ∧ wit bf 1073741824 = true ∧ wit wn 1073741824 = true ∧ wit g0 1073741824 = true ∧ wit g1 1073741824 = true from ⟨wit_of (by omega) (by omega), wit_of (by omega) (by omega), wit_of (by omega) (by omega), wit_of (by omega) (by omega), wit_of (by omega) (by omega), wit_of (by omega) (by omega)⟩)
  clear hv hB2 hd hlv hbf hwn
  go_wp2_with fail
  generalize w2.alloc _ = w3 at *
  generalize w2.heap.size = g5 at *
  with_reducible refine (Choose_ok A2 m c2 cs d lv bf g0 g1 wn w3 hT3 (by omega) HG.out HW.out.1 HW.out.2.1 HW.out.2.2.1 HW.out.2.2.2.1 HW.out.2.2.2.2.1 HW.out.2.2.2.2.2 h01 hs3).mono ?_
  rintro e w4 ⟨s, A4, c4, hs4, rfl, hy4, hb4⟩
  rcases s with ⟨lo, hi, lb, mb, ys, f0, f1⟩
  simp only at hy4 ⊢
  obtain ⟨rl, hrl⟩ : ∃ rl, chRel wn ⟨lo, hi, lb, mb, ys, f0, f1⟩ = rl := ⟨_, rfl⟩
  have HRL := hide hrl
  rw [hrl]
  clear hrl
  have HS4 := hide hs4
  obtain ⟨p, hp⟩ : ∃ p, ys.length = p := ⟨_, rfl⟩
  have HP := hide hp
  rw [hp] at hy4
  simp only [hp]
  have q5b := (q5.below hb4 q5.lt).alloc (.cells #[.int .i64 rl, .int .i64 lo, .int .i64 hi, .slice A4 p c4] 35)
  have q6 := Blk.new w4 35 #[.int .i64 rl, .int .i64 lo, .int .i64 hi, .slice A4 p c4]
  have hB5 := (bthr hB3 hb4 hB3.size).alloc (bthr hB3 hb4 hB3.size).size (.cells #[.int .i64 rl, .int .i64 lo, .int .i64 hi, .slice A4 p c4] 35)
  have hs5 := (hs3.thr hb4).allocw (.cells #[.int .i64 rl, .int .i64 lo, .int .i64 hi, .slice A4 p c4] 35)
  have hy5 := (sl_own hy4).allocw (.cells #[.int .i64 rl, .int .i64 lo, .int .i64 hi, .slice A4 p c4] 35)
  clear q5 hs4 hp hB3 hb4 hs3 hy4 hT3 y0 y1 y2 y3 y4 y5 y6
  obtain ⟨⟨y0, y1, y2, y3, y4, y5, y6⟩, _⟩ := Blk.facts7 q5b
  obtain ⟨c60, c61, c62, c63, _⟩ := q6.facts4
  have HS5 := hide hs5
  have HY5 := hide hy5
  have HB5 := hide hB5
  have HQ5 := hide q5b
  have HQ6 := hide q6
  have hT5 := hT.below hB5 hw0
  clear hs5 hy5 hB5 q5b q6
  go_upto_region 3 with fail
  generalize w4.alloc _ = w5 at *
  generalize w4.heap.size = g6 at *
  have hci := ch_in (bf := bf) (cs := cs) h01 (actC cs d lv)
  have HYR := hide (yield_ranks (d := d) (lv := lv) (bf := bf) h01 HRK.out)
  rw [← HS4.out] at hci HYR
  simp only at hci HYR
  obtain ⟨hc0, hc1, hc2, -⟩ := hci
  have hr0 := rel_in (wn := wn) (s := ⟨lo, hi, lb, mb, ys, f0, f1⟩) hc2
  rw [HRL.out] at hr0
  simp only at hr0
  obtain ⟨hr0, hr1⟩ := hr0
  have HBI := hide (fun (q : Int) (os : List Int) (n : Nat) (ho : OrdOf cs n os) (hn : n = cs.length) (h0 : g0 ≤ q) (h1 : q ≤ g1) => broken_iff (d := d) (lv := lv) (bf := bf) ho hn h01 h0 h1)
  rw [← HS4.out] at HBI
  simp only at HBI
  by_cases hys : ys = []
  · have HR2 := hide (show rclB wn lo hi = rl by
      rw [← HRL.out]; unfold rclB chRel; simp only; rw [if_neg (by omega), if_pos hys])
    have hp0 : p = 0 := by rw [← HP.out, hys]; rfl
    subst hp0
    have HYS := hide hys
    clear hys
    have q9 := Blk.new w5 3 #[.int .i64 wn, .int .i64 lo, .int .i64 hi, .int .i64 (lo - 1), .int .i64 (hi + 1)]
    have hk9 := q9.facts.1
    have HEI : Hid (∀ j, j < 5 → ∃ x : Int, (w5.alloc (.cells #[.int .i64 wn, .int .i64 lo, .int .i64 hi, .int .i64 (lo - 1), .int .i64 (hi + 1)] 3)).cell? ⟨w5.heap.size, j, none⟩ = some (.int .i64 x)) := hide (fun j hj => by
      match j, hj with
      | 0, _ => exact ⟨_, hk9 0⟩
      | 1, _ => exact ⟨_, hk9 1⟩
      | 2, _ => exact ⟨_, hk9 2⟩
      | 3, _ => exact ⟨_, hk9 3⟩
      | 4, _ => exact ⟨_, hk9 4⟩)
    have hb9 := bel1 (w := w5) (o := .cells #[.int .i64 wn, .int .i64 lo, .int .i64 hi, .int .i64 (lo - 1), .int .i64 (hi + 1)] 3)
    have HS9 := hide (HS5.out.thr hb9)
    have HY9 := hide (HY5.out.thr hb9)
    have HB9 := hide (bthr HB5.out hb9 HB5.out.size)
    have HQ59 := hide (HQ5.out.below hb9 HQ5.out.lt)
    have HQ69 := hide (HQ6.out.below hb9 HQ6.out.lt)
    have HT9 := hide (hT5.below hb9 hT5.pos)
    clear q9 hk9 hb9 hT5
    go_wp2
    generalize w5.alloc _ = w9 at *
    generalize w5.heap.size = g9 at *
    clear y0 y1 y2 y3 y4 y5 y6 c60 c61 c62 c63
    go_loopw [87] (fun i wr => ∃ j : Nat, j ≤ 5 ∧ i = .int .i64 j ∧ Below w9.heap.size w9 wr) (fun i _ => 5 - (intOf i).toNat)
    case atStart => exact ⟨0, by omega, rfl, Below.refl _ _⟩
    case round =>
      obtain ⟨j, hj, rfl, hb⟩ := hrel
      obtain ⟨⟨y0, y1, y2, y3, y4, y5, y6⟩, _⟩ := Blk.facts7 (HQ59.out.below hb HQ59.out.lt)
      obtain ⟨c60, c61, c62, c63, _⟩ := (HQ69.out.below hb HQ69.out.lt).facts4
      by_cases hj5 : j < 5
      · obtain ⟨q, hq⟩ := HEI.out j hj5
        have cq := cell_thr hb hq
        have hji : (j : Int) < 5 := by omega
        have HB := hide hb
        clear hq hb
        by_cases hq0 : q < g0
        · go_wp2
          go_roundw
          case rel => exact ⟨j + 1, by omega, by go_num, HB.out⟩
          case measure => simp [intOf]; omega
        · by_cases hq1 : g1 < q
          · go_wp2
            go_roundw
            case rel => exact ⟨j + 1, by omega, by go_num, HB.out⟩
            case measure => simp [intOf]; omega
          · go_wp2_with fail
            with_reducible refine (rkept_ok A2 m c2 cs d lv bf q wr (by omega) HG.out HW.out.1 HW.out.2.1 (wit_iff.1 HW.out.2.2.1) (by omega) (HS9.out.thr HB.out)).mono ?_
            rintro e w10 ⟨A10, c10, A11, c11, os, ho, rfl, -, -, hb10⟩
            have hbi := HBI.out q os m ho HM.out.symm (by omega) (by omega) HYS.out
            have HBB := hide (HB.out.trans (hb10.mono HB.out.size))
            clear ho y0 y1 y2 y3 y4 y5 y6 c60 c61 c62 c63 cq
            obtain ⟨c60, c61, c62, c63, _⟩ := (HQ69.out.below HBB.out HQ69.out.lt).facts4
            clear hb10
            generalize keepL (fun i => kepC cs bf q i) (ractL cs d lv os) = L at *
            generalize keepL (fun i => !kepC cs bf q i) (ractL cs d lv os) = L2 at *
            by_cases hL : L = []
            · obtain ⟨b0, b1⟩ := hbi.1 hL
              have hl0 : ((L.length : Int) == 0) = true := by rw [hL]; rfl
              clear hbi hL
              go_wp2
              go_roundw
              case rel => exact ⟨j + 1, by omega, by go_num, HBB.out⟩
              case measure => simp [intOf]; omega
            · have hb2 : ¬ (lo ≤ q ∧ q ≤ hi) := fun h => hL (hbi.2 h)
              have hl0 : ((L.length : Int) == 0) = false := by
                have : L.length ≠ 0 := fun e => hL (List.eq_nil_of_length_eq_zero e)
                simp; omega
              clear hbi hL
              by_cases b0 : lo ≤ q
              · have b1 : ¬ q ≤ hi := fun h => hb2 ⟨b0, h⟩
                clear hb2
                go_wp2
                go_roundw
                case rel => exact ⟨j + 1, by omega, by go_num, HBB.out⟩
                case measure => simp [intOf]; omega
              · clear hb2
                go_wp2
                go_roundw
                case rel => exact ⟨j + 1, by omega, by go_num, HBB.out⟩
                case measure => simp [intOf]; omega
      · have hji : ¬ ((j : Int) < 5) := by omega
        have HB := hide hb
        have hTr := HT9.out.below hb HT9.out.pos
        have HSr := hide (HS9.out.thr hb)
        have HYr := hide (HY9.out.thr hb)
        clear hb
        have hne : Nonempty (InW fun W => Below wr.heap.size wr W) := ⟨⟨wr, Below.refl _ _⟩⟩
        have HC1 := hide (fun (W : World) => rclamp_any wn lo hi W)
        rw [HR2.out] at HC1
        have HC2 := hide (fun (W : World) (hW : Below wr.heap.size wr W) => worst_any A2 A4 m c2 0 c4 cs ys rl lo hi W (HSr.out.thr hW) (HYr.out.thr hW))
        rw [show worstF cs ys = 0 by rw [HYS.out]; rfl] at HC2
        have HC3 := hide (fun (W : World) (hW : Below wr.heap.size wr W) => awake_any W (hTr.below hW hTr.pos))
        have hrr : (rl == rl) = true := by simp
        replace y0 := inv_cell y0
        replace y4 := inv_cell y4
        replace c60 := inv_cell c60
        replace c61 := inv_cell c61
        replace c62 := inv_cell c62
        replace c63 := inv_cell c63
        clear y1 y2 y3 y5 y6
        go_wp2_with fail
        refine wp_region_inv (I := fun W => Below wr.heap.size wr W) (by kernel_rfl) (by kernel_rfl) (Below.refl _ _).drew ?_
        repeat (go_big_quiet_step (first | (go_at_call 18; refine inv_call (inv_closed wr) (HC1.out _)) | (go_at_call 16; refine inv_call (inv_closed wr) (HC2.out _ (InW.ok _))) | (go_at_call 9; refine inv_call (inv_closed wr) (HC3.out _ (InW.ok _)))))
        refine wpQuiet_nil ?_
        rintro _ ⟨⟨wz, hz⟩, rfl⟩
        have HBZ := hide (bthr HB9.out (HB.out.trans (hz.mono HB.out.size)) HB9.out.size)
        clear hz hne y0 y4 c60 c61 c62 c63 HC1 HC2 HC3
        go_wp2
        go_ret
        exact ⟨rfl, HBZ.out⟩
  · have hp0 : 0 < p := by rw [← HP.out]; exact List.length_pos_iff.2 hys
    have hpi : (0 : Int) < (p : Int) := by omega
    have hwp := worst_pos ys HYR.out hys
    have HWW := hide (worst_any A2 A4 m c2 p c4 cs ys rl lo hi w5 HS5.out HY5.out)
    generalize worstF cs ys = ww at *
    clear hys
    go_wp2_with fail
    refine HWW.out.mono ?_
    rintro e w6 ⟨rfl, hb6⟩
    have hB6 := bthr HB5.out hb6 HB5.out.size
    have hT6 := hT.below hB6 hw0
    have HB6 := hide hB6
    clear hb6 hB6 HWW
    go_wp2_with fail
    refine (awake_any _ hT6).mono ?_
    rintro e w7 ⟨rfl, hb7⟩
    have HB7 := hide (bthr HB6.out hb7 HB6.out.size)
    clear hb7
    go_wp2
    go_ret
    exact ⟨rfl, HB7.out⟩
end Go.Proofs.YtnjlbmdpfhiojaaDoor
