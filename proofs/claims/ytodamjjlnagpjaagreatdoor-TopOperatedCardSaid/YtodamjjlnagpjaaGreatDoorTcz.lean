/-
  The contract of curve.Value: the value of a curve at a place. Condition: the curve lies in memory and is one of small numbers.
  The contracts of curve.Check, curve.Last, and of the reference's Check, at, At, at valid curves. Condition: the curve lies in memory and is one of small numbers.
  The contracts of curve.Last and of the reference's at, At at valid curves. Condition: the curve lies in memory and is one of small numbers.
  The contracts of curve.Last and of the reference's At at valid curves. Condition: the curve lies in memory and is one of small numbers.
-/
import Derived.Test.YtodamjjlnagpjaaGreatDoorProg
import Derived.Test.YtodamjjlnagpjaaGreatDoorTpd
import Derived.Deep.DeepCutAuto
import Derived.Deep.RegionLaw
import Derived.Deep.RegionHeld3
import Derived.Test.YtodamjjlnagpjaaGreatDoorPushN
import Derived.Test.YtodamjjlnagpjaaGreatDoorExt
namespace Go.Proofs.YtodamjjlnagpjaaGreatDoor
open Go.RowKit

theorem prod_small {a b : Int} (ha : 0 ≤ a ∧ a ≤ 2000) (hb : 0 ≤ b ∧ b ≤ 2000) : 0 ≤ a * b ∧ a * b ≤ 4000000 :=
  ⟨Int.mul_nonneg ha.1 hb.1, by have := Int.mul_le_mul ha.2 hb.2 hb.1 (by omega); omega⟩
theorem CvG.at_ {ps : List Pt} (h : CvG 2000 ps) {k : Nat} (hk : k < ps.length) : (0 ≤ ps[k].x ∧ ps[k].x ≤ 2000) ∧ 0 ≤ ps[k].y ∧ ps[k].y ≤ 2000 := h.bd _ (List.getElem_mem hk)
set_option maxHeartbeats 1600000 in
set_option maxRecDepth 20000 in
theorem value_any (cv : Cv) (x : Int) (hg : CvG 2000 cv.ps) (w : World) (hs : cv.ok w) :
    Calls Tryz.prog 24 #[cv.v, .int .i64 x] w fun e w' => e = .returned (.int .i64 (val cv.ps x)) ∧ Below w.heap.size w w' := by
  have HL := hide hs.len
  obtain ⟨b, o, hA, hb, hc⟩ := hs.block hg.ne
  obtain ⟨A, n, c, ps⟩ := cv
  simp only at hA hc HL hg
  unfold Cv.v
  simp only
  subst hA
  have HC := hide (show ∀ (W : World), Below w.heap.size w W → ∀ (k : Nat) (hk : k < ps.length), W.cell? ⟨b, o + k * 2, none⟩ = some (.int .i64 ps[k].x) ∧ W.cell? ⟨b, o + k * 2 + 1, none⟩ = some (.int .i64 ps[k].y) from fun W hW k hk => ⟨cell_thr hW (hc k hk).1, cell_thr hW (hc k hk).2⟩)
  have HG := hide hg
  have hne := hg.ne
  have hn1 : 0 < n := by have := HL.out; have := hg.ne; omega
  have hn100 : n ≤ 100 := by have := HL.out; have := hg.le; omega
  have HV0 := hide (fun h => val_first (ps := ps) (x := x) hne h)
  have HV1 := hide (fun i h hp hx => val_at (ps := ps) (x := x) (i := i) h hp hx)
  have HV2 := hide (fun hp => val_end (ps := ps) (x := x) hne hp)
  generalize val ps x = vl at *
  clear hs hc hg
  go_enter Tryz.func24, Tryz.ntmps24
  go_wp2
  go_loopw [10] (fun i wr => ∃ k : Nat, k ≤ n ∧ i = .int .i64 k ∧ Hid (∀ j (hj : j < k) (h : j < ps.length), ps[j].x < x) ∧ Below w.heap.size w wr) (fun i _ => n - (intOf i).toNat)
  case atStart => exact ⟨0, by omega, rfl, hide (fun j hj => by omega), Below.refl _ _⟩
  case round =>
    obtain ⟨k, hk, rfl, HP, hb2⟩ := hrel
    have HB := hide hb2
    by_cases hlt : k < n
    · have hkl : k < ps.length := by have := HL.out; omega
      have hki : (k : Int) < (n : Int) := by omega
      obtain ⟨e0, e1⟩ := HC.out wr hb2 k hkl
      have hpb := HG.out.at_ hkl
      have HV0k := hide (fun (h0 : k = 0) (h : x ≤ (ps[k]'hkl).x) => show vl = (ps[k]'hkl).y from by subst h0; exact HV0.out h)
      have HV1k := hide (fun (i : Nat) (hi : k = i + 1) (h : x ≤ (ps[k]'hkl).x) => show ∃ hi2 : i < ps.length, vl = (ps[i]'hi2).y + ((ps[k]'hkl).y - (ps[i]'hi2).y) * (x - (ps[i]'hi2).x) / ((ps[k]'hkl).x - (ps[i]'hi2).x) ∧ (ps[i]'hi2).x < x ∧ (ps[i]'hi2).x < (ps[k]'hkl).x ∧ (ps[i]'hi2).y ≤ (ps[k]'hkl).y from by
        subst hi
        exact ⟨by omega, HV1.out i hkl (fun j hj => HP.out j hj (by omega)) h, HP.out i (by omega) (by omega), HG.out.up i hkl⟩)
      have HPN := hide (fun (h : (ps[k]'hkl).x < x) => show ∀ j (hj : j < k + 1) (h : j < ps.length), ps[j].x < x from fun j hj h2 => by
        by_cases hjk : j = k
        · subst hjk; exact h
        · exact HP.out j (by omega) h2)
      generalize ps[k]'hkl = pk at *
      obtain ⟨px, py⟩ := pk
      simp only at e0 e1 hpb HV0k HV1k HPN
      have q1 := Blk.new wr 57 #[.int .i64 px, .int .i64 py]
      have hb5 := hb2.alloc hb2.size (.cells #[.int .i64 px, .int .i64 py] 57)
      clear HP HV0 HV1 HV2 hb2
      go_upto_region 4 with fail
      clear e0 e1
      generalize wr.alloc _ = w5 at *
      generalize wr.heap.size = g5 at *
      obtain ⟨x0, x1, xf⟩ := q1.facts2
      by_cases hx : x ≤ px
      · by_cases hk0 : k = 0
        · have HX := hide (HV0k.out hk0 hx)
          have HB5 := hide hb5
          subst hk0
          clear HV0k HV1k HPN q1 hb5
          go_wp2
          go_ret
          exact ⟨ret_int HX.out.symm, HB5.out⟩
        · obtain ⟨i, hi⟩ : ∃ i : Nat, k = i + 1 := ⟨k - 1, by omega⟩
          obtain ⟨hi2, hvl, hqx, hqp, hqy⟩ := HV1k.out i hi hx
          obtain ⟨e0, e1⟩ := HC.out w5 hb5 i hi2
          have hqb := HG.out.at_ hi2
          generalize ps[i]'hi2 = qk at *
          obtain ⟨qx, qy⟩ := qk
          simp only at e0 e1 hqb hvl hqx hqp hqy
          have hii : (k : Int) - 1 = (i : Int) := by omega
          have hin : i < n := by omega
          have hini : (i : Int) < (n : Int) := by omega
          have hk0i : ((k : Int) == 0) = false := by simp; omega
          have q2 := Blk.new w5 57 #[.int .i64 qx, .int .i64 qy]
          have HB6 := hide (hb5.alloc hb5.size (.cells #[.int .i64 qx, .int .i64 qy] 57))
          have r5 := q1.alloc (.cells #[.int .i64 qx, .int .i64 qy] 57)
          clear HV0k HV1k HPN hb5 HC HG hi hi2
          go_upto_region 8 with fail
          clear e0 e1 x0 x1 xf
          generalize w5.alloc _ = w6 at *
          generalize w5.heap.size = g6 at *
          obtain ⟨y0, y1, yf⟩ := q2.facts2
          obtain ⟨z0, z1, zf⟩ := r5.facts2
          obtain ⟨p0, p1⟩ := prod_small (a := py - qy) (b := x - qx) (by omega) (by omega)
          obtain ⟨s0, s1⟩ := seg_in (a := py - qy) (b := x - qx) (c := px - qx) (by omega) ⟨by omega, by omega⟩ (by omega) rfl
          have HX := hide hvl
          obtain ⟨⟨_, _⟩, _, _⟩ := hpb
          obtain ⟨⟨_, _⟩, _, _⟩ := hqb
          clear hvl
          go_quiet (fail)
          go_wp2
          go_ret
          exact ⟨ret_int HX.out.symm, below_drewN HB6.out _⟩
      · have HP2 := hide (HPN.out (by omega))
        have HB5 := hide hb5
        clear HV0k HV1k HPN q1 hb5
        go_wp2
        go_roundw
        case rel => exact ⟨k + 1, by omega, by go_num, HP2, HB5.out⟩
        case measure => simp [intOf]; omega
    · have hki : ¬ ((k : Int) < (n : Int)) := by omega
      have hl := HL.out
      obtain ⟨i, hi⟩ : ∃ i : Nat, n = i + 1 := ⟨n - 1, by omega⟩
      have HX := hide (show vl = (ps[i]'(by omega)).y from by
        rw [HV2.out (fun j hj => HP.out j (by omega) hj)]
        congr 2; omega)
      obtain ⟨e0, e1⟩ := HC.out wr hb2 i (by omega)
      have hii : (n : Int) - 1 = (i : Int) := by omega
      have hini : (i : Int) < (n : Int) := by omega
      have hin : i < n := by omega
      generalize ps[i]'_ = qk at *
      obtain ⟨qx, qy⟩ := qk
      simp only at e0 e1 HX
      clear HV0 HV1 HV2 HP HC hi hl hb2
      go_wp2
      go_ret
      exact ⟨ret_int HX.out.symm, HB.out⟩
end Go.Proofs.YtodamjjlnagpjaaGreatDoor
namespace Go.Proofs.YtodamjjlnagpjaaGreatDoor
open Go.RowKit

theorem within_true (n m : Int) (h0 : 0 ≤ n) (h1 : n ≤ m) (w : World) : Calls Tryz.prog 30 #[.int .i64 n, .int .i64 m] w fun e w' => e = .returned (.bool true) ∧ w' = w := by
  go_enter Tryz.func30, Tryz.ntmps30
  go_wp2
  go_ret
  exact ⟨rfl, rfl⟩
theorem rin_true (n m : Int) (h0 : 0 ≤ n) (h1 : n ≤ m) (w : World) : Calls Tryz.prog 33 #[.int .i64 n, .int .i64 m] w fun e w' => e = .returned (.bool true) ∧ w' = w := by
  go_enter Tryz.func33, Tryz.ntmps33
  go_wp2
  go_ret
  exact ⟨rfl, rfl⟩
theorem quo_great {dx : Int} (h0 : 0 < dx) (h1 : dx ≤ 2000) : 2000 ≤ 4611686018427387904 / dx ∧ 4611686018427387904 / dx ≤ 4611686018427387904 := by
  constructor
  · exact Int.le_ediv_of_mul_le h0 (by omega)
  · exact Int.ediv_le_self _ (by omega)
theorem steep_false (dx dy : Int) (h0 : 0 < dx) (h1 : dx ≤ 2000) (h2 : 0 ≤ dy) (h3 : dy ≤ 2000) (w : World) : Calls Tryz.prog 99 #[.int .i64 dx, .int .i64 dy] w fun e w' => e = .returned (.bool false) ∧ w' = w := by
  obtain ⟨q0, q1⟩ := quo_great h0 h1
  have hq : decide (4611686018427387904 / dx < dy) = false := by simp; omega
  go_enter Tryz.func99, Tryz.ntmps99
  go_wp2
  go_ret
  exact ⟨rfl, rfl⟩
set_option maxHeartbeats 1600000 in
set_option maxRecDepth 20000 in
theorem cvck_ok (cv : Cv) (hg : CvG 2000 cv.ps) (w : World) (hs : cv.ok w) :
    Calls Tryz.prog 74 #[cv.v] w fun e w' => e = .returned (.int .i64 0) ∧ Below w.heap.size w w' := by
  have HL := hide hs.len
  obtain ⟨b, o, hA, hb, hc⟩ := hs.block hg.ne
  obtain ⟨A, n, c, ps⟩ := cv
  simp only at hA hc HL hg
  unfold Cv.v
  simp only
  subst hA
  have HC := hide (show ∀ (W : World), Below w.heap.size w W → ∀ (k : Nat) (hk : k < ps.length), W.cell? ⟨b, o + k * 2, none⟩ = some (.int .i64 ps[k].x) ∧ W.cell? ⟨b, o + k * 2 + 1, none⟩ = some (.int .i64 ps[k].y) from fun W hW k hk => ⟨cell_thr hW (hc k hk).1, cell_thr hW (hc k hk).2⟩)
  have HG := hide hg
  have hn1 : 0 < n := by have := HL.out; have := hg.ne; omega
  have hn100 : n ≤ 100 := by have := HL.out; have := hg.le; omega
  have hz0 : ((n : Int) == 0) = false := by simp; omega
  have hz1 : decide ((100 : Int) < (n : Int)) = false := by simp; omega
  clear hs hc hg
  go_enter Tryz.func74, Tryz.ntmps74
  go_wp2
  go_loopw [16] (fun i wr => ∃ k : Nat, k ≤ n ∧ i = .int .i64 k ∧ Below w.heap.size w wr) (fun i _ => n - (intOf i).toNat)
  case atStart => exact ⟨0, by omega, rfl, Below.refl _ _⟩
  case round =>
    obtain ⟨k, hk, rfl, hb2⟩ := hrel
    have HB := hide hb2
    by_cases hlt : k < n
    · have hkl : k < ps.length := by have := HL.out; omega
      have hki : (k : Int) < (n : Int) := by omega
      obtain ⟨e0, e1⟩ := HC.out wr hb2 k hkl
      have hpb := HG.out.at_ hkl
      have HU := hide (fun (i : Nat) (hi : k = i + 1) => show ∃ hi2 : i < ps.length, (ps[i]'hi2).x < (ps[k]'hkl).x ∧ (ps[i]'hi2).y ≤ (ps[k]'hkl).y from by
        subst hi
        exact ⟨by omega, HG.out.up i hkl⟩)
      generalize ps[k]'hkl = pk at *
      obtain ⟨px, py⟩ := pk
      simp only at e0 e1 hpb HU
      have q1 := Blk.new wr 57 #[.int .i64 px, .int .i64 py]
      have hb5 := hb2.alloc hb2.size (.cells #[.int .i64 px, .int .i64 py] 57)
      clear hb2
      go_upto_region 8 with fail
      clear e0 e1
      generalize wr.alloc _ = w5 at *
      generalize wr.heap.size = g5 at *
      obtain ⟨x0, x1, xf⟩ := q1.facts2
      go_wp2_with fail
      refine (within_true _ _ (by omega) (by omega) _).mono ?_
      rintro e w' ⟨rfl, rfl⟩
      go_wp2_with fail
      refine (within_true _ _ (by omega) (by omega) _).mono ?_
      rintro e w' ⟨rfl, rfl⟩
      by_cases hk0 : k = 0
      · have HB5 := hide hb5
        have hk0i : (k : Int) = 0 := by omega
        clear HU q1 hb5
        go_wp2
        go_roundw
        case rel => exact ⟨k + 1, by omega, by go_num, HB5.out⟩
        case measure => simp [intOf]; omega
      · obtain ⟨i, hi⟩ : ∃ i : Nat, k = i + 1 := ⟨k - 1, by omega⟩
        obtain ⟨hi2, hqp, hqy⟩ := HU.out i hi
        rename World => w5
        obtain ⟨e0, e1⟩ := HC.out w5 hb5 i hi2
        have hqb := HG.out.at_ hi2
        generalize ps[i]'hi2 = qk at *
        obtain ⟨qx, qy⟩ := qk
        simp only at e0 e1 hqb hqp hqy
        have hii : (k : Int) - 1 = (i : Int) := by omega
        have hin : i < n := by omega
        have hini : (i : Int) < (n : Int) := by omega
        have hk0i : ¬ (k : Int) = 0 := by omega
        have q2 := Blk.new w5 57 #[.int .i64 qx, .int .i64 qy]
        have HB6 := hide (hb5.alloc hb5.size (.cells #[.int .i64 qx, .int .i64 qy] 57))
        have r5 := q1.alloc (.cells #[.int .i64 qx, .int .i64 qy] 57)
        clear HU hb5 HC HG hi hi2
        obtain ⟨⟨_, _⟩, _, _⟩ := hpb
        obtain ⟨⟨_, _⟩, _, _⟩ := hqb
        go_upto_region 12 with fail
        clear e0 e1 x0 x1 xf
        generalize w5.alloc _ = w6 at *
        generalize w5.heap.size = g6 at *
        obtain ⟨y0, y1, yf⟩ := q2.facts2
        obtain ⟨z0, z1, zf⟩ := r5.facts2
        go_wp2_with fail
        refine (steep_false _ _ (by omega) (by omega) (by omega) (by omega) _).mono ?_
        rintro e w' ⟨rfl, rfl⟩
        go_wp2
        go_roundw
        case rel => exact ⟨k + 1, by omega, by go_num, HB6.out⟩
        case measure => simp [intOf]; omega
    · have hki : ¬ ((k : Int) < (n : Int)) := by omega
      clear hb2 HC
      go_wp2
      go_ret
      exact ⟨rfl, HB.out⟩
set_option maxHeartbeats 1600000 in
set_option maxRecDepth 20000 in
theorem rcvck_ok (cv : Cv) (hg : CvG 2000 cv.ps) (w : World) (hs : cv.ok w) :
    Calls Tryz.prog 67 #[cv.v] w fun e w' => e = .returned (.int .i64 0) ∧ Below w.heap.size w w' := by
  have HL := hide hs.len
  obtain ⟨b, o, hA, hb, hc⟩ := hs.block hg.ne
  obtain ⟨A, n, c, ps⟩ := cv
  simp only at hA hc HL hg
  unfold Cv.v
  simp only
  subst hA
  have HC := hide (show ∀ (W : World), Below w.heap.size w W → ∀ (k : Nat) (hk : k < ps.length), W.cell? ⟨b, o + k * 2, none⟩ = some (.int .i64 ps[k].x) ∧ W.cell? ⟨b, o + k * 2 + 1, none⟩ = some (.int .i64 ps[k].y) from fun W hW k hk => ⟨cell_thr hW (hc k hk).1, cell_thr hW (hc k hk).2⟩)
  have HG := hide hg
  have hn1 : 0 < n := by have := HL.out; have := hg.ne; omega
  have hn100 : n ≤ 100 := by have := HL.out; have := hg.le; omega
  have hz0 : ((n : Int) == 0) = false := by simp; omega
  have hz1 : decide ((100 : Int) < (n : Int)) = false := by simp; omega
  clear hs hc hg
  go_enter Tryz.func67, Tryz.ntmps67
  go_wp2
  go_loopw [15] (fun i wr => ∃ k : Nat, k ≤ n ∧ i = .int .i64 k ∧ Below w.heap.size w wr) (fun i _ => n - (intOf i).toNat)
  case atStart => exact ⟨0, by omega, rfl, Below.refl _ _⟩
  case round =>
    obtain ⟨k, hk, rfl, hb2⟩ := hrel
    have HB := hide hb2
    by_cases hlt : k < n
    · have hkl : k < ps.length := by have := HL.out; omega
      have hki : (k : Int) < (n : Int) := by omega
      obtain ⟨e0, e1⟩ := HC.out wr hb2 k hkl
      have hpb := HG.out.at_ hkl
      have HU := hide (fun (i : Nat) (hi : k = i + 1) => show ∃ hi2 : i < ps.length, (ps[i]'hi2).x < (ps[k]'hkl).x ∧ (ps[i]'hi2).y ≤ (ps[k]'hkl).y from by
        subst hi
        exact ⟨by omega, HG.out.up i hkl⟩)
      generalize ps[k]'hkl = pk at *
      obtain ⟨px, py⟩ := pk
      simp only at e0 e1 hpb HU
      have q1 := Blk.new wr 57 #[.int .i64 px, .int .i64 py]
      have hb5 := hb2.alloc hb2.size (.cells #[.int .i64 px, .int .i64 py] 57)
      clear hb2
      go_upto_region 8 with fail
      clear e0 e1
      generalize wr.alloc _ = w5 at *
      generalize wr.heap.size = g5 at *
      obtain ⟨x0, x1, xf⟩ := q1.facts2
      go_wp2_with fail
      refine (rin_true _ _ (by omega) (by omega) _).mono ?_
      rintro e w' ⟨rfl, rfl⟩
      go_wp2_with fail
      refine (rin_true _ _ (by omega) (by omega) _).mono ?_
      rintro e w' ⟨rfl, rfl⟩
      by_cases hk0 : k = 0
      · have HB5 := hide hb5
        have hk0i : (k : Int) = 0 := by omega
        clear HU q1 hb5
        go_wp2
        go_roundw
        case rel => exact ⟨k + 1, by omega, by go_num, HB5.out⟩
        case measure => simp [intOf]; omega
      · obtain ⟨i, hi⟩ : ∃ i : Nat, k = i + 1 := ⟨k - 1, by omega⟩
        obtain ⟨hi2, hqp, hqy⟩ := HU.out i hi
        rename World => w5
        obtain ⟨e0, e1⟩ := HC.out w5 hb5 i hi2
        have hqb := HG.out.at_ hi2
        generalize ps[i]'hi2 = qk at *
        obtain ⟨qx, qy⟩ := qk
        simp only at e0 e1 hqb hqp hqy
        have hii : (k : Int) - 1 = (i : Int) := by omega
        have hin : i < n := by omega
        have hini : (i : Int) < (n : Int) := by omega
        have hk0i : ¬ (k : Int) = 0 := by omega
        have HB6 := hide hb5
        clear HU hb5 HC HG hi hi2
        obtain ⟨⟨_, _⟩, _, _⟩ := hpb
        obtain ⟨⟨_, _⟩, _, _⟩ := hqb
        obtain ⟨dx, hdx⟩ : ∃ dx, px - qx = dx := ⟨_, rfl⟩
        obtain ⟨dy, hdy⟩ : ∃ dy, py - qy = dy := ⟨_, rfl⟩
        obtain ⟨d0, d1⟩ := quo_great (dx := dx) (by omega) (by omega)
        go_wp2_with fail
        go_quiet (fail)
        go_wp2
        go_roundw
        case rel => exact ⟨k + 1, by omega, by go_num, below_drewN HB6.out _⟩
        case measure => simp [intOf]; omega
    · have hki : ¬ ((k : Int) < (n : Int)) := by omega
      clear hb2 HC
      go_wp2
      go_ret
      exact ⟨rfl, HB.out⟩
end Go.Proofs.YtodamjjlnagpjaaGreatDoor
namespace Go.Proofs.YtodamjjlnagpjaaGreatDoor
open Go.RowKit

/-- Two new blocks, laid in either order. -/
def TwoCut (w : World) (t1 t2 : TypeId) (c1 c2 : Array Value) (v1 v2 : Value) (wx : World) : Prop := ∃ g h : Nat, v1 = .pointer (some ⟨g, 0, none⟩) ∧ v2 = .pointer (some ⟨h, 0, none⟩) ∧ g ≠ h ∧ w.heap.size ≤ g ∧ w.heap.size ≤ h ∧ Blk wx g t1 c1 ∧ Blk wx h t2 c2 ∧ Below w.heap.size w wx
theorem twoCut_of {w : World} {t1 t2 : TypeId} {c1 c2 : Array Value} : TwoCut w t1 t2 c1 c2 (.pointer (some ⟨w.heap.size, 0, none⟩)) (.pointer (some ⟨w.heap.size + 1, 0, none⟩)) ((w.alloc (.cells c1 t1)).alloc (.cells c2 t2)).drew := by
  refine ⟨_, _, rfl, rfl, by omega, Nat.le_refl _, by omega, Blk.drew ((Blk.new _ _ _).alloc _), Blk.drew ?_, Below.drew (((Below.refl _ _).alloc (Nat.le_refl _) _).alloc (by simp only [World.size_alloc]; omega) _)⟩
  have := Blk.new (w.alloc (.cells c1 t1)) t2 c2
  rwa [World.size_alloc] at this
theorem twoCut_swap {w wx : World} {t1 t2 : TypeId} {c1 c2 : Array Value} {v1 v2 : Value} (h : TwoCut w t2 t1 c2 c1 v2 v1 wx) : TwoCut w t1 t2 c1 c2 v1 v2 wx := by
  obtain ⟨a, b, h1, h2, h3, h4, h5, h6, h7, h8⟩ := h
  exact ⟨b, a, h2, h1, h3.symm, h5, h4, h7, h6, h8⟩
set_option maxHeartbeats 1600000 in
set_option maxRecDepth 20000 in
theorem rat_any (cv : Cv) (x : Int) (hg : CvG 2000 cv.ps) (w : World) (hs : cv.ok w) :
    Calls Tryz.prog 68 #[cv.v, .int .i64 x] w fun e w' => e = .returned (.int .i64 (val cv.ps x)) ∧ Below w.heap.size w w' := by
  have HL := hide hs.len
  obtain ⟨b, o, hA, hb, hc⟩ := hs.block hg.ne
  obtain ⟨A, n, c, ps⟩ := cv
  simp only at hA hc HL hg
  unfold Cv.v
  simp only
  subst hA
  have HC := hide (show ∀ (W : World), Below w.heap.size w W → ∀ (k : Nat) (hk : k < ps.length), W.cell? ⟨b, o + k * 2, none⟩ = some (.int .i64 ps[k].x) ∧ W.cell? ⟨b, o + k * 2 + 1, none⟩ = some (.int .i64 ps[k].y) from fun W hW k hk => ⟨cell_thr hW (hc k hk).1, cell_thr hW (hc k hk).2⟩)
  have HG := hide hg
  have hne := hg.ne
  have hn1 : 0 < n := by have := HL.out; omega
  have hn100 : n ≤ 100 := by have := HL.out; have := hg.le; omega
  have HV0 := hide (fun h => val_first (ps := ps) (x := x) hne h)
  have HV1 := hide (fun (i : Nat) (h : i + 1 < ps.length) hp (h0 : (ps[0]'hne).x < x) hx => val_at' (ps := ps) (x := x) (i := i) hg h hp h0 hx)
  have HV2 := hide (show (∀ j (hj : j < ps.length), 0 < j → ps[j].x ≤ x) → (ps[0]'hne).x < x → val ps x = (ps[ps.length - 1]'(by omega)).y from by
    intro h h0
    rcases Nat.lt_or_ge 1 ps.length with h1 | h1
    · by_cases hl : (ps[ps.length - 1]'(by omega)).x < x
      · refine val_end hne fun j hj => ?_
        have mono : ∀ (k : Nat) (hk : k < ps.length) (j : Nat) (hj : j < k), (ps[j]'(by omega)).x < ps[k].x := by
          intro k
          induction k with
          | zero => intro hk j hj; omega
          | succ k ih =>
            intro hk j hj
            have := (hg.up k hk).1
            rcases Nat.lt_or_ge j k with h | h
            · have := ih (by omega) j h; omega
            · obtain rfl : j = k := by omega
              omega
        rcases Nat.lt_or_ge j (ps.length - 1) with h2 | h2
        · have := mono (ps.length - 1) (by omega) j h2; omega
        · obtain rfl : j = ps.length - 1 := by omega
          exact hl
      · have hle := h (ps.length - 1) (by omega) (by omega)
        have e : (ps[ps.length - 1]'(by omega)).x = x := by omega
        obtain ⟨k, hk⟩ : ∃ k, ps.length - 1 = k + 1 := ⟨ps.length - 2, by omega⟩
        have hup := (hg.up k (by omega)).1
        have mono : ∀ (k : Nat) (hk : k < ps.length) (j : Nat) (hj : j < k), (ps[j]'(by omega)).x < ps[k].x := by
          intro k
          induction k with
          | zero => intro hk j hj; omega
          | succ k ih =>
            intro hk j hj
            have := (hg.up k hk).1
            rcases Nat.lt_or_ge j k with h | h
            · have := ih (by omega) j h; omega
            · obtain rfl : j = k := by omega
              omega
        simp only [hk] at e ⊢
        rw [val_at (i := k) (by omega) (fun j hj => by have := mono (k + 1) (by omega) j (by omega); omega) (by omega)]
        rw [← e, Int.mul_ediv_cancel _ (by omega)]
        omega
    · have h2 : ps.length - 1 = 0 := by omega
      simp only [h2]
      have := val_end (ps := ps) (x := x) hne (fun j hj => by obtain rfl : j = 0 := by omega
                                                              exact h0)
      simpa only [h2] using this)
  generalize val ps x = vl at *
  obtain ⟨z0, z1⟩ := hc 0 hne
  have hpz := hg.at_ hne
  generalize hp0 : ps[0]'hne = p0 at *
  have HP0 := hide hp0
  clear hs hc hg hp0
  obtain ⟨px0, py0⟩ := p0
  simp only [Nat.zero_mul, Nat.add_zero] at z0 z1 hpz HV0 HV1 HV2
  have hn0i : (0 : Int) < (n : Int) := by omega
  go_enter Tryz.func68, Tryz.ntmps68
  by_cases hx0 : x ≤ px0
  · have HX := hide (HV0.out hx0)
    clear HV0 HV1 HV2 HC
    go_wp2
    go_ret
    exact ⟨ret_int HX.out.symm, Below.refl _ _⟩
  · have hx0d : decide (x ≤ px0) = false := by simpa using hx0
    clear HV0
    go_wp2
    clear z0 z1
    go_loopw [5] (fun i wr => ∃ k : Nat, (1 ≤ k ∧ k ≤ n) ∧ i = .int .i64 k ∧ Hid (∀ j (hj : j < k) (h : j < ps.length), 0 < j → ps[j].x ≤ x) ∧ Below w.heap.size w wr) (fun i _ => n - (intOf i).toNat)
    case atStart => exact ⟨1, by omega, rfl, hide (fun j hj h h0 => by omega), Below.refl _ _⟩
    case round =>
      obtain ⟨k, ⟨hk1, hk⟩, rfl, HP, hb2⟩ := hrel
      have HB := hide hb2
      by_cases hlt : k < n
      · have hkl : k < ps.length := by have := HL.out; omega
        have hki : (k : Int) < (n : Int) := by omega
        obtain ⟨e0, e1⟩ := HC.out wr hb2 k hkl
        have hpb := HG.out.at_ hkl
        obtain ⟨i, hi⟩ : ∃ i : Nat, k = i + 1 := ⟨k - 1, by omega⟩
        have hi2 : i < ps.length := by omega
        obtain ⟨d0, d1⟩ := HC.out wr hb2 i hi2
        have hqb := HG.out.at_ hi2
        have HV1k := hide (fun (h : x < (ps[k]'hkl).x) => show vl = (ps[i]'hi2).y + ((ps[k]'hkl).y - (ps[i]'hi2).y) * (x - (ps[i]'hi2).x) / ((ps[k]'hkl).x - (ps[i]'hi2).x) ∧ (ps[i]'hi2).x ≤ x from by
          subst hi
          refine ⟨HV1.out i hkl (fun j hj h0 => HP.out j hj (by omega) h0) (by omega) h, ?_⟩
          rcases Nat.eq_zero_or_pos i with rfl | hi0
          · rw [HP0.out]; simp only; omega
          · exact HP.out i (by omega) (by omega) hi0)
        have hup := HG.out.up i (by omega)
        have HPN := hide (fun (h : (ps[k]'hkl).x ≤ x) => show ∀ j (hj : j < k + 1) (h : j < ps.length), 0 < j → ps[j].x ≤ x from fun j hj h2 h0 => by
          by_cases hjk : j = k
          · subst hjk; exact h
          · exact HP.out j (by omega) h2 h0)
        have hup2 : (ps[i]'hi2).x < (ps[k]'hkl).x ∧ (ps[i]'hi2).y ≤ (ps[k]'hkl).y := by subst hi; exact hup
        generalize ps[k]'hkl = pk at *
        obtain ⟨px, py⟩ := pk
        generalize ps[i]'hi2 = qk at *
        obtain ⟨qx, qy⟩ := qk
        simp only at e0 e1 d0 d1 hpb hqb HV1k HPN hup2
        obtain ⟨u0, u1⟩ := hup2
        have hii : (k : Int) - 1 = (i : Int) := by omega
        have hin : i < n := by omega
        have hini : (i : Int) < (n : Int) := by omega
        clear HP HV1 HV2 hup HC HG
        by_cases hx : x < px
        · obtain ⟨hvl, hqx⟩ := HV1k.out hx
          have hxd : decide (x < px) = true := by simpa using hx
          clear HV1k HPN hi hb2
          go_upto_region 7 with fail
          obtain ⟨p0, p1⟩ := prod_small (a := py - qy) (b := x - qx) (by omega) (by omega)
          obtain ⟨s0, s1⟩ := seg_in (a := py - qy) (b := x - qx) (c := px - qx) (by omega) ⟨by omega, by omega⟩ (by omega) rfl
          obtain ⟨⟨_, _⟩, _, _⟩ := hpb
          obtain ⟨⟨_, _⟩, _, _⟩ := hqb
          have HX := hide hvl
          have hax := fun X : Obj => bel1 (w := wr) (o := X)
          have hay := fun X Y : Obj => (hax X).alloc (hax X).size Y
          have e0a := fun X => cell_thr (hax X) e0
          have e1a := fun X => cell_thr (hax X) e1
          have d0a := fun X => cell_thr (hax X) d0
          have d1a := fun X => cell_thr (hax X) d1
          have e0b := fun X Y => cell_thr (hay X Y) e0
          have e1b := fun X Y => cell_thr (hay X Y) e1
          have d0b := fun X Y => cell_thr (hay X Y) d0
          have d1b := fun X Y => cell_thr (hay X Y) d1
          have hwi : IntKind.i64.wrap (i : Int) = (i : Int) := by rw [IntKind.wrap_i64]; omega
          clear hax hay hvl
          go_cut [6, 7] (fun v6 v7 wx => TwoCut wr 57 57 #[.int .i64 qx, .int .i64 qy] #[.int .i64 px, .int .i64 py] v6 v7 wx)
          case first =>
            go_region_law (fail)
            all_goals
              go_wp2_with fail
              go_meet
              first | (with_reducible exact twoCut_of) | (with_reducible exact twoCut_swap twoCut_of) | fail
          case rest =>
            rename World => w6
            obtain ⟨g, h, rfl, rfl, hne, hg0, hh0, bg, bh, hBc⟩ := hcut
            obtain ⟨y0, y1, yf⟩ := bg.facts2
            obtain ⟨z0, z1, zf⟩ := bh.facts2
            have HB6 := hide (bthr HB.out hBc HB.out.size)
            clear e0 e1 d0 d1 e0a e1a d0a d1a e0b e1b d0b d1b bg bh hBc
            go_wp2_with fail
            go_quiet (fail)
            go_wp2
            go_ret
            exact ⟨ret_int HX.out.symm, below_drewN HB6.out _⟩
        · have hxd : decide (x < px) = false := by simpa using hx
          have HP2 := hide (HPN.out (by omega))
          clear HV1k HPN hi hb2
          go_wp2
          go_roundw
          case rel => exact ⟨k + 1, by omega, by go_num, HP2, HB.out⟩
          case measure => simp [intOf]; omega
      · have hki : ¬ ((k : Int) < (n : Int)) := by omega
        have hl := HL.out
        obtain ⟨i, hi⟩ : ∃ i : Nat, n = i + 1 := ⟨n - 1, by omega⟩
        have HX := hide (show vl = (ps[i]'(by omega)).y from by
          rw [HV2.out (fun j hj h0 => HP.out j (by omega) hj h0) (by omega)]
          congr 2; omega)
        obtain ⟨e0, e1⟩ := HC.out wr hb2 i (by omega)
        have hii : (n : Int) - 1 = (i : Int) := by omega
        have hini : (i : Int) < (n : Int) := by omega
        have hin : i < n := by omega
        generalize ps[i]'_ = qk at *
        obtain ⟨qx, qy⟩ := qk
        simp only at e0 e1 HX
        clear HV1 HV2 HP HC hi hl hb2
        go_wp2
        go_ret
        exact ⟨ret_int HX.out.symm, HB.out⟩
end Go.Proofs.YtodamjjlnagpjaaGreatDoor
namespace Go.Proofs.YtodamjjlnagpjaaGreatDoor
open Go.RowKit

set_option maxRecDepth 20000 in
theorem rAt_ok (cv : Cv) (x : Int) (hg : CvG 2000 cv.ps) (w : World) (hs : cv.ok w) :
    Calls Tryz.prog 40 #[cv.v, .int .i64 x] w fun e w' => e = .returned (.tuple #[.int .i64 (val cv.ps x), .int .i64 0]) ∧ Below w.heap.size w w' := by
  go_enter Tryz.func40, Tryz.ntmps40
  go_wp2_with fail
  refine (rcvck_ok cv hg w hs).mono ?_
  rintro e w1 ⟨rfl, hb1⟩
  go_wp2_with fail
  refine (rat_any cv x hg w1 (hs.below hb1)).mono ?_
  rintro e w2 ⟨rfl, hb2⟩
  have HB := hide (bthr hb1 hb2 hb1.size)
  clear hb1 hb2
  go_wp2
  go_ret2
  exact ⟨rfl, HB.out⟩
def LastP (vl x0 : Int) (w : World) (e : Ending) (w' : World) : Prop := ∃ (v : Int) (ok : Bool), e = .returned (.tuple #[.int .i64 v, .bool ok, .int .i64 0]) ∧ (ok = true → v = vl) ∧ (ok = false → vl = x0) ∧ Below w.heap.size w w'
set_option maxHeartbeats 1600000 in
set_option maxRecDepth 20000 in
theorem last_any (cv : Cv) (y : Int) (hy : 0 ≤ y ∧ y ≤ 274877906944) (hg : CvG 2000 cv.ps) (hne : 0 < cv.ps.length) (w : World) (hs : cv.ok w) :
    Calls Tryz.prog 48 #[cv.v, .int .i64 y] w (LastP (lastX cv.ps y) (cv.ps[0]'hne).x w) := by
  have HL := hide hs.len
  have HCK := hide (cvck_ok cv hg w hs)
  obtain ⟨b, o, hA, hb, hc⟩ := hs.block hg.ne
  obtain ⟨A, n, c, ps⟩ := cv
  simp only at hA hc HL hg HCK hne
  unfold Cv.v at HCK ⊢
  simp only at HCK ⊢
  subst hA
  have HC := hide (show ∀ (W : World), Below w.heap.size w W → ∀ (k : Nat) (hk : k < ps.length), W.cell? ⟨b, o + k * 2, none⟩ = some (.int .i64 ps[k].x) ∧ W.cell? ⟨b, o + k * 2 + 1, none⟩ = some (.int .i64 ps[k].y) from fun W hW k hk => ⟨cell_thr hW (hc k hk).1, cell_thr hW (hc k hk).2⟩)
  have HG := hide hg
  have hn1 : 0 < n := by have := HL.out; omega
  have hn100 : n ≤ 100 := by have := HL.out; have := hg.le; omega
  have hcap : n ≤ c := hs.2.1
  have hcm : c ≤ 9223372036854775807 := by have := hs.2.2.1; unfold maxLen at this; omega
  have HV0 := hide (fun h => lastX_first (ps := ps) (y := y) hne h)
  have HV1 := hide (fun (i : Nat) (h : i + 1 < ps.length) hp hx => lastX_at (ps := ps) (y := y) (i := i) h hp hx)
  have HV2 := hide (fun hp => lastX_end (ps := ps) (y := y) hne hp)
  generalize lastX ps y = vl at *
  have hpz := hg.at_ hne
  clear hs hc hg
  obtain ⟨yy0, yy1⟩ := hy
  have hn0i : (0 : Int) < (n : Int) := by omega
  have h1n : (1 : Int) ≤ (n : Int) := by omega
  have h1c : (1 : Int) ≤ (c : Int) := by omega
  go_enter Tryz.func48, Tryz.ntmps48
  go_wp2_with fail
  refine HCK.out.mono ?_
  rintro e w1 ⟨rfl, hb1⟩
  obtain ⟨z0, z1⟩ := HC.out w1 hb1 0 hne
  generalize hp0 : ps[0]'hne = p0 at *
  have HP0 := hide hp0
  clear hp0 HCK
  obtain ⟨px0, py0⟩ := p0
  simp only [Nat.zero_mul, Nat.add_zero] at z0 z1 hpz HV0 HV1 HV2 ⊢
  have HB1 := hide hb1
  by_cases hx0 : y < py0
  · have HX := hide (HV0.out hx0)
    clear HV0 HV1 HV2 HC hb1
    go_wp2
    go_ret3
    exact ⟨_, _, rfl, (fun h => by cases h), fun _ => by rw [HP0.out]; exact HX.out, HB1.out⟩
  · have hx0d : decide (y < py0) = false := by simpa using hx0
    clear HV0
    obtain ⟨m, hm⟩ : ∃ m, n = m + 1 := ⟨n - 1, by omega⟩
    subst hm
    have hm1 : m + 1 - 1 = m := by omega
    have hm1i : ((m + 1 : Nat) : Int) - 1 = (m : Int) := by omega
    by_cases hc1 : c = 1
    · have hm0 : m = 0 := by omega
      have HX := hide (show vl = px0 from by
        have h1 : ps.length = 1 := by have := HL.out; omega
        have := HV2.out (fun j hj => by
          obtain rfl : j = 0 := by omega
          rw [HP0.out]; simp only; omega)
        simp only [h1] at this
        rw [HP0.out] at this
        exact this)
      subst hm0
      clear HV1 HV2 HC hb1
      go_wp2
      go_loopw [25] (fun i wr => i = .int .i64 0 ∧ wr = w1) (fun i _ => 0)
      case atStart => exact ⟨rfl, rfl⟩
      case round =>
        obtain ⟨rfl, rfl⟩ := hrel
        go_wp2
        go_ret3
        exact ⟨_, _, rfl, fun _ => HX.out.symm, (fun h => by cases h), HB1.out⟩
    · go_wp2
      clear z0 z1
      go_loopw [25] (fun i wr => ∃ k : Nat, k ≤ m ∧ i = .int .i64 k ∧ Hid (∀ j (hj : j < k + 1) (h : j < ps.length), ps[j].y ≤ y) ∧ Below w.heap.size w wr) (fun i _ => m - (intOf i).toNat)
      case atStart => exact ⟨0, by omega, rfl, hide (fun j hj h => by
        obtain rfl : j = 0 := by omega
        rw [HP0.out]; simp only; omega), HB1.out⟩
      case round =>
        obtain ⟨k, hk, rfl, HP, hb2⟩ := hrel
        have HB := hide hb2
        by_cases hlt : k < m
        · have hkl : k + 1 < ps.length := by have := HL.out; omega
          have hki : (k : Int) < (m : Int) := by omega
          obtain ⟨e0, e1⟩ := HC.out wr HB.out (k + 1) hkl
          obtain ⟨d0, d1⟩ := HC.out wr HB.out k (by omega)
          have hpb := HG.out.at_ hkl
          have hqb := HG.out.at_ (k := k) (by omega)
          have hup := HG.out.up k hkl
          have HV1k := hide (fun (h : y < (ps[k + 1]'hkl).y) => HV1.out k hkl (fun j hj => HP.out j hj (by omega)) h)
          have hqy := HP.out k (by omega) (by omega)
          have HPN := hide (fun (h : (ps[k + 1]'hkl).y ≤ y) => show ∀ j (hj : j < k + 1 + 1) (h : j < ps.length), ps[j].y ≤ y from fun j hj h2 => by
            by_cases hjk : j = k + 1
            · subst hjk; exact h
            · exact HP.out j (by omega) h2)
          generalize ps[k + 1]'hkl = pk at *
          obtain ⟨px, py⟩ := pk
          generalize ps[k]'_ = qk at *
          obtain ⟨qx, qy⟩ := qk
          simp only at e0 e1 d0 d1 hpb hqb HV1k HPN hup hqy
          obtain ⟨u0, u1⟩ := hup
          rw [show o + (k + 1) * 2 = o + 2 + k * 2 by omega] at e0 e1
          have hkn : (k : Int) < ((m + 1 : Nat) : Int) := by omega
          have q1 := Blk.new wr 57 #[.int .i64 px, .int .i64 py]
          have hb5 := HB.out.alloc HB.out.size (.cells #[.int .i64 px, .int .i64 py] 57)
          have dd0 := cell_thr (bel1 (w := wr) (o := .cells #[.int .i64 px, .int .i64 py] 57)) d0
          have dd1 := cell_thr (bel1 (w := wr) (o := .cells #[.int .i64 px, .int .i64 py] 57)) d1
          clear HP HV1 HV2 hb2 d0 d1
          go_upto_region 9 with fail
          clear e0 e1
          generalize wr.alloc _ = w5 at *
          generalize wr.heap.size = g5 at *
          have q2 := Blk.new w5 57 #[.int .i64 qx, .int .i64 qy]
          have HB6 := hide (hb5.alloc hb5.size (.cells #[.int .i64 qx, .int .i64 qy] 57))
          have r5 := q1.alloc (.cells #[.int .i64 qx, .int .i64 qy] 57)
          go_upto_region 10 with fail
          clear dd0 dd1
          generalize w5.alloc _ = w6 at *
          generalize w5.heap.size = g6 at *
          obtain ⟨y0, y1, yf⟩ := q2.facts2
          obtain ⟨z0, z1, zf⟩ := r5.facts2
          clear q2 r5 q1 hb5 HC HG
          by_cases hx : y < py
          · have HX := hide (HV1k.out hx)
            have hxd : decide (y < py) = true := by simpa using hx
            obtain ⟨t, ht⟩ : ∃ t, y - qy = t := ⟨_, rfl⟩
            have ht0 : 0 ≤ t := by omega
            have ht1 : t ≤ 2000 := by omega
            rw [ht] at HX
            obtain ⟨p0, p1⟩ := prod_small (a := t) (b := px - qx) (by omega) (by omega)
            have e2 : (t + 1) * (px - qx) = t * (px - qx) + (px - qx) := by rw [Int.add_mul, Int.one_mul]
            have s0 : 0 ≤ ((t + 1) * (px - qx) - 1) / (py - qy) := Int.ediv_nonneg (by omega) (by omega)
            have s1 : ((t + 1) * (px - qx) - 1) / (py - qy) ≤ (t + 1) * (px - qx) - 1 := Int.ediv_le_self _ (by omega)
            have p2 : 1 ≤ (t + 1) * (px - qx) := by omega
            have p3 : (t + 1) * (px - qx) ≤ 4002000 := by omega
            obtain ⟨⟨_, _⟩, _, _⟩ := hpb
            obtain ⟨⟨_, _⟩, _, _⟩ := hqb
            clear HV1k HPN e2 p0 p1
            go_wp2_with fail
            go_quiet (fail)
            go_wp2
            go_ret3
            exact ⟨_, _, rfl, fun _ => HX.out.symm, (fun h => by cases h), below_drewN HB6.out _⟩
          · have hxd : decide (y < py) = false := by simpa using hx
            have HP2 := hide (HPN.out (by omega))
            clear HV1k HPN
            go_wp2
            go_roundw
            case rel => exact ⟨k + 1, by omega, by go_num, HP2, HB6.out⟩
            case measure => simp [intOf]; omega
        · have hki : ¬ ((k : Int) < (m : Int)) := by omega
          have hl := HL.out
          have HX := hide (show vl = (ps[m]'(by omega)).x from by
            rw [HV2.out (fun j hj => HP.out j (by omega) hj)]
            congr 2; omega)
          obtain ⟨e0, e1⟩ := HC.out wr HB.out m (by omega)
          have hini : (m : Int) < ((m + 1 : Nat) : Int) := by omega
          generalize ps[m]'_ = qk at *
          obtain ⟨qx, qy⟩ := qk
          simp only at e0 e1 HX
          clear HV1 HV2 HP HC hl hb2
          go_wp2
          go_ret3
          exact ⟨_, _, rfl, fun _ => HX.out.symm, (fun h => by cases h), HB.out⟩
end Go.Proofs.YtodamjjlnagpjaaGreatDoor
