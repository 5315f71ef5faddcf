/-
  The contract of gate.Check at valid gates. Condition: the gate lies in memory and is valid.
  The contracts of gate.at, flow, valid and reach at valid gates and states. Condition: the gate lies in memory and is valid.
  The contract of gate.at at valid gates: the curve at a level. Condition: the gate lies in memory and is valid.
  The contract of gate.asked at valid gates and states. Condition: gates and states lie in memory and are valid.
-/
import Derived.Test.YtodamjjlnagpjaaGreatDoorProg
import Derived.Test.YtodamjjlnagpjaaGreatDoorTsn
namespace Go.Proofs.YtodamjjlnagpjaaGreatDoor
open Go.RowKit

theorem gr_cells {w : World} {b o : Nat} {rs : List Gr} (hc : ∀ j u, (grCells rs)[j]? = some u → w.cell? ⟨b, o + j, none⟩ = some u) {k : Nat} (hk : k < rs.length) :
    w.cell? ⟨b, o + k * 2, none⟩ = some (.int .i64 rs[k].lv) ∧ w.cell? ⟨b, o + k * 2 + 1, none⟩ = some (.slice rs[k].cv.A rs[k].cv.n rs[k].cv.c) := by
  have h := fun j hj => cellsOf_get Gr.arr 2 (fun _ => rfl) rs k hk j hj
  exact ⟨hc _ _ (h 0 (by omega)), by rw [Nat.add_assoc]; exact hc _ _ (h 1 (by omega))⟩
theorem pt_zero : ∀ W : World, (binOp .neq 57 (.agg #[.int .i64 0, .int .i64 0]) (.agg #[.int .i64 0, .int .i64 0])).run Tryz.prog W = .ok (.bool false) W := fun _ => by kernel_rfl
set_option maxHeartbeats 3200000 in
set_option maxRecDepth 20000 in
theorem gcheck_ok (g : Gt) (hg : GtG g) (w : World) (hs : g.ok w) :
    Calls Tryz.prog 71 #[.agg g.arr] w fun e w' => e = .returned (.int .i64 0) ∧ Below w.heap.size w w' := by
  have q0 := Blk.new w 96 g.arr
  have hb0 := bel1 (w := w) (o := .cells g.arr 96)
  have hs0 := hs.below hb0
  have HL := hide hs.len
  obtain ⟨ne, le, lv, up, cv, ⟨mo0, mo1⟩, ⟨mv0, mv1⟩⟩ := hg
  obtain ⟨A, n, c, rs, mo, mv⟩ := g
  unfold Gt.arr at q0 hb0 hs0 ⊢
  simp only at ne le lv up cv mo0 mo1 mv0 mv1 HL q0 hb0 hs0 ⊢
  obtain ⟨c0, c1, c2, cf⟩ := q0.facts3
  have HLV := hide lv
  have HUP := hide up
  have HCV := hide cv
  have hz := pt_zero
  have hn1 : 0 < n := by have := HL.out; omega
  have hn10 : n ≤ 10 := by have := HL.out; omega
  have hd1 : ((n : Int) == 0) = false := by simp; omega
  have hd2 : decide ((10 : Int) < (n : Int)) = false := by simp; omega
  have HB0 := hide hb0
  clear hs lv up cv
  go_enter Tryz.func71, Tryz.ntmps71
  go_wp2
  clear c0 c1 c2 cf
  generalize w.alloc _ = w1 at *
  go_loopw [19] (fun i wr => ∃ k : Nat, k ≤ n ∧ i = .int .i64 k ∧ Below w1.heap.size w1 wr) (fun i _ => n - (intOf i).toNat)
  case atStart => exact ⟨0, by omega, rfl, Below.refl _ _⟩
  case round =>
    obtain ⟨k, hk, rfl, hb⟩ := hrel
    have HB := hide hb
    have hsr := Gt.ok.below hs0 hb
    have qr := q0.below hb q0.lt
    by_cases hlt : k < n
    · have hki : (k : Int) < (n : Int) := by omega
      have hkl : k < rs.length := by have := HL.out; omega
      obtain ⟨b, o, hA, hbl, hc⟩ := hsr.1.at_ hlt
      simp only at hA hc
      subst hA
      obtain ⟨e0, e1⟩ := gr_cells hc hkl
      have hmem := List.getElem_mem hkl
      have hlv := HLV.out _ hmem
      obtain ⟨hcg, t, hct⟩ := HCV.out _ hmem
      have hcv := hsr.2 _ hmem
      have HUPK := hide (fun (i : Nat) (hi : k = i + 1) => show ∃ hi2 : i < rs.length, (rs[i]'hi2).lv < (rs[k]'hkl).lv from by
        subst hi; exact ⟨by omega, HUP.out i hkl⟩)
      have HE := hide (fun (W : World) (hW : Below wr.heap.size wr W) (i : Nat) (hi2 : i < rs.length) => cell_thr hW (gr_cells hc hi2).1)
      generalize rs[k]'hkl = r at *
      obtain ⟨lv, cA, cn, cc, ps⟩ := r
      simp only at e0 e1 hlv hcg hct hcv HUPK
      have hps : 0 < ps.length := hcg.ne
      have n5 := Blk.new wr 101 #[.int .i64 lv, .slice cA cn cc]
      have hb5 := bel1 (w := wr) (o := .cells #[.int .i64 lv, .slice cA cn cc] 101)
      have HB5 := hide (bthr hb hb5 hb.size)
      have q5 := qr.below hb5 qr.lt
      have hcv5 := hcv.below hb5
      clear hb hc hsr qr hmem hcv
      go_upto_region 8 with fail
      clear e0 e1
      generalize wr.alloc _ = w5 at *
      obtain ⟨x0, x1, xf⟩ := n5.facts2
      obtain ⟨c0, c1, c2, cf⟩ := q5.facts3
      go_wp2_with fail
      refine (within_true _ _ (by omega) (by omega) _).mono ?_
      rintro e w' ⟨rfl, rfl⟩
      rename World => w5
      have hne5 : wr.heap.size < w5.heap.size := n5.lt
      by_cases hk0 : k = 0
      · subst hk0
        go_wp2_with fail
        go_quiet (fail)
        go_wp2_with fail
        refine (cvck_ok ⟨cA, cn, cc, ps⟩ hcg _ (hcv5.below (below_drewN (Below.refl _ _) _))).mono ?_
        rintro e w7 ⟨rfl, hb7⟩
        have hb7' : Below w5.heap.size w5 w7 := ⟨hb7.os, hb7.tape, hb7.output, hb7.size, hb7.block⟩
        have HB7 := hide (bthr HB5.out hb7' HB5.out.size)
        have n7 := n5.below hb7' n5.lt
        have hcv7 := Cv.ok.below hcv5 hb7'
        obtain ⟨bc, oc, hAc, hblc, hcc⟩ := hcv7.block hps
        simp only at hAc hcc
        subst hAc
        have hlc := hcv7.len
        simp only at hlc
        have hcn : 0 < cn := by omega
        have hcni : (0 : Int) < (cn : Int) := by omega
        have hcn100 : cn ≤ 100 := by have := hcg.le; omega
        obtain ⟨z0, z1⟩ := hcc 0 hps
        obtain ⟨m, hm⟩ : ∃ m : Nat, cn = m + 1 := ⟨cn - 1, by omega⟩
        have hml : m < ps.length := by omega
        obtain ⟨m0, m1⟩ := hcc m hml
        have hmb := hcg.at_ hml
        have hz0 : ps[0]'hps = ⟨0, 0⟩ := by subst hct; rfl
        rw [hz0] at z0 z1
        generalize ps[m]'hml = pm at *
        obtain ⟨mx, my⟩ := pm
        simp only [Nat.zero_mul, Nat.add_zero] at z0 z1 m0 m1 hmb
        have hmi : (cn : Int) - 1 = (m : Int) := by omega
        have hmn : m < cn := by omega
        have hmni : (m : Int) < (cn : Int) := by omega
        have hdm : decide (1073741824 < my) = false := by simp; omega
        have HM := hide hm
        have HLC := hide hlc
        clear x0 x1 xf c0 c1 c2 cf n5 hcv5 hb7 hb7' hcv7 hcc hct hcg hz0 hm hlc HUPK HE q5 m0
        obtain ⟨x0, x1, xf⟩ := n7.facts2
        go_wp2
        go_roundw
        case rel => exact ⟨1, by omega, rfl, HB7.out⟩
        case measure => simp [intOf]; omega
      · obtain ⟨i, hi⟩ : ∃ i : Nat, k = i + 1 := ⟨k - 1, by omega⟩
        obtain ⟨hi2, hlt2⟩ := HUPK.out i hi
        have f0 := HE.out w5 hb5 i hi2
        generalize (rs[i]'hi2).lv = lq at *
        have hkp : decide ((0 : Int) < (k : Int)) = true := by simp; omega
        have hkpn : decide (0 < k) = true := by simp; omega
        have hii : (k : Int) - 1 = (i : Int) := by omega
        have hwi : IntKind.i64.wrap (i : Int) = (i : Int) := by rw [IntKind.wrap_i64]; omega
        have hin : i < n := by omega
        have hini : (i : Int) < (n : Int) := by omega
        have hdd : decide (lv ≤ lq) = false := by simp; omega
        have HHI := hide hi
        clear hi hk0
        go_wp2_with fail
        go_quiet (fail)
        clear f0 hdd
        go_wp2_with fail
        refine (cvck_ok ⟨cA, cn, cc, ps⟩ hcg _ (hcv5.below (below_drewN (Below.refl _ _) _))).mono ?_
        rintro e w7 ⟨rfl, hb7⟩
        have hb7' : Below w5.heap.size w5 w7 := ⟨hb7.os, hb7.tape, hb7.output, hb7.size, hb7.block⟩
        have HB7 := hide (bthr HB5.out hb7' HB5.out.size)
        have n7 := n5.below hb7' n5.lt
        have hcv7 := Cv.ok.below hcv5 hb7'
        obtain ⟨bc, oc, hAc, hblc, hcc⟩ := hcv7.block hps
        simp only at hAc hcc
        subst hAc
        have hlc := hcv7.len
        simp only at hlc
        have hcn : 0 < cn := by omega
        have hcni : (0 : Int) < (cn : Int) := by omega
        have hcn100 : cn ≤ 100 := by have := hcg.le; omega
        obtain ⟨z0, z1⟩ := hcc 0 hps
        obtain ⟨m, hm⟩ : ∃ m : Nat, cn = m + 1 := ⟨cn - 1, by omega⟩
        have hml : m < ps.length := by omega
        obtain ⟨m0, m1⟩ := hcc m hml
        have hmb := hcg.at_ hml
        have hz0 : ps[0]'hps = ⟨0, 0⟩ := by subst hct; rfl
        rw [hz0] at z0 z1
        generalize ps[m]'hml = pm at *
        obtain ⟨mx, my⟩ := pm
        simp only [Nat.zero_mul, Nat.add_zero] at z0 z1 m0 m1 hmb
        have hmi : (cn : Int) - 1 = (m : Int) := by omega
        have hmn : m < cn := by omega
        have hmni : (m : Int) < (cn : Int) := by omega
        have hdm : decide (1073741824 < my) = false := by simp; omega
        have HM := hide hm
        have HLC := hide hlc
        clear x0 x1 xf c0 c1 c2 cf n5 hcv5 hb7 hb7' hcv7 hcc hct hcg hz0 hm hlc HUPK HE q5 m0
        obtain ⟨x0, x1, xf⟩ := n7.facts2
        go_wp2
        go_roundw
        case rel => exact ⟨k + 1, by omega, by go_num, HB7.out⟩
        case measure => simp [intOf]; omega
    · have hki : ¬ ((k : Int) < (n : Int)) := by omega
      obtain ⟨c0, c1, c2, cf⟩ := qr.facts3
      have HBZ := hide (bthr HB0.out hb HB0.out.size)
      clear hb hsr qr
      go_wp2_with fail
      refine (within_true _ _ (by omega) (by omega) _).mono ?_
      rintro e w' ⟨rfl, rfl⟩
      go_wp2_with fail
      refine (within_true _ _ (by omega) (by omega) _).mono ?_
      rintro e w' ⟨rfl, rfl⟩
      go_wp2
      go_ret
      exact ⟨rfl, HBZ.out⟩
end Go.Proofs.YtodamjjlnagpjaaGreatDoor
namespace Go.Proofs.YtodamjjlnagpjaaGreatDoor
open Go.RowKit

theorem gCv_snoc : ∀ (rs : List Gr) (r : Gr) (lv : Int) (v : Cv), gCv (rs ++ [r]) lv v = if r.lv ≤ lv then r.cv else gCv rs lv v
  | [], _, _, _ => rfl
  | _ :: t, r, lv, _ => gCv_snoc t r lv _
theorem gCv_mem : ∀ (rs : List Gr) (lv : Int) (v : Cv), gCv rs lv v = v ∨ ∃ r ∈ rs, gCv rs lv v = r.cv
  | [], _, _ => .inl rfl
  | r :: t, lv, v => by
    unfold gCv
    rcases gCv_mem t lv (if r.lv ≤ lv then r.cv else v) with h | ⟨r', h1, h2⟩
    · rw [h]
      split
      · exact .inr ⟨r, by simp, rfl⟩
      · exact .inl rfl
    · exact .inr ⟨r', List.mem_cons_of_mem _ h1, h2⟩
/-- A curve that is none, or valid. -/
def CvN (cv : Cv) : Prop := cv.ps = [] ∨ CvG 2000 cv.ps
def vflow (cv : Cv) (op : Int) : Int := if cv.ps.length = 0 then 0 else val cv.ps op
theorem vflow_in {cv : Cv} (h : CvN cv) (op : Int) : 0 ≤ vflow cv op ∧ vflow cv op ≤ 2000 := by
  unfold vflow
  split
  · omega
  · rename_i hn
    rcases h with h | h
    · exact absurd (by rw [h]; rfl) hn
    · exact val_in h op
theorem nilCv_ok (w : World) : nilCv.ok w := Sl.none_ _ _ _
theorem gCv_ok {g : Gt} {w : World} (h : g.ok w) (hg : GtG g) (lv : Int) : (gCv g.rs lv nilCv).ok w ∧ CvN (gCv g.rs lv nilCv) := by
  rcases gCv_mem g.rs lv nilCv with h1 | ⟨r, h1, h2⟩
  · rw [h1]; exact ⟨nilCv_ok w, .inl rfl⟩
  · rw [h2]; exact ⟨h.2 r h1, .inr (hg.cv r h1).1⟩
set_option maxRecDepth 20000 in
theorem flow_any (cv : Cv) (wn op : Int) (hcv : CvN cv) (w : World) (hs : cv.ok w) :
    Calls Tryz.prog 108 #[.agg #[.slice cv.A cv.n cv.c, .int .i64 wn], .int .i64 op] w fun e w' => e = .returned (.int .i64 (vflow cv op)) ∧ Below w.heap.size w w' := by
  have q0 := Blk.new w 186 #[.slice cv.A cv.n cv.c, .int .i64 wn]
  have hb0 := bel1 (w := w) (o := .cells #[.slice cv.A cv.n cv.c, .int .i64 wn] 186)
  have hs0 := hs.below hb0
  have hl := hs.len
  have HE : Hid (cv.n = 0 → (0 : Int) = vflow cv op) := hide (fun h => by unfold vflow; rw [if_pos (by omega)])
  have HV : Hid (¬ cv.n = 0 → (CvG 2000 cv.ps) ∧ val cv.ps op = vflow cv op) := hide (fun h => by
    refine ⟨?_, by unfold vflow; rw [if_neg (by omega)]⟩
    rcases hcv with h1 | h1
    · rw [h1] at hl; simp at hl; omega
    · exact h1)
  have HC := hide (fun (h : CvG 2000 cv.ps) W hW => value_any cv op h W hW)
  generalize vflow cv op = vf at *
  generalize val cv.ps op = vv at *
  obtain ⟨A, n, c, ps⟩ := cv
  unfold Cv.v at HC
  simp only at q0 hb0 hs0 HE HV HC ⊢
  obtain ⟨c0, c1, cf⟩ := q0.facts2
  clear hcv hs hl
  go_enter Tryz.func108, Tryz.ntmps108
  by_cases hn : n = 0
  · have HX := hide (HE.out hn)
    subst hn
    have HB := hide hb0
    clear HE HV HC
    go_wp2
    go_ret
    exact ⟨ret_int HX.out, HB.out⟩
  · have hnd : ((n : Int) == 0) = false := by simp; omega
    obtain ⟨hcg, hvv⟩ := HV.out hn
    have HX := hide hvv
    clear HE HV hvv
    go_wp2_with fail
    refine (HC.out hcg _ hs0).mono ?_
    rintro e w2 ⟨rfl, hb2⟩
    have HB := hide (bthr hb0 hb2 hb0.size)
    clear c0 c1 cf hs0 hb0 hb2 q0 HC
    go_wp2
    go_ret
    exact ⟨ret_int HX.out, HB.out⟩
set_option maxRecDepth 20000 in
theorem gvalid_ok (g : Gt) (s : Gs) (hs : 0 ≤ s.op ∧ s.op ≤ g.mo) (w : World) :
    Calls Tryz.prog 143 #[.agg g.arr, .agg s.arr] w fun e w' => e = .returned (.bool true) ∧ Below w.heap.size w w' := by
  obtain ⟨q0, p0, hb0⟩ := blk_two w 96 99 g.arr s.arr
  obtain ⟨s0, s1⟩ := hs
  unfold Gt.arr Gs.arr at q0 p0 hb0
  unfold Gt.arr Gs.arr
  obtain ⟨c0, c1, c2, cf⟩ := q0.facts3
  obtain ⟨d0, d1, df⟩ := p0.facts2
  have HB := hide hb0
  go_enter Tryz.func143, Tryz.ntmps143
  go_wp2_with fail
  refine (within_true _ _ (by omega) (by omega) _).mono ?_
  rintro e w' ⟨rfl, rfl⟩
  go_wp2
  go_ret
  exact ⟨rfl, HB.out⟩
def rLo (g : Gt) (s : Gs) : Int := if s.jam = true then s.op else max (s.op - g.mv) 0
def rHi (g : Gt) (s : Gs) : Int := if s.jam = true then s.op else min (s.op + g.mv) g.mo
theorem rLoHi {g : Gt} {s : Gs} (h : GtG g) (hs : 0 ≤ s.op ∧ s.op ≤ g.mo) : 0 ≤ rLo g s ∧ rLo g s ≤ rHi g s ∧ rHi g s ≤ g.mo := by
  have h1 := h.mv
  have h2 := h.mo
  unfold rLo rHi
  split <;> omega
set_option maxHeartbeats 800000 in
set_option maxRecDepth 20000 in
theorem reach_any (g : Gt) (s : Gs) (hg : GtG g) (hs : 0 ≤ s.op ∧ s.op ≤ g.mo) (w : World) :
    Calls Tryz.prog 107 #[.agg g.arr, .agg s.arr] w fun e w' => e = .returned (.agg #[.int .i64 (rLo g s), .int .i64 (rHi g s)]) ∧ Below w.heap.size w w' := by
  obtain ⟨q0, p0, r0, hb0⟩ := blk_three w 96 99 45 g.arr s.arr #[.int .i64 0, .int .i64 0]
  obtain ⟨s0, s1⟩ := hs
  obtain ⟨m0, m1⟩ := hg.mo
  obtain ⟨v0, v1⟩ := hg.mv
  have HLO : Hid (rLo g s = if s.jam = true then s.op else max (s.op - g.mv) 0) := hide rfl
  have HHI : Hid (rHi g s = if s.jam = true then s.op else min (s.op + g.mv) g.mo) := hide rfl
  generalize rLo g s = lo at *
  generalize rHi g s = hi at *
  obtain ⟨A, n, c, rs, mo, mv⟩ := g
  obtain ⟨op, jam⟩ := s
  unfold Gt.arr Gs.arr at q0 p0 r0 hb0
  unfold Gt.arr Gs.arr
  simp only at *
  obtain ⟨c0, c1, c2, cf⟩ := q0.facts3
  obtain ⟨d0, d1, df⟩ := p0.facts2
  clear hg
  have key : ∀ a b : Int, Blk (((((w.alloc (.cells #[.slice A n c, .int .i64 mo, .int .i64 mv] 96)).alloc (.cells #[.int .i64 op, .bool jam] 99)).alloc (.cells #[.int .i64 a, .int .i64 b] 45)))) (w.heap.size + 1 + 1) 45 #[.int .i64 a, .int .i64 b] ∧ Below w.heap.size w ((((w.alloc (.cells #[.slice A n c, .int .i64 mo, .int .i64 mv] 96)).alloc (.cells #[.int .i64 op, .bool jam] 99)).alloc (.cells #[.int .i64 a, .int .i64 b] 45))) := fun a b => by
    obtain ⟨_, _, h3, h4⟩ := blk_three w 96 99 45 #[.slice A n c, .int .i64 mo, .int .i64 mv] #[.int .i64 op, .bool jam] #[.int .i64 a, .int .i64 b]
    exact ⟨h3, h4⟩
  obtain ⟨e0, e1, ef⟩ := r0.facts2
  cases jam
  · obtain ⟨K1, K2⟩ := key lo hi
    obtain ⟨k0, k1, kf⟩ := K1.facts2
    have hlo : lo = max (op - mv) 0 := HLO.out
    have hhi : hi = min (op + mv) mo := HHI.out
    have hlo1 : (if op - mv < 0 then 0 else op - mv) = lo := by split <;> omega
    have hhi1 : (if mo < op + mv then mo else op + mv) = hi := by split <;> omega
    have hlo2 : max (op - mv) 0 = lo := by omega
    have hhi2 : min (op + mv) mo = hi := by omega
    have HB := hide K2
    clear HLO HHI hlo hhi key q0 p0 r0 hb0 K1 K2
    go_enter Tryz.func107, Tryz.ntmps107
    go_wp2
    refine bodyPost_ret (v := .agg #[.int .i64 lo, .int .i64 hi]) (by simp [results, Tryz.results107, go_sem, k0, k1]) rfl ⟨rfl, HB.out⟩
  · obtain ⟨K1, K2⟩ := key op op
    obtain ⟨k0, k1, kf⟩ := K1.facts2
    have hlo : lo = op := HLO.out
    have hhi : hi = op := HHI.out
    have HLE := hide hlo
    have HHE := hide hhi
    have HB := hide K2
    clear hlo hhi
    clear HLO HHI key q0 p0 r0 hb0 K1 K2
    go_enter Tryz.func107, Tryz.ntmps107
    go_wp2
    refine bodyPost_ret (v := .agg #[.int .i64 op, .int .i64 op]) (by simp [results, Tryz.results107, go_sem, k0, k1]) rfl ⟨by rw [HLE.out, HHE.out], HB.out⟩
end Go.Proofs.YtodamjjlnagpjaaGreatDoor
namespace Go.Proofs.YtodamjjlnagpjaaGreatDoor
open Go.RowKit

set_option maxHeartbeats 1600000 in
set_option maxRecDepth 20000 in
theorem at_any (g : Gt) (lv : Int) (w : World) (hs : g.ok w) :
    Calls Tryz.prog 106 #[.agg g.arr, .int .i64 lv] w fun e w' => e = .returned (.agg #[.slice (gCv g.rs lv nilCv).A (gCv g.rs lv nilCv).n (gCv g.rs lv nilCv).c, .int .i64 0]) ∧ Below w.heap.size w w' := by
  obtain ⟨q0, p0, r0, hb0⟩ := blk_three w 96 186 186 g.arr #[.slice none 0 0, .int .i64 0] #[.slice none 0 0, .int .i64 0]
  have hs0 := hs.below hb0
  have HL := hide hs.len
  obtain ⟨A, n, c, rs, mo, mv⟩ := g
  unfold Gt.arr at q0 p0 r0 hb0 hs0 ⊢
  simp only at q0 p0 r0 hb0 hs0 HL ⊢
  obtain ⟨c0, c1, c2, cf⟩ := q0.facts3
  obtain ⟨d0, d1, df⟩ := p0.facts2
  have hn63 : n ≤ 9223372036854775807 := by have a1 := hs.1.2.1; have a2 := hs.1.2.2.1; simp only at a1 a2; unfold maxLen at a2; omega
  have HS := hide (fun (k : Nat) (h : k < rs.length) => show gCv (rs.take (k + 1)) lv nilCv = if (rs[k]'h).lv ≤ lv then (rs[k]'h).cv else gCv (rs.take k) lv nilCv from by rw [List.take_succ_eq_append_getElem h, gCv_snoc])
  have HT := hide (show gCv (rs.take n) lv nilCv = gCv rs lv nilCv by rw [HL.out, List.take_length])
  have HZ := hide (show gCv (rs.take 0) lv nilCv = nilCv from rfl)
  generalize gCv rs lv nilCv = fc at *
  obtain ⟨F, hF⟩ : ∃ F : Nat → Cv, ∀ k, F k = gCv (rs.take k) lv nilCv := ⟨_, fun _ => rfl⟩
  have HS2 : Hid (∀ (k : Nat) (h : k < rs.length), F (k + 1) = if (rs[k]'h).lv ≤ lv then (rs[k]'h).cv else F k) := hide (fun k h => by rw [hF, hF]; exact HS.out k h)
  have HT2 := hide (show F n = fc by rw [hF]; exact HT.out)
  have HZ2 := hide (show F 0 = nilCv by rw [hF]; exact HZ.out)
  have hg0 : w.heap.size < w.heap.size + 1 := by omega
  have HSW := hide hs.1
  clear HS HT HZ hF hs
  go_enter Tryz.func106, Tryz.ntmps106
  go_upto_region 2 with fail
  generalize ((w.alloc _).alloc _).alloc _ = w1 at *
  go_wp2
  clear c0 c1 c2 d0 d1 df
  go_loopw [11] (fun i wr => ∃ k : Nat, k ≤ n ∧ i = .int .i64 k ∧ Blk wr (w.heap.size + 1 + 1) 186 #[.slice (F k).A (F k).n (F k).c, .int .i64 0] ∧ Blk wr w.heap.size 96 #[.slice A n c, .int .i64 mo, .int .i64 mv] ∧ Blk wr (w.heap.size + 1) 186 #[.slice none 0 0, .int .i64 0] ∧ Below w.heap.size w wr) (fun i _ => n - (intOf i).toNat)
  case atStart => exact ⟨0, by omega, rfl, by rw [HZ2.out]; exact r0, q0, p0, hb0⟩
  case round =>
    obtain ⟨k, hk, rfl, hR, hQ, hP, hb⟩ := hrel
    by_cases hlt : k < n
    · have hki : (k : Int) < (n : Int) := by omega
      have hkl : k < rs.length := by have := HL.out; omega
      obtain ⟨b, o, hA, hbl, hc⟩ := (Sl.thr HSW.out hb).at_ hlt
      subst hA
      obtain ⟨e0, e1⟩ := gr_cells hc hkl
      have hF := HS2.out k hkl
      generalize rs[k]'hkl = r at *
      obtain ⟨lq, qA, qn, qc, ps⟩ := r
      simp only at e0 e1 hF
      have n5 := Blk.new wr 101 #[.int .i64 lq, .slice qA qn qc]
      have hb5 := bel1 (w := wr) (o := .cells #[.int .i64 lq, .slice qA qn qc] 101)
      have HB5 := hide (bthr hb hb5 hb.size)
      have hR5 := hR.below hb5 hR.lt
      have HQ5 := hide (hQ.below hb5 hQ.lt)
      have HP5 := hide (hP.below hb5 hP.lt)
      have HF := hide hF
      clear hb hc hR hQ hP hb5 hF
      go_upto_region 5 with fail
      clear e0 e1
      generalize wr.alloc _ = w5 at *
      generalize wr.heap.size = g5 at *
      obtain ⟨x0, x1, xf⟩ := n5.facts2
      obtain ⟨y0, y1, yf⟩ := hR5.facts2
      by_cases hle : lq ≤ lv
      · have hled : decide (lq ≤ lv) = true := by simpa using hle
        have HFE := hide (HF.out.trans (if_pos hle))
        have hR6 := hR5.set_ 0 (.slice qA qn qc)
        simp only [List.setIfInBounds_toArray, List.set_cons_zero] at hR6
        have HR6 := hide hR6
        have HQ6 := hide (HQ5.out.far (p := ⟨w.heap.size + 1 + 1, 0, none⟩) (show w.heap.size ≠ w.heap.size + 1 + 1 by omega) (.slice qA qn qc))
        have HP6 := hide (HP5.out.far (p := ⟨w.heap.size + 1 + 1, 0, none⟩) (show w.heap.size + 1 ≠ w.heap.size + 1 + 1 by omega) (.slice qA qn qc))
        have HB6 := hide (HB5.out.setCell (p := ⟨w.heap.size + 1 + 1, 0, none⟩) (by simp only; omega) (.slice qA qn qc))
        clear hR6 hR5 n5 HF HQ5 HP5 HB5
        go_wp2
        go_roundw
        case rel => exact ⟨k + 1, by omega, by go_num, by rw [HFE.out]; exact HR6.out, HQ6.out, HP6.out, HB6.out⟩
        case measure => simp [intOf]; omega
      · have hled : decide (lq ≤ lv) = false := by simpa using hle
        have HFE := hide (HF.out.trans (if_neg hle))
        have HR6 := hide hR5
        clear hR5 n5 HF
        go_wp2
        go_roundw
        case rel => exact ⟨k + 1, by omega, by go_num, by rw [HFE.out]; exact HR6.out, HQ5.out, HP5.out, HB5.out⟩
        case measure => simp [intOf]; omega
    · have hki : ¬ ((k : Int) < (n : Int)) := by omega
      obtain rfl : k = n := by omega
      rw [HT2.out] at hR
      have hP2 := (hP.set_ 0 (.slice fc.A fc.n fc.c)).set_ 1 (.int .i64 0)
      simp only [List.setIfInBounds_toArray, List.set_cons_zero, List.set_cons_succ] at hP2
      have HBE := hide ((hb.setCell (p := ⟨w.heap.size + 1, 0, none⟩) (by simp only; omega) (.slice fc.A fc.n fc.c)).setCell (p := ⟨w.heap.size + 1, 1, none⟩) (by simp only; omega) (.int .i64 0))
      obtain ⟨x0, x1, xf⟩ := hR.facts2
      obtain ⟨d0, d1, df⟩ := hP.facts2
      obtain ⟨y0, y1, yf⟩ := hP2.facts2
      clear hb hR hQ hP hP2
      go_wp2
      refine bodyPost_ret (v := .agg #[.slice fc.A fc.n fc.c, .int .i64 0]) (by simp [results, Tryz.results106, go_sem, y0, y1]) rfl ⟨rfl, HBE.out⟩
end Go.Proofs.YtodamjjlnagpjaaGreatDoor
namespace Go.Proofs.YtodamjjlnagpjaaGreatDoor
open Go.RowKit

/-- Gates with their states, in memory. -/
structure Gtn where
  gA : Option Addr
  gn : Nat
  gc : Nat
  gs : List Gt
  sA : Option Addr
  sn : Nat
  sc : Nat
  ss : List Gs
structure Gtn.ok (x : Gtn) (w : World) : Prop where
  g : Sl w w.heap.size 3 x.gA x.gn x.gc (gtCells x.gs)
  ok : ∀ g ∈ x.gs, g.ok w
  s : Sl w w.heap.size 2 x.sA x.sn x.sc (gsCells x.ss)
theorem Gtn.ok.below {x : Gtn} {w w' : World} (h : x.ok w) (hb : Below w.heap.size w w') : x.ok w' := ⟨Sl.thr h.g hb, fun g hg => (h.ok g hg).below hb, Sl.thr h.s hb⟩
structure GtnG (x : Gtn) : Prop where
  n : x.gs.length ≤ 8
  l : x.ss.length = x.gs.length
  g : ∀ g ∈ x.gs, GtG g
  s : ∀ (i : Nat) (h : i < x.gs.length), 0 ≤ (x.ss[i]'(by omega)).op ∧ (x.ss[i]'(by omega)).op ≤ x.gs[i].mo
theorem gt_cells {w : World} {b o : Nat} {gs : List Gt} (hc : ∀ j u, (gtCells gs)[j]? = some u → w.cell? ⟨b, o + j, none⟩ = some u) {k : Nat} (hk : k < gs.length) :
    w.cell? ⟨b, o + k * 3, none⟩ = some (.slice gs[k].A gs[k].n gs[k].c) ∧ w.cell? ⟨b, o + k * 3 + 1, none⟩ = some (.int .i64 gs[k].mo) ∧ w.cell? ⟨b, o + k * 3 + 2, none⟩ = some (.int .i64 gs[k].mv) := by
  have h := fun j hj => cellsOf_get Gt.arr 3 (fun _ => rfl) gs k hk j hj
  exact ⟨hc _ _ (h 0 (by omega)), by rw [Nat.add_assoc]; exact hc _ _ (h 1 (by omega)), by rw [Nat.add_assoc]; exact hc _ _ (h 2 (by omega))⟩
theorem gs_cells {w : World} {b o : Nat} {ss : List Gs} (hc : ∀ j u, (gsCells ss)[j]? = some u → w.cell? ⟨b, o + j, none⟩ = some u) {k : Nat} (hk : k < ss.length) :
    w.cell? ⟨b, o + k * 2, none⟩ = some (.int .i64 ss[k].op) ∧ w.cell? ⟨b, o + k * 2 + 1, none⟩ = some (.bool ss[k].jam) := by
  have h := fun j hj => cellsOf_get Gs.arr 2 (fun _ => rfl) ss k hk j hj
  exact ⟨hc _ _ (h 0 (by omega)), by rw [Nat.add_assoc]; exact hc _ _ (h 1 (by omega))⟩
theorem Gtn.lens {x : Gtn} {w : World} (h : x.ok w) (hg : GtnG x) : x.gn = x.gs.length ∧ x.sn = x.gn ∧ x.gn ≤ 8 := by
  have hl : x.gn = x.gs.length := by have := h.g.1; rw [gtCells, cellsOf_len Gt.arr 3 (fun _ => rfl)] at this; omega
  have hs : x.sn = x.ss.length := by have := h.s.1; rw [gsCells, cellsOf_len Gs.arr 2 (fun _ => rfl)] at this; omega
  have hgl := hg.l
  have hn := hg.n
  omega
/-- The cells of gate k and its state. -/
theorem Gtn.at_ {x : Gtn} {w : World} (h : x.ok w) (hg : GtnG x) {k : Nat} (hk : k < x.gn) : ∃ (b o b2 o2 : Nat) (g : Gt) (s : Gs), x.gA = some ⟨b, o, none⟩ ∧ x.sA = some ⟨b2, o2, none⟩ ∧ x.gs[k]? = some g ∧ x.ss[k]? = some s ∧ g.ok w ∧ GtG g ∧ (0 ≤ s.op ∧ s.op ≤ g.mo) ∧
    (w.cell? ⟨b, o + k * 3, none⟩ = some (.slice g.A g.n g.c) ∧ w.cell? ⟨b, o + k * 3 + 1, none⟩ = some (.int .i64 g.mo) ∧ w.cell? ⟨b, o + k * 3 + 2, none⟩ = some (.int .i64 g.mv)) ∧
    w.cell? ⟨b2, o2 + k * 2, none⟩ = some (.int .i64 s.op) ∧ w.cell? ⟨b2, o2 + k * 2 + 1, none⟩ = some (.bool s.jam) := by
  obtain ⟨hl, hs, _⟩ := Gtn.lens h hg
  have hgl := hg.l
  obtain ⟨b, o, hA, _, hc⟩ := h.g.at_ hk
  obtain ⟨b2, o2, hA2, _, hc2⟩ := h.s.at_ (k := k) (by omega)
  exact ⟨b, o, b2, o2, x.gs[k]'(by omega), x.ss[k]'(by omega), hA, hA2, List.getElem?_eq_getElem _, List.getElem?_eq_getElem _, h.ok _ (List.getElem_mem _), hg.g _ (List.getElem_mem _), hg.s k (by omega), gt_cells hc (by omega), gs_cells hc2 (by omega)⟩
set_option maxHeartbeats 3200000 in
set_option maxRecDepth 20000 in
theorem gasked_ok (x : Gtn) (lv : Int) (hlv : 0 ≤ lv ∧ lv ≤ 16777216) (hg : GtnG x) (w : World) (hs : x.ok w) :
    Calls Tryz.prog 123 #[.slice x.gA x.gn x.gc, .slice x.sA x.sn x.sc, .int .i64 lv] w fun e w' => e = .returned (.int .i64 0) ∧ Below w.heap.size w w' := by
  obtain ⟨hl1, hl2, hl3⟩ := Gtn.lens hs hg
  have HAT := hide (fun (W : World) (hW : Below w.heap.size w W) (k : Nat) (hk : k < x.gn) => Gtn.at_ (hs.below hW) hg hk)
  obtain ⟨gA, gn, gc, gs, sA, sn, sc, ss⟩ := x
  simp only at hl1 hl2 hl3 HAT ⊢
  obtain ⟨v0, v1⟩ := hlv
  clear hl1 hs hg
  obtain rfl : sn = gn := hl2
  have hd1 : decide (8 < (sn : Int)) = false := by simp; omega
  have hd2 : ((sn : Int) != (sn : Int)) = false := by simp
  go_enter Tryz.func123, Tryz.ntmps123
  go_wp2
  go_loopw [24] (fun i wr => ∃ k : Nat, k ≤ sn ∧ i = .int .i64 k ∧ Below w.heap.size w wr) (fun i _ => sn - (intOf i).toNat)
  case atStart => exact ⟨0, by omega, rfl, Below.refl _ _⟩
  case round =>
    obtain ⟨k, hk, rfl, hb⟩ := hrel
    have HB := hide hb
    by_cases hlt : k < sn
    · have hki : (k : Int) < (sn : Int) := by omega
      obtain ⟨b, o, b2, o2, g, s, rfl, rfl, _, _, hgo, hgg, hso, ⟨e0, e1, e2⟩, f0, f1⟩ := HAT.out wr hb k hlt
      have q1 := Blk.new wr 96 g.arr
      have hb1 := bel1 (w := wr) (o := .cells g.arr 96)
      have hB1 := bthr hb hb1 hb.size
      have HP := hide (fun W => gvalid_ok g s hso W)
      replace f0 := cell_thr hb1 f0
      replace f1 := cell_thr hb1 f1
      unfold Gt.arr at q1 hb1 hB1 HP f0 f1
      unfold Gs.arr at HP
      clear hb hgo hgg hso
      go_upto_region 8 with fail
      clear e0 e1 e2
      generalize wr.alloc _ = w5 at *
      obtain ⟨c0, c1, c2, cf⟩ := q1.facts3
      have hne : Nonempty (InW fun w => Below w5.heap.size w5 w) := ⟨⟨w5, Below.refl _ _⟩⟩
      replace c0 := inv_cell c0
      replace c1 := inv_cell c1
      replace c2 := inv_cell c2
      replace f0 := inv_cell f0
      replace f1 := inv_cell f1
      refine wp_region_inv (I := fun w => Below w5.heap.size w5 w) (by kernel_rfl) (by kernel_rfl) (Below.refl _ _).drew ?_
      repeat (go_big_quiet_step (first | (go_at_call 143; refine inv_call (inv_closed w5) (HP.out _))))
      refine wpQuiet_nil ?_
      rintro _ ⟨⟨w9, h9⟩, rfl⟩
      have HB9 := hide (bthr hB1 h9 hB1.size)
      clear c0 c1 c2 f0 f1 cf hb1 hB1 q1 h9
      go_wp2
      go_roundw
      case rel => exact ⟨k + 1, by omega, by go_num, HB9.out⟩
      case measure => simp [intOf]; omega
    · have hki : ¬ ((k : Int) < (sn : Int)) := by omega
      clear hb
      go_wp2
      go_loopw [39] (fun i wr => ∃ k : Nat, k ≤ sn ∧ i = .int .i64 k ∧ Below w.heap.size w wr) (fun i _ => sn - (intOf i).toNat)
      case atStart => exact ⟨0, by omega, rfl, HB.out⟩
      case round =>
        rename World => wr
        obtain ⟨k, hk, rfl, hb⟩ := hrel
        have HB := hide hb
        by_cases hlt : k < sn
        · have hki : (k : Int) < (sn : Int) := by omega
          obtain ⟨b, o, b2, o2, g, s, rfl, rfl, _, _, hgo, hgg, hso, ⟨e0, e1, e2⟩, f0, f1⟩ := HAT.out wr hb k hlt
          have q1 := Blk.new wr 96 g.arr
          have hb1 := bel1 (w := wr) (o := .cells g.arr 96)
          have hB1 := bthr hb hb1 hb.size
          have HP := hide (fun W h => gcheck_ok g hgg W h)
          have hg1 := hgo.below hb1
          unfold Gt.arr at q1 hb1 hB1 HP hg1
          clear hb hgo hgg hso f0 f1
          go_upto_region 14 with fail
          clear e0 e1 e2
          generalize wr.alloc _ = w5 at *
          obtain ⟨c0, c1, c2, cf⟩ := q1.facts3
          go_wp2_with fail
          refine (HP.out _ hg1).mono ?_
          rintro e w9 ⟨rfl, h9⟩
          have HB9 := hide (bthr hB1 h9 hB1.size)
          clear c0 c1 c2 cf hb1 hB1 q1 h9 hg1
          go_wp2
          go_roundw
          case rel => exact ⟨k + 1, by omega, by go_num, HB9.out⟩
          case measure => simp [intOf]; omega
        · have hki : ¬ ((k : Int) < (sn : Int)) := by omega
          clear hb
          go_wp2_with fail
          refine (within_true _ _ (by omega) (by omega) _).mono ?_
          rintro e w' ⟨rfl, rfl⟩
          go_wp2
          go_ret
          exact ⟨rfl, HB.out⟩
end Go.Proofs.YtodamjjlnagpjaaGreatDoor
