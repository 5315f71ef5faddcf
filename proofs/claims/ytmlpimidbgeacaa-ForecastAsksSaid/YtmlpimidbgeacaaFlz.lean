/-
  The walk of ForecastLatest: it answers true. Condition: its list can be read.
-/
import Derived.Test.YtmlpimidbgeacaaProg
import Derived.Test.YtmlpimidbgeacaaFbs
import Derived.Test.YtmlpimidbgeacaaFlq
import Derived.Test.YtmlpimidbgeacaaFsl
import Derived.Test.YtmlpimidbgeacaaFaw
namespace Go.Proofs.Ytmlpimidbgeacaa
open Go.RowKit

/-- a made bundle -/
def BdFine (x : Bd) : Prop := (0 ≤ x.fr ∧ x.fr < 20) ∧ (1 ≤ x.ss.length ∧ x.ss.length ≤ 4) ∧ x.n = x.ss.length ∧ ∃ nn : Nat, 1 ≤ nn ∧ nn ≤ 6 ∧ ∀ s ∈ x.ss, ScGood nn s
theorem fine_err {x : Bd} (h : BdFine x) : x.err = 0 := by
  obtain ⟨h1, h2, h3, nn, h4, h5, h6⟩ := h
  exact made_err ⟨h1.1, by omega⟩ (by omega) h3 (nn := nn) (by omega) (fun s hs => good_sc (h6 s hs))
theorem bdCells_cell (bs : List Bd) : ∀ u ∈ bdCells bs, u.oneCell' = true := by
  intro u hu
  obtain ⟨b, _, h⟩ := List.mem_flatMap.1 hu
  have h3 : u = .int .i64 b.fr ∨ u = .slice b.A b.n b.c ∨ u = .bool b.wd := by simpa [Bd.arr] using h
  rcases h3 with rfl | rfl | rfl <;> rfl
/-- the bundle that covers one step -/
def newBd (T : Int) (g1 g2 : Nat) : Bd := ⟨T, some ⟨g2, 0, none⟩, 1, 1, [⟨1, some ⟨g1, 0, none⟩, 1, 1, [3]⟩], false⟩
theorem newBd_ok {w : World} {g1 g2 : Nat} (T : Int) (h1 : Blk w g1 3 #[.int .i64 3]) (h2 : Blk w g2 32 #[.int .i64 1, .slice (some ⟨g1, 0, none⟩) 1 1]) : (newBd T g1 g2).ok w w.heap.size := by
  refine ⟨⟨rfl, Nat.le_refl _, by unfold maxLen newBd; simp, fun _ => ⟨g2, 0, rfl, h2.lt, fun j u hu => ?_⟩⟩, fun s hs => ?_⟩
  · rw [h2.facts.1, Nat.zero_add, ← hu]
    simp [newBd, scCells, Sc.arr]
  · have hm : s = ⟨1, some ⟨g1, 0, none⟩, 1, 1, [3]⟩ := by simpa [newBd] using hs
    subst hm
    exact sl_int1 h1
theorem newBd_step {T : Int} {g1 g2 : Nat} (h0 : 0 ≤ T) (h1 : T ≤ 25) : stepE (newBd T g1 g2) T = 0 := by
  have he : (newBd T g1 g2).err = 0 := made_err (nn := 1) ⟨h0, by show T ≤ 16777216; omega⟩ ⟨by simp [newBd], by simp [newBd]⟩ rfl ⟨Nat.le_refl _, by omega⟩ (fun s hs => by
    have hm : s = ⟨1, some ⟨g1, 0, none⟩, 1, 1, [3]⟩ := by simpa [newBd] using hs
    subst hm
    refine ⟨by simp, rfl, fun v hv => ?_⟩
    have : v = 3 := by simpa using hv
    omega)
  refine stepE_made (live_made he rfl) ?_
  show (decide (T ≤ T) && decide (T < T + ((1 : Nat) : Int))) = true
  simp only [Bool.and_eq_true, decide_eq_true_eq]
  omega
theorem drop_latest {bs : List Bd} {m : Nat} (T : Int) (g1 g2 : Nat) (h0 : 0 ≤ T) (h1 : T ≤ 25) (hm : bs.length = m) : latL T (bs ++ [newBd T g1 g2]) (m + 1) = some m :=
  latL_hit (b := newBd T g1 g2) (by rw [List.getElem?_append_right (by omega)]; simp [hm]) (newBd_step h0 h1)
theorem push_blkF {W W' : World} {g : Nat} {t : TypeId} {cs : Array Value} {v1 : Value} (hq : Blk W g t cs) (hg : W.grownBy W' v1.ownBlock) (hne : v1.ownBlock ≠ some g) : Blk W' g t cs := (hg.block g hq.lt (fun e => hne e.symm)).trans hq
set_option maxHeartbeats 800000 in
set_option maxRecDepth 20000 in
theorem flatest_walk {A : Option Addr} {n c : Nat} {zs : List Int} {w : World} (hs : Sl w w.heap.size 1 A n c (ints zs)) (tm : Int) : Calls Try.prog 6 #[.slice A n c, .int .i64 tm] w fun e w' => e = .returned (.bool true) ∧ Below w.heap.size w w' := by
  go_enter Try.func6, Try.ntmps6
  go_wp2_with fail
  refine (new_any _ _ _ _ _ hs).mono ?_
  rintro e w1 ⟨rfl, hD1, hb1⟩
  have hw1 := hD1.lt
  have HB1 := hide hb1
  clear hs hb1
  go_wp2_with fail
  refine (next_any w.heap.size 5 (by omega) _ hD1).mono ?_
  rintro e w2 ⟨kx, rfl, hk0, hk1, hD2, hg2, hz2⟩
  obtain ⟨k0, rfl⟩ : ∃ k0 : Nat, kx = (k0 : Int) := ⟨kx.toNat, by omega⟩
  have hk4 : k0 ≤ 4 := by omega
  have HB2 := hide (below_grown HB1.out hg2 HB1.out.size (Nat.le_refl _))
  have hw2 : w.heap.size < w2.heap.size := by omega
  clear hk0 hk1 hg2 hz2 hD1 HB1
  go_wp2_with fail
  go_loopw [6, 7] (fun lv v wr => ∃ q : Nat, q ≤ k0 ∧ v = .int .i64 q ∧ LsP w2 w.heap.size BdFine k0 q wr lv) (fun _ v _ => (intOf v).toNat)
  case atStart => exact ⟨k0, Nat.le_refl _, rfl, none, 0, [], rfl, by simp, by simp, World.ownsRow_nil _ _ _ _, by simp, hD2, grown_refl _ _⟩
  case round =>
    obtain ⟨q, hq, rfl, A', c', bs, rfl, hqb, hP, ho, hap, hD, hG⟩ := hrel
    by_cases hlt : 0 < q
    · have hqi : (0 : Int) < (q : Int) := by omega
      have HP := hide hP
      have HO := hide ho
      have HAP := hide hap
      have HG := hide hG
      have hwr : w2.heap.size ≤ wr.heap.size := hG.size
      clear hP ho hap hG
      go_wp2_with fail
      refine (bundle_any _ _ hD).mono ?_
      rintro e w3 ⟨x, rfl, hf, hl, hn, hgd, ho1, ho2, hD3, hg3⟩
      have HX := hide (show BdFine x from ⟨hf, hl, hn, hgd⟩)
      have HBX := hide (show BdOwn w3 wr.heap.size x from ⟨ho1, ho2⟩)
      have HD3 := hide hD3
      have HG3 := hide hg3
      have o3 := own_deckF HO.out hg3 hw2
      have hz3 : w2.heap.size ≤ w3.heap.size := Nat.le_trans hwr hg3.size
      have hbl : bs.length < 549755813888 := by omega
      have HQ := hide hqb
      obtain ⟨fr, B, m, d, ss, wd⟩ := x
      unfold Bd.arr
      simp only
      clear hf hl hn hgd ho1 ho2 hD3 hg3 hD hqb
      go_wp2_with (at_builtin; refine wpList_push rfl _ _ _ rfl w2.heap.size _ _ slBd _ _ _ rfl o3 _ _ rfl rfl rfl hbl hz3 ?_)
      intro v' w4 hv4 hg4 hn4
      obtain ⟨gv, cv, rfl, _, _⟩ := hv4.form (by omega)
      have HR := hide (lsp_step (q := q - 1) (k0 := k0) (P := BdFine) hw2 (by have := HQ.out; omega) HP.out HX.out HO.out HAP.out HG.out HBX.out HD3.out HG3.out hv4 hg4 hn4)
      clear o3 hv4 hg4 hn4
      go_wp2
      go_roundw
      case rel => exact ⟨q - 1, by omega, by congr 1; omega, HR.out⟩
      case measure => simp [intOf]; omega
    · obtain ⟨z, hz⟩ : ∃ z : Int, (q : Int) = z := ⟨_, rfl⟩
      obtain rfl : z = 0 := by omega
      simp only [hz]
      obtain ⟨m, hm⟩ : ∃ m, bs.length = m := ⟨_, rfl⟩
      rw [hm] at ho hap
      try simp only [hm]
      have hm4 : m ≤ 4 := by omega
      have HM := hide hm
      have HP := hide hP
      have HFL := hide (show ∀ x ∈ bs, ∀ s ∈ x.ss, s.n = s.fl.length from fun x hx s hs => sc_n ((hap x hx).1.2 s hs))
      have HOK := hide (show BdsOk wr wr.heap.size A' m c' bs from ⟨sl_ownv ho, fun x hx => (hap x hx).1.ok⟩)
      have HB := hide (below_grown HB2.out hG HB2.out.size (Nat.le_refl _))
      clear ho hap hP hD hG hqb hq hlt hz HB2 hD2 hm
      go_wp2_with fail
      refine (mod_any tm 26 (by omega) (by omega) _).mono ?_
      rintro e w' ⟨rfl, rfl⟩
      obtain ⟨T, hT⟩ : ∃ T, tm % 26 = T := ⟨_, rfl⟩
      have hT0 : 0 ≤ T := by omega
      have hT1 : T ≤ 25 := by omega
      have HLA := hide (latest_any A' m c' bs T wr HOK.out)
      obtain ⟨lt, hlt⟩ : ∃ lt, latL T bs m = lt := ⟨_, rfl⟩
      rw [hlt] at HLA
      have HLT := hide hlt
      clear hlt
      obtain ⟨i, hi⟩ : ∃ i, lt.getD 0 = i := ⟨_, rfl⟩
      obtain ⟨up, hup⟩ : ∃ up, lt.isSome = up := ⟨_, rfl⟩
      rw [hi, hup] at HLA
      have HI := hide hi
      have HUP := hide hup
      clear hi hup
      go_wp2_with fail
      clear hT
      refine HLA.out.mono ?_
      rintro e w5 ⟨rfl, hb5⟩
      have HOK5 := hide (HOK.out.thr hb5)
      have HB5 := hide (bthr HB.out hb5 HB.out.size)
      clear hb5 HLA HB HOK
      go_wp2_with (at_builtin; refine wpList_ext rfl _ _ _ rfl w5.heap.size _ _ slBd _ 0 [] rfl (World.ownsRow_nil _ _ _ _) _ _ _ _ _ rfl HOK5.out.1 (bdCells_cell bs) (by omega) (Nat.le_refl _) ?_)
      intro v' w6 hv6 hg6 _
      have hv6 : w6.ownsRow w5.heap.size 27 3 v' m (bdCells bs) := by simpa using hv6
      have hb6 : Below w5.heap.size w5 w6 := (Below.refl _ _).grown hg6 (Nat.le_refl _) (fun k hk => by simp [Value.ownBlock] at hk)
      have b1 := Blk.new w6 3 #[.int .i64 3]
      have b2 := Blk.new (w6.alloc (.cells #[.int .i64 3] 3)) 32 #[.int .i64 1, .slice (some ⟨w6.heap.size, 0, none⟩) 1 1]
      rw [World.size_alloc] at b2
      have b1 := b1.alloc (.cells #[.int .i64 1, .slice (some ⟨w6.heap.size, 0, none⟩) 1 1] 32)
      have o6 := (hv6.alloc (.cells #[.int .i64 3] 3)).alloc (.cells #[.int .i64 1, .slice (some ⟨w6.heap.size, 0, none⟩) 1 1] 32)
      have hb7 := (hb6.alloc hb6.size (.cells #[.int .i64 3] 3)).alloc (by simp only [World.size_alloc]; have := hb6.size; omega) (.cells #[.int .i64 1, .slice (some ⟨w6.heap.size, 0, none⟩) 1 1] 32)
      have hlr : ∀ g, v'.ownBlock = some g → g < w6.heap.size := fun g hg => (hv6.lt g hg).2
      clear hv6 hg6 hb6
      go_wp2_with (at_builtin; refine wpList_pushG (w6.heap.size + 1 + 1) (by simp only [World.size_alloc]) rfl _ _ _ rfl w5.heap.size _ _ slBd _ _ _ rfl o6 _ _ rfl rfl rfl (by omega) hb7.size ?_)
      intro v7 w7 hv7 hg7 hn7
      obtain ⟨gv, cv, rfl, _, _⟩ := hv7.form (by omega)
      have r1 := push_blkF b1 hg7 (fun e => by have := hlr _ e; omega)
      have r2 := push_blkF b2 hg7 (fun e => by have := hlr _ e; omega)
      have hb8 : Below w5.heap.size w5 w7 := hb7.grown hg7 hb7.size (fun k hk => (o6.lt k hk).1)
      have HOK8 := hide (HOK5.out.thr hb8)
      have HB8 := hide (bthr HB5.out hb8 HB5.out.size)
      have HOKM := hide (show BdsOk w7 w7.heap.size (some ⟨gv, 0, none⟩) (m + 1) cv (bs ++ [newBd T w6.heap.size (w6.heap.size + 1)]) from bds_own (by rw [bdCells_append, bdCells_one]; exact hv7) (fun x hx => by
        rcases List.mem_append.1 hx with h | h
        · exact HOK8.out.2 x h
        · rw [List.mem_singleton] at h; subst h
          exact newBd_ok T r1 r2))
      have HL2 := hide (latest_any (some ⟨gv, 0, none⟩) (m + 1) cv (bs ++ [newBd T w6.heap.size (w6.heap.size + 1)]) T w7 HOKM.out)
      rw [drop_latest T _ _ hT0 hT1 HM.out] at HL2
      simp only [Option.getD_some, Option.isSome_some] at HL2
      clear hv7 hg7 hn7 b1 b2 r1 r2 hb7 hb8 o6 hlr HOK5 HB5 HOKM
      have hmm : ((m : Int) != (m : Int)) = false := by simp
      go_wp2_with fail
      refine HL2.out.mono ?_
      rintro e w8 ⟨rfl, hb9⟩
      have HOK9 := hide (HOK8.out.thr hb9)
      have HB9 := hide (bthr HB8.out hb9 HB8.out.size)
      clear hb9 HL2 HB8 HOK8
      cases hl : lt with
      | none =>
        have hi : i = 0 := by have := HI.out; rw [hl] at this; exact this.symm
        have hup : up = false := by have := HUP.out; rw [hl] at this; exact this.symm
        subst hi hup
        clear HI HUP HLT hl HFL HP HOK9
        simp only [Int.natCast_zero]
        go_wp2_with fail
        refine (awake_any _).mono ?_
        rintro e wz ⟨rfl, hbz⟩
        have HBY := hide (bthr HB9.out hbz HB9.out.size)
        clear hbz
        go_wp2
        go_ret
        exact ⟨rfl, HBY.out⟩
      | some i' =>
        have hi : i = i' := by have := HI.out; rw [hl] at this; exact this.symm
        have hup : up = true := by have := HUP.out; rw [hl] at this; exact this.symm
        subst hi hup
        have HLT2 := hide (HLT.out.trans hl)
        clear HI HUP HLT hl
        obtain ⟨him, b, hbi, hbs⟩ := latL_lt HLT2.out
        have HBI := hide hbi
        have HBS := hide hbs
        have hmem : b ∈ bs := List.mem_of_getElem? hbi
        have HFN := hide (HP.out b hmem)
        have HFB := hide (HFL.out b hmem)
        have HOKB := hide (HOK9.out.2 b hmem)
        clear HP HFL hmem
        have hii : (i : Int) < (m : Int) := by omega
        have hi0 : (0 : Int) ≤ (i : Int) := by omega
        obtain ⟨bl, ol, hA, _, hcl⟩ := HOK9.out.1.at_ him
        have hib : i < bs.length := by have := HM.out; omega
        obtain ⟨d0, d1, d2⟩ := bd_cells (b := b) hcl hib (by have h := List.getElem?_eq_getElem hib; rw [hbi] at h; exact (Option.some.inj h).symm)
        subst hA
        have HME := hide (mean_any b T w8 HOKB.out)
        rw [hbs, if_pos rfl] at HME
        generalize meanV b T = mv at *
        have HER := hide (fine_err HFN.out)
        obtain ⟨fr, B, mb, db, ss, wd⟩ := b
        unfold Bd.arr at HME
        simp only at HME d0 d1 d2
        clear hcl hbi hbs
        have HWI := hide (fun (W : World) h => withdraw_any ⟨fr, B, mb, db, ss, wd⟩ W h)
        unfold Bd.arr BdRes at HWI
        rw [HER.out] at HWI
        go_wp2_with fail
        refine HME.out.mono ?_
        rintro e w9 ⟨rfl, hb10⟩
        have d0 := cell_thr hb10 d0
        have d1 := cell_thr hb10 d1
        have d2 := cell_thr hb10 d2
        have HOK10 := hide (HOK9.out.thr hb10)
        have HOKB10 := hide (Bd.ok.thr HOKB.out hb10)
        have HB10 := hide (bthr HB9.out hb10 HB9.out.size)
        clear hb10 HME HOK9 HOKB HB9
        go_wp2_with fail
        refine (HWI.out w9 HOKB10.out).mono ?_
        rintro e w10 ⟨x, rfl, hx, _, hb11⟩
        obtain ⟨hx1, hx2, hx3, hx4, hx5, _⟩ := hx trivial
        obtain ⟨xf, xA, xn, xc, xs, xw⟩ := x
        simp only at hx1 hx2 hx3 hx4 hx5
        have HOK11 := hide (HOK10.out.thr hb11)
        have HB11 := hide (bthr HB10.out hb11 HB10.out.size)
        have HGO := hide (show stepE ⟨xf, xA, xn, xc, xs, xw⟩ T = 9 from by
          obtain ⟨f1, f2, f3, nn, f4, f5, f6⟩ := HFN.out
          simp only at f1 f2 f3 f6
          have hxl := cut_len hx4
          have hxg := cut_good (x := ⟨xf, xA, xn, xc, xs, xw⟩) hx4 hx5 f6 HFB.out
          exact gone_step (made_err (nn := nn - 0) ⟨by simp only; omega, by simp only; omega⟩ (by simp only; omega) hx3 (by omega) hxg) hx2)
        have HXO := hide hx5.ok
        clear hx hx1 hx2 hx3 hx4 hx5 hb11 HWI HOK10 HB10 HOKB10 HFB HFN HER d0 d1 d2
        have p11 := Blk.new w10 27 #[.int .i64 xf, .slice xA xn xc, .bool xw]
        have hba := bel1 (w := w10) (o := .cells #[.int .i64 xf, .slice xA xn xc, .bool xw] 27)
        have HOK12 := hide (HOK11.out.thr hba)
        have HXO12 := hide (Bd.ok.thr HXO.out hba)
        have HB12 := hide (bthr HB11.out hba HB11.out.size)
        clear hba HOK11 HXO HB11
        simp only
        go_upto_region 19 with fail
        generalize w10.alloc _ = w11 at *
        generalize w10.heap.size = g11 at *
        go_wp2_with (at_builtin; refine wpList_ext rfl _ _ _ rfl w11.heap.size _ _ slBd _ 0 [] rfl (World.ownsRow_nil _ _ _ _) _ _ _ _ _ rfl HOK12.out.1 (bdCells_cell bs) (by omega) (Nat.le_refl _) ?_)
        intro v8 w12 hv12 hg12 _
        have hv12 : w12.ownsRow w11.heap.size 27 3 v8 m (bdCells bs) := by simpa using hv12
        have hb12 : Below w11.heap.size w11 w12 := (Below.refl _ _).grown hg12 (Nat.le_refl _) (fun k hk => by simp [Value.ownBlock] at hk)
        obtain ⟨gl, cl, rfl, hgl, _⟩ := hv12.form (by omega)
        have hlc := hv12.1
        obtain ⟨z0, l0⟩ : ∃ u, w12.cell? ⟨gl, i * 3, none⟩ = some u := ⟨_, (hv12.cellAt (i * 3) (by omega)).trans (List.getElem?_eq_getElem (by omega))⟩
        obtain ⟨z1, l1⟩ : ∃ u, w12.cell? ⟨gl, i * 3 + 1, none⟩ = some u := ⟨_, (hv12.cellAt (i * 3 + 1) (by omega)).trans (List.getElem?_eq_getElem (by omega))⟩
        obtain ⟨z2, l2⟩ : ∃ u, w12.cell? ⟨gl, i * 3 + 2, none⟩ = some u := ⟨_, (hv12.cellAt (i * 3 + 2) (by omega)).trans (List.getElem?_eq_getElem (by omega))⟩
        have lf := fun j => hv12.frozenAt j
        have lf0 := lf (i * 3)
        have lf1 := lf (i * 3 + 1)
        have lf2 := lf (i * 3 + 2)
        obtain ⟨e0, e1, e2, ef⟩ := (p11.below hb12 p11.lt).facts3
        have k1 := (hv12.stored (i * 3) (.int .i64 xf)).1
        have k2 := (k1.stored (i * 3 + 1) (.slice xA xn xc)).1
        have k3 := (k2.stored (i * 3 + 2) (.bool xw)).1
        have HXX := hide (bdCells_set (bs := bs) (x := ⟨xf, xA, xn, xc, xs, xw⟩) hib)
        simp only at HXX
        rw [HXX.out] at k3
        have hb13 := ((hb12.setCell (p := ⟨gl, i * 3, none⟩) hgl (.int .i64 xf)).setCell (p := ⟨gl, i * 3 + 1, none⟩) hgl (.slice xA xn xc)).setCell (p := ⟨gl, i * 3 + 2, none⟩) hgl (.bool xw)
        have HOK13 := hide (bds_own k3 (fun y hy => by
          rcases List.mem_or_eq_of_mem_set hy with h | h
          · exact Bd.ok.thr (HOK12.out.2 y h) hb13
          · subst h
            exact Bd.ok.thr HXO12.out hb13))
        have HB13 := hide (bthr HB12.out hb13 HB12.out.size)
        clear hv12 hg12 hb12 lf k1 k2 k3 HXX hb13 p11 HOK12 HXO12 HB12 hlc
        go_upto_region 21 with fail
        clear l0 l1 l2 lf0 lf1 lf2 e0 e1 e2 ef
        generalize World.setCell _ _ _ = w13 at *
        have HG3 := hide (latL_gone (g := ⟨xf, xA, xn, xc, xs, xw⟩) HLT2.out (by rw [HGO.out]; decide))
        have HL3 := hide (latest_any (some ⟨gl, 0, none⟩) m cl (bs.set i ⟨xf, xA, xn, xc, xs, xw⟩) T w13 HOK13.out)
        generalize latL T (bs.set i ⟨xf, xA, xn, xc, xs, xw⟩) m = l3 at *
        go_wp2_with fail
        refine HL3.out.mono ?_
        rintro e w14 ⟨rfl, hb14⟩
        have HB14 := hide (bthr HB13.out hb14 HB13.out.size)
        clear hb14 HL3 HB13 HOK13
        cases hl3 : l3 with
        | none =>
          simp only [Option.getD_none, Option.isSome_none]
          clear HG3
          go_wp2_with fail
          refine (awake_any _).mono ?_
          rintro e wz ⟨rfl, hbz⟩
          have HBY := hide (bthr HB14.out hbz HB14.out.size)
          clear hbz
          go_wp2
          go_ret
          exact ⟨rfl, HBY.out⟩
        | some j =>
          have hji := HG3.out j hl3
          have hjj : (j : Int) < (i : Int) := by omega
          simp only [Option.getD_some, Option.isSome_some]
          clear HG3
          go_wp2_with fail
          refine (awake_any _).mono ?_
          rintro e wz ⟨rfl, hbz⟩
          have HBY := hide (bthr HB14.out hbz HB14.out.size)
          clear hbz
          go_wp2
          go_ret
          exact ⟨rfl, HBY.out⟩
end Go.Proofs.Ytmlpimidbgeacaa
