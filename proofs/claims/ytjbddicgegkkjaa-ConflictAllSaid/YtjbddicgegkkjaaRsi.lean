/-
  Contracts of the reference's Dead and Simple, of any conditions: the result, or the first error. Condition: there are 200 conditions at most.
-/
import Derived.Test.YtjbddicgegkkjaaProg
import Derived.Test.YtjbddicgegkkjaaRdd
import Derived.Deep.DeepCutAuto
namespace Go.Proofs.Ytjbddicgegkkjaa
open Go.RowKit

theorem sl_tail {w : World} {B m c b o : Nat} {x : Int} {xs : List Int} (h : Sl w B 1 (some ⟨b, o, none⟩) (m + 1) c (ints (x :: xs))) (c' : Nat) (hc : c' = c - 1) (A' : Option Addr) (hA : 0 < m → A' = some ⟨b, o + 1, none⟩) : Sl w B 1 A' m c' (ints xs) := by
  obtain ⟨h1, h2, h3, h4⟩ := h
  refine ⟨by simp [ints_length] at h1 ⊢; omega, by omega, by omega, fun hm => ?_⟩
  obtain ⟨b', o', e, hb, hcl⟩ := h4 (by omega)
  injection e with e
  injection e with e1 e2 _
  subst e1 e2
  refine ⟨b, o + 1, hA hm, hb, fun j u hu => ?_⟩
  have := hcl (j + 1) u (by unfold ints at hu ⊢; rw [List.map_cons, List.getElem?_cons_succ]; exact hu)
  rw [show o + 1 + j = o + (j + 1) by omega]; exact this
set_option maxHeartbeats 1600000 in
set_option maxRecDepth 20000 in
theorem rsimple_ok (A : Option Addr) (n c : Nat) (cs : List Cd) (w : World) (hn : n ≤ 200) (hg : ∀ x ∈ cs, x.err = 0) (hs : Sl w w.heap.size 7 A n c (cdCells cs)) :
    Calls Try.prog 26 #[.slice A n c] w (SimPost w n cs) := by
  have hl := len_sl hs
  have HL := hide hl
  clear hl
  go_enter Try.func26, Try.ntmps26
  go_wp2_with fail
  refine (rdead_ok A n c cs w hn hg hs).mono ?_
  rintro e w1 ⟨v1, rfl, hv1, hb1⟩
  obtain ⟨Ad, cd, rfl, hsd⟩ := own_sl hv1
  have HS := hide (hs.thr hb1)
  have HSD := hide hsd
  have HB1 := hide hb1
  clear hs hb1 hg hv1 hsd
  go_wp2
  go_loopw [4, 6, 19] (fun dv v i wr => ∃ (k m c' : Nat) (A' : Option Addr), k ≤ n ∧ i = .int .i64 k ∧ dv = .slice A' m c' ∧ Sl wr w1.heap.size 1 A' m c' (ints (deadT cs k (n - k))) ∧ wr.ownsRow w1.heap.size 28 7 v (leftL cs (deadB cs) k).length (cdCells (leftL cs (deadB cs) k)) ∧ Below w1.heap.size w1 wr) (fun _ _ i _ => n - (intOf i).toNat)
  case atStart => exact ⟨0, _, _, _, by omega, rfl, rfl, by rw [Nat.sub_zero, deadT_all]; exact HSD.out, World.ownsRow_nil _ _ _ _, Below.refl _ _⟩
  case round =>
    obtain ⟨j, m, c', A', hj, rfl, rfl, hsd, hv, hb⟩ := hrel
    by_cases hlt : j < n
    · have hL := HL.out
      obtain ⟨bl, ol, rfl, _, hcl2⟩ := (HS.out.below hb).at_ hlt
      rcases ej : cs[j]'(by omega) with ⟨r, kd, vv, f, t, x, y⟩
      obtain ⟨e0, e1, e2, e3, e4, e5, e6⟩ := cd_cells (B := 0) (n := 0) (c := 0) hcl2 (by omega) ej
      have hgd : cs.getD j cdn = ⟨r, kd, vv, f, t, x, y⟩ := by simp [List.getD_eq_getElem?_getD, show j < cs.length by omega, ej]
      have q1 := Blk.new wr 28 #[.int .i64 r, .int .i64 kd, .int .i64 vv, .int .i64 f, .int .i64 t, .int .i64 x, .int .i64 y]
      have hbx := bel1 (w := wr) (o := .cells #[.int .i64 r, .int .i64 kd, .int .i64 vv, .int .i64 f, .int .i64 t, .int .i64 x, .int .i64 y] 28)
      have hb2 := hb.alloc hb.size (.cells #[.int .i64 r, .int .i64 kd, .int .i64 vv, .int .i64 f, .int .i64 t, .int .i64 x, .int .i64 y] 28)
      have hv2 := hv.alloc (.cells #[.int .i64 r, .int .i64 kd, .int .i64 vv, .int .i64 f, .int .i64 t, .int .i64 x, .int .i64 y] 28)
      have hs2 := hsd.alloc hb.size (.cells #[.int .i64 r, .int .i64 kd, .int .i64 vv, .int .i64 f, .int .i64 t, .int .i64 x, .int .i64 y] 28)
      have HI := hide (fun (h : deadB cs j = false) => left_in (cs := cs) h)
      have HU := hide (fun (h : deadB cs j = true) => left_out (cs := cs) h)
      rw [hgd] at HI
      have hll := left_len cs (deadB cs) j
      have hzq := hb.size
      have hki : (j : Int) < (n : Int) := by omega
      obtain ⟨⟨a0, a1, a2, a3, a4, a5, a6⟩, _⟩ := Blk.facts7 q1
      have hzw : (wr.alloc (.cells #[.int .i64 r, .int .i64 kd, .int .i64 vv, .int .i64 f, .int .i64 t, .int .i64 x, .int .i64 y] 28)).heap.size = wr.heap.size + 1 := by simp
      have hzz := hb2.size
      clear hcl2 ej hgd hL hb hsd hbx q1
      go_upto_region 8 with fail
      clear e0 e1 e2 e3 e4 e5 e6 hv
      generalize wr.alloc _ = w5 at *
      generalize wr.heap.size = g5 at *
      cases hd : deadB cs j
      · have A1 := hide (HI.out hd)
        rw [show n - j = (n - (j + 1)) + 1 by omega, deadT_out hd] at hs2
        obtain ⟨T, hT⟩ : ∃ T, deadT cs (j + 1) (n - (j + 1)) = T := ⟨_, rfl⟩
        have HT := hide (fun x (h : x ∈ T) => deadT_ge (cs := cs) (k := j + 1) (m := n - (j + 1)) (x := x) (by rw [hT]; exact h))
        have HTT := hide hT
        rw [hT] at hs2
        have hm : T.length = m := by have := hs2.1; rw [ints_length] at this; omega
        rcases T with _ | ⟨x0, T⟩
        · obtain rfl : m = 0 := by simpa using hm.symm
          have HS2 := hide hs2
          have hmi : ¬ (0 : Int) < ((0 : Nat) : Int) := by simp
          clear HI HU hd hT hm hs2
          go_wp2_with (at_builtin; refine wpList_pushG (g5 + 1) hzw.symm rfl _ _ _ rfl w1.heap.size _ _ slCond u6 _ _ rfl hv2 _ _ rfl rfl rfl (by omega) hzz ?_)
          intro v' w9 hv9 hg9 _
          have hb9 := hide (hb2.trans (below_push hv2 hg9 hzz))
          have hva := hide (own_cells hv9 (ys := cdCells (leftL cs (deadB cs) (j + 1))) (by rw [A1.out, cdCells_append]; rfl))
          clear hv9 hg9 hv2 a0 a1 a2 a3 a4 a5 a6 hb2
          go_wp2
          go_roundw
          case rel => exact ⟨j + 1, _, _, _, by omega, by go_num, rfl, by rw [HTT.out]; exact (by have h0 := HS2.out; exact ⟨h0.1, h0.2.1, h0.2.2.1, fun h => absurd h (by omega)⟩), by rw [show (leftL cs (deadB cs) (j + 1)).length = (leftL cs (deadB cs) j).length + 1 by rw [A1.out]; simp]; exact hva.out, hb9.out⟩
          case measure => simp [intOf]; omega
        · obtain ⟨bd, od, rfl, hbd, hcd⟩ := hs2.at_ (show 0 < m by simp at hm; omega)
          have z0 := hcd 0 (.int .i64 x0) rfl
          rw [Nat.add_zero] at z0
          have hx0 := HT.out x0 (by simp)
          have hxj : (x0 == (j : Int)) = false := by simp; omega
          have hmi : (0 : Int) < (m : Int) := by simp at hm; omega
          have HS2 := hide hs2
          clear HI HU hd hT hm hs2 hcd
          go_wp2_with (at_builtin; refine wpList_pushG (g5 + 1) hzw.symm rfl _ _ _ rfl w1.heap.size _ _ slCond u6 _ _ rfl hv2 _ _ rfl rfl rfl (by omega) hzz ?_)
          intro v' w9 hv9 hg9 _
          have hb9 := hide (hb2.trans (below_push hv2 hg9 hzz))
          have hs9 := hide ((HS2.out.keep (w' := w9) (fun p o hp => World.cell?_of_block (hg9.block p (by omega) (fun e => by have := (hv2.lt p e.symm).1; omega)))))
          have hva := hide (own_cells hv9 (ys := cdCells (leftL cs (deadB cs) (j + 1))) (by rw [A1.out, cdCells_append]; rfl))
          have hz9 := hg9.size
          clear hv9 hg9 hv2 a0 a1 a2 a3 a4 a5 a6 hb2
          go_wp2
          go_roundw
          case rel => exact ⟨j + 1, _, _, _, by omega, by go_num, rfl, by rw [HTT.out]; exact hs9.out, by rw [show (leftL cs (deadB cs) (j + 1)).length = (leftL cs (deadB cs) j).length + 1 by rw [A1.out]; simp]; exact hva.out, hb9.out⟩
          case measure => simp [intOf]; omega
      · have A1 := hide (HU.out hd)
        rw [show n - j = (n - (j + 1)) + 1 by omega, deadT_in hd] at hs2
        obtain ⟨T, hT⟩ : ∃ T, deadT cs (j + 1) (n - (j + 1)) = T := ⟨_, rfl⟩
        have HTT := hide hT
        rw [hT] at hs2
        clear hT
        obtain ⟨m, rfl⟩ : ∃ q, m = q + 1 := ⟨m - 1, by have := hs2.1; rw [ints_length] at this; simp at this; omega⟩
        obtain ⟨bd, od, rfl, hbd, hcd⟩ := hs2.at_ (show 0 < m + 1 by omega)
        have z0 := hcd 0 (.int .i64 (j : Int)) rfl
        rw [Nat.add_zero] at z0
        have hxj : ((j : Int) == (j : Int)) = true := by simp
        have hmc := hs2.2.1
        have hcm := hs2.2.2.1
        unfold maxLen at hcm
        have HS2 := hide hs2
        have HV2 := hide hv2
        have HB2 := hide hb2
        obtain ⟨q, hq⟩ : ∃ q, q = m + 1 := ⟨_, rfl⟩
        have HQ := hide hq
        rw [← hq] at hmc ⊢
        have hqi : (0 : Int) < (q : Int) := by omega
        have hqi1 : (1 : Int) ≤ (q : Int) := by omega
        have hqc : (q : Int) ≤ (c' : Int) := by omega
        have hci : (c' : Int) ≤ 9223372036854775807 := by omega
        clear HI HU hd hcd hs2 hv2 hb2 a0 a1 a2 a3 a4 a5 a6 hq
        go_wp2
        go_roundw
        case rel => exact ⟨j + 1, m, c' - 1, _, by omega, by go_num, by have := HQ.out; (first | rfl | (subst this; rfl) | (subst this; congr 1 <;> omega)), by rw [HTT.out]; exact sl_tail HS2.out _ rfl (if c' = 1 then some ⟨bd, od, none⟩ else some ⟨bd, od + 1, none⟩) (fun h => by rw [if_neg (by have := HQ.out; omega)]), by rw [A1.out]; exact HV2.out, HB2.out⟩
        case measure => simp [intOf]; omega
    · obtain rfl : j = n := by omega
      have HV := hide (ownsRow_base hv HB1.out.size)
      have HB2 := hide (bthr HB1.out hb HB1.out.size)
      clear hv hb hsd
      go_wp2
      go_ret2
      exact ⟨_, rfl, HV.out, HB2.out⟩
set_option maxHeartbeats 1600000 in
set_option maxRecDepth 20000 in
theorem rdead_any (A : Option Addr) (n c : Nat) (cs : List Cd) (w : World) (hn : n ≤ 200) (hs : Sl w w.heap.size 7 A n c (cdCells cs)) :
    Calls Try.prog 25 #[.slice A n c] w (DeadE w cs) := by
  have hl := len_sl hs
  by_cases he : errL cs = 0
  · refine (rdead_ok A n c cs w hn ((errL_zero cs).1 he) hs).mono ?_
    rintro e w1 ⟨v, rfl, hv, hb⟩
    refine ⟨v, by rw [he], ?_, hb⟩
    unfold ddL
    rw [if_pos he, ← hl]
    exact hv
  · have H := hide (rcheck_any A n c cs w hn hs)
    have HF : Hid (ddL cs = []) := hide (if_neg he)
    have hq : (errL cs != 0) = true := by simp [he]
    clear hs hl
    unfold DeadE
    rw [HF.out]
    generalize errL cs = er at *
    clear he
    go_enter Try.func25, Try.ntmps25
    go_wp2_with fail
    refine H.out.mono ?_
    rintro e w1 ⟨rfl, hb⟩
    have HB := hide hb
    clear hb
    go_wp2
    go_ret2
    exact ⟨_, rfl, World.ownsRow_nil _ _ _ _, HB.out⟩
set_option maxHeartbeats 1600000 in
set_option maxRecDepth 20000 in
theorem rsimple_any (A : Option Addr) (n c : Nat) (cs : List Cd) (w : World) (hn : n ≤ 200) (hs : Sl w w.heap.size 7 A n c (cdCells cs)) :
    Calls Try.prog 26 #[.slice A n c] w (SimE w cs) := by
  have hl := len_sl hs
  by_cases he : errL cs = 0
  · refine (rsimple_ok A n c cs w hn ((errL_zero cs).1 he) hs).mono ?_
    rintro e w1 ⟨v, rfl, hv, hb⟩
    refine ⟨v, by rw [he], ?_, hb⟩
    unfold siL
    rw [if_pos he, ← hl]
    exact hv
  · have H := hide (rdead_any A n c cs w hn hs)
    have HF : Hid (siL cs = []) := hide (if_neg he)
    have HG : Hid (ddL cs = []) := hide (if_neg he)
    have hq : (errL cs != 0) = true := by simp [he]
    clear hs hl
    unfold SimE
    unfold DeadE at H
    rw [HF.out]
    rw [HG.out] at H
    generalize errL cs = er at *
    clear he
    go_enter Try.func26, Try.ntmps26
    go_wp2_with fail
    refine H.out.mono ?_
    rintro e w1 ⟨v, rfl, hv, hb⟩
    obtain ⟨A2, c2, rfl, -⟩ := own_sl hv
    have HB := hide hb
    clear hb hv
    go_wp2
    go_ret2
    exact ⟨_, rfl, World.ownsRow_nil _ _ _ _, HB.out⟩
end Go.Proofs.Ytjbddicgegkkjaa
