/-
  The contract of the reference's Same at two bundles that hold the same: true. Conditions: both can be read, and hold the same.
-/
import Derived.Test.YtmlpimidbgeacaaProg
import Derived.Test.YtmlpimidbgeacaaFrs
import Derived.Test.YtmlpimidbgeacaaSame
namespace Go.Proofs.Ytmlpimidbgeacaa
open Go.RowKit

set_option maxHeartbeats 1600000 in
set_option maxRecDepth 20000 in
theorem bsame_yes (fr : Int) (A A' : Option Addr) (n c c' : Nat) (ss ss' : List Sc) (wd : Bool) (w : World) (h1 : Bd.ok w w.heap.size ⟨fr, A, n, c, ss, wd⟩) (h2 : Bd.ok w w.heap.size ⟨fr, A', n, c', ss', wd⟩) (hd : ss.map dat = ss'.map dat) :
    Calls Try.prog 29 #[.agg #[.int .i64 fr, .slice A n c, .bool wd], .agg #[.int .i64 fr, .slice A' n c', .bool wd]] w fun e w' => e = .returned (.bool true) ∧ Below w.heap.size w w' := by
  have hn63 : n ≤ 9223372036854775807 := by have a1 := h1.1.2.1; have a2 := h1.1.2.2.1; unfold maxLen at a2; simp only at a1 a2; omega
  have q0 := (Blk.new w 27 #[.int .i64 fr, .slice A n c, .bool wd]).alloc (.cells #[.int .i64 fr, .slice A' n c', .bool wd] 27)
  have p0 := Blk.new (w.alloc (.cells #[.int .i64 fr, .slice A n c, .bool wd] 27)) 27 #[.int .i64 fr, .slice A' n c', .bool wd]
  rw [World.size_alloc] at p0
  have hB := (bel1 (w := w) (o := .cells #[.int .i64 fr, .slice A n c, .bool wd] 27)).alloc (by simp) (.cells #[.int .i64 fr, .slice A' n c', .bool wd] 27)
  have H1 := hide (Bd.ok.thr h1 hB)
  have H2 := hide (Bd.ok.thr h2 hB)
  have L1 := hide (show n = ss.length from ScsOk.len h1)
  have L2 := hide (show n = ss'.length from ScsOk.len h2)
  have HD := hide (fun (k : Nat) (a : k < ss.length) (b : k < ss'.length) => show ss[k].wt = ss'[k].wt ∧ ss[k].fl = ss'[k].fl by
    have e := congrArg (fun l => l[k]?) hd
    simp only [List.getElem?_map, List.getElem?_eq_getElem a, List.getElem?_eq_getElem b, Option.map_some, Option.some.injEq] at e
    unfold dat at e
    injection e with e1 e2
    exact ⟨e1, e2⟩)
  have HB := hide hB
  have hf : (fr != fr) = false := by simp
  have hw : (wd != wd) = false := by simp
  have hnn : ((n : Int) != (n : Int)) = false := by simp
  obtain ⟨c0, c1, c2, cf⟩ := q0.facts3
  obtain ⟨d0, d1, d2, df⟩ := p0.facts3
  have HQ := hide q0
  have HP := hide p0
  clear h1 h2 hd q0 p0 hB
  go_enter Try.func29, Try.ntmps29
  go_upto_region 1 with fail
  generalize (w.alloc _).alloc _ = w1 at *
  go_wp2
  clear c0 c1 c2 cf d0 d1 d2 df hf hw hnn
  go_loopw [30] (fun i wr => ∃ k : Nat, k ≤ n ∧ i = .int .i64 k ∧ Below w1.heap.size w1 wr) (fun i _ => n - (intOf i).toNat)
  case atStart => exact ⟨0, by omega, rfl, Below.refl _ _⟩
  case round =>
    obtain ⟨k, hk, rfl, hb⟩ := hrel
    by_cases hlt : k < n
    · have hL1 := L1.out
      have hL2 := L2.out
      have K1 := Bd.ok.thr H1.out hb
      have K2 := Bd.ok.thr H2.out hb
      obtain ⟨b1, o1, hA1, _, hc1⟩ := K1.1.at_ hlt
      obtain ⟨b2, o2, hA2, _, hc2⟩ := K2.1.at_ hlt
      simp only at hA1 hc1 hA2 hc2
      subst hA1 hA2
      obtain ⟨hwt, hfl⟩ := HD.out k (by omega) (by omega)
      rcases e1 : ss[k]'(by omega) with ⟨wt, As, ns, cs, fl⟩
      rcases e2 : ss'[k]'(by omega) with ⟨wt', As', ns', cs', fl'⟩
      rw [e1, e2] at hwt hfl
      simp only at hwt hfl
      subst hwt hfl
      obtain ⟨x0, x1⟩ := sc_cells hc1 (by omega) e1
      obtain ⟨y0, y1⟩ := sc_cells hc2 (by omega) e2
      simp only at x0 x1 y0 y1
      have S1 := K1.2 _ (show (⟨wt, As, ns, cs, fl⟩ : Sc) ∈ ss by rw [← e1]; exact List.getElem_mem _)
      have S2 := K2.2 _ (show (⟨wt, As', ns', cs', fl⟩ : Sc) ∈ ss' by rw [← e2]; exact List.getElem_mem _)
      have HSA := hide (fun (W : World) (hW : Below wr.heap.size wr W) => same_any As cs fl As' cs' fl ns ns' W (Sl.thr (show Sl wr wr.heap.size 1 As ns cs (ints fl) from S1) hW) (Sl.thr (show Sl wr wr.heap.size 1 As' ns' cs' (ints fl) from S2) hW))
      rw [show sameB fl fl = true by simp [sameB]] at HSA
      obtain ⟨c0, c1, c2, cf⟩ := (HQ.out.below hb HQ.out.lt).facts3
      obtain ⟨d0, d1, d2, df⟩ := (HP.out.below hb HP.out.lt).facts3
      have hww : (wt != wt) = false := by simp
      have hki : (k : Int) < (n : Int) := by omega
      have HB2 := hide hb
      have hne : Nonempty (InW fun W => Below wr.heap.size wr W) := ⟨⟨wr, Below.refl _ _⟩⟩
      replace c1 := inv_cell c1
      replace d1 := inv_cell d1
      replace x0 := inv_cell x0
      replace x1 := inv_cell x1
      replace y0 := inv_cell y0
      replace y1 := inv_cell y1
      clear hb K1 K2 hc1 hc2 e1 e2 S1 S2 hL1 hL2 c0 c2 cf d0 d2 df
      go_upto_region 6 with fail
      refine wp_region_inv (I := fun W => Below wr.heap.size wr W) (by kernel_rfl) (by kernel_rfl) (Below.refl _ _).drew ?_
      repeat (go_big_quiet_step (first | (go_at_call 25; refine inv_call (inv_closed wr) (HSA.out _ (InW.ok _)))))
      refine wpQuiet_nil ?_
      rintro _ ⟨⟨w8, h8⟩, rfl⟩
      rename World => w8
      have HB3 := hide (HB2.out.trans (h8.mono HB2.out.size))
      clear h8 hne c1 d1 x0 x1 y0 y1 HSA
      go_wp2
      go_roundw
      case rel => exact ⟨k + 1, by omega, by go_num, HB3.out⟩
      case measure => simp [intOf]; omega
    · have hki : ¬ ((k : Int) < (n : Int)) := by omega
      have HBZ := hide (bthr HB.out hb HB.out.size)
      clear hb
      go_wp2
      go_ret
      exact ⟨rfl, HBZ.out⟩
end Go.Proofs.Ytmlpimidbgeacaa
