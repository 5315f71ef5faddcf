/-
  The contract of cut: a bundle without the flows of its first steps, in memory of the call's own. Conditions: the bundle is valid and can be read, and has more steps than are cut.
-/
import Derived.Test.YtmlpimidbgeacaaProg
import Derived.Test.YtmlpimidbgeacaaFcu
namespace Go.Proofs.Ytmlpimidbgeacaa
open Go.RowKit

set_option maxHeartbeats 3200000 in
set_option maxRecDepth 20000 in
theorem cut_ok (b : Bd) (st : Nat) (w : World) (hb : b.ok w w.heap.size) (hv : BdV b) (hst : st < stepsOf b.ss) :
    Calls Try.prog 48 #[.agg b.arr, .int .i64 st] w fun e w' => ∃ x : Bd, e = .returned (.agg x.arr) ∧ CutBd w b st b.wd x w' := by
  have q0 := (Blk.new w 27 b.arr).alloc (.cells #[.int .i64 0, .slice none 0 0, .bool false] 27)
  have p0 := Blk.new (w.alloc (.cells b.arr 27)) 27 #[.int .i64 0, .slice none 0 0, .bool false]
  rw [World.size_alloc] at p0
  have hB := (bel1 (w := w) (o := .cells b.arr 27)).alloc (by simp) (.cells #[.int .i64 0, .slice none 0 0, .bool false] 27)
  have hb1 := Bd.ok.thr hb hB
  have hn := hv.n
  have hm := hv.m
  have hfr := hv.fr
  have HSC := hide hv.sc
  have HLN := hide (ScsOk.len hb)
  have HCB := hide (fun x W => show CutBd w b st b.wd x W ↔ _ from Iff.rfl)
  unfold CutBd at HCB ⊢
  generalize stepsOf b.ss = m at *
  obtain ⟨fr, A, n, c, ss, wd⟩ := b
  unfold Bd.arr at q0 p0 hB hb1 ⊢
  simp only at q0 p0 hB hb1 hn hm hfr HSC HLN ⊢
  have HS1 := hide (show ScsOk _ _ A n c ss from hb1)
  obtain ⟨c0, c1, c2, cf⟩ := q0.facts3
  obtain ⟨d0, d1, d2, df⟩ := p0.facts3
  have hz : ((w.alloc (.cells #[.int .i64 fr, .slice A n c, .bool wd] 27)).alloc (.cells #[.int .i64 0, .slice none 0 0, .bool false] 27)).heap.size = w.heap.size + 2 := by simp
  have HS0 := hide (show ScsOk w w.heap.size A n c ss from hb)
  clear hb hb1 hv HCB
  go_enter Try.func48, Try.ntmps48
  go_upto_region 1 with fail
  generalize (w.alloc _).alloc _ = w1 at *
  obtain ⟨hf0, hf1⟩ := hfr
  obtain ⟨hm0, hm1⟩ := hm
  obtain ⟨hn0, hn1⟩ := hn
  have hB2 := hB.alloc hB.size (.cells #[.int .i64 (fr + st), .slice none 0 0, .bool wd] 27)
  have hbw := bel1 (w := w1) (o := .cells #[.int .i64 (fr + st), .slice none 0 0, .bool wd] 27)
  have q2 := q0.alloc (.cells #[.int .i64 (fr + st), .slice none 0 0, .bool wd] 27)
  have p2 := p0.alloc (.cells #[.int .i64 (fr + st), .slice none 0 0, .bool wd] 27)
  have r2 := Blk.new w1 27 #[.int .i64 (fr + st), .slice none 0 0, .bool wd]
  have HS2 := hide (HS1.out.thr hbw)
  rw [hz] at r2
  have hstm : (st : Int) ≤ 1000 := by omega
  have hst0 : (0 : Int) ≤ (st : Int) := by omega
  clear q0 p0
  go_upto_region 2 with fail
  clear c0 c1 c2 cf d0 d1 d2 df
  have hz2 : (w1.alloc (.cells #[.int .i64 (fr + st), .slice none 0 0, .bool wd] 27)).heap.size = w.heap.size + 3 := by simp [hz]
  simp only [hz] at *
  generalize w1.alloc _ = w2 at *
  obtain ⟨c0, c1, c2, cf⟩ := q2.facts3
  have HQ := hide q2
  have HPR := hide p2
  go_wp2
  clear c0 c1 c2 cf HS1 HS2 hbw hz hB HQ q2
  go_loopw [18] (fun i wr => ∃ k : Nat, k ≤ n ∧ i = .int .i64 k ∧ CutP w (w.heap.size + 1) (w.heap.size + 2) st (fr + st) wd ss k wr) (fun i _ => n - (intOf i).toNat)
  case atStart => exact ⟨0, by omega, rfl, none, 0, [], rfl, rfl, r2, World.ownsRow_nil _ _ _ _, by simp, p2, hB2⟩
  case round =>
    obtain ⟨k, hk, rfl, A2, c2, ts, hl, hd, hq, ho, hsc, h4, hb⟩ := hrel
    by_cases hlt : k < n
    · have hL := HLN.out
      have HSk := HS0.out.thr hb
      obtain ⟨bl, ol, rfl, _, hcl⟩ := HSk.1.at_ hlt
      rcases ek : ss[k]'(by omega) with ⟨wt, A1, n1, c1, fl⟩
      obtain ⟨e0, e1⟩ := sc_cells hcl (by omega) ek
      simp only at e0 e1
      have hmem : (⟨wt, A1, n1, c1, fl⟩ : Sc) ∈ ss := by rw [← ek]; exact List.getElem_mem _
      obtain ⟨-, hn1', -⟩ := HSC.out _ hmem
      simp only at hn1'
      have hokk := HSk.2 _ hmem
      have hbx := bel1 (w := wr) (o := .cells #[.int .i64 wt, .slice A1 n1 c1] 32)
      obtain ⟨bf, of_, hA1, _, _⟩ := hokk.at_ (k := st) (by simp only; omega)
      simp only at hA1
      subst hA1
      have hc1 : n1 ≤ c1 ∧ c1 ≤ maxLen := ⟨hokk.2.1, hokk.2.2.1⟩
      have hc63 : c1 ≤ 9223372036854775807 := by have := hc1.2; unfold maxLen at this; omega
      have HDR := hide (sl_dropI (show Sl wr wr.heap.size 1 (some ⟨bf, of_, none⟩) n1 c1 (ints fl) from hokk) (show st < n1 by omega))
      have HEK := hide (show ∃ h : k < ss.length, ss[k] = ⟨wt, some ⟨bf, of_, none⟩, n1, c1, fl⟩ from ⟨by omega, ek⟩)
      have HB := hide hb
      have HOW := hide ho
      have HSCS := hide hsc
      have HBQ := hide hq
      have HB4 := hide h4
      have HDT := hide (And.intro hl hd)
      have hzr : w.heap.size + 2 < wr.heap.size := hq.lt
      have q8 := hq.alloc (.cells #[.int .i64 wt, .slice (some ⟨bf, of_, none⟩) n1 c1] 32)
      have t8 := Blk.new wr 32 #[.int .i64 wt, .slice (some ⟨bf, of_, none⟩) n1 c1]
      have hki : (k : Int) < (n : Int) := by omega
      have hsi1 : (st : Int) ≤ (n1 : Int) := by omega
      have hsi2 : (st : Int) ≤ (c1 : Int) := by omega
      have hsi3 : (n1 : Int) ≤ (c1 : Int) := by omega
      have hsn1 : st ≤ n1 := by omega
      have hsn2 : ¬ c1 ≤ st := by omega
      have hsn3 : c1 ≠ st := by omega
      have hnst : 0 < n1 - st := by omega
      have hn1k : n1 - st ≤ 1048576 := by omega
      have HDR8 := hide (HDR.out.thr hbx)
      have HO8 := hide (HOW.out.alloc (.cells #[.int .i64 wt, .slice (some ⟨bf, of_, none⟩) n1 c1] 32))
      have HB48 := hide (HB4.out.alloc (.cells #[.int .i64 wt, .slice (some ⟨bf, of_, none⟩) n1 c1] 32))
      have HSC8 := hide (fun t (ht : t ∈ ts) => (show ScOwn (wr.alloc (.cells #[.int .i64 wt, .slice (some ⟨bf, of_, none⟩) n1 c1] 32)) (w.heap.size + 2 + 1) t from World.ownsRow.alloc (HSCS.out t ht).1 _))
      have HB8 := hide (hb.alloc hb.size (.cells #[.int .i64 wt, .slice (some ⟨bf, of_, none⟩) n1 c1] 32))
      have hz8 : (wr.alloc (.cells #[.int .i64 wt, .slice (some ⟨bf, of_, none⟩) n1 c1] 32)).heap.size = wr.heap.size + 1 := by simp
      have HROOM := hide (fun g (hg : (Value.slice A2 k c2).ownBlock = some g) => (HOW.out.lt g hg).2)
      clear hcl ek hmem hokk HSk hL hb ho hsc hq h4 hl hd hn1' hc1 hbx HDR HB4 HBQ
      go_upto_region 5 with fail
      clear e0 e1
      generalize wr.alloc _ = w8 at *
      generalize hg8 : wr.heap.size = g8 at *
      obtain ⟨c0, c1', c2', cf⟩ := q8.facts3
      obtain ⟨x0, x1, xf⟩ := t8.facts2
      have HQ8 := hide (Blk.drew q8)
      have HT8 := hide (Blk.drew t8)
      have HDR9 := hide (show Sl w8.drew w8.drew.heap.size 1 (some ⟨bf, of_ + st, none⟩) (n1 - st) (c1 - st) (ints (fl.drop st)) from HDR8.out)
      have HO9 := hide (show w8.drew.ownsRow (w.heap.size + 2 + 1) 32 2 (.slice A2 k c2) k (scCells ts) from HO8.out)
      clear q8 t8
      go_region_law (first | (refine step_ext rfl (.tmp 23) (.tmp 32) 25 rfl (w.heap.size + 2 + 1) _ _ slScen _ _ _ (by simp [Act.eval]) O10.out _ _ _ _ _ (by simp [Act.eval]) (sl_scen (Blk.new w9 32 #[.int .i64 wt, .slice (some ⟨gF, 0, none⟩) (n1 - st) cF])) (by simp [Value.oneCell']) (by omega) hb10 ?_; intro v' w11 hv11 hg11 hor11; obtain ⟨gv, cv, rfl, _, _⟩ := hv11.form (by omega); have hrow : ∀ g, (Value.slice A2 k c2).ownBlock = some g → w.heap.size + 2 + 1 ≤ g := fun g hg => (O10.out.lt g hg).1; have S11 : Blk w11 (w.heap.size + 2) 27 #[.int .i64 (fr + st), .slice A2 k c2, .bool wd] := (hg11.block (w.heap.size + 2) (S9.alloc _).lt (fun e => by have := hrow _ e.symm; omega)).trans (S9.alloc _); obtain ⟨y0, y1, y2, yf⟩ := S11.facts3) | (go_simp; go_at_call 58; refine (clone_ints _ _ _ (fl.drop st) hn1k _ HDR9.out).mono ?_; rintro e w9 ⟨vF, rfl, hvF, hb9⟩; obtain ⟨gF, cF, rfl, _, _⟩ := hvF.form hnst; have S9 := HQ8.out.below hb9 HQ8.out.lt; have T9 := HT8.out.below hb9 HT8.out.lt; obtain ⟨t0, t1, t2, tf⟩ := S9.facts3; obtain ⟨a0, a1, a2, af⟩ := (S9.alloc (.cells #[.int .i64 wt, .slice (some ⟨gF, 0, none⟩) (n1 - st) cF] 32)).facts3; obtain ⟨x2, x3, xf2⟩ := T9.facts2; obtain ⟨x4, x5, xf4⟩ := (T9.alloc (.cells #[.int .i64 wt, .slice (some ⟨gF, 0, none⟩) (n1 - st) cF] 32)).facts2; have hb10 : w.heap.size + 2 + 1 ≤ (w9.alloc (.cells #[.int .i64 wt, .slice (some ⟨gF, 0, none⟩) (n1 - st) cF] 32)).heap.size := (by simp; have := S9.lt; omega); have O10 := hide ((ownsRow_below HO9.out hb9).alloc (.cells #[.int .i64 wt, .slice (some ⟨gF, 0, none⟩) (n1 - st) cF] 32))))
      all_goals
        have HR := hide (cutp_step (w1 := w) (wr := w8.drew) (w9 := w9.alloc (.cells #[.int .i64 wt, .slice (some ⟨gF, 0, none⟩) (n1 - st) cF] 32)) (g4 := w.heap.size + 1) (g5 := w.heap.size + 2) (st := st) (by omega) rfl HEK.out.1 HEK.out.2 HDT.out.1 HDT.out.2 (S9.alloc _) O10.out (fun g hg => by have := HROOM.out g hg; show g < w8.heap.size; omega)
          (fun t ht => ⟨World.ownsRow.alloc (ownsRow_below (show w8.drew.ownsRow (w.heap.size + 2 + 1) 3 1 (.slice t.A t.n t.c) t.n (ints t.fl) from HSC8.out t ht) hb9) _, (HSCS.out t ht).2⟩) (((Blk.drew HB48.out).below hb9 (Blk.drew HB48.out).lt).alloc _)
          ((bthr (show Below w.heap.size w w8.drew from HB8.out.drew) hb9 HB8.out.size).alloc (Nat.le_trans HB8.out.size hb9.size) _) (show w.heap.size + 2 < w8.heap.size by omega) (World.ownsRow.alloc hvF _) hv11 hg11 hor11)
        clear y0 y1 y2 yf t0 t1 t2 tf a0 a1 a2 af x2 x3 xf2 x4 x5 xf4 c0 c1' c2' cf x0 x1 xf hb9 hvF hv11 hg11 hor11 S11 hrow
        go_wp2
        go_roundw
        case rel => exact ⟨k + 1, by omega, by go_num, HR.out⟩
        case measure => simp [intOf]; omega
    · have hki : ¬ ((k : Int) < (n : Int)) := by omega
      have hkn : k = n := by omega
      obtain ⟨c0, c1, c2', cf⟩ := hq.facts3
      obtain ⟨d0, d1, d2, df⟩ := h4.facts3
      have HRES := hide (show ∀ W : World, W = (((wr.setCell ⟨w.heap.size + 1, 0, none⟩ (.int .i64 (fr + st))).setCell ⟨w.heap.size + 1, 1, none⟩ (.slice A2 k c2)).setCell ⟨w.heap.size + 1, 2, none⟩ (.bool wd)) → k = ts.length ∧ ts.map dat = ss.map (datD st) ∧ BdOwn W w.heap.size ⟨fr + st, A2, k, c2, ts, wd⟩ ∧ Below w.heap.size w W ∧ Blk W (w.heap.size + 1) 27 #[.int .i64 (fr + st), .slice A2 k c2, .bool wd] from fun W hW => by
        subst hW
        have ho2 := own_setF (p := ⟨w.heap.size + 1, 2, none⟩) (own_setF (p := ⟨w.heap.size + 1, 1, none⟩) (own_setF (p := ⟨w.heap.size + 1, 0, none⟩) ho (fun e => by have := (ho.lt _ e).1; simp only at this; omega) (.int .i64 (fr + st))) (fun e => by have := (ho.lt _ e).1; simp only at this; omega) (.slice A2 k c2)) (fun e => by have := (ho.lt _ e).1; simp only at this; omega) (.bool wd)
        refine ⟨hl.symm, by rw [hd, List.take_of_length_le (by have := HLN.out; omega)], ⟨ownsRow_base ho2 (by omega), fun t ht => ?_⟩, ?_, ?_⟩
        · have h1 := (hsc t ht).1
          have kq : (Value.slice t.A t.n t.c).ownBlock ≠ some (w.heap.size + 1) := fun e => by have := (World.ownsRow.lt h1 _ e).1; omega
          exact ownsRow_base (own_setF (p := ⟨w.heap.size + 1, 2, none⟩) (own_setF (p := ⟨w.heap.size + 1, 1, none⟩) (own_setF (p := ⟨w.heap.size + 1, 0, none⟩) (show wr.ownsRow _ 3 1 (.slice t.A t.n t.c) t.n (ints t.fl) from h1) kq _) kq _) kq _) (show w.heap.size ≤ w.heap.size + 2 + 1 by omega)
        · exact ((hb.setCell (p := ⟨w.heap.size + 1, 0, none⟩) (by simp only; omega) _).setCell (p := ⟨w.heap.size + 1, 1, none⟩) (by simp only; omega) _).setCell (p := ⟨w.heap.size + 1, 2, none⟩) (by simp only; omega) _
        · have := ((h4.set_ 0 (.int .i64 (fr + st))).set_ 1 (.slice A2 k c2)).set_ 2 (.bool wd)
          simpa using this)
      clear hl hd ho hsc hq h4 hb hkn
      go_wp2
      obtain ⟨r1, r2', r3, r4, r5⟩ := HRES.out _ rfl
      obtain ⟨u0, u1, u2, uf⟩ := r5.facts3
      refine bodyPost_ret (v := .agg #[.int .i64 (fr + st), .slice A2 k c2, .bool wd]) (by simp [results, Try.results48, go_sem, u0, u1, u2]) rfl ⟨⟨fr + st, A2, k, c2, ts, wd⟩, rfl, rfl, rfl, r1, r2', r3, r4⟩
end Go.Proofs.Ytmlpimidbgeacaa
