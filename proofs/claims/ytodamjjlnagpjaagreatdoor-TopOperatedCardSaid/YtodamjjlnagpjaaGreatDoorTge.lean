/-
  Short names for the inequalities that the proofs of drawn regions ask. No condition.
  The contract of gate.Range at valid gates and states: what they give at the least openings. Condition: gates and states lie in memory and are valid.
-/
import Derived.Test.YtodamjjlnagpjaaGreatDoorProg
import Derived.Test.YtodamjjlnagpjaaGreatDoorTrj
import Derived.Test.YtodamjjlnagpjaaGreatDoorTgd
namespace Go.Proofs.YtodamjjlnagpjaaGreatDoor

theorem pEo (d t : Nat) {b : Bool} {v : Value} {a : Act} (h : d ≠ t := by decide) : (putIf b d v a).eval (.tmp t) = a.eval (.tmp t) := putIf_eval_other h
theorem pPu (d d' : Nat) {b : Bool} {v v' : Value} {a : Act} (h : d ≠ d' := by decide) : (putIf b d v a).put (some d') v' = putIf b d v (a.put (some d') v') := putIf_put h
theorem dOt (i j : Nat) {l : Array Bool} (h : i ≠ j := by decide) : done (l.setIfInBounds i true) j = done l j := done_other h
end Go.Proofs.YtodamjjlnagpjaaGreatDoor
namespace Go.Proofs.YtodamjjlnagpjaaGreatDoor
open Go.RowKit

/-- What gates give at the least openings that they can reach. -/
def lowS (lv : Int) : List Gt → List Gs → Int
  | g :: gt, s :: st => vflow (gCv g.rs lv nilCv) (rLo g s) + lowS lv gt st
  | _, _ => 0
theorem lowS_snoc (lv : Int) : ∀ (gs : List Gt) (ss : List Gs) (g : Gt) (s : Gs), gs.length = ss.length → lowS lv (gs ++ [g]) (ss ++ [s]) = lowS lv gs ss + vflow (gCv g.rs lv nilCv) (rLo g s)
  | [], [], g, s, _ => by simp [lowS]
  | a :: t, b :: u, g, s, h => by
    have := lowS_snoc lv t u g s (by simpa using h)
    simp only [List.cons_append, lowS, this]
    omega
theorem lowS_take (lv : Int) {gs : List Gt} {ss : List Gs} {k : Nat} {g : Gt} {s : Gs} (hl : ss.length = gs.length) (h1 : gs[k]? = some g) (h2 : ss[k]? = some s) :
    lowS lv (gs.take (k + 1)) (ss.take (k + 1)) = lowS lv (gs.take k) (ss.take k) + vflow (gCv g.rs lv nilCv) (rLo g s) := by
  obtain ⟨a1, e1⟩ := List.getElem?_eq_some_iff.1 h1
  obtain ⟨a2, e2⟩ := List.getElem?_eq_some_iff.1 h2
  rw [List.take_succ_eq_append_getElem a1, List.take_succ_eq_append_getElem a2, e1, e2]
  exact lowS_snoc lv _ _ g s (by rw [List.length_take, List.length_take]; omega)
theorem cfGfl : ∀ (a : Array Value) (W : World), (callFunc 108 a).run Tryz.prog W = .ok (.enter 108 a) W := fun _ _ => by kernel_rfl
theorem cfGat : ∀ (a : Array Value) (W : World), (callFunc 106 a).run Tryz.prog W = .ok (.enter 106 a) W := fun _ _ => by kernel_rfl
theorem cfGre : ∀ (a : Array Value) (W : World), (callFunc 107 a).run Tryz.prog W = .ok (.enter 107 a) W := fun _ _ => by kernel_rfl
/-- A view and bounds, in two new blocks. -/
def VwCut (w : World) (A : Option Addr) (n c : Nat) (wn lo hi : Int) (v1 v2 : Value) (wx : World) : Prop := ∃ g h : Nat, v1 = .pointer (some ⟨g, 0, none⟩) ∧ v2 = .pointer (some ⟨h, 0, none⟩) ∧ g ≠ h ∧ w.heap.size ≤ g ∧ w.heap.size ≤ h ∧ Blk wx g 186 #[.slice A n c, .int .i64 wn] ∧ Blk wx h 45 #[.int .i64 lo, .int .i64 hi] ∧ Below w.heap.size w wx
set_option maxHeartbeats 3200000 in
set_option maxRecDepth 20000 in
theorem range_any (x : Gtn) (lv : Int) (hlv : 0 ≤ lv ∧ lv ≤ 16777216) (hg : GtnG x) (w : World) (hs : x.ok w) :
    Calls Tryz.prog 104 #[.slice x.gA x.gn x.gc, .slice x.sA x.sn x.sc, .int .i64 lv] w fun e w' => (∃ mo : Int, e = .returned (.tuple #[.agg #[.int .i64 (lowS lv x.gs x.ss), .int .i64 mo], .int .i64 0])) ∧ Below w.heap.size w w' := by
  obtain ⟨hl1, hl2, hl3⟩ := Gtn.lens hs hg
  have q0 := Blk.new w 45 #[.int .i64 0, .int .i64 0]
  have hb0 := bel1 (w := w) (o := .cells #[.int .i64 0, .int .i64 0] 45)
  have HK := hide (gasked_ok x lv hlv hg _ (hs.below hb0))
  have HAT := hide (fun (W : World) (hW : Below w.heap.size w W) (k : Nat) (hk : k < x.gn) => Gtn.at_ (hs.below hW) hg hk)
  obtain ⟨gA, gn, gc, gs, sA, sn, sc, ss⟩ := x
  simp only at hl1 hl2 hl3 HAT HK ⊢
  have HLG := hide hl1
  have HGL := hide hg.l
  simp only at HGL
  clear hs hl1 hg
  obtain rfl : sn = gn := hl2
  go_enter Tryz.func104, Tryz.ntmps104
  go_upto_region 1 with fail
  generalize w.alloc _ = w1 at *
  go_wp2_with fail
  refine HK.out.mono ?_
  rintro e w2 ⟨rfl, hb2⟩
  have q2 := q0.below hb2 q0.lt
  have hB2 := bthr hb0 hb2 hb0.size
  have r3 := Blk.new w2 45 #[.int .i64 0, .int .i64 0]
  have q3 := q2.alloc (.cells #[.int .i64 0, .int .i64 0] 45)
  have hB3 := hB2.alloc hB2.size (.cells #[.int .i64 0, .int .i64 0] 45)
  have hq0 : w.heap.size < w2.heap.size := q2.lt
  clear hb0 hb2 q0 HK
  go_upto_region 5 with fail
  generalize w2.alloc _ = w3 at *
  go_wp2
  go_loopw [24] (fun i wr => ∃ (k : Nat) (mo : Int), k ≤ sn ∧ i = .int .i64 k ∧ (0 ≤ lowS lv (gs.take k) (ss.take k) ∧ lowS lv (gs.take k) (ss.take k) ≤ 2000 * k) ∧ Blk wr w2.heap.size 45 #[.int .i64 (lowS lv (gs.take k) (ss.take k)), .int .i64 mo] ∧ Blk wr w.heap.size 45 #[.int .i64 0, .int .i64 0] ∧ Below w.heap.size w wr) (fun i _ => sn - (intOf i).toNat)
  case atStart => exact ⟨0, 0, by omega, rfl, by simp [lowS], r3, q3, hB3⟩
  case round =>
    obtain ⟨k, mo, hk, rfl, ⟨hL0, hL1⟩, hR, hQ, hb⟩ := hrel
    by_cases hlt : k < sn
    · have hki : (k : Int) < (sn : Int) := by omega
      obtain ⟨b, o, b2, o2, g, s, rfl, rfl, hgk, hsk, hgo, hgg, hso, ⟨e0, e1, e2⟩, f0, f1⟩ := HAT.out wr hb k hlt
      have q1 := Blk.new wr 96 g.arr
      have hb1 := bel1 (w := wr) (o := .cells g.arr 96)
      have hB1 := bthr hb hb1 hb.size
      have HA := hide (fun W h => at_any g lv W h)
      have HRC := hide (fun W => reach_any g s hgg hso W)
      have hg1 := hgo.below hb1
      obtain ⟨hcok, hcn⟩ := gCv_ok hg1 hgg lv
      have hrr := rLoHi hgg hso
      replace f0 := cell_thr hb1 f0
      replace f1 := cell_thr hb1 f1
      unfold Gt.arr at q1 hb1 hB1 HA HRC hg1 f0 f1 hcok
      unfold Gs.arr at HRC
      have hgw0 : g.ok w := by
        obtain ⟨_, _, _, _, g', _, _, _, h1, _, h2, _⟩ := HAT.out w (Below.refl _ _) k hlt
        rw [hgk] at h1
        injection h1 with h1
        rw [h1]; exact h2
      have hcok0 := (gCv_ok hgw0 hgg lv).1
      have hvin := vflow_in hcn (rLo g s)
      have HTK := hide (lowS_take lv HGL.out hgk hsk)
      have HGK := hide hgk
      have HSK := hide hsk
      generalize hcv : gCv g.rs lv nilCv = cv at *
      have HCV := hide hcv
      clear hcv hgk hsk
      obtain ⟨cA, cn, cc, cps⟩ := cv
      generalize rLo g s = lo at *
      generalize rHi g s = hi at *
      simp only at HA
      go_upto_region 8 with fail
      clear e0 e1 e2
      generalize wr.alloc _ = w5 at *
      obtain ⟨c0, c1, c2, cf⟩ := q1.facts3
      have hd5 : Below w5.heap.size w5 w5.drew := (Below.refl _ _).drew
      have C1 := hide (HA.out w5.drew (hg1.below hd5))
      have C2 := hide (HRC.out w5.drew)
      have S0 : w5.drew.cell? ⟨wr.heap.size, 0, none⟩ = some (.slice g.A g.n g.c) := c0
      go_cut [12, 13] (fun v12 v13 wx => VwCut w5 cA cn cc 0 lo hi v12 v13 wx)
      case first =>
        refine wp_region_Ja (J := fun a0 l a' w' => ∃ x y : Nat, a' = putIf (done l 0) 29 (.agg #[.slice g.A g.n g.c, .int .i64 g.mo, .int .i64 g.mv]) (putIf (done l 1) 30 (.int .i64 lv) (putIf (done l 2) 31 (.agg #[.slice cA cn cc, .int .i64 0]) (putIf (done l 3) 32 (.agg #[.slice g.A g.n g.c, .int .i64 g.mo, .int .i64 g.mv]) (putIf (done l 4) 33 (.slice (some ⟨b2, o2, none⟩) sn sc) (putIf (done l 5) 34 (.int .i64 (k : Int)) (putIf (done l 6) 35 (.pointer (some ⟨b2, o2 + k * 2, none⟩)) (putIf (done l 7) 36 (.agg #[.int .i64 s.op, .bool s.jam]) (putIf (done l 8) 37 (.agg #[.int .i64 lo, .int .i64 hi]) (putIf (done l 9) 12 (.pointer (some ⟨x, 0, none⟩)) (putIf (done l 10) 13 (.pointer (some ⟨y, 0, none⟩)) (a0))))))))))) ∧ Below w5.heap.size w5 w' ∧ (done l 9 = true → w5.heap.size ≤ x ∧ Blk w' x 186 (if done l 11 = true then #[.slice cA cn cc, .int .i64 0] else #[.slice none 0 0, .int .i64 0])) ∧ (done l 10 = true → w5.heap.size ≤ y ∧ Blk w' y 45 (if done l 12 = true then #[.int .i64 lo, .int .i64 hi] else #[.int .i64 0, .int .i64 0])) ∧ (done l 9 = true → done l 10 = true → x ≠ y) ∧ (done l 11 = true → done l 9 = true) ∧ (done l 12 = true → done l 10 = true)) (by kernel_rfl) ?_ ?_ ?_ ?_
        · refine ⟨0, 0, ?_, hd5, fun h => ?_, fun h => ?_, fun h => ?_, fun h => ?_, fun h => ?_⟩
          · simp only [done_none]; rfl
          · rw [done_none] at h; cases h
          · rw [done_none] at h; cases h
          · rw [done_none] at h; cases h
          · rw [done_none] at h; cases h
          · rw [done_none] at h; cases h
        · intro l a' w' i hsz hJ hi
          obtain ⟨x, y, rfl, hbw, hx, hy, hxy, h11, h12⟩ := hJ
          rw [ready_iff] at hi
          obtain ⟨hi13, hnl, haf⟩ := hi
          have hz := done_not hnl
          have hl := getD_lt hnl
          have c0w := cell_thr hbw c0
          have c1w := cell_thr hbw c1
          have c2w := cell_thr hbw c2
          have f0w := cell_thr hbw f0
          have f1w := cell_thr hbw f1
          have hcases : i = 0 ∨ i = 1 ∨ i = 2 ∨ i = 3 ∨ i = 4 ∨ i = 5 ∨ i = 6 ∨ i = 7 ∨ i = 8 ∨ i = 9 ∨ i = 10 ∨ i = 11 ∨ i = 12 := by
            have : i < 13 := hi13
            omega
          rcases hcases with rfl | rfl | rfl | rfl | rfl | rfl | rfl | rfl | rfl | rfl | rfl | rfl | rfl
          · skip
            have dq9 := dOt 0 9 (l := l)
            have dq10 := dOt 0 10 (l := l)
            have dq11 := dOt 0 11 (l := l)
            have dq12 := dOt 0 12 (l := l)
            exact opJ_load (v := .agg #[.slice g.A g.n g.c, .int .i64 g.mo, .int .i64 g.mv]) rfl rfl 96 (.tmp 11) (.pointer (some ⟨wr.heap.size, 0, none⟩)) rfl (by simp only [pEo 29 11, pEo 30 11, pEo 31 11, pEo 32 11, pEo 33 11, pEo 34 11, pEo 35 11, pEo 36 11, pEo 37 11, pEo 12 11, pEo 13 11]; rfl) (by simp [go_sem, c0w, c1w, c2w]) ⟨x, y, (by show Act.put _ (some 29) _ = _; simp only [hz, putIf_here2, done_same hl, dOt 0 1, dOt 0 2, dOt 0 3, dOt 0 4, dOt 0 5, dOt 0 6, dOt 0 7, dOt 0 8, dq9, dq10]), hbw, (by rw [dq9, dq11]; exact hx), (by rw [dq10, dq12]; exact hy), (by rw [dq9, dq10]; exact hxy), (by rw [dq11, dq9]; exact h11), (by rw [dq12, dq10]; exact h12)⟩
          · skip
            have dq9 := dOt 1 9 (l := l)
            have dq10 := dOt 1 10 (l := l)
            have dq11 := dOt 1 11 (l := l)
            have dq12 := dOt 1 12 (l := l)
            exact opJ_move (v := .int .i64 lv) rfl rfl (.tmp 2) rfl (by simp only [pEo 29 2, pEo 30 2, pEo 31 2, pEo 32 2, pEo 33 2, pEo 34 2, pEo 35 2, pEo 36 2, pEo 37 2, pEo 12 2, pEo 13 2]; rfl) ⟨x, y, (by show Act.put _ (some 30) _ = _; simp only [pPu 29 30, hz, putIf_here2, done_same hl, dOt 1 0, dOt 1 2, dOt 1 3, dOt 1 4, dOt 1 5, dOt 1 6, dOt 1 7, dOt 1 8, dq9, dq10]), hbw, (by rw [dq9, dq11]; exact hx), (by rw [dq10, dq12]; exact hy), (by rw [dq9, dq10]; exact hxy), (by rw [dq11, dq9]; exact h11), (by rw [dq12, dq10]; exact h12)⟩
          · skip
            have dq9 := dOt 2 9 (l := l)
            have dq10 := dOt 2 10 (l := l)
            have dq11 := dOt 2 11 (l := l)
            have dq12 := dOt 2 12 (l := l)
            have dn0 : done l 0 = true := by simp [Region.binds] at haf; simp [done, haf]
            have dn1 : done l 1 = true := by simp [Region.binds] at haf; simp [done, haf]
            refine opJ_call rfl rfl 106 #[.tmp 29, .tmp 30] _ #[.agg #[.slice g.A g.n g.c, .int .i64 g.mo, .int .i64 g.mv], .int .i64 lv] rfl (map2J (by rw [dn0]; exact putIf_eval_same (by simp [putIf_size])) (by simp only [pEo 29 30]; rw [dn1]; exact putIf_eval_same (by simp [putIf_size]))) cfGat ((HA.out w' (hg1.below hbw)).mono ?_)
            rintro e w'' ⟨he, hb''⟩
            exact ⟨_, he, x, y, (by show Act.put _ (some 31) _ = _; simp only [pPu 29 31, pPu 30 31, hz, putIf_here2, done_same hl, dOt 2 0, dOt 2 1, dOt 2 3, dOt 2 4, dOt 2 5, dOt 2 6, dOt 2 7, dOt 2 8, dq9, dq10]), bthr hbw hb'' hbw.size, (by rw [dq9, dq11]; exact fun h => ⟨(hx h).1, (hx h).2.below hb'' (hx h).2.lt⟩), (by rw [dq10, dq12]; exact fun h => ⟨(hy h).1, (hy h).2.below hb'' (hy h).2.lt⟩), (by rw [dq9, dq10]; exact hxy), (by rw [dq11, dq9]; exact h11), (by rw [dq12, dq10]; exact h12)⟩
          · skip
            have dq9 := dOt 3 9 (l := l)
            have dq10 := dOt 3 10 (l := l)
            have dq11 := dOt 3 11 (l := l)
            have dq12 := dOt 3 12 (l := l)
            exact opJ_load (v := .agg #[.slice g.A g.n g.c, .int .i64 g.mo, .int .i64 g.mv]) rfl rfl 96 (.tmp 11) (.pointer (some ⟨wr.heap.size, 0, none⟩)) rfl (by simp only [pEo 29 11, pEo 30 11, pEo 31 11, pEo 32 11, pEo 33 11, pEo 34 11, pEo 35 11, pEo 36 11, pEo 37 11, pEo 12 11, pEo 13 11]; rfl) (by simp [go_sem, c0w, c1w, c2w]) ⟨x, y, (by show Act.put _ (some 32) _ = _; simp only [pPu 29 32, pPu 30 32, pPu 31 32, hz, putIf_here2, done_same hl, dOt 3 0, dOt 3 1, dOt 3 2, dOt 3 4, dOt 3 5, dOt 3 6, dOt 3 7, dOt 3 8, dq9, dq10]), hbw, (by rw [dq9, dq11]; exact hx), (by rw [dq10, dq12]; exact hy), (by rw [dq9, dq10]; exact hxy), (by rw [dq11, dq9]; exact h11), (by rw [dq12, dq10]; exact h12)⟩
          · skip
            have dq9 := dOt 4 9 (l := l)
            have dq10 := dOt 4 10 (l := l)
            have dq11 := dOt 4 11 (l := l)
            have dq12 := dOt 4 12 (l := l)
            exact opJ_move (v := .slice (some ⟨b2, o2, none⟩) sn sc) rfl rfl (.tmp 1) rfl (by simp only [pEo 29 1, pEo 30 1, pEo 31 1, pEo 32 1, pEo 33 1, pEo 34 1, pEo 35 1, pEo 36 1, pEo 37 1, pEo 12 1, pEo 13 1]; rfl) ⟨x, y, (by show Act.put _ (some 33) _ = _; simp only [pPu 29 33, pPu 30 33, pPu 31 33, pPu 32 33, hz, putIf_here2, done_same hl, dOt 4 0, dOt 4 1, dOt 4 2, dOt 4 3, dOt 4 5, dOt 4 6, dOt 4 7, dOt 4 8, dq9, dq10]), hbw, (by rw [dq9, dq11]; exact hx), (by rw [dq10, dq12]; exact hy), (by rw [dq9, dq10]; exact hxy), (by rw [dq11, dq9]; exact h11), (by rw [dq12, dq10]; exact h12)⟩
          · skip
            have dq9 := dOt 5 9 (l := l)
            have dq10 := dOt 5 10 (l := l)
            have dq11 := dOt 5 11 (l := l)
            have dq12 := dOt 5 12 (l := l)
            exact opJ_move (v := .int .i64 (k : Int)) rfl rfl (.tmp 10) rfl (by simp only [pEo 29 10, pEo 30 10, pEo 31 10, pEo 32 10, pEo 33 10, pEo 34 10, pEo 35 10, pEo 36 10, pEo 37 10, pEo 12 10, pEo 13 10]; rfl) ⟨x, y, (by show Act.put _ (some 34) _ = _; simp only [pPu 29 34, pPu 30 34, pPu 31 34, pPu 32 34, pPu 33 34, hz, putIf_here2, done_same hl, dOt 5 0, dOt 5 1, dOt 5 2, dOt 5 3, dOt 5 4, dOt 5 6, dOt 5 7, dOt 5 8, dq9, dq10]), hbw, (by rw [dq9, dq11]; exact hx), (by rw [dq10, dq12]; exact hy), (by rw [dq9, dq10]; exact hxy), (by rw [dq11, dq9]; exact h11), (by rw [dq12, dq10]; exact h12)⟩
          · skip
            have dq9 := dOt 6 9 (l := l)
            have dq10 := dOt 6 10 (l := l)
            have dq11 := dOt 6 11 (l := l)
            have dq12 := dOt 6 12 (l := l)
            have dn4 : done l 4 = true := by simp [Region.binds] at haf; simp [done, haf]
            have dn5 : done l 5 = true := by simp [Region.binds] at haf; simp [done, haf]
            exact opJ_index (v := .pointer (some ⟨b2, o2 + k * 2, none⟩)) rfl rfl 33 (.tmp 33) (.tmp 34) (.slice (some ⟨b2, o2, none⟩) sn sc) (.int .i64 (k : Int)) rfl (by simp only [pEo 29 33, pEo 30 33, pEo 31 33, pEo 32 33]; rw [dn4]; exact putIf_eval_same (by simp [putIf_size])) (by simp only [pEo 29 34, pEo 30 34, pEo 31 34, pEo 32 34, pEo 33 34]; rw [dn5]; exact putIf_eval_same (by simp [putIf_size])) (by simp [go_sem, hlt]) ⟨x, y, (by show Act.put _ (some 35) _ = _; simp only [pPu 29 35, pPu 30 35, pPu 31 35, pPu 32 35, pPu 33 35, pPu 34 35, hz, putIf_here2, done_same hl, dOt 6 0, dOt 6 1, dOt 6 2, dOt 6 3, dOt 6 4, dOt 6 5, dOt 6 7, dOt 6 8, dq9, dq10]), hbw, (by rw [dq9, dq11]; exact hx), (by rw [dq10, dq12]; exact hy), (by rw [dq9, dq10]; exact hxy), (by rw [dq11, dq9]; exact h11), (by rw [dq12, dq10]; exact h12)⟩
          · skip
            have dq9 := dOt 7 9 (l := l)
            have dq10 := dOt 7 10 (l := l)
            have dq11 := dOt 7 11 (l := l)
            have dq12 := dOt 7 12 (l := l)
            have dn6 : done l 6 = true := by simp [Region.binds] at haf; simp [done, haf]
            exact opJ_load (v := .agg #[.int .i64 s.op, .bool s.jam]) rfl rfl 99 (.tmp 35) (.pointer (some ⟨b2, o2 + k * 2, none⟩)) rfl (by simp only [pEo 29 35, pEo 30 35, pEo 31 35, pEo 32 35, pEo 33 35, pEo 34 35]; rw [dn6]; exact putIf_eval_same (by simp [putIf_size])) (by simp [go_sem, f0w, f1w]) ⟨x, y, (by show Act.put _ (some 36) _ = _; simp only [pPu 29 36, pPu 30 36, pPu 31 36, pPu 32 36, pPu 33 36, pPu 34 36, pPu 35 36, hz, putIf_here2, done_same hl, dOt 7 0, dOt 7 1, dOt 7 2, dOt 7 3, dOt 7 4, dOt 7 5, dOt 7 6, dOt 7 8, dq9, dq10]), hbw, (by rw [dq9, dq11]; exact hx), (by rw [dq10, dq12]; exact hy), (by rw [dq9, dq10]; exact hxy), (by rw [dq11, dq9]; exact h11), (by rw [dq12, dq10]; exact h12)⟩
          · skip
            have dq9 := dOt 8 9 (l := l)
            have dq10 := dOt 8 10 (l := l)
            have dq11 := dOt 8 11 (l := l)
            have dq12 := dOt 8 12 (l := l)
            have dn3 : done l 3 = true := by simp [Region.binds] at haf; simp [done, haf]
            have dn7 : done l 7 = true := by simp [Region.binds] at haf; simp [done, haf]
            refine opJ_call rfl rfl 107 #[.tmp 32, .tmp 36] _ #[.agg #[.slice g.A g.n g.c, .int .i64 g.mo, .int .i64 g.mv], .agg #[.int .i64 s.op, .bool s.jam]] rfl (map2J (by simp only [pEo 29 32, pEo 30 32, pEo 31 32]; rw [dn3]; exact putIf_eval_same (by simp [putIf_size])) (by simp only [pEo 29 36, pEo 30 36, pEo 31 36, pEo 32 36, pEo 33 36, pEo 34 36, pEo 35 36]; rw [dn7]; exact putIf_eval_same (by simp [putIf_size]))) cfGre ((HRC.out w').mono ?_)
            rintro e w'' ⟨he, hb''⟩
            exact ⟨_, he, x, y, (by show Act.put _ (some 37) _ = _; simp only [pPu 29 37, pPu 30 37, pPu 31 37, pPu 32 37, pPu 33 37, pPu 34 37, pPu 35 37, pPu 36 37, hz, putIf_here2, done_same hl, dOt 8 0, dOt 8 1, dOt 8 2, dOt 8 3, dOt 8 4, dOt 8 5, dOt 8 6, dOt 8 7, dq9, dq10]), bthr hbw hb'' hbw.size, (by rw [dq9, dq11]; exact fun h => ⟨(hx h).1, (hx h).2.below hb'' (hx h).2.lt⟩), (by rw [dq10, dq12]; exact fun h => ⟨(hy h).1, (hy h).2.below hb'' (hy h).2.lt⟩), (by rw [dq9, dq10]; exact hxy), (by rw [dq11, dq9]; exact h11), (by rw [dq12, dq10]; exact h12)⟩
          · skip
            have dq10 := dOt 9 10 (l := l)
            have dq11 := dOt 9 11 (l := l)
            have dq12 := dOt 9 12 (l := l)
            have hns : done l 11 = false := by
              cases hc : done l 11
              · rfl
              · have := h11 hc; rw [hz] at this; cases this
            exact opJ_alloc (v := .pointer (some ⟨w'.heap.size, 0, none⟩)) (w' := w'.alloc (.cells #[.slice none 0 0, .int .i64 0] 186)) rfl rfl 186 rfl (by simp [go_sem]) ⟨w'.heap.size, y, (by show Act.put _ (some 12) _ = _; simp only [pPu 29 12, pPu 30 12, pPu 31 12, pPu 32 12, pPu 33 12, pPu 34 12, pPu 35 12, pPu 36 12, pPu 37 12, hz, putIf_here2, done_same hl, dOt 9 0, dOt 9 1, dOt 9 2, dOt 9 3, dOt 9 4, dOt 9 5, dOt 9 6, dOt 9 7, dOt 9 8, dq10]), hbw.alloc hbw.size _, (by rw [dq11, hns]; exact fun _ => ⟨hbw.size, Blk.new _ _ _⟩), (by rw [dq10, dq12]; exact fun h => ⟨(hy h).1, (hy h).2.alloc _⟩), (by rw [dq10]; exact fun _ h => Nat.ne_of_gt (hy h).2.lt), (by rw [dq11]; exact fun h => done_same hl), (by rw [dq12]; exact fun h => by rw [dq10]; exact h12 h)⟩
          · skip
            have dq9 := dOt 10 9 (l := l)
            have dq11 := dOt 10 11 (l := l)
            have dq12 := dOt 10 12 (l := l)
            have hns : done l 12 = false := by
              cases hc : done l 12
              · rfl
              · have := h12 hc; rw [hz] at this; cases this
            exact opJ_alloc (v := .pointer (some ⟨w'.heap.size, 0, none⟩)) (w' := w'.alloc (.cells #[.int .i64 0, .int .i64 0] 45)) rfl rfl 45 rfl (by simp [go_sem]) ⟨x, w'.heap.size, (by show Act.put _ (some 13) _ = _; simp only [pPu 29 13, pPu 30 13, pPu 31 13, pPu 32 13, pPu 33 13, pPu 34 13, pPu 35 13, pPu 36 13, pPu 37 13, pPu 12 13, hz, putIf_here2, done_same hl, dOt 10 0, dOt 10 1, dOt 10 2, dOt 10 3, dOt 10 4, dOt 10 5, dOt 10 6, dOt 10 7, dOt 10 8, dq9]), hbw.alloc hbw.size _, (by rw [dq9, dq11]; exact fun h => ⟨(hx h).1, (hx h).2.alloc _⟩), (by rw [dq12, hns]; exact fun _ => ⟨hbw.size, Blk.new _ _ _⟩), (by rw [dq9]; exact fun h _ => Nat.ne_of_lt (hx h).2.lt), (by rw [dq11]; exact fun h => by rw [dq9]; exact h11 h), (by rw [dq12]; exact fun h => done_same hl)⟩
          · skip
            have dq9 := dOt 11 9 (l := l)
            have dq10 := dOt 11 10 (l := l)
            have dq12 := dOt 11 12 (l := l)
            have dn9 : done l 9 = true := by simp [Region.binds] at haf; simp [done, haf]
            have dn2 : done l 2 = true := by simp [Region.binds] at haf; simp [done, haf]
            obtain ⟨hvw, hvb⟩ := hx dn9
            rw [hz] at hvb
            replace hvb : Blk w' x 186 #[.slice none 0 0, .int .i64 0] := hvb
            obtain ⟨t0, t1, tf⟩ := hvb.facts2
            have hv2 := (hvb.set_ 0 (.slice cA cn cc)).set_ 1 (.int .i64 0)
            simp only [List.setIfInBounds_toArray, List.set_cons_zero, List.set_cons_succ] at hv2
            exact opJ_store (w' := (w'.setCell ⟨x, 0, none⟩ (.slice cA cn cc)).setCell ⟨x, 1, none⟩ (.int .i64 0)) rfl rfl 186 (.tmp 12) (.tmp 31) (.pointer (some ⟨x, 0, none⟩)) (.agg #[.slice cA cn cc, .int .i64 0]) rfl (by simp only [pEo 29 12, pEo 30 12, pEo 31 12, pEo 32 12, pEo 33 12, pEo 34 12, pEo 35 12, pEo 36 12, pEo 37 12]; rw [dn9]; exact putIf_eval_same (by simp [putIf_size])) (by simp only [pEo 29 31, pEo 30 31]; rw [dn2]; exact putIf_eval_same (by simp [putIf_size])) (by simp [go_sem, t0, t1, tf]) ⟨x, y, (by simp only [dOt 11 0, dOt 11 1, dOt 11 2, dOt 11 3, dOt 11 4, dOt 11 5, dOt 11 6, dOt 11 7, dOt 11 8, dq9, dq10]; rfl), (hbw.setCell (p := ⟨x, 0, none⟩) hvw _).setCell (p := ⟨x, 1, none⟩) hvw _, (by rw [dq9, done_same hl]; exact fun _ => ⟨hvw, hv2⟩), (by rw [dq10, dq12]; exact fun h => ⟨(hy h).1, ((hy h).2.far (p := ⟨x, 0, none⟩) ((hxy dn9 h).symm) _).far (p := ⟨x, 1, none⟩) ((hxy dn9 h).symm) _⟩), (by rw [dq9, dq10]; exact hxy), (by rw [dq9]; exact fun _ => dn9), (by rw [dq12, dq10]; exact h12)⟩
          · skip
            have dq9 := dOt 12 9 (l := l)
            have dq10 := dOt 12 10 (l := l)
            have dq11 := dOt 12 11 (l := l)
            have dn10 : done l 10 = true := by simp [Region.binds] at haf; simp [done, haf]
            have dn8 : done l 8 = true := by simp [Region.binds] at haf; simp [done, haf]
            obtain ⟨hvw, hvb⟩ := hy dn10
            rw [hz] at hvb
            replace hvb : Blk w' y 45 #[.int .i64 0, .int .i64 0] := hvb
            obtain ⟨t0, t1, tf⟩ := hvb.facts2
            have hv2 := (hvb.set_ 0 (.int .i64 lo)).set_ 1 (.int .i64 hi)
            simp only [List.setIfInBounds_toArray, List.set_cons_zero, List.set_cons_succ] at hv2
            exact opJ_store (w' := (w'.setCell ⟨y, 0, none⟩ (.int .i64 lo)).setCell ⟨y, 1, none⟩ (.int .i64 hi)) rfl rfl 45 (.tmp 13) (.tmp 37) (.pointer (some ⟨y, 0, none⟩)) (.agg #[.int .i64 lo, .int .i64 hi]) rfl (by simp only [pEo 29 13, pEo 30 13, pEo 31 13, pEo 32 13, pEo 33 13, pEo 34 13, pEo 35 13, pEo 36 13, pEo 37 13, pEo 12 13]; rw [dn10]; exact putIf_eval_same (by simp)) (by simp only [pEo 29 37, pEo 30 37, pEo 31 37, pEo 32 37, pEo 33 37, pEo 34 37, pEo 35 37, pEo 36 37]; rw [dn8]; exact putIf_eval_same (by simp [putIf_size])) (by simp [go_sem, t0, t1, tf]) ⟨x, y, (by simp only [dOt 12 0, dOt 12 1, dOt 12 2, dOt 12 3, dOt 12 4, dOt 12 5, dOt 12 6, dOt 12 7, dOt 12 8, dq9, dq10]; rfl), (hbw.setCell (p := ⟨y, 0, none⟩) hvw _).setCell (p := ⟨y, 1, none⟩) hvw _, (by rw [dq9, dq11]; exact fun h => ⟨(hx h).1, ((hx h).2.far (p := ⟨y, 0, none⟩) (hxy h dn10) _).far (p := ⟨y, 1, none⟩) (hxy h dn10) _⟩), (by rw [dq10, done_same hl]; exact fun _ => ⟨hvw, hv2⟩), (by rw [dq9, dq10]; exact hxy), (by rw [dq11, dq9]; exact h11), (by rw [dq10]; exact fun _ => dn10)⟩
        · intro l a' w' hJ hall
          obtain ⟨x, y, rfl, hbw, hx, hy, hxy, h11, h12⟩ := hJ
          have hd : ∀ i, i < 13 → done l i = true := hall
          obtain ⟨hx1, hx2⟩ := hx (hd 9 (by decide))
          obtain ⟨hy1, hy2⟩ := hy (hd 10 (by decide))
          have hne := hxy (hd 9 (by decide)) (hd 10 (by decide))
          rw [hd 11 (by decide)] at hx2
          rw [hd 12 (by decide)] at hy2
          simp only [hd 0 (by decide), hd 1 (by decide), hd 2 (by decide), hd 3 (by decide), hd 4 (by decide), hd 5 (by decide), hd 6 (by decide), hd 7 (by decide), hd 8 (by decide), hd 9 (by decide), hd 10 (by decide), putIf, if_true, Act.put]
          clear hd hall hx hy hxy h11 h12
          go_wp2_with fail
          go_meet
          exact ⟨x, y, rfl, rfl, hne, hx1, hy1, hx2, hy2, hbw⟩
        · kernel_rfl
      case rest =>
        rename World => w6
        obtain ⟨x, y, rfl, rfl, hxy, hx0, hy0, bx, by_, hBc⟩ := hcut
        have hz5 : wr.heap.size < w5.heap.size := q1.lt
        have hR5 := hR.below hb1 hR.lt
        have hR6 := hR5.below hBc hR5.lt
        have hQ6 := (hQ.below hb1 hQ.lt).below hBc (Nat.lt_of_lt_of_le hQ.lt hb1.size)
        have hB6 := bthr hB1 hBc hB1.size
        have hcok6 := hcok.below hBc
        have hrz := hR.lt
        have hqz := hQ.lt
        obtain ⟨r0, r1, rf⟩ := hR6.facts2
        obtain ⟨x0, x1, xf⟩ := bx.facts2
        obtain ⟨y0, y1, yf⟩ := by_.facts2
        have HFL := hide (fun W h => flow_any ⟨cA, cn, cc, cps⟩ 0 lo hcn W h)
        have HFH := hide (fun W h => flow_any ⟨cA, cn, cc, cps⟩ 0 hi hcn W h)
        obtain ⟨vl, hvl⟩ : ∃ vl, vflow ⟨cA, cn, cc, cps⟩ lo = vl := ⟨_, rfl⟩
        obtain ⟨vh, hvh⟩ : ∃ vh, vflow ⟨cA, cn, cc, cps⟩ hi = vh := ⟨_, rfl⟩
        rw [hvl] at HFL
        rw [hvh] at HFH
        simp only at HFL HFH
        obtain ⟨L, hL⟩ : ∃ L, lowS lv (gs.take k) (ss.take k) = L := ⟨_, rfl⟩
        have HL0 := hide hL
        have HVL := hide hvl
        have HVH := hide hvh
        rw [hvl] at hvin
        rw [hL, hvl] at HTK
        rw [hL] at r0 hR6 hL0 hL1
        clear hvl hvh hL
        have hg60 : w6.grownBy w6.drew (some w2.heap.size) := grown_drewN (grown_refl _ _) 1
        have hxR : x ≠ w2.heap.size := by omega
        have hyR : y ≠ w2.heap.size := by omega
        have hCK : ∀ W, w6.grownBy W (some w2.heap.size) → Cv.ok ⟨cA, cn, cc, cps⟩ W := fun W hW => Cv.ok.below hcok0 (below_grown hB6 hW hB6.size (by omega))
        have hwL : IntKind.i64.wrap (L + vl) = L + vl := by rw [IntKind.wrap_i64]; omega
        obtain ⟨M, hwM⟩ : ∃ M, IntKind.i64.wrap (mo + vh) = M := ⟨_, rfl⟩
        go_wp2_with fail
          -- REGION 9
        refine wp_region_Ja (J := fun a0 l a' w' => a' = putIf (done l 0) 38 (.pointer (some ⟨w2.heap.size, 0, none⟩)) (putIf (done l 1) 39 (.int .i64 L) (putIf (done l 2) 40 (.agg #[.slice cA cn cc, .int .i64 0]) (putIf (done l 3) 41 (.pointer (some ⟨y, 0, none⟩)) (putIf (done l 4) 42 (.int .i64 lo) (putIf (done l 5) 43 (.int .i64 vl) (putIf (done l 6) 44 (.int .i64 (L + vl)) (putIf (done l 7) 45 (.pointer (some ⟨w2.heap.size, 1, none⟩)) (putIf (done l 8) 46 (.int .i64 mo) (putIf (done l 9) 47 (.agg #[.slice cA cn cc, .int .i64 0]) (putIf (done l 10) 48 (.pointer (some ⟨y, 1, none⟩)) (putIf (done l 11) 49 (.int .i64 hi) (putIf (done l 12) 50 (.int .i64 vh) (putIf (done l 13) 51 (.int .i64 M) (putIf (done l 14) 52 (.pointer (some ⟨w2.heap.size, 0, none⟩)) (putIf (done l 16) 53 (.pointer (some ⟨w2.heap.size, 1, none⟩)) (a0)))))))))))))))) ∧ w6.grownBy w' (some w2.heap.size) ∧ Blk w' w2.heap.size 45 #[.int .i64 (if done l 15 = true then L + vl else L), .int .i64 (if done l 17 = true then M else mo)] ∧ (done l 15 = true → done l 1 = true) ∧ (done l 17 = true → done l 8 = true) ∧ (done l 6 = true → done l 1 = true) ∧ (done l 13 = true → done l 8 = true)) (by kernel_rfl) ?_ ?_ ?_ ?_
        · refine ⟨?_, hg60, ?_, fun h => ?_, fun h => ?_, fun h => ?_, fun h => ?_⟩
          · simp only [done_none]; rfl
          · rw [done_none, done_none]; exact hR6.drew
          · rw [done_none] at h; cases h
          · rw [done_none] at h; cases h
          · rw [done_none] at h; cases h
          · rw [done_none] at h; cases h
        · intro l a' w' i hsz hJ hi
          obtain ⟨rfl, hgw, hbk, h15, h17, h61, h138⟩ := hJ
          rw [ready_iff] at hi
          obtain ⟨hi13, hnl, haf⟩ := hi
          have hz := done_not hnl
          have hl := getD_lt hnl
          have hbx := bx.only hgw hxR
          have hby := by_.only hgw hyR
          have hck := hCK w' hgw
          obtain ⟨s0, s1, sf⟩ := hbx.facts2
          obtain ⟨t0, t1, tf⟩ := hby.facts2
          obtain ⟨b0, b1, bf⟩ := hbk.facts2
          have hcases : i = 0 ∨ i = 1 ∨ i = 2 ∨ i = 3 ∨ i = 4 ∨ i = 5 ∨ i = 6 ∨ i = 7 ∨ i = 8 ∨ i = 9 ∨ i = 10 ∨ i = 11 ∨ i = 12 ∨ i = 13 ∨ i = 14 ∨ i = 15 ∨ i = 16 ∨ i = 17 := by
            have : i < 18 := hi13
            omega
          rcases hcases with rfl | rfl | rfl | rfl | rfl | rfl | rfl | rfl | rfl | rfl | rfl | rfl | rfl | rfl | rfl | rfl | rfl | rfl
          · skip
            have dq1 := dOt 0 1 (l := l)
            have dq6 := dOt 0 6 (l := l)
            have dq8 := dOt 0 8 (l := l)
            have dq13 := dOt 0 13 (l := l)
            have dq15 := dOt 0 15 (l := l)
            have dq17 := dOt 0 17 (l := l)
            exact opJ_field (v := .pointer (some ⟨w2.heap.size, 0, none⟩)) rfl rfl 45 (.tmp 9) 0 (.pointer (some ⟨w2.heap.size, 0, none⟩)) rfl (by simp only [pEo 38 9, pEo 39 9, pEo 40 9, pEo 41 9, pEo 42 9, pEo 43 9, pEo 44 9, pEo 45 9, pEo 46 9, pEo 47 9, pEo 48 9, pEo 49 9, pEo 50 9, pEo 51 9, pEo 52 9, pEo 53 9]; rfl) (by simp [go_sem]) ⟨(by show Act.put _ (some 38) _ = _; simp only [hz, putIf_here2, done_same hl, dq1, dOt 0 2, dOt 0 3, dOt 0 4, dOt 0 5, dq6, dOt 0 7, dq8, dOt 0 9, dOt 0 10, dOt 0 11, dOt 0 12, dq13, dOt 0 14, dOt 0 16]), hgw, (by rw [dq15, dq17]; exact hbk), (by rw [dq15, dq1]; exact h15), (by rw [dq17, dq8]; exact h17), (by rw [dq6, dq1]; exact h61), (by rw [dq13, dq8]; exact h138)⟩
          · skip
            have dq6 := dOt 1 6 (l := l)
            have dq8 := dOt 1 8 (l := l)
            have dq13 := dOt 1 13 (l := l)
            have dq15 := dOt 1 15 (l := l)
            have dq17 := dOt 1 17 (l := l)
            have dn0 : done l 0 = true := by simp [Region.binds] at haf; simp [done, haf]
            have hns : done l 15 = false := by
              cases hc : done l 15
              · rfl
              · have := h15 hc; rw [hz] at this; cases this
            have bb := b0
            rw [hns] at bb
            simp only [Bool.false_eq_true, if_false] at bb
            exact opJ_load (v := .int .i64 L) rfl rfl 3 (.tmp 38) (.pointer (some ⟨w2.heap.size, 0, none⟩)) rfl (by rw [dn0]; exact putIf_eval_same (by simp [putIf_size])) (by simp [go_sem, bb]) ⟨(by show Act.put _ (some 39) _ = _; simp only [pPu 38 39, hz, putIf_here2, done_same hl, dOt 1 0, dOt 1 2, dOt 1 3, dOt 1 4, dOt 1 5, dq6, dOt 1 7, dq8, dOt 1 9, dOt 1 10, dOt 1 11, dOt 1 12, dq13, dOt 1 14, dOt 1 16]), hgw, (by rw [dq15, dq17]; exact hbk), (by rw [dq15]; exact fun _ => done_same hl), (by rw [dq17, dq8]; exact h17), (by rw [dq6]; exact fun _ => done_same hl), (by rw [dq13, dq8]; exact h138)⟩
          · skip
            have dq1 := dOt 2 1 (l := l)
            have dq6 := dOt 2 6 (l := l)
            have dq8 := dOt 2 8 (l := l)
            have dq13 := dOt 2 13 (l := l)
            have dq15 := dOt 2 15 (l := l)
            have dq17 := dOt 2 17 (l := l)
            exact opJ_load (v := .agg #[.slice cA cn cc, .int .i64 0]) rfl rfl 186 (.tmp 12) (.pointer (some ⟨x, 0, none⟩)) rfl (by simp only [pEo 38 12, pEo 39 12, pEo 40 12, pEo 41 12, pEo 42 12, pEo 43 12, pEo 44 12, pEo 45 12, pEo 46 12, pEo 47 12, pEo 48 12, pEo 49 12, pEo 50 12, pEo 51 12, pEo 52 12, pEo 53 12]; rfl) (by simp [go_sem, s0, s1]) ⟨(by show Act.put _ (some 40) _ = _; simp only [pPu 38 40, pPu 39 40, hz, putIf_here2, done_same hl, dOt 2 0, dq1, dOt 2 3, dOt 2 4, dOt 2 5, dq6, dOt 2 7, dq8, dOt 2 9, dOt 2 10, dOt 2 11, dOt 2 12, dq13, dOt 2 14, dOt 2 16]), hgw, (by rw [dq15, dq17]; exact hbk), (by rw [dq15, dq1]; exact h15), (by rw [dq17, dq8]; exact h17), (by rw [dq6, dq1]; exact h61), (by rw [dq13, dq8]; exact h138)⟩
          · skip
            have dq1 := dOt 3 1 (l := l)
            have dq6 := dOt 3 6 (l := l)
            have dq8 := dOt 3 8 (l := l)
            have dq13 := dOt 3 13 (l := l)
            have dq15 := dOt 3 15 (l := l)
            have dq17 := dOt 3 17 (l := l)
            exact opJ_field (v := .pointer (some ⟨y, 0, none⟩)) rfl rfl 45 (.tmp 13) 0 (.pointer (some ⟨y, 0, none⟩)) rfl (by simp only [pEo 38 13, pEo 39 13, pEo 40 13, pEo 41 13, pEo 42 13, pEo 43 13, pEo 44 13, pEo 45 13, pEo 46 13, pEo 47 13, pEo 48 13, pEo 49 13, pEo 50 13, pEo 51 13, pEo 52 13, pEo 53 13]; rfl) (by simp [go_sem]) ⟨(by show Act.put _ (some 41) _ = _; simp only [pPu 38 41, pPu 39 41, pPu 40 41, hz, putIf_here2, done_same hl, dOt 3 0, dq1, dOt 3 2, dOt 3 4, dOt 3 5, dq6, dOt 3 7, dq8, dOt 3 9, dOt 3 10, dOt 3 11, dOt 3 12, dq13, dOt 3 14, dOt 3 16]), hgw, (by rw [dq15, dq17]; exact hbk), (by rw [dq15, dq1]; exact h15), (by rw [dq17, dq8]; exact h17), (by rw [dq6, dq1]; exact h61), (by rw [dq13, dq8]; exact h138)⟩
          · skip
            have dq1 := dOt 4 1 (l := l)
            have dq6 := dOt 4 6 (l := l)
            have dq8 := dOt 4 8 (l := l)
            have dq13 := dOt 4 13 (l := l)
            have dq15 := dOt 4 15 (l := l)
            have dq17 := dOt 4 17 (l := l)
            have dn3 : done l 3 = true := by simp [Region.binds] at haf; simp [done, haf]
            exact opJ_load (v := .int .i64 lo) rfl rfl 3 (.tmp 41) (.pointer (some ⟨y, 0, none⟩)) rfl (by simp only [pEo 38 41, pEo 39 41, pEo 40 41]; rw [dn3]; exact putIf_eval_same (by simp [putIf_size])) (by simp [go_sem, t0]) ⟨(by show Act.put _ (some 42) _ = _; simp only [pPu 38 42, pPu 39 42, pPu 40 42, pPu 41 42, hz, putIf_here2, done_same hl, dOt 4 0, dq1, dOt 4 2, dOt 4 3, dOt 4 5, dq6, dOt 4 7, dq8, dOt 4 9, dOt 4 10, dOt 4 11, dOt 4 12, dq13, dOt 4 14, dOt 4 16]), hgw, (by rw [dq15, dq17]; exact hbk), (by rw [dq15, dq1]; exact h15), (by rw [dq17, dq8]; exact h17), (by rw [dq6, dq1]; exact h61), (by rw [dq13, dq8]; exact h138)⟩
          · skip
            have dq1 := dOt 5 1 (l := l)
            have dq6 := dOt 5 6 (l := l)
            have dq8 := dOt 5 8 (l := l)
            have dq13 := dOt 5 13 (l := l)
            have dq15 := dOt 5 15 (l := l)
            have dq17 := dOt 5 17 (l := l)
            have dn2 : done l 2 = true := by simp [Region.binds] at haf; simp [done, haf]
            have dn4 : done l 4 = true := by simp [Region.binds] at haf; simp [done, haf]
            refine opJ_call rfl rfl 108 #[.tmp 40, .tmp 42] _ #[.agg #[.slice cA cn cc, .int .i64 0], .int .i64 lo] rfl (map2J (by simp only [pEo 38 40, pEo 39 40]; rw [dn2]; exact putIf_eval_same (by simp [putIf_size])) (by simp only [pEo 38 42, pEo 39 42, pEo 40 42, pEo 41 42]; rw [dn4]; exact putIf_eval_same (by simp [putIf_size]))) cfGfl ((HFL.out w' hck).mono ?_)
            rintro e w'' ⟨he, hb''⟩
            exact ⟨_, he, (by show Act.put _ (some 43) _ = _; simp only [pPu 38 43, pPu 39 43, pPu 40 43, pPu 41 43, pPu 42 43, hz, putIf_here2, done_same hl, dOt 5 0, dq1, dOt 5 2, dOt 5 3, dOt 5 4, dq6, dOt 5 7, dq8, dOt 5 9, dOt 5 10, dOt 5 11, dOt 5 12, dq13, dOt 5 14, dOt 5 16]), grown_trans hgw (grown_below hb'' _), (by rw [dq15, dq17]; exact hbk.below hb'' hbk.lt), (by rw [dq15, dq1]; exact h15), (by rw [dq17, dq8]; exact h17), (by rw [dq6, dq1]; exact h61), (by rw [dq13, dq8]; exact h138)⟩
          · skip
            have dq1 := dOt 6 1 (l := l)
            have dq8 := dOt 6 8 (l := l)
            have dq13 := dOt 6 13 (l := l)
            have dq15 := dOt 6 15 (l := l)
            have dq17 := dOt 6 17 (l := l)
            have dn1 : done l 1 = true := by simp [Region.binds] at haf; simp [done, haf]
            have dn5 : done l 5 = true := by simp [Region.binds] at haf; simp [done, haf]
            exact opJ_bin (v := .int .i64 (L + vl)) rfl rfl .add 3 3 (.tmp 39) (.tmp 43) (.int .i64 L) (.int .i64 vl) rfl (by simp only [pEo 38 39]; rw [dn1]; exact putIf_eval_same (by simp [putIf_size])) (by simp only [pEo 38 43, pEo 39 43, pEo 40 43, pEo 41 43, pEo 42 43]; rw [dn5]; exact putIf_eval_same (by simp [putIf_size])) (by simp [go_sem, hwL]) ⟨(by show Act.put _ (some 44) _ = _; simp only [pPu 38 44, pPu 39 44, pPu 40 44, pPu 41 44, pPu 42 44, pPu 43 44, hz, putIf_here2, done_same hl, dOt 6 0, dq1, dOt 6 2, dOt 6 3, dOt 6 4, dOt 6 5, dOt 6 7, dq8, dOt 6 9, dOt 6 10, dOt 6 11, dOt 6 12, dq13, dOt 6 14, dOt 6 16]), hgw, (by rw [dq15, dq17]; exact hbk), (by rw [dq15, dq1]; exact h15), (by rw [dq17, dq8]; exact h17), (by rw [dq1]; exact fun _ => dn1), (by rw [dq13, dq8]; exact h138)⟩
          · skip
            have dq1 := dOt 7 1 (l := l)
            have dq6 := dOt 7 6 (l := l)
            have dq8 := dOt 7 8 (l := l)
            have dq13 := dOt 7 13 (l := l)
            have dq15 := dOt 7 15 (l := l)
            have dq17 := dOt 7 17 (l := l)
            exact opJ_field (v := .pointer (some ⟨w2.heap.size, 1, none⟩)) rfl rfl 45 (.tmp 9) 1 (.pointer (some ⟨w2.heap.size, 0, none⟩)) rfl (by simp only [pEo 38 9, pEo 39 9, pEo 40 9, pEo 41 9, pEo 42 9, pEo 43 9, pEo 44 9, pEo 45 9, pEo 46 9, pEo 47 9, pEo 48 9, pEo 49 9, pEo 50 9, pEo 51 9, pEo 52 9, pEo 53 9]; rfl) (by simp [go_sem]) ⟨(by show Act.put _ (some 45) _ = _; simp only [pPu 38 45, pPu 39 45, pPu 40 45, pPu 41 45, pPu 42 45, pPu 43 45, pPu 44 45, hz, putIf_here2, done_same hl, dOt 7 0, dq1, dOt 7 2, dOt 7 3, dOt 7 4, dOt 7 5, dq6, dq8, dOt 7 9, dOt 7 10, dOt 7 11, dOt 7 12, dq13, dOt 7 14, dOt 7 16]), hgw, (by rw [dq15, dq17]; exact hbk), (by rw [dq15, dq1]; exact h15), (by rw [dq17, dq8]; exact h17), (by rw [dq6, dq1]; exact h61), (by rw [dq13, dq8]; exact h138)⟩
          · skip
            have dq1 := dOt 8 1 (l := l)
            have dq6 := dOt 8 6 (l := l)
            have dq13 := dOt 8 13 (l := l)
            have dq15 := dOt 8 15 (l := l)
            have dq17 := dOt 8 17 (l := l)
            have dn7 : done l 7 = true := by simp [Region.binds] at haf; simp [done, haf]
            have hns : done l 17 = false := by
              cases hc : done l 17
              · rfl
              · have := h17 hc; rw [hz] at this; cases this
            have bb := b1
            rw [hns] at bb
            simp only [Bool.false_eq_true, if_false] at bb
            exact opJ_load (v := .int .i64 mo) rfl rfl 3 (.tmp 45) (.pointer (some ⟨w2.heap.size, 1, none⟩)) rfl (by simp only [pEo 38 45, pEo 39 45, pEo 40 45, pEo 41 45, pEo 42 45, pEo 43 45, pEo 44 45]; rw [dn7]; exact putIf_eval_same (by simp [putIf_size])) (by simp [go_sem, bb]) ⟨(by show Act.put _ (some 46) _ = _; simp only [pPu 38 46, pPu 39 46, pPu 40 46, pPu 41 46, pPu 42 46, pPu 43 46, pPu 44 46, pPu 45 46, hz, putIf_here2, done_same hl, dOt 8 0, dq1, dOt 8 2, dOt 8 3, dOt 8 4, dOt 8 5, dq6, dOt 8 7, dOt 8 9, dOt 8 10, dOt 8 11, dOt 8 12, dq13, dOt 8 14, dOt 8 16]), hgw, (by rw [dq15, dq17]; exact hbk), (by rw [dq15, dq1]; exact h15), (by rw [dq17]; exact fun _ => done_same hl), (by rw [dq6, dq1]; exact h61), (by rw [dq13]; exact fun _ => done_same hl)⟩
          · skip
            have dq1 := dOt 9 1 (l := l)
            have dq6 := dOt 9 6 (l := l)
            have dq8 := dOt 9 8 (l := l)
            have dq13 := dOt 9 13 (l := l)
            have dq15 := dOt 9 15 (l := l)
            have dq17 := dOt 9 17 (l := l)
            exact opJ_load (v := .agg #[.slice cA cn cc, .int .i64 0]) rfl rfl 186 (.tmp 12) (.pointer (some ⟨x, 0, none⟩)) rfl (by simp only [pEo 38 12, pEo 39 12, pEo 40 12, pEo 41 12, pEo 42 12, pEo 43 12, pEo 44 12, pEo 45 12, pEo 46 12, pEo 47 12, pEo 48 12, pEo 49 12, pEo 50 12, pEo 51 12, pEo 52 12, pEo 53 12]; rfl) (by simp [go_sem, s0, s1]) ⟨(by show Act.put _ (some 47) _ = _; simp only [pPu 38 47, pPu 39 47, pPu 40 47, pPu 41 47, pPu 42 47, pPu 43 47, pPu 44 47, pPu 45 47, pPu 46 47, hz, putIf_here2, done_same hl, dOt 9 0, dq1, dOt 9 2, dOt 9 3, dOt 9 4, dOt 9 5, dq6, dOt 9 7, dq8, dOt 9 10, dOt 9 11, dOt 9 12, dq13, dOt 9 14, dOt 9 16]), hgw, (by rw [dq15, dq17]; exact hbk), (by rw [dq15, dq1]; exact h15), (by rw [dq17, dq8]; exact h17), (by rw [dq6, dq1]; exact h61), (by rw [dq13, dq8]; exact h138)⟩
          · skip
            have dq1 := dOt 10 1 (l := l)
            have dq6 := dOt 10 6 (l := l)
            have dq8 := dOt 10 8 (l := l)
            have dq13 := dOt 10 13 (l := l)
            have dq15 := dOt 10 15 (l := l)
            have dq17 := dOt 10 17 (l := l)
            exact opJ_field (v := .pointer (some ⟨y, 1, none⟩)) rfl rfl 45 (.tmp 13) 1 (.pointer (some ⟨y, 0, none⟩)) rfl (by simp only [pEo 38 13, pEo 39 13, pEo 40 13, pEo 41 13, pEo 42 13, pEo 43 13, pEo 44 13, pEo 45 13, pEo 46 13, pEo 47 13, pEo 48 13, pEo 49 13, pEo 50 13, pEo 51 13, pEo 52 13, pEo 53 13]; rfl) (by simp [go_sem]) ⟨(by show Act.put _ (some 48) _ = _; simp only [pPu 38 48, pPu 39 48, pPu 40 48, pPu 41 48, pPu 42 48, pPu 43 48, pPu 44 48, pPu 45 48, pPu 46 48, pPu 47 48, hz, putIf_here2, done_same hl, dOt 10 0, dq1, dOt 10 2, dOt 10 3, dOt 10 4, dOt 10 5, dq6, dOt 10 7, dq8, dOt 10 9, dOt 10 11, dOt 10 12, dq13, dOt 10 14, dOt 10 16]), hgw, (by rw [dq15, dq17]; exact hbk), (by rw [dq15, dq1]; exact h15), (by rw [dq17, dq8]; exact h17), (by rw [dq6, dq1]; exact h61), (by rw [dq13, dq8]; exact h138)⟩
          · skip
            have dq1 := dOt 11 1 (l := l)
            have dq6 := dOt 11 6 (l := l)
            have dq8 := dOt 11 8 (l := l)
            have dq13 := dOt 11 13 (l := l)
            have dq15 := dOt 11 15 (l := l)
            have dq17 := dOt 11 17 (l := l)
            have dn10 : done l 10 = true := by simp [Region.binds] at haf; simp [done, haf]
            exact opJ_load (v := .int .i64 hi) rfl rfl 3 (.tmp 48) (.pointer (some ⟨y, 1, none⟩)) rfl (by simp only [pEo 38 48, pEo 39 48, pEo 40 48, pEo 41 48, pEo 42 48, pEo 43 48, pEo 44 48, pEo 45 48, pEo 46 48, pEo 47 48]; rw [dn10]; exact putIf_eval_same (by simp [putIf_size])) (by simp [go_sem, t1]) ⟨(by show Act.put _ (some 49) _ = _; simp only [pPu 38 49, pPu 39 49, pPu 40 49, pPu 41 49, pPu 42 49, pPu 43 49, pPu 44 49, pPu 45 49, pPu 46 49, pPu 47 49, pPu 48 49, hz, putIf_here2, done_same hl, dOt 11 0, dq1, dOt 11 2, dOt 11 3, dOt 11 4, dOt 11 5, dq6, dOt 11 7, dq8, dOt 11 9, dOt 11 10, dOt 11 12, dq13, dOt 11 14, dOt 11 16]), hgw, (by rw [dq15, dq17]; exact hbk), (by rw [dq15, dq1]; exact h15), (by rw [dq17, dq8]; exact h17), (by rw [dq6, dq1]; exact h61), (by rw [dq13, dq8]; exact h138)⟩
          · skip
            have dq1 := dOt 12 1 (l := l)
            have dq6 := dOt 12 6 (l := l)
            have dq8 := dOt 12 8 (l := l)
            have dq13 := dOt 12 13 (l := l)
            have dq15 := dOt 12 15 (l := l)
            have dq17 := dOt 12 17 (l := l)
            have dn9 : done l 9 = true := by simp [Region.binds] at haf; simp [done, haf]
            have dn11 : done l 11 = true := by simp [Region.binds] at haf; simp [done, haf]
            refine opJ_call rfl rfl 108 #[.tmp 47, .tmp 49] _ #[.agg #[.slice cA cn cc, .int .i64 0], .int .i64 hi] rfl (map2J (by simp only [pEo 38 47, pEo 39 47, pEo 40 47, pEo 41 47, pEo 42 47, pEo 43 47, pEo 44 47, pEo 45 47, pEo 46 47]; rw [dn9]; exact putIf_eval_same (by simp [putIf_size])) (by simp only [pEo 38 49, pEo 39 49, pEo 40 49, pEo 41 49, pEo 42 49, pEo 43 49, pEo 44 49, pEo 45 49, pEo 46 49, pEo 47 49, pEo 48 49]; rw [dn11]; exact putIf_eval_same (by simp [putIf_size]))) cfGfl ((HFH.out w' hck).mono ?_)
            rintro e w'' ⟨he, hb''⟩
            exact ⟨_, he, (by show Act.put _ (some 50) _ = _; simp only [pPu 38 50, pPu 39 50, pPu 40 50, pPu 41 50, pPu 42 50, pPu 43 50, pPu 44 50, pPu 45 50, pPu 46 50, pPu 47 50, pPu 48 50, pPu 49 50, hz, putIf_here2, done_same hl, dOt 12 0, dq1, dOt 12 2, dOt 12 3, dOt 12 4, dOt 12 5, dq6, dOt 12 7, dq8, dOt 12 9, dOt 12 10, dOt 12 11, dq13, dOt 12 14, dOt 12 16]), grown_trans hgw (grown_below hb'' _), (by rw [dq15, dq17]; exact hbk.below hb'' hbk.lt), (by rw [dq15, dq1]; exact h15), (by rw [dq17, dq8]; exact h17), (by rw [dq6, dq1]; exact h61), (by rw [dq13, dq8]; exact h138)⟩
          · skip
            have dq1 := dOt 13 1 (l := l)
            have dq6 := dOt 13 6 (l := l)
            have dq8 := dOt 13 8 (l := l)
            have dq15 := dOt 13 15 (l := l)
            have dq17 := dOt 13 17 (l := l)
            have dn8 : done l 8 = true := by simp [Region.binds] at haf; simp [done, haf]
            have dn12 : done l 12 = true := by simp [Region.binds] at haf; simp [done, haf]
            exact opJ_bin (v := .int .i64 M) rfl rfl .add 3 3 (.tmp 46) (.tmp 50) (.int .i64 mo) (.int .i64 vh) rfl (by simp only [pEo 38 46, pEo 39 46, pEo 40 46, pEo 41 46, pEo 42 46, pEo 43 46, pEo 44 46, pEo 45 46]; rw [dn8]; exact putIf_eval_same (by simp [putIf_size])) (by simp only [pEo 38 50, pEo 39 50, pEo 40 50, pEo 41 50, pEo 42 50, pEo 43 50, pEo 44 50, pEo 45 50, pEo 46 50, pEo 47 50, pEo 48 50, pEo 49 50]; rw [dn12]; exact putIf_eval_same (by simp [putIf_size])) (by simp [go_sem, hwM]) ⟨(by show Act.put _ (some 51) _ = _; simp only [pPu 38 51, pPu 39 51, pPu 40 51, pPu 41 51, pPu 42 51, pPu 43 51, pPu 44 51, pPu 45 51, pPu 46 51, pPu 47 51, pPu 48 51, pPu 49 51, pPu 50 51, hz, putIf_here2, done_same hl, dOt 13 0, dq1, dOt 13 2, dOt 13 3, dOt 13 4, dOt 13 5, dq6, dOt 13 7, dq8, dOt 13 9, dOt 13 10, dOt 13 11, dOt 13 12, dOt 13 14, dOt 13 16]), hgw, (by rw [dq15, dq17]; exact hbk), (by rw [dq15, dq1]; exact h15), (by rw [dq17, dq8]; exact h17), (by rw [dq6, dq1]; exact h61), (by rw [dq8]; exact fun _ => dn8)⟩
          · skip
            have dq1 := dOt 14 1 (l := l)
            have dq6 := dOt 14 6 (l := l)
            have dq8 := dOt 14 8 (l := l)
            have dq13 := dOt 14 13 (l := l)
            have dq15 := dOt 14 15 (l := l)
            have dq17 := dOt 14 17 (l := l)
            exact opJ_field (v := .pointer (some ⟨w2.heap.size, 0, none⟩)) rfl rfl 45 (.tmp 9) 0 (.pointer (some ⟨w2.heap.size, 0, none⟩)) rfl (by simp only [pEo 38 9, pEo 39 9, pEo 40 9, pEo 41 9, pEo 42 9, pEo 43 9, pEo 44 9, pEo 45 9, pEo 46 9, pEo 47 9, pEo 48 9, pEo 49 9, pEo 50 9, pEo 51 9, pEo 52 9, pEo 53 9]; rfl) (by simp [go_sem]) ⟨(by show Act.put _ (some 52) _ = _; simp only [pPu 38 52, pPu 39 52, pPu 40 52, pPu 41 52, pPu 42 52, pPu 43 52, pPu 44 52, pPu 45 52, pPu 46 52, pPu 47 52, pPu 48 52, pPu 49 52, pPu 50 52, pPu 51 52, hz, putIf_here2, done_same hl, dOt 14 0, dq1, dOt 14 2, dOt 14 3, dOt 14 4, dOt 14 5, dq6, dOt 14 7, dq8, dOt 14 9, dOt 14 10, dOt 14 11, dOt 14 12, dq13, dOt 14 16]), hgw, (by rw [dq15, dq17]; exact hbk), (by rw [dq15, dq1]; exact h15), (by rw [dq17, dq8]; exact h17), (by rw [dq6, dq1]; exact h61), (by rw [dq13, dq8]; exact h138)⟩
          · skip
            have dq1 := dOt 15 1 (l := l)
            have dq6 := dOt 15 6 (l := l)
            have dq8 := dOt 15 8 (l := l)
            have dq13 := dOt 15 13 (l := l)
            have dq17 := dOt 15 17 (l := l)
            have dn14 : done l 14 = true := by simp [Region.binds] at haf; simp [done, haf]
            have dn6 : done l 6 = true := by simp [Region.binds] at haf; simp [done, haf]
            have hv2 := hbk.set_ 0 (.int .i64 (L + vl))
            simp only [List.setIfInBounds_toArray, List.set_cons_zero] at hv2
            have dn6x : done l 6 = true := dn6
            exact opJ_store (w' := w'.setCell ⟨w2.heap.size, 0, none⟩ (.int .i64 (L + vl))) rfl rfl 3 (.tmp 52) (.tmp 44) (.pointer (some ⟨w2.heap.size, 0, none⟩)) (.int .i64 (L + vl)) rfl (by simp only [pEo 38 52, pEo 39 52, pEo 40 52, pEo 41 52, pEo 42 52, pEo 43 52, pEo 44 52, pEo 45 52, pEo 46 52, pEo 47 52, pEo 48 52, pEo 49 52, pEo 50 52, pEo 51 52]; rw [dn14]; exact putIf_eval_same (by simp [putIf_size])) (by simp only [pEo 38 44, pEo 39 44, pEo 40 44, pEo 41 44, pEo 42 44, pEo 43 44]; rw [dn6]; exact putIf_eval_same (by simp [putIf_size])) (by simp [go_sem, b0, bf]) ⟨(by simp only [dOt 15 0, dq1, dOt 15 2, dOt 15 3, dOt 15 4, dOt 15 5, dq6, dOt 15 7, dq8, dOt 15 9, dOt 15 10, dOt 15 11, dOt 15 12, dq13, dOt 15 14, dOt 15 16]; rfl), grown_set hgw (.inl rfl) _, (by rw [done_same hl, dq17]; exact hv2), (by rw [dq1]; exact fun _ => h61 dn6), (by rw [dq8]; rw [dq17]; exact h17), (by rw [dq6, dq1]; exact h61), (by rw [dq13, dq8]; exact h138)⟩
          · skip
            have dq1 := dOt 16 1 (l := l)
            have dq6 := dOt 16 6 (l := l)
            have dq8 := dOt 16 8 (l := l)
            have dq13 := dOt 16 13 (l := l)
            have dq15 := dOt 16 15 (l := l)
            have dq17 := dOt 16 17 (l := l)
            exact opJ_field (v := .pointer (some ⟨w2.heap.size, 1, none⟩)) rfl rfl 45 (.tmp 9) 1 (.pointer (some ⟨w2.heap.size, 0, none⟩)) rfl (by simp only [pEo 38 9, pEo 39 9, pEo 40 9, pEo 41 9, pEo 42 9, pEo 43 9, pEo 44 9, pEo 45 9, pEo 46 9, pEo 47 9, pEo 48 9, pEo 49 9, pEo 50 9, pEo 51 9, pEo 52 9, pEo 53 9]; rfl) (by simp [go_sem]) ⟨(by show Act.put _ (some 53) _ = _; simp only [pPu 38 53, pPu 39 53, pPu 40 53, pPu 41 53, pPu 42 53, pPu 43 53, pPu 44 53, pPu 45 53, pPu 46 53, pPu 47 53, pPu 48 53, pPu 49 53, pPu 50 53, pPu 51 53, pPu 52 53, hz, putIf_here2, done_same hl, dOt 16 0, dq1, dOt 16 2, dOt 16 3, dOt 16 4, dOt 16 5, dq6, dOt 16 7, dq8, dOt 16 9, dOt 16 10, dOt 16 11, dOt 16 12, dq13, dOt 16 14]), hgw, (by rw [dq15, dq17]; exact hbk), (by rw [dq15, dq1]; exact h15), (by rw [dq17, dq8]; exact h17), (by rw [dq6, dq1]; exact h61), (by rw [dq13, dq8]; exact h138)⟩
          · skip
            have dq1 := dOt 17 1 (l := l)
            have dq6 := dOt 17 6 (l := l)
            have dq8 := dOt 17 8 (l := l)
            have dq13 := dOt 17 13 (l := l)
            have dq15 := dOt 17 15 (l := l)
            have dn16 : done l 16 = true := by simp [Region.binds] at haf; simp [done, haf]
            have dn13 : done l 13 = true := by simp [Region.binds] at haf; simp [done, haf]
            have hv2 := hbk.set_ 1 (.int .i64 M)
            simp only [List.setIfInBounds_toArray, List.set_cons_zero, List.set_cons_succ] at hv2
            have dn6x : done l 13 = true := dn13
            exact opJ_store (w' := w'.setCell ⟨w2.heap.size, 1, none⟩ (.int .i64 M)) rfl rfl 3 (.tmp 53) (.tmp 51) (.pointer (some ⟨w2.heap.size, 1, none⟩)) (.int .i64 M) rfl (by simp only [pEo 38 53, pEo 39 53, pEo 40 53, pEo 41 53, pEo 42 53, pEo 43 53, pEo 44 53, pEo 45 53, pEo 46 53, pEo 47 53, pEo 48 53, pEo 49 53, pEo 50 53, pEo 51 53, pEo 52 53]; rw [dn16]; exact putIf_eval_same (by simp)) (by simp only [pEo 38 51, pEo 39 51, pEo 40 51, pEo 41 51, pEo 42 51, pEo 43 51, pEo 44 51, pEo 45 51, pEo 46 51, pEo 47 51, pEo 48 51, pEo 49 51, pEo 50 51]; rw [dn13]; exact putIf_eval_same (by simp [putIf_size])) (by simp [go_sem, b1, bf]) ⟨(by simp only [dOt 17 0, dq1, dOt 17 2, dOt 17 3, dOt 17 4, dOt 17 5, dq6, dOt 17 7, dq8, dOt 17 9, dOt 17 10, dOt 17 11, dOt 17 12, dq13, dOt 17 14, dOt 17 16]; rfl), grown_set hgw (.inl rfl) _, (by rw [done_same hl, dq15]; exact hv2), (by rw [dq1]; rw [dq15]; exact h15), (by rw [dq8]; exact fun _ => h138 dn13), (by rw [dq6, dq1]; exact h61), (by rw [dq13, dq8]; exact h138)⟩
        · intro l a' w' hJ hall
          obtain ⟨rfl, hgw, hbk, h15, h17, h61, h138⟩ := hJ
          have hd : ∀ i, i < 18 → done l i = true := hall
          rw [hd 15 (by decide), hd 17 (by decide)] at hbk
          simp only [hd 0 (by decide), hd 1 (by decide), hd 2 (by decide), hd 3 (by decide), hd 4 (by decide), hd 5 (by decide), hd 6 (by decide), hd 7 (by decide), hd 8 (by decide), hd 9 (by decide), hd 10 (by decide), hd 11 (by decide), hd 12 (by decide), hd 13 (by decide), hd 14 (by decide), hd 16 (by decide), putIf, if_true, Act.put]
          clear hd hall h15 h17 h61 h138
          have HRE := hide hbk
          have HQE := hide (hQ6.only hgw (by omega))
          have HBE := hide (below_grown hB6 hgw hB6.size (by omega))
          clear hbk hgw
          go_wp2
          go_roundw
          case rel => exact ⟨k + 1, M, by omega, by go_num, (by rw [HTK.out]; omega), (by rw [HTK.out]; exact HRE.out), HQE.out, HBE.out⟩
          case measure => simp [intOf]; omega
        · kernel_rfl
    -- END REGION 9
    · have hki : ¬ ((k : Int) < (sn : Int)) := by omega
      obtain rfl : k = sn := by omega
      have hE : lowS lv (gs.take k) (ss.take k) = lowS lv gs ss := by
        rw [List.take_of_length_le (by have := HLG.out; omega), List.take_of_length_le (by have := HLG.out; have := HGL.out; omega)]
      rw [hE] at hR
      generalize hLE : lowS lv gs ss = L at *
      have HLE := hide hLE
      clear hLE
      have hQ2 := (hQ.set_ 0 (.int .i64 L)).set_ 1 (.int .i64 mo)
      simp only [List.setIfInBounds_toArray, List.set_cons_zero, List.set_cons_succ] at hQ2
      have HBE := hide ((hb.setCell (p := ⟨w.heap.size, 0, none⟩) (by simp only; omega) (.int .i64 L)).setCell (p := ⟨w.heap.size, 1, none⟩) (by simp only; omega) (.int .i64 mo))
      obtain ⟨x0, x1, xf⟩ := hR.facts2
      obtain ⟨d0, d1, df⟩ := hQ.facts2
      obtain ⟨y0, y1, yf⟩ := hQ2.facts2
      clear hb hR hQ hQ2 hE
      go_wp2
      refine bodyPost_ret (v := .tuple #[.agg #[.int .i64 L, .int .i64 mo], .int .i64 0]) (by simp [results, Tryz.results104, go_sem, y0, y1]) rfl ⟨⟨mo, by rw [HLE.out]⟩, HBE.out⟩
end Go.Proofs.YtodamjjlnagpjaaGreatDoor
