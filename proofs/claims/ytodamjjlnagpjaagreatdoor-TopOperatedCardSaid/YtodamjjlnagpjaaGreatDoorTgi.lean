/-
  The contract of gate.Set at valid gates and states: the states of each gate within its opening, and a flow that is not negative. Condition: gates and states lie in memory and are valid.
-/
import Derived.Test.YtodamjjlnagpjaaGreatDoorProg
import Derived.Test.YtodamjjlnagpjaaGreatDoorTge
import Derived.Test.YtodamjjlnagpjaaGreatDoorTgx
import Derived.Test.YtodamjjlnagpjaaGreatDoorTsn
import Derived.Laws.EntriesVeiled
namespace Go.Proofs.YtodamjjlnagpjaaGreatDoor
open Go.RowKit

/-- Each state lies within its gate's opening. -/
def StIn (gs : List Gt) (ss : List Gs) : Prop := ∀ (i : Nat) (g : Gt) (s : Gs), gs[i]? = some g → ss[i]? = some s → 0 ≤ s.op ∧ s.op ≤ g.mo
theorem StIn.snoc {gs : List Gt} {ss : List Gs} {k : Nat} {g : Gt} {s : Gs} (h : StIn gs ss) (hk : ss.length = k) (hg : gs[k]? = some g) (hs : 0 ≤ s.op ∧ s.op ≤ g.mo) : StIn gs (ss ++ [s]) := by
  intro i g' s' h1 h2
  by_cases hi : i < ss.length
  · rw [List.getElem?_append_left hi] at h2; exact h i g' s' h1 h2
  · rw [List.getElem?_append_right (by omega)] at h2
    have hi0 : i - ss.length = 0 := by
      cases hq : i - ss.length with
      | zero => rfl
      | succ n => rw [hq] at h2; simp at h2
    rw [hi0] at h2
    have hik : i = k := by omega
    rw [hik, hg] at h1
    injection h1 with h1
    injection h2 with h2
    rw [← h1, ← h2]; exact hs
/-- What is told of the flow that Set gives. -/
structure OneF (lv wa L : Int) (g : Gt) (s : Gs) (X : Int) : Prop where
  lt : L < wa → ∃ op, rLo g s ≤ op ∧ op ≤ rHi g s ∧ X = vflow (gCv g.rs lv nilCv) op ∧ ((wa - (L - vflow (gCv g.rs lv nilCv) (rLo g s)) ≤ vflow (gCv g.rs lv nilCv) op ∧ (rLo g s < op → ¬ wa - (L - vflow (gCv g.rs lv nilCv) (rLo g s)) ≤ vflow (gCv g.rs lv nilCv) (op - 1))) ∨ ¬ wa - (L - vflow (gCv g.rs lv nilCv) (rLo g s)) ≤ vflow (gCv g.rs lv nilCv) (rHi g s))
  ge : ¬ L < wa → X = vflow (gCv g.rs lv nilCv) (rLo g s)
structure SuP (gs : List Gt) (s0 : List Gs) (lv wa su : Int) : Prop where
  nn : 0 ≤ su
  one : ∀ g s, gs = [g] → s0 = [s] → OneF lv wa (lowS lv gs s0) g s su
def SetP (gs : List Gt) (s0 : List Gs) (lv wa : Int) (w : World) (e : Ending) (w' : World) : Prop := ∃ (A : Option Addr) (n c : Nat) (su : Int) (ss : List Gs), e = .returned (.tuple #[.slice A n c, .int .i64 su, .int .i64 0]) ∧ SuP gs s0 lv wa su ∧ n = gs.length ∧ ss.length = gs.length ∧ w'.ownsRow w.heap.size 99 2 (.slice A n c) n (gsCells ss) ∧ StIn gs ss ∧ Below w.heap.size w w'
theorem lowS_nonneg {w : World} (lv : Int) : ∀ (gs : List Gt) (ss : List Gs), (∀ g ∈ gs, g.ok w) → (∀ g ∈ gs, GtG g) → 0 ≤ lowS lv gs ss ∧ lowS lv gs ss ≤ 2000 * gs.length
  | [], _, _, _ => by simp [lowS]
  | _ :: _, [], _, _ => by simp [lowS]; omega
  | g :: t, s :: u, h, k => by
    have h1 := lowS_nonneg lv t u (fun g hg => h g (List.mem_cons_of_mem _ hg)) (fun g hg => k g (List.mem_cons_of_mem _ hg))
    have h2 := vflow_in (gCv_ok (h g List.mem_cons_self) (k g List.mem_cons_self) lv).2 (rLo g s)
    simp only [lowS, List.length_cons]
    omega
theorem slGs : SlT Tryz.prog 33 99 2 := slT_of (z := .agg #[.int .i64 0, .bool false]) (bytes := 16) Tryz.underlying33 (by kernel_rfl) rfl (by decide) (by decide)
set_option maxHeartbeats 3200000 in
set_option maxRecDepth 20000 in
theorem set_any (x : Gtn) (lv wa : Int) (hlv : 0 ≤ lv ∧ lv ≤ 16777216) (hwa : 0 ≤ wa ∧ wa ≤ 1073741824) (hg : GtnG x) (w : World) (hs : x.ok w) :
    Calls Tryz.prog 83 #[.slice x.gA x.gn x.gc, .slice x.sA x.sn x.sc, .int .i64 lv, .int .i64 wa] w (SetP x.gs x.ss lv wa w) := by
  obtain ⟨hl1, hl2, hl3⟩ := Gtn.lens hs hg
  have HRG := hide (range_any x lv hlv hg w hs)
  have HAT := hide (fun (W : World) (hW : Below w.heap.size w W) (k : Nat) (hk : k < x.gn) => Gtn.at_ (hs.below hW) hg hk)
  have hLW := lowS_nonneg lv x.gs x.ss hs.ok hg.g
  obtain ⟨gA, gn, gc, gs, sA, sn, sc, ss⟩ := x
  simp only at hl1 hl2 hl3 HAT HRG hLW ⊢
  have HLG := hide hl1
  have HGL := hide hg.l
  simp only at HGL
  rw [← hl1] at hLW
  clear hs hl1 hg
  obtain rfl : sn = gn := hl2
  go_enter Tryz.func83, Tryz.ntmps83
  go_upto_region 1 with fail
  go_wp2_with fail
  refine HRG.out.mono ?_
  rintro e w2 ⟨⟨mo0, rfl⟩, hb2⟩
  generalize hLE : lowS lv gs ss = L at *
  have HLE := hide hLE
  clear hLE
  have hb3 := hb2.alloc hb2.size (.cells #[.int .i64 L, .int .i64 mo0] 45)
  have q3 := Blk.new w2 45 #[.int .i64 L, .int .i64 mo0]
  clear HRG
  go_upto_region 4 with fail
  generalize w2.alloc _ = w3 at *
  obtain ⟨c0, c1, cf⟩ := q3.facts2
  go_wp2_with fail
  refine (within_true _ _ hwa.1 hwa.2 _).mono ?_
  rintro e w4 ⟨rfl, rfl⟩
  have q5 := Blk.new w4 184 #[.func (.func 105) #[] #[]]
  have hb5 := hb3.alloc hb3.size (.cells #[.func (.func 105) #[] #[]] 184)
  have HWA := hide hwa
  clear hb2
  go_upto_region 8 with fail
  clear c0 c1 cf q3
  generalize hwz : w4.alloc _ = wz at *
  clear hwz
  have hzz := hb5.size
  have hzf := q5.lt
  have HB := hide hb5
  have HF := hide q5
  clear hb3 hb5 q5 hwa
  go_wp2
  go_loopw [13, 15, 38] (fun su v i wr => ∃ (k : Nat) (X : Int) (os : List Gs), k ≤ sn ∧ i = .int .i64 k ∧ su = .int .i64 (X + (L - lowS lv (gs.take k) (ss.take k))) ∧ (0 ≤ X ∧ X ≤ 2000 * k) ∧ (0 ≤ lowS lv (gs.take k) (ss.take k) ∧ lowS lv (gs.take k) (ss.take k) ≤ 2000 * k) ∧ Hid (∀ g s, gs[0]? = some g → ss[0]? = some s → k = 1 → OneF lv wa L g s X) ∧ os.length = k ∧ wr.ownsRow wz.heap.size 99 2 v k (gsCells os) ∧ StIn gs os ∧ Below wz.heap.size wz wr) (fun su v i _ => sn - (intOf i).toNat)
  case atStart => exact ⟨0, 0, [], by omega, rfl, by simp [lowS], by omega, by simp [lowS], hide (fun g s _ _ h => absurd h (by omega)), rfl, World.ownsRow_nil _ _ _ _, (fun i g s _ h => by simp at h), Below.refl _ _⟩
  case round =>
    rename World => wr
    obtain ⟨k, X, os, hk, rfl, rfl, ⟨hX0, hX1⟩, ⟨hL0, hL1⟩, HTR, hos, hv, hSI, hbz⟩ := hrel
    have HBZ := hide hbz
    have hbw := HB.out.trans (hbz.mono hzz)
    obtain ⟨Av, cv, rfl, _⟩ := own_sl hv
    have HV := hide hv
    have HSI := hide hSI
    have HOS := hide hos
    by_cases hlt : k < sn
    · have hki : (k : Int) < (sn : Int) := by omega
      obtain ⟨b, o, b2, o2, g, s, rfl, rfl, hgk, hsk, hgo, hgg, hso, ⟨e0, e1, e2⟩, f0, f1⟩ := HAT.out wr hbw k hlt
      have q1 := Blk.new wr 96 g.arr
      have hb1 := bel1 (w := wr) (o := .cells g.arr 96)
      have HA := hide (fun W h => at_any g lv W h)
      have HRC := hide (fun W => reach_any g s hgg hso W)
      have hg1 := hgo.below hb1
      obtain ⟨hcok, hcn⟩ := gCv_ok hg1 hgg lv
      have hrr := rLoHi hgg hso
      have HV1 := hide (ownsRow_below HV.out hb1)
      have HBZ1 := hide (bthr HBZ.out hb1 HBZ.out.size)
      replace f0 := cell_thr hb1 f0
      replace f1 := cell_thr hb1 f1
      unfold Gt.arr at q1 hb1 HA HRC hg1 f0 f1 hcok HV1 HBZ1
      unfold Gs.arr at HRC
      have hvin := vflow_in hcn (rLo g s)
      have hTK := lowS_take lv HGL.out hgk hsk
      have HGK := hide hgk
      have HSK := hide hsk
      have HLK0 := hide (show k = 0 → lowS lv (gs.take k) (ss.take k) = 0 from fun h => by subst h; simp [lowS])
      have HSO := hide hso
      have hmo : g.mo ≤ 1000 := hgg.mo.2
      generalize hcv : gCv g.rs lv nilCv = cv at *
      have HCV := hide hcv
      clear hcv hgk hsk hso hgg hgo hv hSI hos hbz hbw
      obtain ⟨cA, cn, cc, cps⟩ := cv
      generalize hlo : rLo g s = lo at *
      generalize hhi : rHi g s = hi at *
      simp only at HA
      generalize lowS lv (gs.take k) (ss.take k) = LK at *
      generalize hLK1 : lowS lv (gs.take (k + 1)) (ss.take (k + 1)) = LK1 at *
      have HLK := hide hLK1
      have HLO := hide hlo
      have HHI := hide hhi
      clear hLK1 hlo hhi
      go_upto_region 12 with fail
      clear e0 e1 e2
      generalize wr.alloc _ = w5 at *
      obtain ⟨c0, c1, c2, cf⟩ := q1.facts3
      have hd5 : Below w5.heap.size w5 w5.drew := (Below.refl _ _).drew
      have C1 := hide (HA.out w5.drew (hg1.below hd5))
      have C2 := hide (HRC.out w5.drew)
      have S0 : w5.drew.cell? ⟨wr.heap.size, 0, none⟩ = some (.slice g.A g.n g.c) := c0
      go_cut [18, 19] (fun v18 v19 wx => VwCut w5 cA cn cc 0 lo hi v18 v19 wx)
      case first =>
        refine wp_region_Ja (J := fun a0 l a' w' => ∃ x y : Nat, a' = putIf (done l 0) 43 (.agg #[.slice g.A g.n g.c, .int .i64 g.mo, .int .i64 g.mv]) (putIf (done l 1) 44 (.int .i64 lv) (putIf (done l 2) 45 (.agg #[.slice cA cn cc, .int .i64 0]) (putIf (done l 3) 46 (.agg #[.slice g.A g.n g.c, .int .i64 g.mo, .int .i64 g.mv]) (putIf (done l 4) 47 (.slice (some ⟨b2, o2, none⟩) sn sc) (putIf (done l 5) 48 (.int .i64 (k : Int)) (putIf (done l 6) 49 (.pointer (some ⟨b2, o2 + k * 2, none⟩)) (putIf (done l 7) 50 (.agg #[.int .i64 s.op, .bool s.jam]) (putIf (done l 8) 51 (.agg #[.int .i64 lo, .int .i64 hi]) (putIf (done l 9) 18 (.pointer (some ⟨x, 0, none⟩)) (putIf (done l 10) 19 (.pointer (some ⟨y, 0, none⟩)) (a0))))))))))) ∧ Below w5.heap.size w5 w' ∧ (done l 9 = true → w5.heap.size ≤ x ∧ Blk w' x 186 (if done l 11 = true then #[.slice cA cn cc, .int .i64 0] else #[.slice none 0 0, .int .i64 0])) ∧ (done l 10 = true → w5.heap.size ≤ y ∧ Blk w' y 45 (if done l 12 = true then #[.int .i64 lo, .int .i64 hi] else #[.int .i64 0, .int .i64 0])) ∧ (done l 9 = true → done l 10 = true → x ≠ y) ∧ (done l 11 = true → done l 9 = true) ∧ (done l 12 = true → done l 10 = true)) (by kernel_rfl) ?_ ?_ ?_ ?_
        · refine ⟨0, 0, ?_, hd5, fun h => ?_, fun h => ?_, fun h => ?_, fun h => ?_, fun h => ?_⟩
          · simp only [done_none]; rfl
          · rw [done_none] at h; cases h
          · rw [done_none] at h; cases h
          · rw [done_none] at h; cases h
          · rw [done_none] at h; cases h
          · rw [done_none] at h; cases h
        · intro l a' w' i hsz hJ hi
          obtain ⟨x, y, rfl, hbw, hx, hy, hxy, h11, h12⟩ := hJ
          rw [ready_iff] at hi
          obtain ⟨hi13, hnl, haf⟩ := hi
          have hz := done_not hnl
          have hl := getD_lt hnl
          have c0w := cell_thr hbw c0
          have c1w := cell_thr hbw c1
          have c2w := cell_thr hbw c2
          have f0w := cell_thr hbw f0
          have f1w := cell_thr hbw f1
          have hcases : i = 0 ∨ i = 1 ∨ i = 2 ∨ i = 3 ∨ i = 4 ∨ i = 5 ∨ i = 6 ∨ i = 7 ∨ i = 8 ∨ i = 9 ∨ i = 10 ∨ i = 11 ∨ i = 12 := by
            have : i < 13 := hi13
            omega
          rcases hcases with rfl | rfl | rfl | rfl | rfl | rfl | rfl | rfl | rfl | rfl | rfl | rfl | rfl
          · skip
            exact opJ_load (v := .agg #[.slice g.A g.n g.c, .int .i64 g.mo, .int .i64 g.mv]) rfl rfl 96 (.tmp 17) (.pointer (some ⟨wr.heap.size, 0, none⟩)) rfl (by simp only [pEo 43 17, pEo 44 17, pEo 45 17, pEo 46 17, pEo 47 17, pEo 48 17, pEo 49 17, pEo 50 17, pEo 51 17, pEo 18 17, pEo 19 17]; rfl) (by simp [go_sem, c0w, c1w, c2w]) ⟨x, y, (by show Act.put _ (some 43) _ = _; simp only [hz, putIf_here2, done_same hl, dOt 0 1, dOt 0 2, dOt 0 3, dOt 0 4, dOt 0 5, dOt 0 6, dOt 0 7, dOt 0 8, dOt 0 9, dOt 0 10]), hbw, (by rw [dOt 0 9, dOt 0 11]; exact hx), (by rw [dOt 0 10, dOt 0 12]; exact hy), (by rw [dOt 0 9, dOt 0 10]; exact hxy), (by rw [dOt 0 11, dOt 0 9]; exact h11), (by rw [dOt 0 12, dOt 0 10]; exact h12)⟩
          · skip
            exact opJ_move (v := .int .i64 lv) rfl rfl (.tmp 2) rfl (by simp only [pEo 43 2, pEo 44 2, pEo 45 2, pEo 46 2, pEo 47 2, pEo 48 2, pEo 49 2, pEo 50 2, pEo 51 2, pEo 18 2, pEo 19 2]; rfl) ⟨x, y, (by show Act.put _ (some 44) _ = _; simp only [pPu 43 44, hz, putIf_here2, done_same hl, dOt 1 0, dOt 1 2, dOt 1 3, dOt 1 4, dOt 1 5, dOt 1 6, dOt 1 7, dOt 1 8, dOt 1 9, dOt 1 10]), hbw, (by rw [dOt 1 9, dOt 1 11]; exact hx), (by rw [dOt 1 10, dOt 1 12]; exact hy), (by rw [dOt 1 9, dOt 1 10]; exact hxy), (by rw [dOt 1 11, dOt 1 9]; exact h11), (by rw [dOt 1 12, dOt 1 10]; exact h12)⟩
          · skip
            have dn0 : done l 0 = true := by simp [Region.binds] at haf; simp [done, haf]
            have dn1 : done l 1 = true := by simp [Region.binds] at haf; simp [done, haf]
            refine opJ_call rfl rfl 106 #[.tmp 43, .tmp 44] _ #[.agg #[.slice g.A g.n g.c, .int .i64 g.mo, .int .i64 g.mv], .int .i64 lv] rfl (map2J (by rw [dn0]; exact putIf_eval_same (by simp [putIf_size])) (by simp only [pEo 43 44]; rw [dn1]; exact putIf_eval_same (by simp [putIf_size]))) cfGat ((HA.out w' (hg1.below hbw)).mono ?_)
            rintro e w'' ⟨he, hb''⟩
            exact ⟨_, he, x, y, (by show Act.put _ (some 45) _ = _; simp only [pPu 43 45, pPu 44 45, hz, putIf_here2, done_same hl, dOt 2 0, dOt 2 1, dOt 2 3, dOt 2 4, dOt 2 5, dOt 2 6, dOt 2 7, dOt 2 8, dOt 2 9, dOt 2 10]), bthr hbw hb'' hbw.size, (by rw [dOt 2 9, dOt 2 11]; exact fun h => ⟨(hx h).1, (hx h).2.below hb'' (hx h).2.lt⟩), (by rw [dOt 2 10, dOt 2 12]; exact fun h => ⟨(hy h).1, (hy h).2.below hb'' (hy h).2.lt⟩), (by rw [dOt 2 9, dOt 2 10]; exact hxy), (by rw [dOt 2 11, dOt 2 9]; exact h11), (by rw [dOt 2 12, dOt 2 10]; exact h12)⟩
          · skip
            exact opJ_load (v := .agg #[.slice g.A g.n g.c, .int .i64 g.mo, .int .i64 g.mv]) rfl rfl 96 (.tmp 17) (.pointer (some ⟨wr.heap.size, 0, none⟩)) rfl (by simp only [pEo 43 17, pEo 44 17, pEo 45 17, pEo 46 17, pEo 47 17, pEo 48 17, pEo 49 17, pEo 50 17, pEo 51 17, pEo 18 17, pEo 19 17]; rfl) (by simp [go_sem, c0w, c1w, c2w]) ⟨x, y, (by show Act.put _ (some 46) _ = _; simp only [pPu 43 46, pPu 44 46, pPu 45 46, hz, putIf_here2, done_same hl, dOt 3 0, dOt 3 1, dOt 3 2, dOt 3 4, dOt 3 5, dOt 3 6, dOt 3 7, dOt 3 8, dOt 3 9, dOt 3 10]), hbw, (by rw [dOt 3 9, dOt 3 11]; exact hx), (by rw [dOt 3 10, dOt 3 12]; exact hy), (by rw [dOt 3 9, dOt 3 10]; exact hxy), (by rw [dOt 3 11, dOt 3 9]; exact h11), (by rw [dOt 3 12, dOt 3 10]; exact h12)⟩
          · skip
            exact opJ_move (v := .slice (some ⟨b2, o2, none⟩) sn sc) rfl rfl (.tmp 1) rfl (by simp only [pEo 43 1, pEo 44 1, pEo 45 1, pEo 46 1, pEo 47 1, pEo 48 1, pEo 49 1, pEo 50 1, pEo 51 1, pEo 18 1, pEo 19 1]; rfl) ⟨x, y, (by show Act.put _ (some 47) _ = _; simp only [pPu 43 47, pPu 44 47, pPu 45 47, pPu 46 47, hz, putIf_here2, done_same hl, dOt 4 0, dOt 4 1, dOt 4 2, dOt 4 3, dOt 4 5, dOt 4 6, dOt 4 7, dOt 4 8, dOt 4 9, dOt 4 10]), hbw, (by rw [dOt 4 9, dOt 4 11]; exact hx), (by rw [dOt 4 10, dOt 4 12]; exact hy), (by rw [dOt 4 9, dOt 4 10]; exact hxy), (by rw [dOt 4 11, dOt 4 9]; exact h11), (by rw [dOt 4 12, dOt 4 10]; exact h12)⟩
          · skip
            exact opJ_move (v := .int .i64 (k : Int)) rfl rfl (.tmp 16) rfl (by simp only [pEo 43 16, pEo 44 16, pEo 45 16, pEo 46 16, pEo 47 16, pEo 48 16, pEo 49 16, pEo 50 16, pEo 51 16, pEo 18 16, pEo 19 16]; rfl) ⟨x, y, (by show Act.put _ (some 48) _ = _; simp only [pPu 43 48, pPu 44 48, pPu 45 48, pPu 46 48, pPu 47 48, hz, putIf_here2, done_same hl, dOt 5 0, dOt 5 1, dOt 5 2, dOt 5 3, dOt 5 4, dOt 5 6, dOt 5 7, dOt 5 8, dOt 5 9, dOt 5 10]), hbw, (by rw [dOt 5 9, dOt 5 11]; exact hx), (by rw [dOt 5 10, dOt 5 12]; exact hy), (by rw [dOt 5 9, dOt 5 10]; exact hxy), (by rw [dOt 5 11, dOt 5 9]; exact h11), (by rw [dOt 5 12, dOt 5 10]; exact h12)⟩
          · skip
            have dn4 : done l 4 = true := by simp [Region.binds] at haf; simp [done, haf]
            have dn5 : done l 5 = true := by simp [Region.binds] at haf; simp [done, haf]
            exact opJ_index (v := .pointer (some ⟨b2, o2 + k * 2, none⟩)) rfl rfl 33 (.tmp 47) (.tmp 48) (.slice (some ⟨b2, o2, none⟩) sn sc) (.int .i64 (k : Int)) rfl (by simp only [pEo 43 47, pEo 44 47, pEo 45 47, pEo 46 47]; rw [dn4]; exact putIf_eval_same (by simp [putIf_size])) (by simp only [pEo 43 48, pEo 44 48, pEo 45 48, pEo 46 48, pEo 47 48]; rw [dn5]; exact putIf_eval_same (by simp [putIf_size])) (by simp [go_sem, hlt]) ⟨x, y, (by show Act.put _ (some 49) _ = _; simp only [pPu 43 49, pPu 44 49, pPu 45 49, pPu 46 49, pPu 47 49, pPu 48 49, hz, putIf_here2, done_same hl, dOt 6 0, dOt 6 1, dOt 6 2, dOt 6 3, dOt 6 4, dOt 6 5, dOt 6 7, dOt 6 8, dOt 6 9, dOt 6 10]), hbw, (by rw [dOt 6 9, dOt 6 11]; exact hx), (by rw [dOt 6 10, dOt 6 12]; exact hy), (by rw [dOt 6 9, dOt 6 10]; exact hxy), (by rw [dOt 6 11, dOt 6 9]; exact h11), (by rw [dOt 6 12, dOt 6 10]; exact h12)⟩
          · skip
            have dn6 : done l 6 = true := by simp [Region.binds] at haf; simp [done, haf]
            exact opJ_load (v := .agg #[.int .i64 s.op, .bool s.jam]) rfl rfl 99 (.tmp 49) (.pointer (some ⟨b2, o2 + k * 2, none⟩)) rfl (by simp only [pEo 43 49, pEo 44 49, pEo 45 49, pEo 46 49, pEo 47 49, pEo 48 49]; rw [dn6]; exact putIf_eval_same (by simp [putIf_size])) (by simp [go_sem, f0w, f1w]) ⟨x, y, (by show Act.put _ (some 50) _ = _; simp only [pPu 43 50, pPu 44 50, pPu 45 50, pPu 46 50, pPu 47 50, pPu 48 50, pPu 49 50, hz, putIf_here2, done_same hl, dOt 7 0, dOt 7 1, dOt 7 2, dOt 7 3, dOt 7 4, dOt 7 5, dOt 7 6, dOt 7 8, dOt 7 9, dOt 7 10]), hbw, (by rw [dOt 7 9, dOt 7 11]; exact hx), (by rw [dOt 7 10, dOt 7 12]; exact hy), (by rw [dOt 7 9, dOt 7 10]; exact hxy), (by rw [dOt 7 11, dOt 7 9]; exact h11), (by rw [dOt 7 12, dOt 7 10]; exact h12)⟩
          · skip
            have dn3 : done l 3 = true := by simp [Region.binds] at haf; simp [done, haf]
            have dn7 : done l 7 = true := by simp [Region.binds] at haf; simp [done, haf]
            refine opJ_call rfl rfl 107 #[.tmp 46, .tmp 50] _ #[.agg #[.slice g.A g.n g.c, .int .i64 g.mo, .int .i64 g.mv], .agg #[.int .i64 s.op, .bool s.jam]] rfl (map2J (by simp only [pEo 43 46, pEo 44 46, pEo 45 46]; rw [dn3]; exact putIf_eval_same (by simp [putIf_size])) (by simp only [pEo 43 50, pEo 44 50, pEo 45 50, pEo 46 50, pEo 47 50, pEo 48 50, pEo 49 50]; rw [dn7]; exact putIf_eval_same (by simp [putIf_size]))) cfGre ((HRC.out w').mono ?_)
            rintro e w'' ⟨he, hb''⟩
            exact ⟨_, he, x, y, (by show Act.put _ (some 51) _ = _; simp only [pPu 43 51, pPu 44 51, pPu 45 51, pPu 46 51, pPu 47 51, pPu 48 51, pPu 49 51, pPu 50 51, hz, putIf_here2, done_same hl, dOt 8 0, dOt 8 1, dOt 8 2, dOt 8 3, dOt 8 4, dOt 8 5, dOt 8 6, dOt 8 7, dOt 8 9, dOt 8 10]), bthr hbw hb'' hbw.size, (by rw [dOt 8 9, dOt 8 11]; exact fun h => ⟨(hx h).1, (hx h).2.below hb'' (hx h).2.lt⟩), (by rw [dOt 8 10, dOt 8 12]; exact fun h => ⟨(hy h).1, (hy h).2.below hb'' (hy h).2.lt⟩), (by rw [dOt 8 9, dOt 8 10]; exact hxy), (by rw [dOt 8 11, dOt 8 9]; exact h11), (by rw [dOt 8 12, dOt 8 10]; exact h12)⟩
          · skip
            have hns : done l 11 = false := by
              cases hc : done l 11
              · rfl
              · have := h11 hc; rw [hz] at this; cases this
            exact opJ_alloc (v := .pointer (some ⟨w'.heap.size, 0, none⟩)) (w' := w'.alloc (.cells #[.slice none 0 0, .int .i64 0] 186)) rfl rfl 186 rfl (by simp [go_sem]) ⟨w'.heap.size, y, (by show Act.put _ (some 18) _ = _; simp only [pPu 43 18, pPu 44 18, pPu 45 18, pPu 46 18, pPu 47 18, pPu 48 18, pPu 49 18, pPu 50 18, pPu 51 18, hz, putIf_here2, done_same hl, dOt 9 0, dOt 9 1, dOt 9 2, dOt 9 3, dOt 9 4, dOt 9 5, dOt 9 6, dOt 9 7, dOt 9 8, dOt 9 10]), hbw.alloc hbw.size _, (by rw [dOt 9 11, hns]; exact fun _ => ⟨hbw.size, Blk.new _ _ _⟩), (by rw [dOt 9 10, dOt 9 12]; exact fun h => ⟨(hy h).1, (hy h).2.alloc _⟩), (by rw [dOt 9 10]; exact fun _ h => Nat.ne_of_gt (hy h).2.lt), (by rw [dOt 9 11]; exact fun h => done_same hl), (by rw [dOt 9 12]; exact fun h => by rw [dOt 9 10]; exact h12 h)⟩
          · skip
            have hns : done l 12 = false := by
              cases hc : done l 12
              · rfl
              · have := h12 hc; rw [hz] at this; cases this
            exact opJ_alloc (v := .pointer (some ⟨w'.heap.size, 0, none⟩)) (w' := w'.alloc (.cells #[.int .i64 0, .int .i64 0] 45)) rfl rfl 45 rfl (by simp [go_sem]) ⟨x, w'.heap.size, (by show Act.put _ (some 19) _ = _; simp only [pPu 43 19, pPu 44 19, pPu 45 19, pPu 46 19, pPu 47 19, pPu 48 19, pPu 49 19, pPu 50 19, pPu 51 19, pPu 18 19, hz, putIf_here2, done_same hl, dOt 10 0, dOt 10 1, dOt 10 2, dOt 10 3, dOt 10 4, dOt 10 5, dOt 10 6, dOt 10 7, dOt 10 8, dOt 10 9]), hbw.alloc hbw.size _, (by rw [dOt 10 9, dOt 10 11]; exact fun h => ⟨(hx h).1, (hx h).2.alloc _⟩), (by rw [dOt 10 12, hns]; exact fun _ => ⟨hbw.size, Blk.new _ _ _⟩), (by rw [dOt 10 9]; exact fun h _ => Nat.ne_of_lt (hx h).2.lt), (by rw [dOt 10 11]; exact fun h => by rw [dOt 10 9]; exact h11 h), (by rw [dOt 10 12]; exact fun h => done_same hl)⟩
          · skip
            have dn9 : done l 9 = true := by simp [Region.binds] at haf; simp [done, haf]
            have dn2 : done l 2 = true := by simp [Region.binds] at haf; simp [done, haf]
            obtain ⟨hvw, hvb⟩ := hx dn9
            rw [hz] at hvb
            replace hvb : Blk w' x 186 #[.slice none 0 0, .int .i64 0] := hvb
            obtain ⟨t0, t1, tf⟩ := hvb.facts2
            have hv2 := (hvb.set_ 0 (.slice cA cn cc)).set_ 1 (.int .i64 0)
            simp only [List.setIfInBounds_toArray, List.set_cons_zero, List.set_cons_succ] at hv2
            exact opJ_store (w' := (w'.setCell ⟨x, 0, none⟩ (.slice cA cn cc)).setCell ⟨x, 1, none⟩ (.int .i64 0)) rfl rfl 186 (.tmp 18) (.tmp 45) (.pointer (some ⟨x, 0, none⟩)) (.agg #[.slice cA cn cc, .int .i64 0]) rfl (by simp only [pEo 43 18, pEo 44 18, pEo 45 18, pEo 46 18, pEo 47 18, pEo 48 18, pEo 49 18, pEo 50 18, pEo 51 18]; rw [dn9]; exact putIf_eval_same (by simp [putIf_size])) (by simp only [pEo 43 45, pEo 44 45]; rw [dn2]; exact putIf_eval_same (by simp [putIf_size])) (by simp [go_sem, t0, t1, tf]) ⟨x, y, (by simp only [dOt 11 0, dOt 11 1, dOt 11 2, dOt 11 3, dOt 11 4, dOt 11 5, dOt 11 6, dOt 11 7, dOt 11 8, dOt 11 9, dOt 11 10]; rfl), (hbw.setCell (p := ⟨x, 0, none⟩) hvw _).setCell (p := ⟨x, 1, none⟩) hvw _, (by rw [dOt 11 9, done_same hl]; exact fun _ => ⟨hvw, hv2⟩), (by rw [dOt 11 10, dOt 11 12]; exact fun h => ⟨(hy h).1, ((hy h).2.far (p := ⟨x, 0, none⟩) ((hxy dn9 h).symm) _).far (p := ⟨x, 1, none⟩) ((hxy dn9 h).symm) _⟩), (by rw [dOt 11 9, dOt 11 10]; exact hxy), (by rw [dOt 11 9]; exact fun _ => dn9), (by rw [dOt 11 12, dOt 11 10]; exact h12)⟩
          · skip
            have dn10 : done l 10 = true := by simp [Region.binds] at haf; simp [done, haf]
            have dn8 : done l 8 = true := by simp [Region.binds] at haf; simp [done, haf]
            obtain ⟨hvw, hvb⟩ := hy dn10
            rw [hz] at hvb
            replace hvb : Blk w' y 45 #[.int .i64 0, .int .i64 0] := hvb
            obtain ⟨t0, t1, tf⟩ := hvb.facts2
            have hv2 := (hvb.set_ 0 (.int .i64 lo)).set_ 1 (.int .i64 hi)
            simp only [List.setIfInBounds_toArray, List.set_cons_zero, List.set_cons_succ] at hv2
            exact opJ_store (w' := (w'.setCell ⟨y, 0, none⟩ (.int .i64 lo)).setCell ⟨y, 1, none⟩ (.int .i64 hi)) rfl rfl 45 (.tmp 19) (.tmp 51) (.pointer (some ⟨y, 0, none⟩)) (.agg #[.int .i64 lo, .int .i64 hi]) rfl (by simp only [pEo 43 19, pEo 44 19, pEo 45 19, pEo 46 19, pEo 47 19, pEo 48 19, pEo 49 19, pEo 50 19, pEo 51 19, pEo 18 19]; rw [dn10]; exact putIf_eval_same (by simp)) (by simp only [pEo 43 51, pEo 44 51, pEo 45 51, pEo 46 51, pEo 47 51, pEo 48 51, pEo 49 51, pEo 50 51]; rw [dn8]; exact putIf_eval_same (by simp [putIf_size])) (by simp [go_sem, t0, t1, tf]) ⟨x, y, (by simp only [dOt 12 0, dOt 12 1, dOt 12 2, dOt 12 3, dOt 12 4, dOt 12 5, dOt 12 6, dOt 12 7, dOt 12 8, dOt 12 9, dOt 12 10]; rfl), (hbw.setCell (p := ⟨y, 0, none⟩) hvw _).setCell (p := ⟨y, 1, none⟩) hvw _, (by rw [dOt 12 9, dOt 12 11]; exact fun h => ⟨(hx h).1, ((hx h).2.far (p := ⟨y, 0, none⟩) (hxy h dn10) _).far (p := ⟨y, 1, none⟩) (hxy h dn10) _⟩), (by rw [dOt 12 10, done_same hl]; exact fun _ => ⟨hvw, hv2⟩), (by rw [dOt 12 9, dOt 12 10]; exact hxy), (by rw [dOt 12 11, dOt 12 9]; exact h11), (by rw [dOt 12 10]; exact fun _ => dn10)⟩
        · intro l a' w' hJ hall
          obtain ⟨x, y, rfl, hbw, hx, hy, hxy, h11, h12⟩ := hJ
          have hd : ∀ i, i < 13 → done l i = true := hall
          obtain ⟨hx1, hx2⟩ := hx (hd 9 (by decide))
          obtain ⟨hy1, hy2⟩ := hy (hd 10 (by decide))
          have hne := hxy (hd 9 (by decide)) (hd 10 (by decide))
          rw [hd 11 (by decide)] at hx2
          rw [hd 12 (by decide)] at hy2
          simp only [hd 0 (by decide), hd 1 (by decide), hd 2 (by decide), hd 3 (by decide), hd 4 (by decide), hd 5 (by decide), hd 6 (by decide), hd 7 (by decide), hd 8 (by decide), hd 9 (by decide), hd 10 (by decide), putIf, if_true, Act.put]
          clear hd hall hx hy hxy h11 h12
          go_wp2_with fail
          go_meet
          exact ⟨x, y, rfl, rfl, hne, hx1, hy1, hx2, hy2, hbw⟩
        · kernel_rfl
      case rest =>
        rename World => w6
        obtain ⟨x, y, rfl, rfl, hxy, hx0, hy0, bx, by_, hBc⟩ := hcut
        have HB6 := hide hBc
        have hBC6 := bthr HBZ1.out hBc HBZ1.out.size
        have hz6 := hBc.size
        have hz5 := HBZ1.out.size
        obtain ⟨x0, x1, xf⟩ := bx.facts2
        obtain ⟨y0, y1, yf⟩ := by_.facts2
        have HOK := hide (fun (W : World) (hW : Below w5.heap.size w5 W) => hcok.below hW)
        have HCN := hide hcn
        obtain ⟨vl, hvl⟩ : ∃ vl, vflow ⟨cA, cn, cc, cps⟩ lo = vl := ⟨_, rfl⟩
        have HFL := hide (flow_any ⟨cA, cn, cc, cps⟩ 0 lo hcn w6 (HOK.out w6 hBc))
        have HFV := hide (fun op => vflow_in (cv := ⟨cA, cn, cc, cps⟩) hcn op)
        rw [hvl] at HFL hvin hTK
        simp only at HFL
        have HVL := hide hvl
        have HG0 := hide (HF.out.below hBC6 HF.out.lt)
        have hwa0 := HWA.out
        clear hvl hcok hcn HA HRC C1 C2 S0 hd5 hg1 c0 c1 c2 cf q1 hb1
        by_cases hsw : X + (L - LK) < wa
        · go_wp2_with fail
          refine HFL.out.mono ?_
          rintro e w7 ⟨rfl, hb7⟩
          have bx7 := bx.below hb7 bx.lt
          have by7 := by_.below hb7 by_.lt
          have bf7 := HG0.out.below hb7 HG0.out.lt
          have hb57 := bthr HB6.out hb7 HB6.out.size
          have hw1 : IntKind.i64.wrap (X + (L - LK) - vl) = X + (L - LK) - vl := by rw [IntKind.wrap_i64]; omega
          have hw2 : IntKind.i64.wrap (wa - (X + (L - LK) - vl)) = wa - (X + (L - LK) - vl) := by rw [IntKind.wrap_i64]; omega
          obtain ⟨W1, hW1⟩ : ∃ W1, wa - (X + (L - LK) - vl) = W1 := ⟨_, rfl⟩
          rw [hW1] at hw2
          have bx8 := bx7.set_ 1 (.int .i64 W1)
          simp only [List.setIfInBounds_toArray, List.set_cons_zero, List.set_cons_succ] at bx8
          have by8 := by7.far (p := ⟨x, 1, none⟩) hxy.symm (.int .i64 W1)
          have bf8 := bf7.far (p := ⟨x, 1, none⟩) (show w4.heap.size ≠ x by omega) (.int .i64 W1)
          have hb58 := hb57.setCell (p := ⟨x, 1, none⟩) hx0 (.int .i64 W1)
          obtain ⟨x0', x1', xf'⟩ := bx7.facts2
          clear x0 x1 xf y0 y1 yf bx by_ HG0 bx7 by7 bf7 hb57 hb7 HFL
          go_upto_region 17 with fail
          generalize hw8 : World.setCell _ _ _ = w8 at *
          clear hw8 x0' x1' xf'
          obtain ⟨x0, x1, xf⟩ := bx8.facts2
          obtain ⟨y0, y1, yf⟩ := by8.facts2
          have g0 : w8.cell? ⟨w4.heap.size, 0, none⟩ = some (.func (.func 105) #[] #[]) := by rw [(Blk.facts bf8).1]; rfl
          have hmf : ∀ (fn : Fn) (first cap : Array Value) (w : World), (Instr.makeFunc fn first cap).run Tryz.prog w = .ok (.func fn first cap) w := fun _ _ _ _ => rfl
          have HLA := hide (least_f (fun op => decide (W1 ≤ vflow ⟨cA, cn, cc, cps⟩ op)) 110 #[.pointer (some ⟨w4.heap.size, 0, none⟩), .pointer (some ⟨x, 0, none⟩)] lo hi (by omega) w8 cfSet1 (fun op W _ _ hb => set1_f ⟨cA, cn, cc, cps⟩ W1 op HCN.out w4.heap.size x W (HOK.out W (bthr hb58 hb hb58.size)) (cell_thr hb g0) (cell_thr hb x0) (cell_thr hb x1)))
          go_wp2_with fail
          refine HLA.out.mono ?_
          rintro e w9 ⟨op, rfl, ho0, ho1, hlf, hb9⟩
          have HLF := hide hlf
          clear hlf
          have hb59 := bthr hb58 hb9 hb58.size
          have bx9 := bx8.below hb9 bx8.lt
          clear x0 x1 xf y0 y1 yf bx8 by8 bf8 g0 HLA
          obtain ⟨x0, x1, xf⟩ := bx9.facts2
          have hvo := HFV.out op
          have HFO := hide (flow_any ⟨cA, cn, cc, cps⟩ W1 op HCN.out w9 (HOK.out w9 hb59))
          obtain ⟨vf, hvf⟩ : ∃ vf, vflow ⟨cA, cn, cc, cps⟩ op = vf := ⟨_, rfl⟩
          have HONE := hide (show k = 0 → OneF lv wa L g s (X + vf) from fun hk0 => by
            have hx0' : X = 0 := by subst hk0; omega
            have hlk := HLK0.out hk0
            have hlo' := HLO.out
            have hhi' := HHI.out
            have hcv' := HCV.out
            have hvl' := HVL.out
            have hlf := HLF.out
            refine ⟨fun _ => ⟨op, by omega, by omega, by rw [hcv', hvf]; omega, ?_⟩, fun h => absurd hsw (by omega)⟩
            rw [hcv', hlo', hhi', hvl']
            have hW : wa - (L - vl) = W1 := by omega
            rw [hW]
            simpa using hlf)
          rw [hvf] at HFO hvo
          simp only at HFO
          have hw3 : IntKind.i64.wrap (X + (L - LK) - vl + vf) = X + (L - LK) - vl + vf := by rw [IntKind.wrap_i64]; omega
          clear hvf
          go_wp2_with fail
          refine HFO.out.mono ?_
          rintro e w10 ⟨rfl, hb10⟩
          have HBX := hide (bthr hb59 hb10 hb59.size)
          clear x0 x1 xf bx9 HFO hb10 hb9 hb59 hb58
          go_upto_region 19 with fail
          have hf1X := cell_thr HBX.out f1
          have HVX := hide (ownsRow_below HV1.out HBX.out)
          have HBZX := hide (bthr HBZ1.out HBX.out HBZ1.out.size)
          have hszD : wz.heap.size ≤ w10.heap.size := HBZX.out.size
          have hVD := hide (HVX.out.alloc (.cells #[.int .i64 op, .bool s.jam] 99))
          go_wp2_with (at_builtin; refine wpList_push rfl _ _ _ rfl wz.heap.size _ _ slGs _ _ _ rfl HVX.out _ _ rfl rfl rfl (by omega) hszD ?_)
          intro v' wD hvD hgD _
          have HBD := hide (HBZX.out.trans (below_push HVX.out hgD hszD))
          have hvD' := own_cells hvD (show gsCells os ++ [.int .i64 op, .bool s.jam] = gsCells (os ++ [(⟨op, s.jam⟩ : Gs)]) by rw [gsCells, gsCells, cellsOf_append, cellsOf_one]; rfl)
          have HVD := hide hvD'
          have HSD := hide (StIn.snoc (s := ⟨op, s.jam⟩) HSI.out HOS.out HGK.out ⟨by show 0 ≤ op; omega, by show op ≤ g.mo; omega⟩)
          have HLD := hide (show (os ++ [(⟨op, s.jam⟩ : Gs)]).length = k + 1 by rw [List.length_append, HOS.out]; rfl)
          clear hvD hvD' hgD hVD hf1X
          go_wp2
          go_roundw
          case rel => exact ⟨k + 1, X + vf, os ++ [⟨op, s.jam⟩], by omega, by go_num, by rw [HLK.out]; congr 1; omega, ⟨by omega, by omega⟩, by rw [HLK.out]; omega, hide (fun g' s' h1 h2 h3 => by have hk0 : k = 0 := (by omega); have e1 := HGK.out; have e2 := HSK.out; rw [hk0] at e1 e2; rw [e1] at h1; rw [e2] at h2; injection h1 with h1; injection h2 with h2; rw [← h1, ← h2]; exact HONE.out hk0), HLD.out, HVD.out, HSD.out, HBD.out⟩
          case measure => simp [intOf]; omega
        · go_upto_region 19 with fail
          have hf1X := cell_thr HB6.out f1
          have HVX := hide (ownsRow_below HV1.out HB6.out)
          have HBZX := hide (bthr HBZ1.out HB6.out HBZ1.out.size)
          have hszD : wz.heap.size ≤ w6.heap.size := HBZX.out.size
          have hVD := hide (HVX.out.alloc (.cells #[.int .i64 lo, .bool s.jam] 99))
          go_wp2_with (at_builtin; refine wpList_push rfl _ _ _ rfl wz.heap.size _ _ slGs _ _ _ rfl HVX.out _ _ rfl rfl rfl (by omega) hszD ?_)
          intro v' wD hvD hgD _
          have HBD := hide (HBZX.out.trans (below_push HVX.out hgD hszD))
          have hvD' := own_cells hvD (show gsCells os ++ [.int .i64 lo, .bool s.jam] = gsCells (os ++ [(⟨lo, s.jam⟩ : Gs)]) by rw [gsCells, gsCells, cellsOf_append, cellsOf_one]; rfl)
          have HVD := hide hvD'
          have HSD := hide (StIn.snoc (s := ⟨lo, s.jam⟩) HSI.out HOS.out HGK.out ⟨by show 0 ≤ lo; omega, by show lo ≤ g.mo; omega⟩)
          have HLD := hide (show (os ++ [(⟨lo, s.jam⟩ : Gs)]).length = k + 1 by rw [List.length_append, HOS.out]; rfl)
          clear hvD hvD' hgD hVD hf1X
          go_wp2
          go_roundw
          case rel => exact ⟨k + 1, X + vl, os ++ [⟨lo, s.jam⟩], by omega, by go_num, by rw [HLK.out]; congr 1; omega, ⟨by omega, by omega⟩, by rw [HLK.out]; omega, hide (fun g' s' h1 h2 h3 => by have hk0 : k = 0 := (by omega); have e1 := HGK.out; have e2 := HSK.out; rw [hk0] at e1 e2; rw [e1] at h1; rw [e2] at h2; injection h1 with h1; injection h2 with h2; rw [← h1, ← h2]; have hx0' : X = 0 := (by subst hk0; omega); have hlk := HLK0.out hk0; exact ⟨fun h => absurd h (by omega), fun _ => by rw [HCV.out, HLO.out, HVL.out]; omega⟩), HLD.out, HVD.out, HSD.out, HBD.out⟩
          case measure => simp [intOf]; omega
    · have hki : ¬ ((k : Int) < (sn : Int)) := by omega
      obtain rfl : k = sn := by omega
      have hT : lowS lv (gs.take k) (ss.take k) = L := by
        rw [List.take_of_length_le (by have := HLG.out; omega), List.take_of_length_le (by have := HLG.out; have := HGL.out; omega)]
        exact HLE.out
      rw [hT]
      have HE := hide (show SetP gs ss lv wa w (.returned (.tuple #[.slice Av k cv, .int .i64 (X + (L - L)), .int .i64 0])) wr from
        ⟨Av, k, cv, _, os, rfl, ⟨by omega, fun g s h1 h2 => by have h3 := HTR.out g s (by rw [h1]; rfl) (by rw [h2]; rfl) (by rw [HLG.out, h1]; rfl); rw [HLE.out, show X + (L - L) = X by omega]; exact h3⟩, HLG.out, by rw [HOS.out]; exact HLG.out, ownsRow_base HV.out hzz, HSI.out, hbw⟩)
      clear hv hSI hos hbz hbw hT
      go_wp2
      refine bodyPost_ret (v := .tuple #[.slice Av k cv, .int .i64 (X + (L - L)), .int .i64 0]) (by simp [results, Tryz.results83, go_sem]) rfl HE.out
end Go.Proofs.YtodamjjlnagpjaaGreatDoor
