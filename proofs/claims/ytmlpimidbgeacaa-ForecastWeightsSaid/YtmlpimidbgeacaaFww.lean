/-
  Weights that are all multiplied change nothing: the walk of ForecastWeights. Condition: its list can be read.
-/
import Derived.Test.YtmlpimidbgeacaaProg
import Derived.Test.YtmlpimidbgeacaaFwl
import Derived.Test.YtmlpimidbgeacaaFqw
namespace Go.Proofs.Ytmlpimidbgeacaa
open Go.RowKit

theorem push_other {W W' : World} {base size n2 : Nat} {e : TypeId} {v1 v2 : Value} {xs2 : List Value} (h2 : W.ownsRow base e size v2 n2 xs2) (hg : W.grownBy W' v1.ownBlock) (hd : ∀ g, v1.ownBlock = some g → v2.ownBlock ≠ some g) : W'.ownsRow base e size v2 n2 xs2 :=
  World.ownsRow.kept h2 hg (by
    cases e : v2.ownBlock with
    | none => exact .inl rfl
    | some g => exact .inr (fun e' => hd g e'.symm e))
theorem push_disj {W : World} {base size n2 : Nat} {e : TypeId} {v1 v1' v2 : Value} {xs2 : List Value} (h2 : W.ownsRow base e size v2 n2 xs2) (hd : ∀ g, v1.ownBlock = some g → v2.ownBlock ≠ some g) (hor : v1'.ownBlock = v1.ownBlock ∨ ∃ g, v1'.ownBlock = some g ∧ W.heap.size ≤ g) : ∀ g, v1'.ownBlock = some g → v2.ownBlock ≠ some g := by
  intro g hg e
  rcases hor with h | ⟨g', h, hle⟩
  · exact hd g (h.symm.trans hg) e
  · have := (h2.lt g e).2
    rw [h] at hg; injection hg with hg; omega
theorem push_blk {W W' : World} {g : Nat} {t : TypeId} {cs : Array Value} {v1 : Value} (hq : Blk W g t cs) (hg : W.grownBy W' v1.ownBlock) (hne : v1.ownBlock ≠ some g) : Blk W' g t cs := (hg.block g hq.lt (fun e => hne e.symm)).trans hq
theorem own_ne {W : World} {base size n : Nat} {e : TypeId} {v : Value} {xs : List Value} (h : W.ownsRow base e size v n xs) {g : Nat} (hg : g < base) : v.ownBlock ≠ some g := fun e => by have := (h.lt g e).1; omega
theorem own_ne2 {W : World} {base size n : Nat} {e : TypeId} {v : Value} {xs : List Value} (h : W.ownsRow base e size v n xs) {g : Nat} (hg : W.heap.size ≤ g) : v.ownBlock ≠ some g := fun e => by have := (h.lt g e).2; omega
/-- two bundles under way: weights multiplied, and halves -/
def WtP (w5 : World) (B g11 g12 : Nat) (fr K : Int) (ss : List Sc) (q p : Nat) (wx : World) : Prop := ∃ (A1 : Option Addr) (c1 : Nat) (A2 : Option Addr) (c2 : Nat), p = 2 * q ∧ Blk wx g11 27 #[.int .i64 fr, .slice A1 q c1, .bool false] ∧ wx.ownsRow (B + 2) 32 2 (.slice A1 q c1) q (scCells (manyL K (ss.take q))) ∧ Blk wx g12 27 #[.int .i64 fr, .slice A2 p c2, .bool false] ∧ wx.ownsRow (B + 2) 32 2 (.slice A2 p c2) p (scCells (halfL K (ss.take q))) ∧ (∀ g, (Value.slice A1 q c1).ownBlock = some g → (Value.slice A2 p c2).ownBlock ≠ some g) ∧ Below B w5 wx
def WCut (w5 : World) (B : Nat) (bv : Array Value) (v11 v12 : Value) (wx : World) : Prop := ∃ g11 g12 : Nat, v11 = .pointer (some ⟨g11, 0, none⟩) ∧ v12 = .pointer (some ⟨g12, 0, none⟩) ∧ g11 ≠ g12 ∧ (g11 = B ∨ g11 = B + 1) ∧ (g12 = B ∨ g12 = B + 1) ∧ Blk wx g11 27 bv ∧ Blk wx g12 27 bv ∧ Below B w5 wx
theorem wcut_of {w5 : World} {bv : Array Value} : WCut w5 w5.heap.size bv (.pointer (some ⟨w5.heap.size, 0, none⟩)) (.pointer (some ⟨w5.heap.size + 1, 0, none⟩)) ((w5.alloc (.cells bv 27)).alloc (.cells bv 27)).drew := by
  refine ⟨_, _, rfl, rfl, by omega, .inl rfl, .inr rfl, Blk.drew ((Blk.new _ _ _).alloc _), Blk.drew ?_, Below.drew (((Below.refl _ _).alloc (Nat.le_refl _) _).alloc (by simp only [World.size_alloc]; omega) _)⟩
  have := Blk.new (w5.alloc (.cells bv 27)) 27 bv
  rwa [World.size_alloc] at this
theorem wcut_swap {w5 wx : World} {B : Nat} {bv : Array Value} {v11 v12 : Value} (h : WCut w5 B bv v11 v12 wx) : WCut w5 B bv v12 v11 wx := by
  obtain ⟨a, b, h1, h2, h3, h4, h5, h6, h7, h8⟩ := h
  exact ⟨b, a, h2, h1, h3.symm, h5, h4, h7, h6, h8⟩
theorem sl_scen2 {W : World} {g : Nat} {x y : Value} (h : Blk W g 32 #[x, y, x, y]) : Sl W W.heap.size 2 (some ⟨g, 0, none⟩) 2 2 [x, y, x, y] := by
  refine ⟨rfl, Nat.le_refl _, by unfold maxLen; omega, fun _ => ⟨g, 0, rfl, h.lt, fun j u hu => ?_⟩⟩
  rw [h.facts.1, Nat.zero_add, ← hu]
  simp
set_option maxHeartbeats 3200000 in
set_option maxRecDepth 20000 in
theorem fweights_walk {A : Option Addr} {n c : Nat} {zs : List Int} {w : World} (hs : Sl w w.heap.size 1 A n c (ints zs)) (by_ num : Int) : Calls Try.prog 3 #[.slice A n c, .int .i64 by_, .int .i64 num] w fun e w' => e = .returned (.bool true) ∧ Below w.heap.size w w' := by
  go_enter Try.func3, Try.ntmps3
  go_wp2_with fail
  refine (new_any _ _ _ _ _ hs).mono ?_
  rintro e w1 ⟨rfl, hD1, hb1⟩
  have hw1 := hD1.lt
  clear hs
  go_wp2_with fail
  refine (bundle_any _ _ hD1).mono ?_
  rintro e w2 ⟨x, rfl, ⟨hf0, hf1⟩, ⟨hl0, hl1⟩, hn, ⟨nn, hn0, hn6, hg⟩, ho1, ho2, hD2, hg2⟩
  obtain ⟨fr, B, m, d, ss, wd0⟩ := x
  simp only at hf0 hf1 hl0 hl1 hn hg ho1 ho2
  have HG := hide hg
  have HN := hide hn
  have hm4 : 1 ≤ m ∧ m ≤ 4 := by omega
  have HST := hide (steps_made hl0 hg)
  have hB2 := below_grown hb1 hg2 hb1.size (Nat.le_refl _)
  have HO := hide (show BdOwn (w2.alloc (.cells #[.int .i64 fr, .slice B m d, .bool false] 27)) w1.heap.size ⟨fr, B, m, d, ss, false⟩ from ⟨ho1.alloc _, fun s hs => World.ownsRow.alloc (ho2 s hs) _⟩)
  have q3 := Blk.new w2 27 #[.int .i64 fr, .slice B m d, .bool false]
  have HD3 := hide (hD2.alloc (.cells #[.int .i64 fr, .slice B m d, .bool false] 27))
  have HB3 := hide (hB2.alloc hB2.size (.cells #[.int .i64 fr, .slice B m d, .bool false] 27))
  have hg8 : w.heap.size < w2.heap.size := Nat.lt_of_lt_of_le hw1 hg2.size
  unfold Bd.arr
  simp only
  clear hg hn ho1 ho2 hD1 hD2 hb1 hg2 hB2 hl0 hl1
  go_upto_region 4 with fail
  generalize w2.alloc _ = w3 at *
  generalize w2.heap.size = g8 at *
  have hq3 := q3.lt
  have HQ3 := hide q3
  go_wp2_with fail
  refine (mod_any by_ 9 (by omega) (by omega) _).mono ?_
  rintro e w' ⟨rfl, rfl⟩
  obtain ⟨K, hK⟩ : ∃ K, 1 + by_ % 9 = K := ⟨_, rfl⟩
  have hK1 : 1 ≤ K := by omega
  have hK9 : K ≤ 9 := by omega
  have hdm : 0 ≤ by_ % 9 := by omega
  have hdm9 : by_ % 9 ≤ 8 := by omega
  go_upto_region 5 with fail
  clear hK hdm hdm9
  obtain ⟨c0, c1, c2, cf⟩ := q3.facts3
  obtain ⟨b0, o0, hA, _, hcl⟩ := HO.out.ok.1.at_ (show 0 < m by omega)
  simp only at hA hcl
  subst hA
  rcases e0 : ss[0]'(by have := HN.out; omega) with ⟨wt, A1, n1, c1', fl⟩
  obtain ⟨-, d1⟩ := sc_cells hcl (by have := HN.out; omega) e0
  simp only [Nat.zero_mul, Nat.add_zero] at d1
  have hn1 : n1 = nn := by have := (HG.out _ (show (⟨wt, A1, n1, c1', fl⟩ : Sc) ∈ ss by rw [← e0]; exact List.getElem_mem _)).2.1; exact this
  rw [hn1] at d1
  have hmi : (0 : Int) < (m : Int) := by omega
  have hmn : 0 < m := by omega
  have hnn63 : (nn : Int) ≤ 6 := by omega
  have HD4 := hide (show Dk w3.drew w.heap.size from HD3.out.keep (fun _ _ => rfl))
  have HO4 := hide (show BdOwn w3.drew w1.heap.size ⟨fr, some ⟨b0, o0, none⟩, m, d, ss, false⟩ from HO.out)
  have HQ4 := hide (Blk.drew HQ3.out)
  have HB4 := hide (HB3.out.drew)
  clear e0 hcl hn1 q3
  go_cut [10] (fun v9 wx => QCut w w1.heap.size g8 nn ⟨fr, some ⟨b0, o0, none⟩, m, d, ss, false⟩ v9 wx)
  case first =>
    go_region_law (go_simp; go_at_call 12; refine (next_any w.heap.size nn (by omega) _ HD4.out).mono ?_; rintro e w5 ⟨v, rfl, hv0, hv1, hD5, hg5, hz5⟩; have hwr : IntKind.i64.wrap (fr + v) = fr + v := (by rw [IntKind.wrap_i64]; omega); obtain ⟨t0, t1, t2, tf⟩ := (HQ4.out.only hg5 (by omega)).facts3)
    all_goals
      go_wp2_with fail
      go_meet
      exact qcut_of (x := ⟨fr, some ⟨b0, o0, none⟩, m, d, ss, false⟩) hv0 (by omega) hn0 HO4.out HQ4.out HB4.out hg5 hw1 (by omega) (Nat.le_refl _)
  case rest =>
    rename World => w5
    obtain ⟨x0, hx0, rfl, HO5', HQ5', HB5'⟩ := hcut
    obtain ⟨T, hT⟩ : ∃ T, fr + (x0 : Int) = T := ⟨_, rfl⟩
    simp only [hT]
    have hT0 : 0 ≤ T := by omega
    have hT1 : T ≤ 100 := by omega
    have HTT := hide (show fr ≤ T ∧ T < fr + nn by omega)
    have HOK5 := hide HO5'.ok
    have HQ5 := hide HQ5'
    have HB5 := hide HB5'
    clear hT d1 c0 c1 c2 cf HO5' HQ5' HB5' hx0 HD3 HD4 HO HO4 HQ4 HB4 HQ3 HB3 hq3
    unfold Bd.arr at HQ5
    simp only at HQ5
    obtain ⟨c0, c1, c2, cf⟩ := HQ5.out.facts3
    go_upto_region 6 with fail
    have hax := fun X : Obj => bel1 (w := w5) (o := X)
    have hay := fun X Y : Obj => (hax X).alloc (hax X).size Y
    have c0a := fun X => cell_thr (hax X) c0
    have c1a := fun X => cell_thr (hax X) c1
    have c2a := fun X => cell_thr (hax X) c2
    have c0b := fun X Y => cell_thr (hay X Y) c0
    have c1b := fun X Y => cell_thr (hay X Y) c1
    have c2b := fun X Y => cell_thr (hay X Y) c2
    clear hax hay
    go_cut [11, 12] (fun v11 v12 wx => WCut w5 w5.heap.size #[.int .i64 fr, .slice (some ⟨b0, o0, none⟩) m d, .bool false] v11 v12 wx)
    case first =>
      go_region_law (fail)
      all_goals
        go_wp2_with fail
        go_meet
        first | (with_reducible exact wcut_of) | (with_reducible exact wcut_swap wcut_of) | fail
    case rest =>
      rename World => w6
      obtain ⟨g11, g12, rfl, rfl, hne, h11, h12, k11, k12, hbw⟩ := hcut
      have hq8 := HQ5.out.lt
      have HQ6 := HQ5.out.below hbw hq8
      have HOK6 := hide (show Bd.ok w6 w5.heap.size ⟨fr, some ⟨b0, o0, none⟩, m, d, ss, false⟩ from ⟨HOK5.out.1.below hbw, fun s hs => (HOK5.out.2 s hs).below hbw⟩)
      have b11 := (k11.set_ 1 (.slice none 0 0)).far (p := ⟨g12, 1, none⟩) hne (.slice none 0 0)
      have b12 := (k12.far (p := ⟨g11, 1, none⟩) hne.symm (.slice none 0 0)).set_ 1 (.slice none 0 0)
      simp only [List.setIfInBounds_toArray, List.set_cons_zero, List.set_cons_succ] at b11 b12
      have b8 := (HQ6.far (p := ⟨g11, 1, none⟩) (show g8 ≠ g11 by omega) (.slice none 0 0)).far (p := ⟨g12, 1, none⟩) (show g8 ≠ g12 by omega) (.slice none 0 0)
      have hB7 := (hbw.setCell (p := ⟨g11, 1, none⟩) (show w5.heap.size ≤ g11 by omega) (.slice none 0 0)).setCell (p := ⟨g12, 1, none⟩) (show w5.heap.size ≤ g12 by omega) (.slice none 0 0)
      clear c0 c1 c2 cf c0a c1a c2a c0b c1b c2b HQ6 hbw
      obtain ⟨x0, x1, x2, xf⟩ := k11.facts3
      obtain ⟨y0, y1, y2, yf⟩ := k12.facts3
      have y0s := fun u => ((k12.far (p := ⟨g11, 1, none⟩) hne.symm u).facts3).2.1
      have yfs := fun u => ((k12.far (p := ⟨g11, 1, none⟩) hne.symm u).facts3).2.2.2
      go_upto_region 8 with fail
      clear x0 x1 x2 xf y0 y1 y2 yf y0s yfs k11 k12
      generalize World.setCell _ _ _ = w7 at *
      obtain ⟨c0, c1, c2, cf⟩ := b8.facts3
      go_wp2
      clear c0 c1 c2 cf b8
      go_loopw [53] (fun i wr => ∃ q p : Nat, q ≤ m ∧ i = .int .i64 q ∧ WtP w5 w5.heap.size g11 g12 fr K ss q p wr) (fun i _ => m - (intOf i).toNat)
      case atStart => exact ⟨0, 0, by omega, rfl, none, 0, none, 0, rfl, b11, World.ownsRow_nil _ _ _ _, b12, World.ownsRow_nil _ _ _ _, (fun g h => by simp [Value.ownBlock] at h), hB7⟩
      case round =>
        obtain ⟨q, p, hq, rfl, A1', c1, A2', c2, hp, hb11, ho1, hb12, ho2, hdj, hb⟩ := hrel
        by_cases hlt : q < m
        · have hL := HN.out
          have HSk := Bd.ok.thr HOK5.out hb
          obtain ⟨bl, ol, hAA, _, hcl⟩ := HSk.1.at_ hlt
          simp only at hAA hcl
          injection hAA with hAA
          injection hAA with hA1 hA2 _
          subst hA1 hA2
          rcases ek : ss[q]'(by omega) with ⟨wt2, As, ns, cs, fls⟩
          obtain ⟨e0, e1⟩ := sc_cells hcl (by omega) ek
          simp only at e0 e1
          have hmem : (⟨wt2, As, ns, cs, fls⟩ : Sc) ∈ ss := by rw [← ek]; exact List.getElem_mem _
          have hgd := HG.out _ hmem
          have HMT := hide (manyL_take (K := K) (show q < ss.length by omega) ek)
          have HHT := hide (halfL_take (K := K) (show q < ss.length by omega) ek)
          have hkb := scK_bnd hK1 hK9 hgd.1.1 hgd.1.2
          simp only at hkb
          obtain ⟨kw, hkw⟩ : ∃ kw, K * wt2 = kw := ⟨_, rfl⟩
          rw [hkw] at hkb
          have HSK := hide (show scK K ⟨wt2, As, ns, cs, fls⟩ = ⟨kw, As, ns, cs, fls⟩ by unfold scK; simp only; rw [hkw])
          have HP := hide hp
          obtain ⟨hk0, hk1⟩ := hkb
          have hzr := hb.size
          have hlt11 : g11 < w5.heap.size + 2 := by omega
          have hlt12 : g12 < w5.heap.size + 2 := by omega
          have hzB : w5.heap.size + 2 ≤ wr.heap.size := by have := hb11.lt; have := hb12.lt; omega
          have q14 := Blk.new wr 32 #[.int .i64 wt2, .slice As ns cs]
          have q11 := hb11.alloc (.cells #[.int .i64 wt2, .slice As ns cs] 32)
          have q12 := hb12.alloc (.cells #[.int .i64 wt2, .slice As ns cs] 32)
          have o1 := ho1.alloc (.cells #[.int .i64 wt2, .slice As ns cs] 32)
          have o2 := ho2.alloc (.cells #[.int .i64 wt2, .slice As ns cs] 32)
          have hb2 := hb.alloc hb.size (.cells #[.int .i64 wt2, .slice As ns cs] 32)
          have n1 := own_ne2 ho1 (Nat.le_refl _)
          have hz8 : w5.heap.size + 2 ≤ (wr.alloc (.cells #[.int .i64 wt2, .slice As ns cs] 32)).heap.size := by simp only [World.size_alloc]; omega
          have HDJ := hide hdj
          have hqi : (q : Int) < (m : Int) := by omega
          have hq5 : q < 549755813888 := by omega
          have hp5 : p + 2 < 549755813888 := by omega
          clear hcl ek hmem hgd HSk hL hb11 hb12 ho1 ho2 hdj hb hp
          go_upto_region 11 with fail
          clear e0 e1
          generalize wr.alloc _ = w8 at *
          generalize wr.heap.size = g14 at *
          obtain ⟨x0, x1, xf⟩ := q14.facts2
          obtain ⟨c0, c1x, c2x, cf⟩ := q11.facts3
          go_wp2_with (at_builtin; refine wpList_push rfl _ _ _ rfl (w5.heap.size + 2) _ _ slScen _ _ _ rfl o1 _ _ rfl rfl rfl hq5 hz8 ?_)
          intro v' w9 hv9 hg9 hn9
          obtain ⟨gv, cv, rfl, _, _⟩ := hv9.form (by omega)
          have r11 := push_blk q11 hg9 (own_ne o1 hlt11)
          have r12 := push_blk q12 hg9 (own_ne o1 hlt12)
          have r14 := push_blk q14 hg9 n1
          have p2 := push_other o2 hg9 HDJ.out
          have dj2 := push_disj o2 HDJ.out hn9
          have hb3 := hb2.grown hg9 (by omega) (fun g hg => by have := (o1.lt g hg).1; omega)
          clear x0 x1 xf c0 c1x c2x cf q11 q12 q14 o1 o2 n1 hg9 hn9 hb2 hz8
          have s11 := r11.set_ 1 (.slice (some ⟨gv, 0, none⟩) (q + 1) cv)
          simp only [List.setIfInBounds_toArray, List.set_cons_zero, List.set_cons_succ] at s11
          have s12 := r12.far (p := ⟨g11, 1, none⟩) hne.symm (.slice (some ⟨gv, 0, none⟩) (q + 1) cv)
          have hn14 : g14 ≠ g11 := by omega
          have hn14b : g14 ≠ g12 := by omega
          have s14 := r14.far (p := ⟨g11, 1, none⟩) hn14 (.slice (some ⟨gv, 0, none⟩) (q + 1) cv)
          have O1 := hide (own_setF hv9 (p := ⟨g11, 1, none⟩) (own_ne hv9 hlt11) (.slice (some ⟨gv, 0, none⟩) (q + 1) cv))
          have O2 := hide (own_setF p2 (p := ⟨g11, 1, none⟩) (own_ne p2 hlt11) (.slice (some ⟨gv, 0, none⟩) (q + 1) cv))
          have hb4 := hb3.setCell (p := ⟨g11, 1, none⟩) (show w5.heap.size ≤ g11 by omega) (.slice (some ⟨gv, 0, none⟩) (q + 1) cv)
          have hz9 : g14 < (w9.setCell ⟨g11, 1, none⟩ (.slice (some ⟨gv, 0, none⟩) (q + 1) cv)).heap.size := by rw [World.size_setCell]; exact r14.lt
          obtain ⟨c0, c1x, c2x, cf⟩ := r11.facts3
          obtain ⟨x0, x1, xf⟩ := r14.facts2
          have DJ := hide dj2
          clear hv9 p2 hb3 r12 dj2
          go_upto_region 12 with fail
          clear c0 c1x c2x cf x0 x1 xf r11 r14
          generalize World.setCell _ _ _ = w10 at *
          obtain ⟨x0, x1, xf⟩ := s14.facts2
          have t15 := Blk.new w10 32 #[.int .i64 kw, .slice As ns cs]
          have t12 := s12.alloc (.cells #[.int .i64 kw, .slice As ns cs] 32)
          have t11 := s11.alloc (.cells #[.int .i64 kw, .slice As ns cs] 32)
          have o1 := hide (O1.out.alloc (.cells #[.int .i64 kw, .slice As ns cs] 32))
          have o2 := O2.out.alloc (.cells #[.int .i64 kw, .slice As ns cs] 32)
          have hb5 := hb4.alloc hb4.size (.cells #[.int .i64 kw, .slice As ns cs] 32)
          have hz10 : w5.heap.size + 2 ≤ (w10.alloc (.cells #[.int .i64 kw, .slice As ns cs] 32)).heap.size := by simp only [World.size_alloc]; omega
          clear s11 s12 s14 O1 O2 hb4
          go_upto_region 13 with fail
          clear x0 x1 xf
          generalize w10.alloc _ = w11 at *
          generalize w10.heap.size = g15 at *
          obtain ⟨x0, x1, xf⟩ := t15.facts2
          obtain ⟨c0, c1x, c2x, cf⟩ := t12.facts3
          have o2b := o2.alloc (.cells #[.int .i64 kw, .slice As ns cs, .int .i64 kw, .slice As ns cs] 32)
          have hsl := sl_scen2 (Blk.new w11 32 #[.int .i64 kw, .slice As ns cs, .int .i64 kw, .slice As ns cs])
          have hz11 : w5.heap.size + 2 ≤ (w11.alloc (.cells #[.int .i64 kw, .slice As ns cs, .int .i64 kw, .slice As ns cs] 32)).heap.size := by simp only [World.size_alloc]; omega
          go_wp2_with (at_builtin; refine wpList_ext rfl _ _ _ rfl (w5.heap.size + 2) _ _ slScen _ _ _ rfl o2b _ _ _ _ _ rfl hsl (by simp [Value.oneCell']) hp5 hz11 ?_)
          intro v' w13 hv13 hg13 hn13
          obtain ⟨gv2, cv2, rfl, _, _⟩ := hv13.form (by omega)
          have r12 := push_blk (t12.alloc (.cells #[.int .i64 kw, .slice As ns cs, .int .i64 kw, .slice As ns cs] 32)) hg13 (own_ne o2b hlt12)
          have r11 := push_blk (t11.alloc (.cells #[.int .i64 kw, .slice As ns cs, .int .i64 kw, .slice As ns cs] 32)) hg13 (own_ne o2b hlt11)
          have o1c := o1.out.alloc (.cells #[.int .i64 kw, .slice As ns cs, .int .i64 kw, .slice As ns cs] 32)
          have p1 := push_other o1c hg13 (fun g h e => DJ.out g e h)
          have dj3 := push_disj (v1' := .slice (some ⟨gv2, 0, none⟩) (p + 2) cv2) o1c (fun g h e => DJ.out g e h) (by rw [World.size_alloc]; exact hn13)
          have s11 := r11.far (p := ⟨g12, 1, none⟩) hne (.slice (some ⟨gv2, 0, none⟩) (p + 2) cv2)
          have s12 := r12.set_ 1 (.slice (some ⟨gv2, 0, none⟩) (p + 2) cv2)
          simp only [List.setIfInBounds_toArray, List.set_cons_zero, List.set_cons_succ] at s12
          have hb6 := ((hb5.alloc hb5.size (.cells #[.int .i64 kw, .slice As ns cs, .int .i64 kw, .slice As ns cs] 32)).grown hg13 (by omega) (fun g hg => by have := (o2b.lt g hg).1; omega)).setCell (p := ⟨g12, 1, none⟩) (show w5.heap.size ≤ g12 by omega) (.slice (some ⟨gv2, 0, none⟩) (p + 2) cv2)
          have O1 := own_setF p1 (p := ⟨g12, 1, none⟩) (own_ne p1 hlt12) (.slice (some ⟨gv2, 0, none⟩) (p + 2) cv2)
          have O2 := own_setF hv13 (p := ⟨g12, 1, none⟩) (own_ne hv13 hlt12) (.slice (some ⟨gv2, 0, none⟩) (p + 2) cv2)
          have HR := hide (show WtP w5 w5.heap.size g11 g12 fr K ss (q + 1) (p + 2) _ from ⟨_, _, _, _, by have := HP.out; omega, s11, by rw [HMT.out, scCells_append, HSK.out]; exact O1, s12, by rw [HHT.out, scCells_append, HSK.out]; exact O2, fun g h e => dj3 g e h, hb6⟩)
          clear x0 x1 xf c0 c1x c2x cf
          obtain ⟨c0, c1x, c2x, cf⟩ := r12.facts3
          clear t11 t12 t15 o1 o2 o2b hsl hv13 hg13 hn13 r11 r12 o1c p1 dj3 s11 s12 hb6 O1 O2 hb5 DJ
          go_wp2
          go_roundw
          case rel => exact ⟨q + 1, p + 2, by omega, by go_num, HR.out⟩
          case measure => simp [intOf]; omega
        · have hqm : q = m := by omega
          rw [hqm] at hb11 ho1 ho2
          rw [show ss.take m = ss by rw [List.take_of_length_le (by have := HN.out; omega)]] at ho1 ho2
          have hpm : p ≤ 8 := by omega
          have HPM := hide (show p = 2 * m by omega)
          have HOKB := hide (Bd.ok.thr HOK5.out hb)
          have HOKM := hide (show Bd.ok wr wr.heap.size ⟨fr, A1', m, c1, manyL K ss, false⟩ from ⟨sl_ownv ho1, fun t ht => by
            obtain ⟨s, hs, rfl⟩ := manyL_mem ht
            exact (Bd.ok.thr HOK5.out hb).2 s hs⟩)
          have HOKH := hide (show Bd.ok wr wr.heap.size ⟨fr, A2', p, c2, halfL K ss, false⟩ from ⟨sl_ownv ho2, fun t ht => by
            obtain ⟨s, hs, rfl⟩ := halfL_mem ht
            exact (Bd.ok.thr HOK5.out hb).2 s hs⟩)
          have HQB := hide (HQ5.out.below hb hq8)
          have HQM := hide hb11
          have HQH := hide hb12
          have HBZ := hide (bthr HB5.out hb HB5.out.size)
          have hki : ¬ ((q : Int) < (m : Int)) := by omega
          clear hb11 ho1 hb12 ho2 hdj hb hp
          have hss1 : 1 ≤ ss.length ∧ ss.length ≤ 4 := by have := HN.out; omega
          have HEB := hide (made_err (x := ⟨fr, some ⟨b0, o0, none⟩, m, d, ss, false⟩) (nn := nn) ⟨hf0, by simp only; omega⟩ (by simp only; omega) HN.out ⟨hn0, by omega⟩ (fun s hs => good_sc (HG.out s hs)))
          have HEM := hide (made_err (x := ⟨fr, A1', m, c1, manyL K ss, false⟩) (nn := nn) ⟨hf0, by simp only; omega⟩ (by simp only [manyL, List.length_map]; omega) (by simp only [manyL, List.length_map]; exact HN.out) ⟨hn0, by omega⟩ (fun t ht => by
            obtain ⟨s, hs, rfl⟩ := manyL_mem ht
            exact scK_good hK1 hK9 (HG.out s hs)))
          have HEH := hide (made_err (x := ⟨fr, A2', p, c2, halfL K ss, false⟩) (nn := nn) ⟨hf0, by simp only; omega⟩ (by simp only [halfL_len]; omega) (by simp only [halfL_len]; rw [HPM.out, HN.out]) ⟨hn0, by omega⟩ (fun t ht => by
            obtain ⟨s, hs, rfl⟩ := halfL_mem ht
            exact scK_good hK1 hK9 (HG.out s hs)))
          have HLB := hide (live_made (x := ⟨fr, some ⟨b0, o0, none⟩, m, d, ss, false⟩) HEB.out rfl)
          have HLM := hide (live_made (x := ⟨fr, A1', m, c1, manyL K ss, false⟩) HEM.out rfl)
          have HLH := hide (live_made (x := ⟨fr, A2', p, c2, halfL K ss, false⟩) HEH.out rfl)
          have hcov : ∀ x : Bd, x.fr = fr → stepsOf x.ss = nn → covB x T = true := fun x h1 h2 => by
            unfold covB; simp only [Bool.and_eq_true, decide_eq_true_eq]; rw [h1, h2]; have := HTT.out; omega
          have HCB := hide (hcov ⟨fr, some ⟨b0, o0, none⟩, m, d, ss, false⟩ rfl HST.out)
          have HCM := hide (hcov ⟨fr, A1', m, c1, manyL K ss, false⟩ rfl (by
            rcases hss : ss with _ | ⟨s, t⟩
            · rw [hss] at hss1; simp at hss1
            · have := (HG.out s (by rw [hss]; simp)).2.1; simpa [manyL, stepsOf, scK] using this))
          have HCH := hide (hcov ⟨fr, A2', p, c2, halfL K ss, false⟩ rfl (by
            rcases hss : ss with _ | ⟨s, t⟩
            · rw [hss] at hss1; simp at hss1
            · have := (HG.out s (by rw [hss]; simp)).2.1; simpa [halfL, stepsOf, scK] using this))
          clear hss1 hcov hqm
          go_wp2_with fail
          refine (mod_any num 7 (by omega) (by omega) _).mono ?_
          rintro e w' ⟨rfl, rfl⟩
          obtain ⟨nq', hnq⟩ : ∃ z, 1 + num % 7 = z := ⟨_, rfl⟩
          have hnq1 : 1 ≤ nq' := by omega
          have hnq7 : nq' ≤ 7 := by omega
          have hdm : 0 ≤ num % 7 := by omega
          have hdm9 : num % 7 ≤ 6 := by omega
          have HU1 := hide (quantile_any ⟨fr, some ⟨b0, o0, none⟩, m, d, ss, false⟩ T nq' 7 _ HOKB.out (fun _ => show m ≤ 20 by omega))
          unfold QOk at HU1
          rw [qE_made HLB.out hnq1 hnq7 (by omega) HCB.out] at HU1
          unfold Bd.arr at HU1
          simp only [forall_const, ne_eq, not_true_eq_false, false_implies, true_and] at HU1
          obtain ⟨c0, c1x, c2x, cf⟩ := HQB.out.facts3
          go_wp2_with fail
          clear hnq hdm hdm9
          refine HU1.out.mono ?_
          rintro e wa ⟨x, rfl, hx, hba⟩
          have HX := hide hx
          have HBA := hide (bthr HBZ.out hba HBZ.out.size)
          have HOKBa := hide (Bd.ok.thr HOKB.out hba)
          have HOKMa := hide (Bd.ok.thr HOKM.out hba)
          have HOKHa := hide (Bd.ok.thr HOKH.out hba)
          have HQBa := hide (HQB.out.below hba HQB.out.lt)
          have HQMa := hide (HQM.out.below hba HQM.out.lt)
          have HQHa := hide (HQH.out.below hba HQH.out.lt)
          clear hx hba c0 c1x c2x cf HU1 HOKB HOKM HOKH HQB HQM HQH HBZ
          have HU2 := hide (quantile_any ⟨fr, A1', m, c1, manyL K ss, false⟩ T nq' 7 _ HOKMa.out (fun _ => show m ≤ 20 by omega))
          unfold QOk at HU2
          rw [qE_made HLM.out hnq1 hnq7 (by omega) HCM.out] at HU2
          unfold Bd.arr at HU2
          simp only [forall_const, ne_eq, not_true_eq_false, false_implies, true_and] at HU2
          obtain ⟨c0, c1x, c2x, cf⟩ := HQMa.out.facts3
          go_wp2_with fail
          refine HU2.out.mono ?_
          rintro e wb ⟨y, rfl, hy, hbb⟩
          have hxy : y = x := qv_one (qv_many (f := flAt ⟨fr, some ⟨b0, o0, none⟩, m, d, ss, false⟩ T) (fun _ => rfl) hK1 hy) HX.out
          subst hxy
          have HBB := hide (bthr HBA.out hbb HBA.out.size)
          have HOKBb := hide (Bd.ok.thr HOKBa.out hbb)
          have HOKHb := hide (Bd.ok.thr HOKHa.out hbb)
          have HQBb := hide (HQBa.out.below hbb HQBa.out.lt)
          have HQHb := hide (HQHa.out.below hbb HQHa.out.lt)
          clear hy hbb c0 c1x c2x cf HU2 HOKBa HOKMa HOKHa HQBa HQMa HQHa HBA
          have HU3 := hide (quantile_any ⟨fr, A2', p, c2, halfL K ss, false⟩ T nq' 7 _ HOKHb.out (fun _ => show p ≤ 20 by omega))
          unfold QOk at HU3
          rw [qE_made HLH.out hnq1 hnq7 (by omega) HCH.out] at HU3
          unfold Bd.arr at HU3
          simp only [forall_const, ne_eq, not_true_eq_false, false_implies, true_and] at HU3
          obtain ⟨c0, c1x, c2x, cf⟩ := HQHb.out.facts3
          go_wp2_with fail
          refine HU3.out.mono ?_
          rintro e wc2 ⟨z, rfl, hz, hbc⟩
          have hxz : z = y := qv_one (qv_half (f := flAt ⟨fr, some ⟨b0, o0, none⟩, m, d, ss, false⟩ T) (fun _ => rfl) hK1 hz) HX.out
          subst hxz
          have HBC := hide (bthr HBB.out hbc HBB.out.size)
          have HOKBc := hide (Bd.ok.thr HOKBb.out hbc)
          have HOKHc := hide (Bd.ok.thr HOKHb.out hbc)
          have HQBc := hide (HQBb.out.below hbc HQBb.out.lt)
          have HQHc := hide (HQHb.out.below hbc HQHb.out.lt)
          clear hz hbc c0 c1x c2x cf HU3 HOKBb HOKHb HQBb HQHb HBB HX
          have HM1 := hide (mean_any ⟨fr, some ⟨b0, o0, none⟩, m, d, ss, false⟩ T _ HOKBc.out)
          rw [stepE_made HLB.out HCB.out, if_pos rfl] at HM1
          have HMM := hide (mean_half (b := ⟨fr, some ⟨b0, o0, none⟩, m, d, ss, false⟩) (b' := ⟨fr, A2', p, c2, halfL K ss, false⟩) (T := T) hK1 rfl rfl)
          generalize meanV ⟨fr, some ⟨b0, o0, none⟩, m, d, ss, false⟩ T = mv at *
          unfold Bd.arr at HM1
          simp only at HM1
          obtain ⟨c0, c1x, c2x, cf⟩ := HQBc.out.facts3
          go_wp2_with fail
          refine HM1.out.mono ?_
          rintro e wd ⟨rfl, hbd⟩
          have HBD := hide (bthr HBC.out hbd HBC.out.size)
          have HOKHd := hide (Bd.ok.thr HOKHc.out hbd)
          have HQHd := hide (HQHc.out.below hbd HQHc.out.lt)
          clear hbd c0 c1x c2x cf HM1 HOKBc HOKHc HQBc HQHc HBC
          have HM2 := hide (mean_any ⟨fr, A2', p, c2, halfL K ss, false⟩ T _ HOKHd.out)
          rw [stepE_made HLH.out HCH.out, if_pos rfl, HMM.out] at HM2
          unfold Bd.arr at HM2
          simp only at HM2
          obtain ⟨c0, c1x, c2x, cf⟩ := HQHd.out.facts3
          go_wp2_with fail
          refine HM2.out.mono ?_
          rintro e we ⟨rfl, hbe⟩
          have HBE := hide (bthr HBD.out hbe HBD.out.size)
          clear hbe c0 c1x c2x cf HM2 HOKHd HQHd HBD
          have hxx : (z == z) = true := by simp
          have hmm : (mv == mv) = true := by simp
          go_wp2_with fail
          refine (awake_any _).mono ?_
          rintro e wz ⟨rfl, hbz⟩
          have HBY := hide (bthr HBE.out hbz HBE.out.size)
          clear hbz
          go_wp2
          go_ret
          exact ⟨rfl, HBY.out⟩
end Go.Proofs.Ytmlpimidbgeacaa
