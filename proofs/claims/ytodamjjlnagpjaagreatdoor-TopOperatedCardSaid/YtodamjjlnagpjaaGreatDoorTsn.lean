/-
  slices.Sort and slices.Compact on a row of the call's own: the row stays the call's own, its length is as it was, or less. Condition: the row is not empty.
  The contract of dispatch.choices at valid units and states: a row of flows that are not negative, or none. Condition: the unit lies in memory and is valid.
  The contract of dispatch.station at valid units and states: the flows of each unit, none negative, or an error. Condition: units and states lie in memory and are valid.
-/
import Derived.Test.YtodamjjlnagpjaaGreatDoorProg
import Derived.Test.YtodamjjlnagpjaaGreatDoorTsl
import Derived.Test.YtodamjjlnagpjaaGreatDoorTul
import Derived.Lib.OwnBridge
namespace Go.Proofs.YtodamjjlnagpjaaGreatDoor
open Go.RowKit Go.Lib

theorem below_grow {B : Nat} {a w : World} (h : Below B a w) (hB : B ≤ w.heap.size) (os : Array Obj) : Below B a (Go.Sort.grow w os) :=
  ⟨h.os, h.tape, h.output, Nat.le_trans h.size (by simp [Go.Sort.grow]), fun k hk => by
    rw [← h.block k hk]
    simp [Go.Sort.grow, Array.getElem?_append, show k < w.heap.size by omega]⟩
theorem own_grow {w : World} {base n size : Nat} {e : TypeId} {v : Value} {xs : List Value} (h : w.ownsRow base e size v n xs) (os : Array Obj) : (Go.Sort.grow w os).ownsRow base e size v n xs :=
  ownsRow_agree h fun g hg => by
    have := (h.lt g hg).2
    simp [Go.Sort.grow, Array.getElem?_append, this]
theorem sort_own (base n : Nat) (xs : List Int) (v : Value) (w : World) (h : w.ownsRow base 3 1 v n (ints xs)) (hn0 : 0 < n) (hn : n ≤ 1000) (hb : base ≤ w.heap.size) :
    Calls Tryz.prog 145 #[v] w fun e w' => e = .returned (.tuple #[]) ∧ ∃ ys : List Int, w'.ownsRow base 3 1 v n (ints ys) ∧ Below base w w' := by
  obtain ⟨g, cap, rfl, hbg, hlt, hnc, hm, hl, hH⟩ := holds_of_ownsRow (enc := Value.int .i64) (zs := xs) h (by
    rintro rfl
    rcases h.2 with ⟨_, h0⟩ | ⟨g, cap, cur, h0, _⟩
    · omega
    · cases h0)
  have hc := Tryz.slices_Sort_int g 0 cap xs w hH hlt (by omega)
  rw [hl] at hc
  refine hc.mono ?_
  rintro e w' ⟨rfl, q, os, rfl⟩
  have hys : (xs.mergeSort fun x y => decide (x ≤ y)).length = n := by rw [List.length_mergeSort]; exact hl
  refine ⟨rfl, xs.mergeSort fun x y => decide (x ≤ y), own_grow ?_ os, below_grow (below_putRow (Below.refl _ _) hbg) (by simpa [Go.Sort.putRow, Go.Sort.mapBlock, Go.Sort.ahead] using hb) os⟩
  have := ownsRow_putRow (enc := Value.int .i64) (zs := xs) (q := q) (k := n) h hys (Nat.le_refl _)
  rwa [List.take_of_length_le (by omega)] at this
theorem compact_own (base n : Nat) (xs : List Int) (v : Value) (w : World) (h : w.ownsRow base 3 1 v n (ints xs)) (hn0 : 0 < n) (hn : n ≤ 1000) (_ : base ≤ w.heap.size) :
    Calls Tryz.prog 146 #[v] w fun e w' => ∃ (v' : Value) (k : Nat) (ys : List Int), e = .returned v' ∧ k ≤ n ∧ w'.ownsRow base 3 1 v' k (ints ys) ∧ Below base w w' := by
  obtain ⟨g, cap, rfl, hbg, hlt, hnc, hm, hl, hH⟩ := holds_of_ownsRow (enc := Value.int .i64) (zs := xs) h (by
    rintro rfl
    rcases h.2 with ⟨_, h0⟩ | ⟨g, cap, cur, h0, _⟩
    · omega
    · cases h0)
  have hc := Tryz.slices_Compact_int g 0 cap xs w hH (by omega) (by omega)
  rw [hl] at hc
  refine hc.mono ?_
  rintro e w' ⟨rfl, q, rfl⟩
  have hk : (Go.Lib.compact xs).length ≤ n := by
    have := Go.Lib.compact_length_le xs
    omega
  have hys : (Go.Lib.compact xs ++ List.replicate (n - (Go.Lib.compact xs).length) 0).length = n := by simp; omega
  have := ownsRow_putRow (enc := Value.int .i64) (zs := xs) (q := q) (k := (Go.Lib.compact xs).length) h hys hk
  exact ⟨_, _, _, rfl, hk, this, below_putRow (Below.refl _ _) hbg⟩
end Go.Proofs.YtodamjjlnagpjaaGreatDoor
namespace Go.Proofs.YtodamjjlnagpjaaGreatDoor
open Go.RowKit

/-- A flow that a unit may have. -/
structure Ch where
  fl : Int
  po : Int
  st : Int
def Ch.arr (c : Ch) : Array Value := #[.int .i64 c.fl, .int .i64 c.po, .int .i64 c.st]
def chCells (l : List Ch) : List Value := cellsOf Ch.arr l
theorem slCh : SlT Tryz.prog 199 201 3 := slT_of (z := .agg #[.int .i64 0, .int .i64 0, .int .i64 0]) (bytes := 24) Tryz.underlying199 (by kernel_rfl) rfl (by decide) (by decide)
def ChsP (w : World) (e : Ending) (w' : World) : Prop := ∃ (v : Value) (ok : Bool) (cs : List Ch), e = .returned (.tuple #[v, .bool ok]) ∧ (ok = true → w'.ownsRow w.heap.size 201 3 v cs.length (chCells cs) ∧ cs.length ≤ 210 ∧ ∀ c ∈ cs, 0 ≤ c.fl) ∧ Below w.heap.size w w'
theorem sl_int2 {W : World} {g : Nat} {t : TypeId} {x y : Int} (h : Blk W g t #[.int .i64 x, .int .i64 y]) : Sl W W.heap.size 1 (some ⟨g, 0, none⟩) 2 2 (ints [x, y]) := by
  refine ⟨rfl, Nat.le_refl _, by unfold maxLen; omega, fun _ => ⟨g, 0, rfl, h.lt, fun j u hu => ?_⟩⟩
  rw [h.facts.1, Nat.zero_add, ← hu]
  simp [ints]
theorem ints_oneC (xs : List Int) : ∀ u ∈ ints xs, u.oneCell' = true := by
  intro u hu
  unfold ints at hu
  obtain ⟨s, _, rfl⟩ := List.mem_map.1 hu
  rfl
set_option maxHeartbeats 3200000 in
set_option maxRecDepth 20000 in
theorem choices_any (u : Un) (s : Us) (gr : Int) (hgr : 1 ≤ gr ∧ gr ≤ 1000) (hg : UnG u) (hu : UsG u s) (w : World) (hs : u.ok w) :
    Calls Tryz.prog 126 #[.agg u.arr, .agg s.arr, .int .i64 gr] w (ChsP w) := by
  obtain ⟨q0, p0, hb0⟩ := blk_two w 90 93 u.arr s.arr
  have hs0 := hs.below hb0
  have HF := hide (fun W h => uflows_any u gr hgr hg W h)
  have HM := hide (fun W (f : Int) h => uMay_any u s f hg hu W h)
  have HW := hide (fun W (f : Int) h => upower_any u f hg W h)
  have HR := hide (show ∀ f : Int, f = 0 ∨ runsB u f = true ∧ s.out = false → 0 ≤ f from fun f h => by
    rcases h with h | h
    · omega
    · have := (runsB_iff.1 h.1).1; have := hg.lo; omega)
  rw [Un.arr6] at q0 p0 hb0 hs0 HF HM HW ⊢
  obtain ⟨fl, si, out⟩ := s
  unfold Us.arr at q0 p0 hb0 hs0 HM ⊢
  simp only at q0 p0 hb0 hs0 HM HR ⊢
  obtain ⟨c0, c1, c2, c3, c4, c5, cf⟩ := q0.facts6
  obtain ⟨d0, d1, d2, df⟩ := p0.facts3
  have hz1 := hb0.size
  clear hu hg hs hgr
  go_enter Tryz.func126, Tryz.ntmps126
  go_wp2_with fail
  generalize (w.alloc _).alloc _ = w1 at *
  refine (HF.out _ hs0).mono ?_
  rintro e w2 ⟨v2, n2, xs, er, rfl, hv2, hn2, hb2⟩
  have q2 := q0.below hb2 q0.lt
  have p2 := p0.below hb2 p0.lt
  have HV2 := hide hv2
  clear c0 c1 c2 c3 c4 c5 cf d0 d1 d2 df hv2
  obtain ⟨c0, c1, c2, c3, c4, c5, cf⟩ := q2.facts6
  obtain ⟨d0, d1, d2, df⟩ := p2.facts3
  by_cases her : er = 0
  · subst her
    have hv3 := HV2.out rfl
    have hz2 := hb2.size
    go_upto_region 4 with fail
    have n4 := Blk.new w2 3 #[.int .i64 0, .int .i64 fl]
    have hv4 := hide (hv3.alloc (.cells #[.int .i64 0, .int .i64 fl] 3))
    have hsz4 : w1.heap.size ≤ (w2.alloc (.cells #[.int .i64 0, .int .i64 fl] 3)).heap.size := by simp; omega
    have hsl4 := hide (sl_int2 n4)
    have HB4 := hide (hb2.alloc hz2 (.cells #[.int .i64 0, .int .i64 fl] 3))
    clear hv3 n4
    go_wp2_with (at_builtin; refine wpList_ext rfl _ _ _ rfl w1.heap.size _ _ slInt _ _ _ rfl hv4.out _ _ _ _ _ rfl hsl4.out (ints_oneC _) (by omega) hsz4 ?_)
    intro v5 w5 hv5 hg5 hl5
    have HB5 := hide (HB4.out.trans (below_push hv4.out hg5 hsz4))
    have hv5' := own_cells hv5 (ints_append xs [0, fl]).symm
    have hz5 := HB5.out.size
    clear hv5 hg5 hl5 hsl4 hsz4 hv4 c0 c1 c2 c3 c4 c5 cf d0 d1 d2 df q2 p2 hb2
    obtain ⟨A5, k5, rfl, _⟩ := own_sl hv5'
    go_wp2_with fail
    refine (sort_own w1.heap.size (n2 + 2) _ _ w5 hv5' (by omega) (by omega) hz5).mono ?_
    rintro e w6 ⟨rfl, ys, hv6, hb6⟩
    have HB6 := hide (HB5.out.trans hb6)
    have hz6 := HB6.out.size
    clear hv5' hb6
    go_wp2_with fail
    refine (compact_own w1.heap.size (n2 + 2) _ _ w6 hv6 (by omega) (by omega) hz6).mono ?_
    rintro e w7 ⟨v7, m, zs, rfl, hm, hv7, hb7⟩
    have HB7 := hide (HB6.out.trans hb7)
    have hz7 := HB7.out.size
    have hml : m = zs.length := by have := hv7.1; rw [ints_length] at this; omega
    have HML := hide hml
    obtain ⟨A7, k7, rfl, hS7⟩ := own_sl hv7
    have HS7 := hide hS7
    clear hv6 hb7 hv7 hS7 hml
    go_wp2
    go_loopw [10, 32] (fun v i wr => ∃ (k : Nat) (cs : List Ch), k ≤ m ∧ i = .int .i64 k ∧ cs.length ≤ k ∧ (∀ c ∈ cs, 0 ≤ c.fl) ∧ wr.ownsRow w7.heap.size 201 3 v cs.length (chCells cs) ∧ Below w7.heap.size w7 wr) (fun v i _ => m - (intOf i).toNat)
    case atStart => exact ⟨0, [], by omega, rfl, by simp, by simp, World.ownsRow_nil _ _ _ _, Below.refl _ _⟩
    case round =>
      obtain ⟨k, cs, hk, rfl, hcl, hcp, hv, hb⟩ := hrel
      have HCP := hide hcp
      have HB := hide hb
      have hzr := hb.size
      obtain ⟨Av, cv, rfl, _⟩ := own_sl hv
      have HV := hide hv
      by_cases hlt : k < m
      · have hki : (k : Int) < (m : Int) := by omega
        obtain ⟨bl, ol, rfl, _, hcc⟩ := (HS7.out.below hb).at_ hlt
        have e0 := hcc k _ (ints_get zs k (by have := HML.out; omega))
        generalize zs.getD k 0 = f at e0
        have HBr := hide (HB7.out.trans (hb.mono hz7))
        have qr := q0.below HBr.out q0.lt
        have pr := p0.below HBr.out p0.lt
        have hsr := hs0.below HBr.out
        obtain ⟨c0, c1, c2, c3, c4, c5, cf⟩ := qr.facts6
        obtain ⟨d0, d1, d2, df⟩ := pr.facts3
        clear hcc hcp hv hb
        go_wp2_with fail
        refine (HM.out _ f hsr).mono ?_
        rintro e w8 ⟨mb, rfl, hmb, hb8⟩
        have hV8 := hide (ownsRow_below HV.out hb8)
        have HB8 := hide (bthr HB.out hb8 HB.out.size)
        have hz8 := hb8.size
        have q8 := qr.below hb8 qr.lt
        have p8 := pr.below hb8 pr.lt
        have hs8 := hsr.below hb8
        have HMB := hide hmb
        clear c0 c1 c2 c3 c4 c5 cf d0 d1 d2 df qr pr hsr hb8 e0 hmb
        cases mb
        · go_wp2
          go_roundw
          case rel => exact ⟨k + 1, cs, by omega, by go_num, by omega, HCP.out, hV8.out, HB8.out⟩
          case measure => simp [intOf]; omega
        · have hf0 := HR.out f (HMB.out rfl)
          have n9 := Blk.new w8 201 #[.int .i64 f, .int .i64 0, .int .i64 0]
          have hb9 := bel1 (w := w8) (o := .cells #[.int .i64 f, .int .i64 0, .int .i64 0] 201)
          have q9 := q8.below hb9 q8.lt
          have p9 := p8.below hb9 p8.lt
          have hs9 := hs8.below hb9
          have hV9 := hide (ownsRow_below hV8.out hb9)
          have HB9 := hide (bthr HB8.out hb9 HB8.out.size)
          have hz9 := hb9.size
          obtain ⟨c0, c1, c2, c3, c4, c5, cf⟩ := q9.facts6
          have HNE := hide (show (Value.slice Av cs.length cv).ownBlock ≠ some w8.heap.size from fun h => by have := (hV8.out.lt _ h).2; omega)
          have hg9 : w7.heap.size ≤ w8.heap.size := by have := HB8.out.size; omega
          have hg9u : w.heap.size + 1 < w8.heap.size := by have := p8.lt; omega
          clear q8 p8 hs8 hb9 hV8 HMB
          go_upto_region 12 with fail
          generalize w8.alloc _ = w9 at *
          go_wp2_with fail
          refine (HW.out _ f hs9).mono ?_
          rintro e wA ⟨po, er, rfl, hbA⟩
          have nA := n9.below hbA n9.lt
          have pA := p9.below hbA p9.lt
          have hVA := hide (ownsRow_below hV9.out hbA)
          have HBA := hide (bthr HB9.out hbA HB9.out.size)
          have hzA := hbA.size
          clear c0 c1 c2 c3 c4 c5 cf q9 p9 hs9 hbA hV9 n9
          obtain ⟨x0, x1, x2, xf⟩ := nA.facts3
          obtain ⟨d0, d1, d2, df⟩ := pA.facts3
          have nB := nA.set_ 1 (.int .i64 po)
          simp only [List.setIfInBounds_toArray, List.set_cons_zero, List.set_cons_succ] at nB
          have hVB := hide (own_set hVA.out (p := ⟨w8.heap.size, 1, none⟩) HNE.out (.int .i64 po))
          have HBB := hide (HBA.out.setCell (p := ⟨w8.heap.size, 1, none⟩) (by simp only; omega) (.int .i64 po))
          have pB := pA.far (p := ⟨w8.heap.size, 1, none⟩) (show w.heap.size + 1 ≠ w8.heap.size by omega) (.int .i64 po)
          clear d0 d1 d2 df pA hVA HBA nA
          go_upto_region 13 with fail
          clear x0 x1 x2 xf
          generalize World.setCell _ _ _ = wB at *
          obtain ⟨x0, x1, x2, xf⟩ := nB.facts3
          obtain ⟨d0, d1, d2, df⟩ := pB.facts3
          by_cases hst : 0 < f ∧ fl = 0
          · have h1d : decide (0 < f) = true := by simpa using hst.1
            have h2d : (fl == 0) = true := by simpa using hst.2
            have nC := nB.set_ 2 (.int .i64 1)
            simp only [List.setIfInBounds_toArray, List.set_cons_zero, List.set_cons_succ] at nC
            have hVC := hide (own_set hVB.out (p := ⟨w8.heap.size, 2, none⟩) HNE.out (.int .i64 1))
            have HBC := hide (HBB.out.setCell (p := ⟨w8.heap.size, 2, none⟩) (by simp only; omega) (.int .i64 1))
            go_upto_region 15 with fail
            clear x0 x1 x2 xf d0 d1 d2 df nB pB hVB HBB hst h1d h2d
            generalize World.setCell _ _ _ = wC at *
            obtain ⟨x0, x1, x2, xf⟩ := nC.facts3
            have nD := Blk.new wC 201 #[.int .i64 f, .int .i64 po, .int .i64 1]
            have hVD := hide (hVC.out.alloc (.cells #[.int .i64 f, .int .i64 po, .int .i64 1] 201))
            have hszD : w7.heap.size ≤ wC.heap.size := HBC.out.size
            go_wp2_with (at_builtin; refine wpList_push rfl _ _ _ rfl w7.heap.size _ _ slCh _ _ _ rfl hVC.out _ _ rfl rfl rfl (by omega) hszD ?_)
            intro v' wD hvD hgD _
            have HBD := hide (HBC.out.trans (below_push hVC.out hgD hszD))
            have hvD' := own_cells hvD (show chCells cs ++ [.int .i64 f, .int .i64 po, .int .i64 1] = chCells (cs ++ [(⟨f, po, 1⟩ : Ch)]) by rw [chCells, chCells, cellsOf_append, cellsOf_one]; rfl)
            have hvD'' : wD.ownsRow w7.heap.size 201 3 v' (cs ++ [(⟨f, po, 1⟩ : Ch)]).length (chCells (cs ++ [(⟨f, po, 1⟩ : Ch)])) := by simpa using hvD'
            have HVD := hide hvD''
            have HCD := hide (show ∀ c ∈ cs ++ [(⟨f, po, 1⟩ : Ch)], 0 ≤ c.fl from fun c hc => by
              rcases List.mem_append.1 hc with h | h
              · exact HCP.out c h
              · rw [List.mem_singleton] at h; subst h; exact hf0)
            clear hvD hvD' hvD'' hgD x0 x1 x2 xf nD hVD
            go_wp2
            go_roundw
            case rel => exact ⟨k + 1, cs ++ [⟨f, po, 1⟩], by omega, by go_num, by simp; omega, HCD.out, HVD.out, HBD.out⟩
            case measure => simp [intOf]; omega
          · have hgo : decide (0 < f) = false ∨ decide (0 < f) = true ∧ (fl == 0) = false := by
              by_cases h : 0 < f
              · exact .inr ⟨by simpa using h, by simp; omega⟩
              · exact .inl (by simpa using h)
            rcases hgo with h1d | ⟨h1d, h2d⟩
            all_goals
              go_upto_region 15 with fail
              have nD := Blk.new wB 201 #[.int .i64 f, .int .i64 po, .int .i64 0]
              have hVD := hide (hVB.out.alloc (.cells #[.int .i64 f, .int .i64 po, .int .i64 0] 201))
              have hszD : w7.heap.size ≤ wB.heap.size := HBB.out.size
              go_wp2_with (at_builtin; refine wpList_push rfl _ _ _ rfl w7.heap.size _ _ slCh _ _ _ rfl hVB.out _ _ rfl rfl rfl (by omega) hszD ?_)
              intro v' wD hvD hgD _
              have HBD := hide (HBB.out.trans (below_push hVB.out hgD hszD))
              have hvD' := own_cells hvD (show chCells cs ++ [.int .i64 f, .int .i64 po, .int .i64 0] = chCells (cs ++ [(⟨f, po, 0⟩ : Ch)]) by rw [chCells, chCells, cellsOf_append, cellsOf_one]; rfl)
              have hvD'' : wD.ownsRow w7.heap.size 201 3 v' (cs ++ [(⟨f, po, 0⟩ : Ch)]).length (chCells (cs ++ [(⟨f, po, 0⟩ : Ch)])) := by simpa using hvD'
              have HVD := hide hvD''
              have HCD := hide (show ∀ c ∈ cs ++ [(⟨f, po, 0⟩ : Ch)], 0 ≤ c.fl from fun c hc => by
                rcases List.mem_append.1 hc with h | h
                · exact HCP.out c h
                · rw [List.mem_singleton] at h; subst h; exact hf0)
              clear hvD hvD' hvD'' hgD x0 x1 x2 xf nD hVD
              go_wp2
              go_roundw
              case rel => exact ⟨k + 1, cs ++ [⟨f, po, 0⟩], by omega, by go_num, by simp; omega, HCD.out, HVD.out, HBD.out⟩
              case measure => simp [intOf]; omega
      · have hki : ¬ ((k : Int) < (m : Int)) := by omega
        have HBZ := hide (hb0.trans ((HB7.out.trans (HB.out.mono hz7)).mono hb0.size))
        have HVZ := hide (ownsRow_base HV.out (show w.heap.size ≤ w7.heap.size by omega))
        clear hcp hv hb
        go_wp2
        go_ret2
        exact ⟨_, _, cs, rfl, fun _ => ⟨HVZ.out, by omega, HCP.out⟩, HBZ.out⟩
  · have herd : (er != 0) = true := by simpa using her
    have HBZ := hide (bthr hb0 hb2 hb0.size)
    go_wp2
    go_ret2
    exact ⟨_, _, [], rfl, (fun h => by cases h), HBZ.out⟩
end Go.Proofs.YtodamjjlnagpjaaGreatDoor
namespace Go.Proofs.YtodamjjlnagpjaaGreatDoor
open Go.RowKit

/-- The blocks of a fact, while a row that is none of them is pushed. -/
theorem held_push {S : Nat → Prop} {w w' : World} {φ : World → Prop} {v v' : Value} (h : Held S w φ) (hn : ∀ i, S i → v.ownBlock ≠ some i) (hg : w.grownBy w' v.ownBlock) (hor : v'.ownBlock = v.ownBlock ∨ ∃ g, v'.ownBlock = some g ∧ w.heap.size ≤ g) :
    Held S w' φ ∧ ∀ i, S i → v'.ownBlock ≠ some i := by
  refine ⟨h.grown hg fun k hk hs => hn k hs hk, fun i hi e => ?_⟩
  rcases hor with h1 | ⟨g, h1, h2⟩
  · exact hn i hi (h1 ▸ e)
  · rw [h1] at e
    injection e with e
    have := h.1 i hi
    omega
/-- A list of rows of choices. -/
structure Cl where
  A : Option Addr
  n : Nat
  c : Nat
  cs : List Ch
def Cl.arr (l : Cl) : Array Value := #[.slice l.A l.n l.c]
def clCells (l : List Cl) : List Value := cellsOf Cl.arr l
def ClG (l : Cl) : Prop := l.n = l.cs.length ∧ l.n ≤ 210 ∧ ∀ c ∈ l.cs, 0 ≤ c.fl
def ClsOk (ls : List Cl) (w : World) : Prop := ∀ l ∈ ls, Sl w w.heap.size 3 l.A l.n l.c (chCells l.cs)
theorem slCl : SlT Tryz.prog 190 199 1 := slT_of (z := .slice none 0 0) (bytes := 24) Tryz.underlying190 (by kernel_rfl) rfl (by decide) (by decide)
def StnP (m : Nat) (w : World) (e : Ending) (w' : World) : Prop := ∃ (A : Option Addr) (n c : Nat) (er : Int) (ls : List Cl), e = .returned (.tuple #[.slice A n c, .int .i64 er]) ∧ (er = 0 → ls.length = m ∧ n = m ∧ w'.ownsRow w.heap.size 199 1 (.slice A n c) m (clCells ls) ∧ ClsOk ls w' ∧ ∀ l ∈ ls, ClG l) ∧ Below w.heap.size w w'
theorem un_cells {w : World} {b o : Nat} {us : List Un} (hc : ∀ j u, (unCells us)[j]? = some u → w.cell? ⟨b, o + j, none⟩ = some u) {k : Nat} (hk : k < us.length) :
    w.cell? ⟨b, o + k * 6, none⟩ = some us[k].t.v ∧ w.cell? ⟨b, o + k * 6 + 1, none⟩ = some (.int .i64 us[k].lo) ∧ w.cell? ⟨b, o + k * 6 + 2, none⟩ = some (.int .i64 us[k].hi) ∧ w.cell? ⟨b, o + k * 6 + 3, none⟩ = some us[k].r.v ∧ w.cell? ⟨b, o + k * 6 + 4, none⟩ = some (.int .i64 us[k].up) ∧ w.cell? ⟨b, o + k * 6 + 5, none⟩ = some (.int .i64 us[k].dn) := by
  have h := fun j hj => cellsOf_get Un.arr 6 (fun _ => rfl) us k hk j hj
  exact ⟨hc _ _ (h 0 (by omega)), by rw [Nat.add_assoc]; exact hc _ _ (h 1 (by omega)), by rw [Nat.add_assoc]; exact hc _ _ (h 2 (by omega)), by rw [Nat.add_assoc]; exact hc _ _ (h 3 (by omega)), by rw [Nat.add_assoc]; exact hc _ _ (h 4 (by omega)), by rw [Nat.add_assoc]; exact hc _ _ (h 5 (by omega))⟩
theorem us_cells {w : World} {b o : Nat} {ss : List Us} (hc : ∀ j u, (usCells ss)[j]? = some u → w.cell? ⟨b, o + j, none⟩ = some u) {k : Nat} (hk : k < ss.length) :
    w.cell? ⟨b, o + k * 3, none⟩ = some (.int .i64 ss[k].fl) ∧ w.cell? ⟨b, o + k * 3 + 1, none⟩ = some (.int .i64 ss[k].si) ∧ w.cell? ⟨b, o + k * 3 + 2, none⟩ = some (.bool ss[k].out) := by
  have h := fun j hj => cellsOf_get Us.arr 3 (fun _ => rfl) ss k hk j hj
  exact ⟨hc _ _ (h 0 (by omega)), by rw [Nat.add_assoc]; exact hc _ _ (h 1 (by omega)), by rw [Nat.add_assoc]; exact hc _ _ (h 2 (by omega))⟩
theorem Un.arr7 (u : Un) : u.arr = #[.slice u.t.A u.t.n u.t.c, .int .i64 u.lo, .int .i64 u.hi, .slice u.r.A u.r.n u.r.c, .int .i64 u.up, .int .i64 u.dn] := rfl
/-- Units with their states, in memory. -/
structure Stn where
  uA : Option Addr
  un : Nat
  uc : Nat
  us : List Un
  sA : Option Addr
  sn : Nat
  sc : Nat
  ss : List Us
structure Stn.ok (x : Stn) (w : World) : Prop where
  u : Sl w w.heap.size 6 x.uA x.un x.uc (unCells x.us)
  ok : ∀ u ∈ x.us, u.ok w
  s : Sl w w.heap.size 3 x.sA x.sn x.sc (usCells x.ss)
theorem Stn.ok.below {x : Stn} {w w' : World} (h : x.ok w) (hb : Below w.heap.size w w') : x.ok w' := ⟨Sl.thr h.u hb, fun u hu => (h.ok u hu).below hb, Sl.thr h.s hb⟩
structure StnG (x : Stn) : Prop where
  n : x.us.length ≤ 6
  l : x.ss.length = x.us.length
  g : ∀ u ∈ x.us, UnG u
  s : ∀ (i : Nat) (h : i < x.us.length), UsG x.us[i] (x.ss[i]'(by omega))
/-- The cells of unit k and its state. -/
theorem Stn.at_ {x : Stn} {w : World} (h : x.ok w) (hg : StnG x) {k : Nat} (hk : k < x.un) : ∃ (b o b2 o2 : Nat) (u : Un) (s : Us), x.uA = some ⟨b, o, none⟩ ∧ x.sA = some ⟨b2, o2, none⟩ ∧ u.ok w ∧ UnG u ∧ UsG u s ∧
    (w.cell? ⟨b, o + k * 6, none⟩ = some u.t.v ∧ w.cell? ⟨b, o + k * 6 + 1, none⟩ = some (.int .i64 u.lo) ∧ w.cell? ⟨b, o + k * 6 + 2, none⟩ = some (.int .i64 u.hi) ∧ w.cell? ⟨b, o + k * 6 + 3, none⟩ = some u.r.v ∧ w.cell? ⟨b, o + k * 6 + 4, none⟩ = some (.int .i64 u.up) ∧ w.cell? ⟨b, o + k * 6 + 5, none⟩ = some (.int .i64 u.dn)) ∧
    w.cell? ⟨b2, o2 + k * 3, none⟩ = some (.int .i64 s.fl) ∧ w.cell? ⟨b2, o2 + k * 3 + 1, none⟩ = some (.int .i64 s.si) ∧ w.cell? ⟨b2, o2 + k * 3 + 2, none⟩ = some (.bool s.out) := by
  have hl : x.un = x.us.length := by have := h.u.1; rw [unCells, cellsOf_len Un.arr 6 (fun _ => rfl)] at this; omega
  have hs : x.sn = x.ss.length := by have := h.s.1; rw [usCells, cellsOf_len Us.arr 3 (fun _ => rfl)] at this; omega
  have hgl := hg.l
  obtain ⟨b, o, hA, _, hc⟩ := h.u.at_ hk
  obtain ⟨b2, o2, hA2, _, hc2⟩ := h.s.at_ (k := k) (by omega)
  exact ⟨b, o, b2, o2, x.us[k]'(by omega), x.ss[k]'(by omega), hA, hA2, h.ok _ (List.getElem_mem _), hg.g _ (List.getElem_mem _), hg.s k (by omega), un_cells hc (by omega), us_cells hc2 (by omega)⟩
theorem Stn.lens {x : Stn} {w : World} (h : x.ok w) (hg : StnG x) : x.un = x.us.length ∧ x.sn = x.un ∧ x.un ≤ 6 := by
  have hl : x.un = x.us.length := by have := h.u.1; rw [unCells, cellsOf_len Un.arr 6 (fun _ => rfl)] at this; omega
  have hs : x.sn = x.ss.length := by have := h.s.1; rw [usCells, cellsOf_len Us.arr 3 (fun _ => rfl)] at this; omega
  have hgl := hg.l
  have hn := hg.n
  omega
set_option maxHeartbeats 3200000 in
set_option maxRecDepth 20000 in
theorem station_any (x : Stn) (gr rl : Int) (hgr : 1 ≤ gr ∧ gr ≤ 1000) (hrl : 0 ≤ rl ∧ rl ≤ 1073741824) (hg : StnG x) (w : World) (hs : x.ok w) :
    Calls Tryz.prog 111 #[.slice x.uA x.un x.uc, .slice x.sA x.sn x.sc, .int .i64 gr, .int .i64 rl] w (StnP x.un w) := by
  obtain ⟨hl1, hl2, hl3⟩ := Stn.lens hs hg
  have HAT := hide (fun (W : World) (hW : Below w.heap.size w W) (k : Nat) (hk : k < x.un) => Stn.at_ (hs.below hW) hg hk)
  obtain ⟨uA, un, uc, us, sA, sn, sc, ss⟩ := x
  simp only at hl1 hl2 hl3 HAT ⊢
  have HL := hide hl2
  obtain ⟨g0, g1⟩ := hgr
  obtain ⟨r0, r1⟩ := hrl
  clear hl1 hs hg
  obtain rfl : sn = un := hl2
  have hd1 : decide (6 < (sn : Int)) = false := by simp; omega
  have hd2 : ((sn : Int) != (sn : Int)) = false := by simp
  go_enter Tryz.func111, Tryz.ntmps111
  go_wp2
  go_loopw [27] (fun i wr => ∃ k : Nat, k ≤ sn ∧ i = .int .i64 k ∧ Below w.heap.size w wr) (fun i _ => sn - (intOf i).toNat)
  case atStart => exact ⟨0, by omega, rfl, Below.refl _ _⟩
  case round =>
    obtain ⟨k, hk, rfl, hb⟩ := hrel
    have HB := hide hb
    by_cases hlt : k < sn
    · have hki : (k : Int) < (sn : Int) := by omega
      obtain ⟨b, o, b2, o2, u, s, rfl, rfl, hu, hug, hus, ⟨e0, e1, e2, e3, e4, e5⟩, f0, f1, f2⟩ := HAT.out wr hb k hlt
      have q1 := Blk.new wr 90 u.arr
      have hb1 := bel1 (w := wr) (o := .cells u.arr 90)
      have hB1 := bthr hb hb1 hb.size
      have HP := hide (fun W (hW : u.ok W) => uvalid_ok u s hug hus W hW)
      have hu1 := hu.below hb1
      replace f0 := cell_thr hb1 f0
      replace f1 := cell_thr hb1 f1
      replace f2 := cell_thr hb1 f2
      rw [Un.arr7] at q1 hb1 hB1 hu1 HP f0 f1 f2
      unfold Cv.v at e0 e3
      unfold Us.arr at HP
      clear hb hu hug hus
      go_upto_region 8 with fail
      clear e0 e1 e2 e3 e4 e5
      generalize wr.alloc _ = w5 at *
      obtain ⟨c0, c1, c2, c3, c4, c5, cf⟩ := q1.facts6
      have hne : Nonempty (InW fun w => Below w5.heap.size w5 w) := ⟨⟨w5, Below.refl _ _⟩⟩
      have HP2 := hide (fun (y : InW (fun w => Below w5.heap.size w5 w)) => HP.out y.val (hu1.below y.ok))
      replace c0 := inv_cell c0
      replace c1 := inv_cell c1
      replace c2 := inv_cell c2
      replace c3 := inv_cell c3
      replace c4 := inv_cell c4
      replace c5 := inv_cell c5
      replace f0 := inv_cell f0
      replace f1 := inv_cell f1
      replace f2 := inv_cell f2
      refine wp_region_inv (I := fun w => Below w5.heap.size w5 w) (by kernel_rfl) (by kernel_rfl) (Below.refl _ _).drew ?_
      repeat (go_big_quiet_step (first | (go_at_call 73; refine inv_call (inv_closed w5) (HP2.out _))))
      refine wpQuiet_nil ?_
      rintro _ ⟨⟨w9, h9⟩, rfl⟩
      have HB9 := hide (bthr hB1 h9 hB1.size)
      clear c0 c1 c2 c3 c4 c5 f0 f1 f2 cf hb1 hB1 hu1 q1 h9
      go_wp2
      go_roundw
      case rel => exact ⟨k + 1, by omega, by go_num, HB9.out⟩
      case measure => simp [intOf]; omega
    · have hki : ¬ ((k : Int) < (sn : Int)) := by omega
      have hzz := hb.size
      by_cases hlim : 200 * gr < rl
      · have hlimd : decide (200 * gr < rl) = true := by simpa using hlim
        have hg1d : decide (gr < 1) = false := by simp; omega
        have hg2d : decide (1073741824 < gr) = false := by simp; omega
        clear hb
        go_wp2_with fail
        refine (within_true _ _ (by omega) (by omega) _).mono ?_
        rintro e w' ⟨rfl, rfl⟩
        go_wp2
        go_ret2
        exact ⟨_, _, _, 10, [], rfl, (fun h => by cases h), HB.out⟩
      · have hlimd : decide (200 * gr < rl) = false := by simpa using hlim
        have hg1d : decide (gr < 1) = false := by simp; omega
        have hg2d : decide (1073741824 < gr) = false := by simp; omega
        clear hb
        go_wp2_with fail
        refine (within_true _ _ (by omega) (by omega) _).mono ?_
        rintro e w' ⟨rfl, rfl⟩
        rename World => wz
        go_wp2
        go_loopw [12, 59] (fun v i wr => ∃ (k : Nat) (ls : List Cl) (S : Nat → Prop), k ≤ sn ∧ i = .int .i64 k ∧ ls.length = k ∧ wr.ownsRow wz.heap.size 199 1 v k (clCells ls) ∧ Held S wr (ClsOk ls) ∧ (∀ i, S i → v.ownBlock ≠ some i) ∧ (∀ l ∈ ls, ClG l) ∧ Below wz.heap.size wz wr) (fun v i _ => sn - (intOf i).toNat)
        case atStart => exact ⟨0, [], fun _ => False, by omega, rfl, rfl, World.ownsRow_nil _ _ _ _, held_true _ (fun _ l hl => by simp at hl), (fun _ h => h.elim), (fun l hl => by simp at hl), Below.refl _ _⟩
        case round =>
          rename World => wr
          obtain ⟨k, ls, S, hk, rfl, hls, hv, hH, hSn, hG, hbz⟩ := hrel
          have HBZ := hide hbz
          have hbw := HB.out.trans (hbz.mono hzz)
          obtain ⟨Av, cv, rfl, _⟩ := own_sl hv
          have HV := hide hv
          have HH := hide hH
          have HSN := hide hSn
          have HG := hide hG
          have HLS := hide hls
          by_cases hlt : k < sn
          · have hki : (k : Int) < (sn : Int) := by omega
            obtain ⟨b, o, b2, o2, u, s, rfl, rfl, hu, hug, hus, ⟨e0, e1, e2, e3, e4, e5⟩, f0, f1, f2⟩ := HAT.out wr hbw k hlt
            have q1 := Blk.new wr 90 u.arr
            have hb1 := bel1 (w := wr) (o := .cells u.arr 90)
            have HC := hide (fun W (hW : u.ok W) => choices_any u s gr ⟨g0, g1⟩ hug hus W hW)
            have hu1 := hu.below hb1
            have HV1 := hide (ownsRow_below HV.out hb1)
            have HH1 := hide (HH.out.below hb1)
            have HBZ1 := hide (bthr HBZ.out hb1 HBZ.out.size)
            have hz1 := hb1.size
            have hlv := fun g h => (HV.out.lt g h).2
            replace f0 := cell_thr hb1 f0
            replace f1 := cell_thr hb1 f1
            replace f2 := cell_thr hb1 f2
            rw [Un.arr7] at q1 hb1 hu1 HC f0 f1 f2 HV1 HH1 HBZ1 hz1
            unfold Cv.v at e0 e3
            unfold Us.arr at HC
            clear hv hH hSn hG hbz hbw hb1 hu hug hus hls
            go_upto_region 19 with fail
            clear e0 e1 e2 e3 e4 e5
            generalize wr.alloc _ = w5 at *
            obtain ⟨c0, c1, c2, c3, c4, c5, cf⟩ := q1.facts6
            have HC2 := hide (HC.out w5.drew (hu1.below (Below.drew (Below.refl _ _))))
            go_region_law (go_simp; go_at_call 126; refine HC2.out.mono ?_; rintro e w6 ⟨v6, ok6, cs6, rfl, hcs6, hb6⟩)
            all_goals
              have hb6' : Below w5.heap.size w5 w6 := ⟨hb6.os, hb6.tape, hb6.output, hb6.size, hb6.block⟩
              have HCS := hide hcs6
              have HV6 := hide (ownsRow_below HV1.out hb6')
              have HH6 := hide (HH1.out.below hb6')
              have HBZ6 := hide (bthr HBZ1.out hb6' HBZ1.out.size)
              have hz6 := hb6'.size
              clear c0 c1 c2 c3 c4 c5 f0 f1 f2 cf hcs6 hb6 hb6' q1 hu1 HC HC2
              cases ok6
              · have HBE := hide (HB.out.trans (HBZ6.out.mono hzz))
                go_wp2
                go_ret2
                exact ⟨_, _, _, 10, [], rfl, (fun h => by cases h), HBE.out⟩
              · obtain ⟨hr6, hl6, hp6⟩ := HCS.out rfl
                obtain ⟨A6, c6, rfl, hS6⟩ := own_sl hr6
                have hr6' : w6.ownsRow w5.heap.size 201 3 (.slice A6 cs6.length c6) cs6.length (chCells cs6) := hr6
                have HNEW := hide (HH6.out.both (held_sl hr6'))
                have HNE := hide (show ∀ i, (S i ∨ (Value.slice A6 cs6.length c6).ownBlock = some i) → (Value.slice Av k cv).ownBlock ≠ some i from fun i hi e => by
                  rcases hi with hi | hi
                  · exact HSN.out i hi e
                  · have h1 := (hr6'.lt i hi).1
                    have h2 := hlv i e
                    omega)
                have n7 := HNEW.out.alloc (.cells #[.slice A6 cs6.length c6] 199)
                have HV7 := hide (HV6.out.alloc (.cells #[.slice A6 cs6.length c6] 199))
                have HN7 := hide n7
                have hsz7 : wz.heap.size ≤ w6.heap.size := HBZ6.out.size
                clear hr6 hr6' hS6 n7 HH6 HH1 HV1
                go_wp2_with (at_builtin; refine wpList_push rfl _ _ _ rfl wz.heap.size _ _ slCl _ _ _ rfl HV6.out _ _ rfl rfl rfl (by omega) hsz7 ?_)
                intro v8 w8 hv8 hg8 hor8
                obtain ⟨hH8, hS8⟩ := held_push HNEW.out HNE.out hg8 hor8
                have HB8 := hide (HBZ6.out.trans (below_push HV6.out hg8 hsz7))
                have hv8' := own_cells hv8 (show clCells ls ++ [.slice A6 cs6.length c6] = clCells (ls ++ [(⟨A6, cs6.length, c6, cs6⟩ : Cl)]) by rw [clCells, clCells, cellsOf_append, cellsOf_one]; rfl)
                have HV8 := hide hv8'
                have HH8 := hide (hH8.imp (ψ := ClsOk (ls ++ [(⟨A6, cs6.length, c6, cs6⟩ : Cl)])) fun W h l hl => by
                  rcases List.mem_append.1 hl with h1 | h1
                  · exact h.1 l h1
                  · rw [List.mem_singleton] at h1; subst h1; exact h.2)
                have HS8 := hide hS8
                have HG8 := hide (show ∀ l ∈ ls ++ [(⟨A6, cs6.length, c6, cs6⟩ : Cl)], ClG l from fun l hl => by
                  rcases List.mem_append.1 hl with h1 | h1
                  · exact HG.out l h1
                  · rw [List.mem_singleton] at h1; subst h1; exact ⟨rfl, hl6, hp6⟩)
                have HL8 := hide (show (ls ++ [(⟨A6, cs6.length, c6, cs6⟩ : Cl)]).length = k + 1 by rw [List.length_append, HLS.out]; rfl)
                clear hv8 hv8' hg8 hor8 hH8 hS8 hp6 hl6
                go_wp2
                go_roundw
                case rel => exact ⟨k + 1, _, _, by omega, by go_num, HL8.out, HV8.out, HH8.out, HS8.out, HG8.out, HB8.out⟩
                case measure => simp [intOf]; omega
          · have hki : ¬ ((k : Int) < (sn : Int)) := by omega
            obtain rfl : k = sn := by omega
            have HBE := hide hbw
            have HVE := hide (ownsRow_base HV.out hzz)
            clear hv hH hSn hG hbz hbw hls
            go_wp2
            go_ret2
            exact ⟨_, _, _, 0, ls, rfl, fun _ => ⟨HLS.out, rfl, HVE.out, HH.out.out, HG.out⟩, HBE.out⟩
end Go.Proofs.YtodamjjlnagpjaaGreatDoor
