/-
  The walk of LicenceAll: it answers true. Conditions: the table of kinds; its lists can be read.
-/
import Derived.Test.YtegjihcokndemaaDoorProg
import Derived.Test.YtegjihcokndemaaDoorLbo
import Derived.Test.YtegjihcokndemaaDoorOdL
import Derived.Test.YtegjihcokndemaaDoorLaw12
import Derived.Test.YtegjihcokndemaaDoorRaw
import Derived.Test.YtegjihcokndemaaDoorExt
namespace Go.Proofs.YtegjihcokndemaaDoor
open Go.RowKit

theorem cd_oneL (cs : List Cd) : ∀ u ∈ cdCells cs, u.oneCell' = true := by
  intro u hu
  simp only [cdCells, List.mem_flatMap] at hu
  obtain ⟨c, _, h⟩ := hu
  simp [Cd.arr] at h
  rcases h with rfl | rfl | rfl | rfl | rfl | rfl | rfl <;> rfl
theorem own_setL {w : World} {base n : Nat} {e : TypeId} {size : Nat} {v : Value} {xs : List Value} (h : w.ownsRow base e size v n xs) {g i : Nat} (hg : v.ownBlock ≠ some g) (u : Value) : (w.setCell ⟨g, i, none⟩ u).ownsRow base e size v n xs :=
  h.kept (row := some g) ⟨rfl, rfl, rfl, by simp [World.setCell], fun j _ hne => Below.heap_setCell _ _ u j (fun e => hne (by rw [e]))⟩ (.inr hg)
theorem sl_ownL {w : World} {base n c size : Nat} {e : TypeId} {A : Option Addr} {xs : List Value} (h : w.ownsRow base e size (.slice A n c) n xs) : Sl w w.heap.size size A n c xs := by
  obtain ⟨A', c', he, hs⟩ := own_sl h
  injection he with e1 _ e3
  rw [e1, e3]; exact hs
/-- the two lists of the call's own -/
structure LaP (w : World) (b base : Nat) (A2 : Option Addr) (n2 c2 : Nat) (cs2 : List Cd) (A3 : Option Addr) (n3 c3 : Nat) (cs3 : List Cd) (W : World) : Prop where
  own1 : W.ownsRow base 32 7 (.slice A2 n2 c2) n2 (cdCells cs2)
  own2 : W.ownsRow base 32 7 (.slice A3 n3 c3) n3 (cdCells cs3)
  deck : Dk W b
  bel : Below w.heap.size w W
section
variable {w W W' : World} {b base : Nat} {A2 A3 A0 C : Option Addr} {n2 c2 n3 c3 n0 c0 q e : Nat} {cs2 cs3 cs0 xs : List Cd}
theorem LaP.below (h : LaP w b base A2 n2 c2 cs2 A3 n3 c3 cs3 W) (hb : Below W.heap.size W W') : LaP w b base A2 n2 c2 cs2 A3 n3 c3 cs3 W' :=
  ⟨ownsRow_below h.own1 hb, ownsRow_below h.own2 hb, h.deck.below hb, bthr h.bel hb h.bel.size⟩
theorem LaP.next (h : LaP w b base A2 n2 c2 cs2 A3 n3 c3 cs3 W) (hg : W.grownBy W' (some b)) (hD : Dk W' b) (h1 : b < base) (h2 : w.heap.size ≤ b) : LaP w b base A2 n2 c2 cs2 A3 n3 c3 cs3 W' :=
  ⟨own_deck h.own1 hg h1, own_deck h.own2 hg h1, hD, below_grown h.bel hg h.bel.size h2⟩
/-- one of the three lists -/
def One3 (A2 : Option Addr) (n2 c2 : Nat) (cs2 : List Cd) (A3 : Option Addr) (n3 c3 : Nat) (cs3 : List Cd) (A0 : Option Addr) (n0 c0 : Nat) (cs0 : List Cd) (C : Option Addr) (q e : Nat) (xs : List Cd) : Prop :=
  (C = A2 ∧ q = n2 ∧ e = c2 ∧ xs = cs2) ∨ (C = A3 ∧ q = n3 ∧ e = c3 ∧ xs = cs3) ∨ (C = A0 ∧ q = n0 ∧ e = c0 ∧ xs = cs0)
theorem LaP.sl (h : LaP w b base A2 n2 c2 cs2 A3 n3 c3 cs3 W) (hr : Sl w w.heap.size 7 A0 n0 c0 (cdCells cs0)) (ho : One3 A2 n2 c2 cs2 A3 n3 c3 cs3 A0 n0 c0 cs0 C q e xs) : Sl W W.heap.size 7 C q e (cdCells xs) := by
  rcases ho with ⟨rfl, rfl, rfl, rfl⟩ | ⟨rfl, rfl, rfl, rfl⟩ | ⟨rfl, rfl, rfl, rfl⟩
  · exact sl_ownL h.own1
  · exact sl_ownL h.own2
  · exact hr.thr h.bel
end
theorem la_at {w : World} {g : Nat} {t : TypeId} {A2 A3 A0 : Option Addr} {n2 c2 n3 c3 n0 c0 : Nat} {cs2 cs3 cs0 : List Cd} (h : Blk w g t #[.slice A2 n2 c2, .slice A3 n3 c3, .slice A0 n0 c0]) (h2 : n2 ≤ 210) (h3 : n3 ≤ 210) (h0 : n0 ≤ 210) {k : Nat} (hk : k < 3) :
    ∃ (C : Option Addr) (q e : Nat) (xs : List Cd), w.cell? ⟨g, k, none⟩ = some (.slice C q e) ∧ One3 A2 n2 c2 cs2 A3 n3 c3 cs3 A0 n0 c0 cs0 C q e xs ∧ q ≤ 210 := by
  have hf := h.facts.1
  match k, hk with
  | 0, _ => exact ⟨_, _, _, cs2, hf 0, .inl ⟨rfl, rfl, rfl, rfl⟩, h2⟩
  | 1, _ => exact ⟨_, _, _, cs3, hf 1, .inr (.inl ⟨rfl, rfl, rfl, rfl⟩), h3⟩
  | 2, _ => exact ⟨_, _, _, cs0, hf 2, .inr (.inr ⟨rfl, rfl, rfl, rfl⟩), h0⟩
theorem lap_set {w W : World} {b base g k : Nat} {A2 : Option Addr} {n2 c2 n3 c3 : Nat} {cs2 cs3 : List Cd} (h : LaP w b base A2 n2 c2 cs2 (some ⟨g, 0, none⟩) n3 c3 cs3 W) (hg : (Value.slice A2 n2 c2).ownBlock ≠ some g) (hbg : b < g) (hwg : w.heap.size ≤ g) (hk : k < cs3.length) (x : Cd) :
    LaP w b base A2 n2 c2 cs2 (some ⟨g, 0, none⟩) n3 c3 (cs3.set k x) (((((((W.setCell ⟨g, k * 7, none⟩ (.int .i64 x.rank)).setCell ⟨g, k * 7 + 1, none⟩ (.int .i64 x.kind)).setCell ⟨g, k * 7 + 2, none⟩ (.int .i64 x.value)).setCell ⟨g, k * 7 + 3, none⟩ (.int .i64 x.from_)).setCell ⟨g, k * 7 + 4, none⟩ (.int .i64 x.to_)).setCell ⟨g, k * 7 + 5, none⟩ (.int .i64 x.above)).setCell ⟨g, k * 7 + 6, none⟩ (.int .i64 x.below)) where
  own1 := own_setL (own_setL (own_setL (own_setL (own_setL (own_setL (own_setL h.own1 hg _) hg _) hg _) hg _) hg _) hg _) hg _
  own2 := own_cond h.own2 hk x
  deck := ((((((h.deck.set (p := ⟨g, k * 7, none⟩) hbg _).set (p := ⟨g, k * 7 + 1, none⟩) hbg _).set (p := ⟨g, k * 7 + 2, none⟩) hbg _).set (p := ⟨g, k * 7 + 3, none⟩) hbg _).set (p := ⟨g, k * 7 + 4, none⟩) hbg _).set (p := ⟨g, k * 7 + 5, none⟩) hbg _).set (p := ⟨g, k * 7 + 6, none⟩) hbg _
  bel := ((((((h.bel.setCell hwg _).setCell hwg _).setCell hwg _).setCell hwg _).setCell hwg _).setCell hwg _).setCell hwg _
theorem quad_at {w : World} {g j : Nat} {t : TypeId} {a0 a1 a2 a3 b0 b1 b2 b3 c0 c1 c2 c3 : Int} (h : Blk w g t #[.int .i64 a0, .int .i64 a1, .int .i64 a2, .int .i64 a3, .int .i64 b0, .int .i64 b1, .int .i64 b2, .int .i64 b3, .int .i64 c0, .int .i64 c1, .int .i64 c2, .int .i64 c3]) (hj : j < 3) :
    ∃ u0 u1 u2 u3 : Int, w.cell? ⟨g, j * 4, none⟩ = some (.int .i64 u0) ∧ w.cell? ⟨g, j * 4 + 1, none⟩ = some (.int .i64 u1) ∧ w.cell? ⟨g, j * 4 + 2, none⟩ = some (.int .i64 u2) ∧ w.cell? ⟨g, j * 4 + 3, none⟩ = some (.int .i64 u3) := by
  have hf := h.facts.1
  match j, hj with
  | 0, _ => exact ⟨a0, a1, a2, a3, hf 0, hf 1, hf 2, hf 3⟩
  | 1, _ => exact ⟨b0, b1, b2, b3, hf 4, hf 5, hf 6, hf 7⟩
  | 2, _ => exact ⟨c0, c1, c2, c3, hf 8, hf 9, hf 10, hf 11⟩
theorem facts4L {w : World} {g : Nat} {t : TypeId} {a b c d : Value} (h : Blk w g t #[a, b, c, d]) : w.cell? ⟨g, 0, none⟩ = some a ∧ w.cell? ⟨g, 1, none⟩ = some b ∧ w.cell? ⟨g, 2, none⟩ = some c ∧ w.cell? ⟨g, 3, none⟩ = some d :=
  ⟨h.facts.1 0, h.facts.1 1, h.facts.1 2, h.facts.1 3⟩
set_option maxHeartbeats 3200000 in
set_option maxRecDepth 20000 in
theorem lall_walk {A0 : Option Addr} {n0 c0 : Nat} {cs0 : List Cd} {A : Option Addr} {n c : Nat} {zs : List Int} {w : World} (hT : KT w) (hr : Sl w w.heap.size 7 A0 n0 c0 (cdCells cs0)) (hs : Sl w w.heap.size 1 A n c (ints zs)) (dy lv bf rl : Int) :
    Calls Tryd.prog 3 #[.slice A0 n0 c0, .slice A n c, .int .i64 dy, .int .i64 lv, .int .i64 bf, .int .i64 rl] w fun e w' => e = .returned (.bool true) ∧ Below w.heap.size w w' := by
  have hn63 := (len_cs hr).2
  by_cases hn : 210 < n0
  · have hni : 210 < (n0 : Int) := by omega
    have HT0 := hide hT
    clear hs hr hT
    go_enter Tryd.func3, Tryd.ntmps3
    go_wp2_with fail
    refine (awake_any w HT0.out).mono ?_
    rintro e w1 ⟨rfl, hb1⟩
    have HB1 := hide hb1
    clear hb1
    go_wp2
    go_ret
    exact ⟨rfl, HB1.out⟩
  · have hni : ¬ 210 < (n0 : Int) := by omega
    have HR := hide hr
    have HT := hide hT
    clear hr hT
    go_enter Tryd.func3, Tryd.ntmps3
    go_wp2_with fail
    refine (new_any _ _ _ _ _ hs).mono ?_
    rintro e w1 ⟨rfl, hD1, hb1⟩
    have hw1 := hD1.lt
    clear hs
    go_wp2_with fail
    refine (conds_any _ _ hD1).mono ?_
    rintro e w2 ⟨v, cs2, rfl, hcl, -, hv2, hD2, hg2⟩
    obtain ⟨A2, c2, rfl, hs2⟩ := own_sl hv2
    obtain ⟨n2, hn2⟩ : ∃ n2, cs2.length = n2 := ⟨_, rfl⟩
    have HN2 := hide hn2
    rw [hn2] at hv2 hs2 hcl
    simp only [hn2]
    have hB2 := below_grown hb1 hg2 hb1.size (Nat.le_refl _)
    have hw2 : w1.heap.size ≤ w2.heap.size := hg2.size
    have HS2 := hide hs2
    have HB2 := hide hB2
    have HV2 := hide hv2
    have HD2 := hide hD2
    clear hs2 hn2 hB2 hD1 hb1 hg2 hv2 hD2
    go_wp2_with (at_builtin; refine wpList_ext rfl _ _ _ rfl w2.heap.size _ 7 slCond _ 0 [] rfl (World.ownsRow_nil _ _ _ _) A2 n2 c2 _ _ rfl HS2.out (cd_oneL cs2) (by omega) (Nat.le_refl _) ?_)
    intro v3 w3 hv3 hg3 _
    try rw [Nat.zero_add, List.nil_append] at hv3
    obtain ⟨A3, c3, rfl, -⟩ := own_sl hv3
    have hb3 := (Below.refl w2.heap.size w2).grown hg3 (Nat.le_refl _) (fun k hk => by cases hk)
    have hp3 : LaP w w.heap.size w1.heap.size A2 n2 c2 cs2 A3 n2 c3 cs2 w3 := ⟨ownsRow_below HV2.out hb3, ownsRow_base hv3 hw2, HD2.out.below hb3, bthr HB2.out hb3 HB2.out.size⟩
    have HP3 := hide hp3
    have HAP := hide (show ∀ g, (Value.slice A3 n2 c3).ownBlock = some g → w2.heap.size ≤ g ∧ (Value.slice A2 n2 c2).ownBlock ≠ some g from fun g hg => by
      have h1 := (hv3.lt g hg).1
      exact ⟨h1, fun e => by have := (HV2.out.lt g e).2; omega⟩)
    have hw3 : w2.heap.size ≤ w3.heap.size := hb3.size
    clear hv3 hg3 hb3 hp3 HS2 HB2 HV2 HD2
    go_upto_if 49 with fail
    go_cut [16] (fun _ wx => ∃ cs3 : List Cd, LaP w w.heap.size w1.heap.size A2 n2 c2 cs2 A3 n2 c3 cs3 wx)
    case first =>
      by_cases h0 : n2 = 0
      · subst h0
        go_wp2_with fail
        go_meet
        exact ⟨cs2, HP3.out⟩
      · have h0i : 0 < (n2 : Int) := by omega
        have h0n : 0 < n2 := by omega
        go_wp2_with fail
        refine (next_any _ n2 (by omega) _ HP3.out.deck).mono ?_
        rintro e w4 ⟨i, rfl, hi0, hi1, hD4, hg4, -⟩
        obtain ⟨k, rfl⟩ : ∃ k : Nat, i = (k : Int) := ⟨i.toNat, by omega⟩
        have hk : k < n2 := by omega
        have hP4 := HP3.out.next hg4 hD4 hw1 (Nat.le_refl _)
        obtain ⟨g3, cq, he, hga, hgb⟩ := hP4.own2.form (by omega)
        injection he with e1 e2 e3
        subst e1 e3
        obtain ⟨hg3a, hg3b⟩ := HAP.out g3 rfl
        have hkl : k < cs2.length := by rw [HN2.out]; exact hk
        have HKL := hide hkl
        have gt := fun j (hj : j < 7) => (hP4.own2.cellAt (k * 7 + j) (by omega)).trans (cdCells_get cs2 k hkl j hj)
        rcases ek : cs2[k]'hkl with ⟨r, k1, v1, f1, t1, x1, y1⟩
        rw [ek] at gt
        have f0 : w4.cell? ⟨g3, k * 7, none⟩ = some (.int .i64 r) := gt 0 (by omega)
        have f1' : w4.cell? ⟨g3, k * 7 + 1, none⟩ = some (.int .i64 k1) := gt 1 (by omega)
        have f2 : w4.cell? ⟨g3, k * 7 + 2, none⟩ = some (.int .i64 v1) := gt 2 (by omega)
        have f3 : w4.cell? ⟨g3, k * 7 + 3, none⟩ = some (.int .i64 f1) := gt 3 (by omega)
        have f4 : w4.cell? ⟨g3, k * 7 + 4, none⟩ = some (.int .i64 t1) := gt 4 (by omega)
        have f5 : w4.cell? ⟨g3, k * 7 + 5, none⟩ = some (.int .i64 x1) := gt 5 (by omega)
        have f6 : w4.cell? ⟨g3, k * 7 + 6, none⟩ = some (.int .i64 y1) := gt 6 (by omega)
        have HP4 := hide hP4
        have hki : (k : Int) < (n2 : Int) := by omega
        have hki0 : (0 : Int) ≤ (k : Int) := by omega
        have HO := hide (odd_any w.heap.size ⟨r, k1, v1, f1, t1, x1, y1⟩ w4 hD4)
        unfold Cd.arr at HO
        simp only at HO
        clear gt ek hP4 hi0 hi1 hD4 hg4 hga hgb hkl
        go_wp2_with fail
        refine HO.out.mono ?_
        rintro e w5 ⟨⟨r', k1', v1', f1'', t1', x1', b1'⟩, rfl, hD5, hg5⟩
        have hP5 := HP4.out.next hg5 hD5 hw1 (Nat.le_refl _)
        have gt := fun j (hj : j < 7) => (hP5.own2.cellAt (k * 7 + j) (by have := HKL.out; omega)).trans (cdCells_get cs2 k HKL.out j hj)
        have z0 := hP5.own2.frozenAt (k * 7)
        have z1 := hP5.own2.frozenAt (k * 7 + 1)
        have z2 := hP5.own2.frozenAt (k * 7 + 2)
        have z3 := hP5.own2.frozenAt (k * 7 + 3)
        have z4 := hP5.own2.frozenAt (k * 7 + 4)
        have z5 := hP5.own2.frozenAt (k * 7 + 5)
        have z6 := hP5.own2.frozenAt (k * 7 + 6)
        have HP5 := hide hP5
        have y0 : w5.cell? ⟨g3, k * 7, none⟩ = _ := gt 0 (by omega)
        have y1' : w5.cell? ⟨g3, k * 7 + 1, none⟩ = _ := gt 1 (by omega)
        have y2 : w5.cell? ⟨g3, k * 7 + 2, none⟩ = _ := gt 2 (by omega)
        have y3 : w5.cell? ⟨g3, k * 7 + 3, none⟩ = _ := gt 3 (by omega)
        have y4 : w5.cell? ⟨g3, k * 7 + 4, none⟩ = _ := gt 4 (by omega)
        have y5 : w5.cell? ⟨g3, k * 7 + 5, none⟩ = _ := gt 5 (by omega)
        have y6 : w5.cell? ⟨g3, k * 7 + 6, none⟩ = _ := gt 6 (by omega)
        simp only [Cd.arr, List.getElem?_toArray] at y0 y1' y2 y3 y4 y5 y6
        clear gt hP5 f0 f1' f2 f3 f4 f5 f6 hD5 hg5 HO
        dsimp only [Cd.arr]
        go_wp2_with fail
        go_meet
        exact ⟨cs2.set k ⟨r', k1', v1', f1'', t1', x1', b1'⟩, lap_set HP5.out hg3b (by omega) (by omega) HKL.out ⟨r', k1', v1', f1'', t1', x1', b1'⟩⟩
    case rest =>
      rename World => w6
      obtain ⟨cs3, hP6⟩ := hcut
      have q9 := Blk.new w6 22 #[.slice A2 n2 c2, .slice A3 n2 c3, .slice A0 n0 c0]
      have HP7 := hide (hP6.below (bel1 (w := w6) (o := .cells #[.slice A2 n2 c2, .slice A3 n2 c3, .slice A0 n0 c0] 22)))
      have hgb : w.heap.size < w6.heap.size := hP6.deck.lt
      clear hP6 HP3 HAP
      go_upto_region 10 with fail
      generalize w6.alloc _ = w7 at *
      generalize w6.heap.size = g66 at *
      have HQ9 := hide q9
      clear q9
      go_loopw [68] (fun v wr => ∃ k : Nat, k ≤ 3 ∧ v = .int .i64 k ∧ LaP w w.heap.size w1.heap.size A2 n2 c2 cs2 A3 n2 c3 cs3 wr ∧ Blk wr g66 22 #[.slice A2 n2 c2, .slice A3 n2 c3, .slice A0 n0 c0]) (fun v _ => 3 - (intOf v).toNat)
      case atStart => exact ⟨0, by omega, rfl, HP7.out, HQ9.out⟩
      case round =>
        obtain ⟨k, hk, rfl, hP, hq⟩ := hrel
        rename World => wr
        by_cases hlt : k < 3
        · have hki : (k : Int) < 3 := by omega
          have hki0 : (0 : Int) ≤ (k : Int) := by omega
          obtain ⟨C, q, e, xs, l0, ho, hq210⟩ := la_at (cs2 := cs2) (cs3 := cs3) (cs0 := cs0) hq (by omega) (by omega) (by omega) hlt
          have HO := hide ho
          have hsl := hP.sl HR.out ho
          have hql := (len_cs hsl).1
          have HQL := hide hql
          have HP := hide hP
          have HQ := hide hq
          have HC1 := hide (fun W h => check_all C q e xs W h)
          have HC2 := hide (fun W h => rcheck_all C q e xs W h)
          generalize errA q xs = E at HC1 HC2
          obtain ⟨os, H1, H2⟩ := order_both C q e xs (by omega) hql
          replace H1 := hide H1
          replace H2 := hide H2
          have hee : (E != E) = false := by simp
          obtain ⟨lo, hlo⟩ : ∃ lo, os.length = lo := ⟨_, rfl⟩
          have HLO := hide hlo
          clear hP hq ho hql hlo
          go_upto_region 12 with fail
          clear l0
          go_wp2_with fail
          refine (HC1.out wr hsl).mono ?_
          rintro e1 w8 ⟨rfl, hb8⟩
          have HB8 := hide hb8
          have hs8 := hsl.thr hb8
          clear hb8 hsl
          go_wp2_with fail
          refine (HC2.out w8 hs8).mono ?_
          rintro e1 w9 ⟨rfl, hb9⟩
          have HB9 := hide (bthr HB8.out hb9 HB8.out.size)
          have hs9 := hs8.thr hb9
          clear hb9 hs8 HB8
          go_wp2_with fail
          refine (H1.out w9 hs9).mono ?_
          rintro e1 w10 ⟨A5, c5, rfl, ho5, hb10⟩
          rw [HLO.out] at ho5 ⊢
          have HB10 := hide (bthr HB9.out hb10 HB9.out.size)
          have hs10 := hs9.thr hb10
          have HO5 := hide ho5
          clear hb10 hs9 HB9 ho5
          go_wp2_with fail
          refine (H2.out w10 hs10).mono ?_
          rintro e1 w11 ⟨A6, c6, rfl, ho6, hb11⟩
          rw [HLO.out] at ho6 ⊢
          have HSM := hide (same_yes A5 A6 lo c5 c6 os w11 (HO5.out.thr hb11) ho6)
          have HB11 := hide (bthr HB10.out hb11 HB10.out.size)
          clear hb11 hs10 HB10 ho6 HO5 H1 H2 HC1 HC2 HLO
          go_wp2_with fail
          refine HSM.out.mono ?_
          rintro e1 w12 ⟨rfl, hb12⟩
          have hB12 := bthr HB11.out hb12 HB11.out.size
          have hP12 := HP.out.below hB12
          have hq12 := HQ.out.below hB12 HQ.out.lt
          clear hb12 hB12 HSM HB11 HP HQ hee
          go_wp2_with fail
          refine (next_any _ 366 (by omega) _ hP12.deck).mono ?_
          rintro e1 w13 ⟨v1, rfl, -, -, hD13, hg13, -⟩
          have hP13 := hP12.next hg13 hD13 hw1 (Nat.le_refl _)
          have hq13 := hq12.only hg13 (by omega)
          clear hP12 hq12 hD13 hg13
          go_wp2_with fail
          refine (next_any _ 150 (by omega) _ hP13.deck).mono ?_
          rintro e1 w14 ⟨v2, rfl, hv20, hv21, hD14, hg14, -⟩
          have hP14 := hP13.next hg14 hD14 hw1 (Nat.le_refl _)
          have hq14 := hq13.only hg14 (by omega)
          have hv2 : v2 < 150 := by omega
          clear hP13 hq13 hD14 hg14 hv21
          go_wp2_with fail
          refine (next_any _ 30 (by omega) _ hP14.deck).mono ?_
          rintro e1 w15 ⟨v3, rfl, -, -, hD15, hg15, -⟩
          have hP15 := hP14.next hg15 hD15 hw1 (Nat.le_refl _)
          have hq15 := hq14.only hg15 (by omega)
          clear hP14 hq14 hD15 hg15
          go_wp2_with fail
          refine (next_any _ 60 (by omega) _ hP15.deck).mono ?_
          rintro e1 w16 ⟨v4, rfl, -, -, hD16, hg16, -⟩
          have hP16 := hP15.next hg16 hD16 hw1 (Nat.le_refl _)
          have hq16 := hq15.only hg16 (by omega)
          clear hP15 hq15 hD16 hg16
          go_wp2_with fail
          refine (next_any _ 10 (by omega) _ hP16.deck).mono ?_
          rintro e1 w17 ⟨v5, rfl, -, -, hD17, hg17, -⟩
          have hP17 := hP16.next hg17 hD17 hw1 (Nat.le_refl _)
          have hq17 := hq16.only hg17 (by omega)
          clear hP16 hq16 hD17 hg17
          go_wp2_with fail
          refine (mod_any lv 200 (by omega) (by omega) _).mono ?_
          rintro e1 w' ⟨rfl, rfl⟩
          obtain ⟨m1, hm1⟩ : ∃ m1 : Int, lv % 200 = m1 := ⟨_, rfl⟩
          rw [hm1]
          clear hm1
          go_wp2_with fail
          refine (mod_any bf 40 (by omega) (by omega) _).mono ?_
          rintro e1 w' ⟨rfl, rfl⟩
          obtain ⟨m2, hm2⟩ : ∃ m2 : Int, bf % 40 = m2 := ⟨_, rfl⟩
          rw [hm2]
          clear hm2
          go_wp2_with fail
          refine (mod_any rl 60 (by omega) (by omega) _).mono ?_
          rintro e1 w' ⟨rfl, rfl⟩
          obtain ⟨m3, hm3⟩ : ∃ m3 : Int, rl % 60 = m3 := ⟨_, rfl⟩
          rw [hm3]
          clear hm3
          have p109 := Blk.new w17 39 #[.int .i64 dy, .int .i64 lv, .int .i64 bf, .int .i64 rl, .int .i64 v1, .int .i64 (80 + v2), .int .i64 v3, .int .i64 v4, .int .i64 v5, .int .i64 m1, .int .i64 m2, .int .i64 m3]
          have hb18 := bel1 (w := w17) (o := .cells #[.int .i64 dy, .int .i64 lv, .int .i64 bf, .int .i64 rl, .int .i64 v1, .int .i64 (80 + v2), .int .i64 v3, .int .i64 v4, .int .i64 v5, .int .i64 m1, .int .i64 m2, .int .i64 m3] 39)
          have HP18 := hide (hP17.below hb18)
          have HQ18 := hide (hq17.below hb18 hq17.lt)
          clear hP17 hq17 hb18
          go_upto_region 15 with fail
          generalize w17.alloc _ = w18 at *
          generalize w17.heap.size = g109 at *
          have HS18 := hide (HP18.out.sl HR.out HO.out)
          have HT18 := hide (HT.out.below HP18.out.bel HT.out.pos)
          have P109 := hide p109
          clear p109 hv20 hv2
          go_loopw [111] (fun u wx => ∃ j : Nat, j ≤ 3 ∧ u = .int .i64 j ∧ Below w18.heap.size w18 wx) (fun u _ => 3 - (intOf u).toNat)
          case atStart => exact ⟨0, by omega, rfl, Below.refl _ _⟩
          case round =>
            obtain ⟨j, hj, rfl, hbj⟩ := hrel
            rename World => wx
            by_cases hj3 : j < 3
            · have hji : (j : Int) < 3 := by omega
              have hji0 : (0 : Int) ≤ (j : Int) := by omega
              obtain ⟨u0, u1, u2, u3, l0, l1, l2, l3⟩ := quad_at (P109.out.below hbj P109.out.lt) hj3
              have p20 := Blk.new wx 39 #[.int .i64 u0, .int .i64 u1, .int .i64 u2, .int .i64 u3]
              have HB19 := hide (bthr hbj (bel1 (w := wx) (o := .cells #[.int .i64 u0, .int .i64 u1, .int .i64 u2, .int .i64 u3] 39)) hbj.size)
              clear hbj
              obtain ⟨acs, E1, H1, H2⟩ := active_both C q e xs u0 u1 HQL.out
              obtain ⟨ks, bs, E2, H3, H4⟩ := kept_both C q e xs u0 u1 u2 u3 HQL.out
              obtain ⟨la, hla⟩ : ∃ la, acs.length = la := ⟨_, rfl⟩
              obtain ⟨lk, hlk⟩ : ∃ lk, ks.length = lk := ⟨_, rfl⟩
              obtain ⟨lb, hlb⟩ : ∃ lb, bs.length = lb := ⟨_, rfl⟩
              have HLA := hide hla
              have HLK := hide hlk
              have HLB := hide hlb
              replace H1 := hide H1
              replace H2 := hide H2
              replace H3 := hide H3
              replace H4 := hide H4
              have he1 : (E1 != E1) = false := by simp
              have he2 : (E2 != E2) = false := by simp
              clear hla hlk hlb
              go_upto_region 17 with fail
              clear l0 l1 l2 l3
              generalize wx.alloc _ = w19 at *
              generalize wx.heap.size = g20 at *
              obtain ⟨c0, c1, c2', c3'⟩ := facts4L p20
              go_wp2_with fail
              refine (H1.out w19 (HS18.out.thr HB19.out)).mono ?_
              rintro e1 w20 ⟨A5, d5, rfl, ho5, hb20⟩
              rw [HLA.out] at ho5 ⊢
              have HO5 := hide ho5
              have HB20 := hide (bthr HB19.out hb20 HB19.out.size)
              replace p20 := p20.below hb20 p20.lt
              clear ho5 hb20 c0 c1 c2' c3'
              obtain ⟨c0, c1, c2', c3'⟩ := facts4L p20
              go_wp2_with fail
              refine (H2.out w20 (HS18.out.thr HB20.out)).mono ?_
              rintro e1 w21 ⟨A6, d6, rfl, ho6, hb21⟩
              rw [HLA.out] at ho6 ⊢
              have HO5 := hide (HO5.out.thr hb21)
              have HO6 := hide ho6
              have HB21 := hide (bthr HB20.out hb21 HB20.out.size)
              replace p20 := p20.below hb21 p20.lt
              clear ho6 hb21 c0 c1 c2' c3'
              obtain ⟨c0, c1, c2', c3'⟩ := facts4L p20
              go_wp2_with fail
              refine (H3.out w21 (HT18.out.below HB21.out HT18.out.pos) (HS18.out.thr HB21.out)).mono ?_
              rintro e1 w22 ⟨A7, d7, A8, d8, rfl, ho7, ho8, hb22⟩
              rw [HLK.out] at ho7 ⊢
              rw [HLB.out] at ho8 ⊢
              have HO5 := hide (HO5.out.thr hb22)
              have HO6 := hide (HO6.out.thr hb22)
              have HO7 := hide ho7
              have HO8 := hide ho8
              have HB22 := hide (bthr HB21.out hb22 HB21.out.size)
              replace p20 := p20.below hb22 p20.lt
              clear ho7 ho8 hb22 c0 c1 c2' c3'
              obtain ⟨c0, c1, c2', c3'⟩ := facts4L p20
              go_wp2_with fail
              refine (H4.out w22 (HS18.out.thr HB22.out)).mono ?_
              rintro e1 w23 ⟨A9, d9, A10, d10, rfl, ho9, ho10, hb23⟩
              rw [HLK.out] at ho9 ⊢
              rw [HLB.out] at ho10 ⊢
              have HS1 := hide (fun (W : World) (hW : Below w23.heap.size w23 W) => same_yes A5 A6 la d5 d6 acs W ((HO5.out.thr hb23).thr hW) ((HO6.out.thr hb23).thr hW))
              have HS2 := hide (fun (W : World) (hW : Below w23.heap.size w23 W) => same_yes A7 A9 lk d7 d9 ks W ((HO7.out.thr hb23).thr hW) (ho9.thr hW))
              have HS3 := hide (fun (W : World) (hW : Below w23.heap.size w23 W) => same_yes A8 A10 lb d8 d10 bs W ((HO8.out.thr hb23).thr hW) (ho10.thr hW))
              have HB23 := hide (bthr HB22.out hb23 HB22.out.size)
              replace p20 := p20.below hb23 p20.lt
              have P20 := hide p20
              clear ho9 ho10 hb23 c0 c1 c2' c3' p20 H1 H2 H3 H4 HO5 HO6 HO7 HO8 HLA HLK HLB
              go_wp2_with fail
              refine (HS1.out w23 (Below.refl _ _)).mono ?_
              rintro e1 w24 ⟨rfl, hb24⟩
              have HB24 := hide hb24
              clear hb24
              go_wp2_with fail
              refine (HS2.out w24 HB24.out).mono ?_
              rintro e1 w25 ⟨rfl, hb25⟩
              have HB25 := hide (bthr HB24.out hb25 HB24.out.size)
              clear hb25
              go_wp2_with fail
              refine (HS3.out w25 HB25.out).mono ?_
              rintro e1 w26 ⟨rfl, hb26⟩
              have HB26 := hide (bthr HB25.out hb26 HB25.out.size)
              have HB27 := hide (bthr HB23.out HB26.out HB23.out.size)
              have P27 := hide (P20.out.below HB26.out P20.out.lt)
              have HS27 := hide (HS18.out.thr HB27.out)
              have HT27 := hide (HT18.out.below HB27.out HT18.out.pos)
              clear hb26 HB24 HB25 HB26 HS1 HS2 HS3 P20 HB19 HB20 HB21 HB22 HB23 he1 he2
              go_wp2_with fail
              have hq63 : (q : Int) ≤ 9223372036854775807 := by omega
              go_loopw [189] (fun u wy => ∃ i : Nat, i ≤ q ∧ u = .int .i64 i ∧ Below w26.heap.size w26 wy) (fun u _ => q - (intOf u).toNat)
              case atStart => exact ⟨0, by omega, rfl, Below.refl _ _⟩
              case round =>
                obtain ⟨i, hi, rfl, hbi⟩ := hrel
                rename World => wy
                by_cases hiq : i < q
                · have hii : (i : Int) < (q : Int) := by omega
                  have hii0 : (0 : Int) ≤ (i : Int) := by omega
                  obtain ⟨b1, o1, rfl, _, hcl⟩ := (HS27.out.thr hbi).at_ hiq
                  have hL := HQL.out
                  rcases ei : xs[i]'(by omega) with ⟨r, kd, vv, f, t, x, y⟩
                  obtain ⟨s0, s1, s2, s3, s4, s5, s6⟩ := cd_cells (B := 0) (n := 0) (c := 0) hcl (by omega) ei
                  have p32 := Blk.new wy 32 #[.int .i64 r, .int .i64 kd, .int .i64 vv, .int .i64 f, .int .i64 t, .int .i64 x, .int .i64 y]
                  have HB28 := hide (bthr hbi (bel1 (w := wy) (o := .cells #[.int .i64 r, .int .i64 kd, .int .i64 vv, .int .i64 f, .int .i64 t, .int .i64 x, .int .i64 y] 32)) hbi.size)
                  obtain ⟨l, m, ok, H1, H2⟩ := bnd_both ⟨r, kd, vv, f, t, x, y⟩ u2
                  obtain ⟨ap, H3, H4⟩ := app_both ⟨r, kd, vv, f, t, x, y⟩ u0 u1
                  unfold Cd.arr at H1 H2 H3 H4
                  replace H1 := hide H1
                  replace H2 := hide H2
                  replace H3 := hide H3
                  replace H4 := hide H4
                  clear hcl ei hL hbi
                  go_upto_region 26 with fail
                  clear s0 s1 s2 s3 s4 s5 s6
                  generalize wy.alloc _ = w28 at *
                  generalize wy.heap.size = g32 at *
                  have p20 := P27.out.below HB28.out P27.out.lt
                  obtain ⟨c0, c1, c2', c3'⟩ := facts4L p20
                  obtain ⟨⟨s0, s1, s2, s3, s4, s5, s6⟩, _⟩ := Blk.facts7 p32
                  go_wp2_with fail
                  refine (H1.out w28 (HT27.out.below HB28.out HT27.out.pos)).mono ?_
                  rintro e1 w29 ⟨rfl, hb29⟩
                  have p33 := Blk.new w29 47 #[.int .i64 l, .int .i64 m]
                  have hbx := bel1 (w := w29) (o := .cells #[.int .i64 l, .int .i64 m] 47)
                  have hb30 := bthr hb29 hbx hb29.size
                  have HB30 := hide (bthr HB28.out hb30 HB28.out.size)
                  replace p20 := p20.below hb30 p20.lt
                  replace p32 := p32.below hb30 p32.lt
                  clear hb29 hbx hb30 c0 c1 c2' c3' s0 s1 s2 s3 s4 s5 s6
                  go_upto_region 27 with fail
                  generalize w29.alloc _ = w30 at *
                  generalize w29.heap.size = g33 at *
                  obtain ⟨c0, c1, c2', c3'⟩ := facts4L p20
                  obtain ⟨⟨s0, s1, s2, s3, s4, s5, s6⟩, _⟩ := Blk.facts7 p32
                  go_wp2_with fail
                  refine (H2.out w30).mono ?_
                  rintro e1 w31 ⟨rfl, hb31⟩
                  have p35 := Blk.new w31 47 #[.int .i64 l, .int .i64 m]
                  have hbx := bel1 (w := w31) (o := .cells #[.int .i64 l, .int .i64 m] 47)
                  have hb32 := bthr hb31 hbx hb31.size
                  have HB32 := hide (bthr HB30.out hb32 HB30.out.size)
                  replace p20 := p20.below hb32 p20.lt
                  replace p32 := p32.below hb32 p32.lt
                  replace p33 := p33.below hb32 p33.lt
                  clear hb31 hbx hb32 c0 c1 c2' c3' s0 s1 s2 s3 s4 s5 s6
                  go_upto_region 28 with fail
                  generalize w31.alloc _ = w32 at *
                  generalize w31.heap.size = g35 at *
                  obtain ⟨c0, c1, c2', c3'⟩ := facts4L p20
                  obtain ⟨⟨s0, s1, s2, s3, s4, s5, s6⟩, _⟩ := Blk.facts7 p32
                  obtain ⟨t0, t1, _⟩ := p33.facts2
                  obtain ⟨v0, v1', _⟩ := p35.facts2
                  have hne : Nonempty (InW fun W => Below w32.heap.size w32 W) := ⟨⟨w32, Below.refl _ _⟩⟩
                  replace c0 := inv_cell c0
                  replace c1 := inv_cell c1
                  replace s0 := inv_cell s0
                  replace s1 := inv_cell s1
                  replace s2 := inv_cell s2
                  replace s3 := inv_cell s3
                  replace s4 := inv_cell s4
                  replace s5 := inv_cell s5
                  replace s6 := inv_cell s6
                  replace t0 := inv_cell t0
                  replace t1 := inv_cell t1
                  replace v0 := inv_cell v0
                  replace v1' := inv_cell v1'
                  have h11 : (ok != ok) = false := by simp
                  have h12 : (ap != ap) = false := by simp
                  have h13 : (l == l) = true := by simp
                  have h14 : (m == m) = true := by simp
                  clear c2' c3' p20 p32 p33 p35 H1 H2
                  refine wp_region_inv (I := fun W => Below w32.heap.size w32 W) (by kernel_rfl) (by kernel_rfl) (Below.refl _ _).drew ?_
                  repeat (go_big_quiet_step (first | (go_at_call 23; refine inv_call (inv_closed w32) (H3.out _)) | (go_at_call 24; refine inv_call (inv_closed w32) (H4.out _))))
                  refine wpQuiet_nil ?_
                  rintro _ ⟨⟨w33, h33⟩, rfl⟩
                  rename World => w33
                  have HB33 := hide (bthr HB32.out h33 HB32.out.size)
                  clear c0 c1 s0 s1 s2 s3 s4 s5 s6 t0 t1 v0 v1' hne h33 h11 h12 h13 h14
                  go_wp2
                  go_roundw
                  case rel => exact ⟨i + 1, by omega, by go_num, HB33.out⟩
                  case measure => simp [intOf]; omega
                · have hiq2 : ¬ ((i : Int) < (q : Int)) := by omega
                  have HB34 := hide (bthr HB27.out hbi HB27.out.size)
                  clear hbi
                  go_wp2
                  go_roundw
                  case rel => exact ⟨j + 1, by omega, by go_num, HB34.out⟩
                  case measure => simp [intOf]; omega
            · have hj4 : ¬ ((j : Int) < 3) := by omega
              have hP9 := HP18.out.below hbj
              have hQ9 := HQ18.out.below hbj HQ18.out.lt
              have HP9 := hide hP9
              have HQ9 := hide hQ9
              clear hbj hP9 hQ9
              go_wp2
              go_roundw
              case rel => exact ⟨k + 1, by omega, by go_num, HP9.out, HQ9.out⟩
              case measure => simp [intOf]; omega
        · have hk3 : ¬ ((k : Int) < 3) := by omega
          have HTZ := hide (HT.out.below hP.bel HT.out.pos)
          have HBZ := hide hP.bel
          clear hP hq
          go_wp2_with fail
          refine (awake_any _ HTZ.out).mono ?_
          rintro e1 wz ⟨rfl, hbz⟩
          have HBY := hide (bthr HBZ.out hbz HBZ.out.size)
          clear hbz
          go_wp2
          go_ret
          exact ⟨rfl, HBY.out⟩
end Go.Proofs.YtegjihcokndemaaDoor
