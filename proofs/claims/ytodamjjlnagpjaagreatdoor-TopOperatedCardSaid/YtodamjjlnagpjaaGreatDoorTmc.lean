/-
  The contract of make.Unit: a valid unit, its rows the call's own. Condition: the deck lies in memory.
  The contracts of the reference's chapter 18 that the maker of a unit's state asks: Check, inside, Flows at grain 1. Condition: the unit lies in memory and is valid.
-/
import Derived.Test.YtodamjjlnagpjaaGreatDoorProg
import Derived.Test.YtodamjjlnagpjaaGreatDoorTmr
import Derived.Test.YtodamjjlnagpjaaGreatDoorExt
import Derived.Deep.RegionLaw
import Derived.Test.YtodamjjlnagpjaaGreatDoorTul
namespace Go.Proofs.YtodamjjlnagpjaaGreatDoor
open Go.RowKit

theorem slBo : SlT Tryz.prog 88 45 2 := slT_of (z := .agg #[.int .i64 0, .int .i64 0]) (bytes := 16) Tryz.underlying88 (by kernel_rfl) rfl (by decide) (by decide)
theorem sl_two {W : World} {g : Nat} {t : TypeId} {x y : Value} (h : Blk W g t #[x, y]) : Sl W W.heap.size 2 (some ⟨g, 0, none⟩) 1 1 [x, y] := by
  refine ⟨rfl, Nat.le_refl _, by unfold maxLen; omega, fun _ => ⟨g, 0, rfl, h.lt, fun j u hu => ?_⟩⟩
  rw [h.facts.1, Nat.zero_add, ← hu]
  simp
def UnitMade (b : Nat) (w : World) (e : Ending) (w' : World) : Prop := ∃ u : Un, e = .returned (.agg u.arr) ∧ UnG u ∧ w'.ownsRow w.heap.size 57 2 u.t.v u.t.n (ptCells u.t.ps) ∧ w'.ownsRow w.heap.size 45 2 u.r.v u.r.n (ptCells u.r.ps) ∧ Dk w' b ∧ w.grownBy w' (some b)
set_option maxHeartbeats 1600000 in
set_option maxRecDepth 20000 in
theorem mkunit_any (b : Nat) (w : World) (hD : Dk w b) : Calls Tryz.prog 42 #[.pointer (some ⟨b, 0, none⟩)] w (UnitMade b w) := by
  have hbl := hD.lt
  have hD0 := hD.alloc (.cells #[.slice none 0 0, .int .i64 0, .int .i64 0, .slice none 0 0, .int .i64 0, .int .i64 0] 90)
  have q0 := Blk.new w 90 #[.slice none 0 0, .int .i64 0, .int .i64 0, .slice none 0 0, .int .i64 0, .int .i64 0]
  have hg0 : w.grownBy (w.alloc (.cells #[.slice none 0 0, .int .i64 0, .int .i64 0, .slice none 0 0, .int .i64 0, .int .i64 0] 90)) (some b) := grown_alloc (grown_refl _ _) _
  have hsz0 : w.heap.size < (w.alloc (.cells #[.slice none 0 0, .int .i64 0, .int .i64 0, .slice none 0 0, .int .i64 0, .int .i64 0] 90)).heap.size := by simp
  go_enter Tryz.func42, Tryz.ntmps42
  go_wp2_with fail
  generalize w.alloc _ = w0 at *
  refine (mkcurve_any b 0 0 10 30 false (by omega) (by omega) (by omega) (by omega) w0 hD0).mono ?_
  rintro e w1 ⟨A, n, c, ps, rfl, hn, hn2, hn5, hcl, hrow, hD1, hg1⟩
  have HCL := hide hcl
  have HN := hide hn
  clear hcl hn
  go_wp2_with fail
  refine (next_any _ _ (by omega) _ hD1).mono ?_
  rintro e w2 ⟨v1, rfl, h10, h11, hD2, hg2, hz2⟩
  obtain ⟨lo, hlo⟩ : ∃ lo, 1 + v1 = lo := ⟨_, rfl⟩
  have hlo1 : 1 ≤ lo ∧ lo ≤ 8 := by omega
  go_wp2_with fail
  refine (next_any _ _ (by omega) _ hD2).mono ?_
  rintro e w3 ⟨up, rfl, h20, h21, hD3, hg3, hz3⟩
  go_wp2_with fail
  refine (next_any _ _ (by omega) _ hD3).mono ?_
  rintro e w4 ⟨dn, rfl, h30, h31, hD4, hg4, hz4⟩
  have q4 := (((q0.only hg1 (by omega)).only hg2 (by omega)).only hg3 (by omega)).only hg4 (by omega)
  have hgr4 := hide (grown_trans (grown_trans (grown_trans (grown_trans hg0 hg1) hg2) hg3) hg4)
  have hzz : w.heap.size < w4.heap.size := by have := hg1.size; omega
  have hrow4 := hide (ownsRow_base (own_deck (own_deck (own_deck hrow hg2 (by omega)) hg3 (by omega)) hg4 (by omega)) (show w.heap.size ≤ w0.heap.size by omega))
  have hzr : w.heap.size < w0.heap.size := hsz0
  have hrowX := hide (own_deck (own_deck (own_deck hrow hg2 (by omega)) hg3 (by omega)) hg4 (by omega))
  have hx0 : w.heap.size < w0.heap.size := hsz0
  have HUG := hide (fun (hi : Int) (zs : List Pt) (hhi : lo ≤ hi ∧ hi ≤ 19) (hz : ∀ z ∈ zs, 0 ≤ z.x ∧ z.x < z.y ∧ z.y ≤ 100) (hzl : zs.length ≤ 2) => (show ∀ (A2 : Option Addr) (n2 c2 : Nat), UnG ⟨⟨A, n, c, ps⟩, lo, hi, ⟨A2, n2, c2, zs⟩, up, dn⟩ from fun A2 n2 c2 => ⟨HCL.out.curve (by omega) (by omega) (by have := HN.out; omega), by simp only; omega, by simp only; omega, hz, by simp only; omega, by simp only; omega⟩))
  have u5 := Blk.new w4 90 #[.slice A n c, .int .i64 lo, .int .i64 0, .slice none 0 0, .int .i64 up, .int .i64 dn]
  have hD5 := hD4.alloc (.cells #[.slice A n c, .int .i64 lo, .int .i64 0, .slice none 0 0, .int .i64 up, .int .i64 dn] 90)
  have hg5 : w4.grownBy (w4.alloc (.cells #[.slice A n c, .int .i64 lo, .int .i64 0, .slice none 0 0, .int .i64 up, .int .i64 dn] 90)) (some b) := grown_alloc (grown_refl _ _) _
  have hs5 : (w4.alloc (.cells #[.slice A n c, .int .i64 lo, .int .i64 0, .slice none 0 0, .int .i64 up, .int .i64 dn] 90)).heap.size = w4.heap.size + 1 := by simp
  obtain ⟨c0, c1, c2, c3, c4, c5, cf⟩ := u5.facts6
  clear hD hD0 hD1 hD2 hD3 hD4 hg0 hg1 hg2 hg3 hg4 q0 hrow hsz0
  have hzw : w.heap.size < w1.heap.size := by omega
  clear hz2 hz3 hz4 hzr
  have hU : b < w4.heap.size := by omega
  go_wp2_with fail
  generalize w4.alloc _ = w5 at *
  clear hlo h10 h11
  go_cut [] (fun wx => ∃ hi : Int, (lo ≤ hi ∧ hi ≤ 19) ∧ Blk wx w4.heap.size 90 #[.slice A n c, .int .i64 lo, .int .i64 hi, .slice none 0 0, .int .i64 up, .int .i64 dn] ∧ Dk wx b ∧ w4.grownBy wx (some b) ∧ w4.heap.size < wx.heap.size)
  case first =>
    go_region_law (go_simp; go_at_call 11; refine (next_any b 12 (by omega) w5.drew hD5.drew).mono ?_; rintro e w6 ⟨v6, rfl, h60, h61, hD6, hg6, hz6⟩; have u6 := u5.drew.only hg6 (by omega); obtain ⟨d0, d1, d2, d3, d4, d5, df⟩ := u6.facts6; have hwr : IntKind.i64.wrap (lo + v6) = lo + v6 := (by rw [IntKind.wrap_i64]; omega))
    all_goals
      have k6 := u6.set_ 2 (.int .i64 (lo + v6))
      simp only [List.setIfInBounds_toArray, List.set_cons_zero, List.set_cons_succ] at k6
      have hR : ∃ hi : Int, (lo ≤ hi ∧ hi ≤ 19) ∧ Blk (w6.setCell ⟨w4.heap.size, 2, none⟩ (.int .i64 (lo + v6))) w4.heap.size 90 #[.slice A n c, .int .i64 lo, .int .i64 hi, .slice none 0 0, .int .i64 up, .int .i64 dn] ∧ Dk (w6.setCell ⟨w4.heap.size, 2, none⟩ (.int .i64 (lo + v6))) b ∧ w4.grownBy (w6.setCell ⟨w4.heap.size, 2, none⟩ (.int .i64 (lo + v6))) (some b) ∧ w4.heap.size < (w6.setCell ⟨w4.heap.size, 2, none⟩ (.int .i64 (lo + v6))).heap.size :=
        ⟨_, by omega, k6, hD6.set (p := ⟨w4.heap.size, 2, none⟩) hU _, grown_set (grown_trans (grown_drew hg5) hg6) (p := ⟨w4.heap.size, 2, none⟩) (.inr (Nat.le_refl _)) _, k6.lt⟩
      have HR := hide hR
      clear hR k6 d0 d1 d2 d3 d4 d5 df u6 hD6 hg6
      go_wp2_with fail
      go_meet
      exact HR.out
  case rest =>
    rename World => w6
    obtain ⟨hi, hhi, u6, hD6, hg6, hz6⟩ := hcut
    have HG6 := hide hg6
    clear c0 c1 c2 c3 c4 c5 cf u5 hD5 hg5 hg6 hs5
    go_wp2_with fail
    refine (next_any _ _ (by omega) _ hD6).mono ?_
    rintro e w7 ⟨v7, rfl, h70, h71, hD7, hg7, hz7⟩
    have u7 := u6.only hg7 (by omega)
    have HG7 := hide (grown_trans HG6.out hg7)
    have hz77 : w4.heap.size < w7.heap.size := by omega
    clear u6 hD6 hg7 hz7 hz6 HG6
    go_wp2
    go_loopw [4] (fun kv wr => ∃ (m : Nat) (rv : Value) (zs : List Pt), kv = .int .i64 m ∧ m + zs.length ≤ 2 ∧ Hid (∀ z ∈ zs, 0 ≤ z.x ∧ z.x < z.y ∧ z.y ≤ 100) ∧ Blk wr w4.heap.size 90 #[.slice A n c, .int .i64 lo, .int .i64 hi, rv, .int .i64 up, .int .i64 dn] ∧ wr.ownsRow (w4.heap.size + 1) 45 2 rv zs.length (ptCells zs) ∧ Dk wr b ∧ w4.grownBy wr (some b)) (fun i _ => (intOf i).toNat)
    case atStart => exact ⟨v7.toNat, .slice none 0 0, [], by rw [Int.toNat_of_nonneg h70], by simp; omega, hide (by simp), u7, World.ownsRow_nil _ _ _ _, hD7, HG7.out⟩
    case round =>
      obtain ⟨m, rv, zs, rfl, hm, hgood, hbu, hv, hDr, hgr⟩ := hrel
      have HGR := hide hgr
      have hszr := hbu.lt
      by_cases h0 : m = 0
      · subst h0
        obtain ⟨A2, c2, rfl, _⟩ := own_sl hv
        have hr1 := own_deck hrow4.out hgr hbl
        have hn1 : (Value.slice A n c).ownBlock ≠ some w.heap.size := fun e => by have := (hrowX.out.lt _ e).1; omega
        have hn3 : (Value.slice A2 zs.length c2).ownBlock ≠ some w.heap.size := fun e => by have := (hv.lt _ e).1; omega
        have hv2 := hv
        have q9 : Blk wr w.heap.size 90 #[.slice none 0 0, .int .i64 0, .int .i64 0, .slice none 0 0, .int .i64 0, .int .i64 0] := q4.only hgr (by omega)
        have hfin := ((((((q9.set_ 0 (.slice A n c)).set_ 1 (.int .i64 lo)).set_ 2 (.int .i64 hi)).set_ 3 (.slice A2 zs.length c2)).set_ 4 (.int .i64 up)).set_ 5 (.int .i64 dn))
        have hDf := ((((((hDr.set (p := ⟨w.heap.size, 0, none⟩) hbl (.slice A n c)).set (p := ⟨w.heap.size, 1, none⟩) hbl (.int .i64 lo)).set (p := ⟨w.heap.size, 2, none⟩) hbl (.int .i64 hi)).set (p := ⟨w.heap.size, 3, none⟩) hbl (.slice A2 zs.length c2)).set (p := ⟨w.heap.size, 4, none⟩) hbl (.int .i64 up)).set (p := ⟨w.heap.size, 5, none⟩) hbl (.int .i64 dn))
        have hGf := (grown_set (grown_set (grown_set (grown_set (grown_set (grown_set (grown_trans hgr4.out hgr) (p := ⟨w.heap.size, 0, none⟩) (.inr (Nat.le_refl _)) (.slice A n c)) (p := ⟨w.heap.size, 1, none⟩) (.inr (Nat.le_refl _)) (.int .i64 lo)) (p := ⟨w.heap.size, 2, none⟩) (.inr (Nat.le_refl _)) (.int .i64 hi)) (p := ⟨w.heap.size, 3, none⟩) (.inr (Nat.le_refl _)) (.slice A2 zs.length c2)) (p := ⟨w.heap.size, 4, none⟩) (.inr (Nat.le_refl _)) (.int .i64 up)) (p := ⟨w.heap.size, 5, none⟩) (.inr (Nat.le_refl _)) (.int .i64 dn))
        have hR1 := (own_set (own_set (own_set (own_set (own_set (own_set hr1 (p := ⟨w.heap.size, 0, none⟩) hn1 (.slice A n c)) (p := ⟨w.heap.size, 1, none⟩) hn1 (.int .i64 lo)) (p := ⟨w.heap.size, 2, none⟩) hn1 (.int .i64 hi)) (p := ⟨w.heap.size, 3, none⟩) hn1 (.slice A2 zs.length c2)) (p := ⟨w.heap.size, 4, none⟩) hn1 (.int .i64 up)) (p := ⟨w.heap.size, 5, none⟩) hn1 (.int .i64 dn))
        have hR2 := ownsRow_base (own_set (own_set (own_set (own_set (own_set (own_set hv2 (p := ⟨w.heap.size, 0, none⟩) hn3 (.slice A n c)) (p := ⟨w.heap.size, 1, none⟩) hn3 (.int .i64 lo)) (p := ⟨w.heap.size, 2, none⟩) hn3 (.int .i64 hi)) (p := ⟨w.heap.size, 3, none⟩) hn3 (.slice A2 zs.length c2)) (p := ⟨w.heap.size, 4, none⟩) hn3 (.int .i64 up)) (p := ⟨w.heap.size, 5, none⟩) hn3 (.int .i64 dn)) (show w.heap.size ≤ w4.heap.size + 1 by omega)
        simp only [List.setIfInBounds_toArray, List.set_cons_zero, List.set_cons_succ] at hfin
        obtain ⟨u0, u1, u2, u3, u4, u5, uf⟩ := hfin.facts6
        have hP : UnitMade b w (.returned (.agg #[.slice A n c, .int .i64 lo, .int .i64 hi, .slice A2 zs.length c2, .int .i64 up, .int .i64 dn])) _ := ⟨⟨⟨A, n, c, ps⟩, lo, hi, ⟨A2, zs.length, c2, zs⟩, up, dn⟩, rfl, HUG.out hi zs hhi hgood.out (by omega) _ _ _, hR1, hR2, hDf, hGf⟩
        have HP := hide hP
        obtain ⟨c0, c1, c2', c3, c4, c5, cf⟩ := hbu.facts6
        obtain ⟨z0, z1, z2, z3, z4, z5, zf⟩ := q9.facts6
        clear hP hR1 hR2 hDf hGf hfin q9 hv2 hr1 hgr hDr hbu hv
        go_wp2
        refine bodyPost_ret (v := .agg #[.slice A n c, .int .i64 lo, .int .i64 hi, .slice A2 zs.length c2, .int .i64 up, .int .i64 dn]) (by simp [results, Tryz.results42, go_sem, u0, u1, u2, u3, u4, u5]) rfl HP.out
      · have hm0' : (0 : Int) < (m : Int) := by omega
        have HV := hide hv
        clear hv hgr u7 hD7
        go_wp2_with fail
        refine (next_any _ _ (by omega) _ hDr).mono ?_
        rintro e w8 ⟨a, rfl, ha0, ha1, hD8, hg8, hz8⟩
        have u8 := hbu.only hg8 (by omega)
        have HG8 := hide (grown_trans HGR.out hg8)
        have HV8 := hide (own_deck HV.out hg8 (by omega))
        clear hz8 hbu hDr hg8 HGR HV
        obtain ⟨c0, c1, c2, c3, c4, c5, cf⟩ := u8.facts6
        have hwa : IntKind.i64.wrap (a + 1) = a + 1 := by rw [IntKind.wrap_i64]; omega
        go_wp2_with fail
        go_region_law (first | (refine step_ext (w := (w9.alloc (.cells #[.int .i64 a, .int .i64 y] 45))) rfl (.tmp 31) (.tmp 39) 88 rfl (w4.heap.size + 1) _ _ slBo rv zs.length (ptCells zs) (by simp [Act.eval]) rA.out _ _ _ _ _ (by simp [Act.eval]) slA.out (by simp [Value.oneCell']) (by omega) zA ?_; intro v' w11 hv11 hg11 _; obtain ⟨gv, cv, rfl, hgv, _⟩ := hv11.form (by omega); have u11 : Blk w11 w4.heap.size 90 #[.slice A n c, .int .i64 lo, .int .i64 hi, rv, .int .i64 up, .int .i64 dn] := (hg11.block w4.heap.size uA.out.lt (fun e => by have := (rA.out.lt _ e.symm).1; omega)).trans uA.out; obtain ⟨f0, f1, f2, f3, f4, f5, ff⟩ := u11.facts6) | (go_simp; go_at_call 11; refine (next_any b 5 (by omega) w8.drew hD8.drew).mono ?_; rintro e w9 ⟨v9, rfl, h90, h91, hD9, hg9, hz9⟩; have u9 := u8.drew.only hg9 (by omega); obtain ⟨e0, e1, e2, e3, e4, e5, ef⟩ := u9.facts6; obtain ⟨y, hy⟩ : ∃ y, a + 1 + v9 = y := ⟨_, rfl⟩; have hyb : a < y ∧ y ≤ 100 := (by omega); have hwy : IntKind.i64.wrap y = y := (by rw [IntKind.wrap_i64]; omega); have rA := hide (World.ownsRow.alloc (own_deck (show w8.drew.ownsRow _ _ _ _ _ _ from World.ownsRow.drew HV8.out) hg9 (by omega)) (.cells #[.int .i64 a, .int .i64 y] 45)); have uA := hide (u9.alloc (.cells #[.int .i64 a, .int .i64 y] 45)); have e3a := uA.out.facts6.2.2.2.1; have slA := hide (sl_two (Blk.new w9 45 #[.int .i64 a, .int .i64 y])); have zA : w4.heap.size + 1 ≤ (w9.alloc (.cells #[.int .i64 a, .int .i64 y] 45)).heap.size := (by have := u9.lt; simp only [World.size_alloc]; omega); have DA := hide (hD9.alloc (.cells #[.int .i64 a, .int .i64 y] 45)); have GA := hide (grown_alloc (grown_trans (grown_drew HG8.out) hg9) (.cells #[.int .i64 a, .int .i64 y] 45)); clear u9 hD9 hg9 hz9))
        all_goals
          have k12 := u11.set_ 3 (.slice (some ⟨gv, 0, none⟩) (zs.length + 1) cv)
          simp only [List.setIfInBounds_toArray, List.set_cons_zero, List.set_cons_succ] at k12
          have K12 := hide k12
          have D12 := hide ((DA.out.other hg11 (fun j hj => by have := (rA.out.lt j hj).1; omega)).set (p := ⟨w4.heap.size, 3, none⟩) hU (.slice (some ⟨gv, 0, none⟩) (zs.length + 1) cv))
          have G12 := hide (grown_set (grown_push GA.out hg11 (fun j hj => by have := (rA.out.lt j hj).1; omega)) (p := ⟨w4.heap.size, 3, none⟩) (.inr (Nat.le_refl _)) (.slice (some ⟨gv, 0, none⟩) (zs.length + 1) cv))
          have R12 := hide (own_set hv11 (p := ⟨w4.heap.size, 3, none⟩) (fun e => by simp only [Value.ownBlock, Option.some.injEq] at e; omega) (.slice (some ⟨gv, 0, none⟩) (zs.length + 1) cv))
          clear k12 u11 hv11 hg11 f0 f1 f2 f3 f4 f5 ff e0 e1 e2 e3 e4 e5 ef e3a c0 c1 c2 c3 c4 c5 cf rA uA slA DA GA HV8 HG8 u8 hD8
          go_wp2
          go_roundw
          case rel =>
            refine ⟨m - 1, _, zs ++ [⟨a, y⟩], by go_num, by simp; omega, hide fun z hz => ?_, K12.out, ?_, D12.out, G12.out⟩
            · rcases List.mem_append.1 hz with h | h
              · exact hgood.out z h
              · rw [List.mem_singleton] at h; subst h; simp only; omega
            · rw [List.length_append]
              exact own_cells R12.out (by rw [ptCells_append]; rfl)
          case measure => simp [intOf]; omega
end Go.Proofs.YtodamjjlnagpjaaGreatDoor
namespace Go.Proofs.YtodamjjlnagpjaaGreatDoor
open Go.RowKit

set_option maxHeartbeats 1600000 in
set_option maxRecDepth 20000 in
theorem rucheck_ok (u : Un) (hg : UnG u) (w : World) (hs : u.ok w) :
    Calls Tryz.prog 59 #[.agg u.arr] w fun e w' => e = .returned (.int .i64 0) ∧ Below w.heap.size w w' := by
  have q0 := Blk.new w 90 u.arr
  have hb0 := bel1 (w := w) (o := .cells u.arr 90)
  have hs0 := hs.below hb0
  have HK := hide (fun W h => rcvck_ok u.t hg.t W h)
  have HZ := hide hg.z
  have hzn := hg.zn
  have HL := hide hs.2.len
  have hne := hg.t.ne
  have HT := hide hg.t
  obtain ⟨hlo1, hlo2, hhi⟩ := hg.lo
  obtain ⟨hup0, hup1⟩ := hg.up
  obtain ⟨hdn0, hdn1⟩ := hg.dn
  rw [Un.arr6] at q0 hb0 hs0 ⊢
  clear hs hg
  obtain ⟨t, lo, hi, ⟨A, n, c, zs⟩, up, dn⟩ := u
  simp only at HK HL HZ hzn hne HT hlo1 hlo2 hhi hup0 hup1 hdn0 hdn1
  unfold Cv.v at q0 hb0 hs0 ⊢
  simp only at q0 hb0 hs0 ⊢
  obtain ⟨tA, tn, tc, tps⟩ := t
  simp only at HK hne HT
  have hn10 : n ≤ 10 := by have := HL.out; omega
  obtain ⟨c0, c1, c2, c3, c4, c5, cf⟩ := q0.facts6
  simp only at c0
  go_enter Tryz.func59, Tryz.ntmps59
  go_wp2_with fail
  generalize w.alloc _ = w1 at *
  refine (HK.out w1 hs0.1).mono ?_
  rintro e w2 ⟨rfl, hb2⟩
  have q2 := q0.below hb2 q0.lt
  have ht2 := hs0.1.below hb2
  have hr2 := hs0.2.below hb2
  have hB2 := bthr hb0 hb2 hb0.size
  clear c0 c1 c2 c3 c4 c5 cf hs0 hb2 q0 hb0 HK
  obtain ⟨c0, c1, c2, c3, c4, c5, cf⟩ := q2.facts6
  obtain ⟨b, o, hA, hb, hc⟩ := ht2.block hne
  simp only at hA hc
  subst hA
  have htl := ht2.len
  simp only at htl
  obtain ⟨m, hm⟩ : ∃ m : Nat, tn = m + 1 := ⟨tn - 1, by omega⟩
  have hml : m < tps.length := by omega
  have hmi : (tn : Int) - 1 = (m : Int) := by omega
  have hmn : m < tn := by omega
  have hmni : (m : Int) < (tn : Int) := by omega
  obtain ⟨m0, m1⟩ := hc m hml
  have hmb := HT.out.at_ hml
  have htn : tn ≤ 100 := by have := HT.out.le; omega
  generalize tps[m]'hml = pm at *
  obtain ⟨xm, ym⟩ := pm
  simp only at m0 m1 hmb
  have hd1 : decide (1073741824 < ym) = false := by simp; omega
  have hd2 : decide (lo < 1) = false := by simp; omega
  have hd3 : decide (hi < lo) = false := by simp; omega
  have hd4 : decide (1073741824 < hi) = false := by simp; omega
  have hd5 : decide (10 < (n : Int)) = false := by simp; omega
  clear hc m0 HT htl hm ht2
  go_wp2
  go_loopw [46] (fun i wr => ∃ k : Nat, k ≤ n ∧ i = .int .i64 k ∧ Below w2.heap.size w2 wr) (fun i _ => n - (intOf i).toNat)
  case atStart => exact ⟨0, by omega, rfl, Below.refl _ _⟩
  case round =>
    obtain ⟨k, hk, rfl, hb3⟩ := hrel
    have q3 := q2.below hb3 q2.lt
    have HB3 := hide hb3
    clear c0 c1 c2 c3 c4 c5 cf m1
    obtain ⟨c0, c1, c2, c3, c4, c5, cf⟩ := q3.facts6
    by_cases hlt : k < n
    · have hkl : k < zs.length := by have := HL.out; omega
      have hki : (k : Int) < (n : Int) := by omega
      have hs3 := Cv.ok.below hr2 hb3
      obtain ⟨b', o', hA, hb', hc⟩ := hs3.cells (k := k) hlt
      simp only at hA hc
      subst hA
      obtain ⟨e0, e1⟩ := hc k hkl
      have hzb := HZ.out _ (List.getElem_mem hkl)
      generalize zs[k]'hkl = z at *
      obtain ⟨zx, zy⟩ := z
      simp only at e0 e1 hzb
      have q1 := Blk.new wr 45 #[.int .i64 zx, .int .i64 zy]
      have HB5 := hide (hb3.alloc hb3.size (.cells #[.int .i64 zx, .int .i64 zy] 45))
      clear hb3 hc hs3
      go_upto_region 11 with fail
      clear e0 e1 c0 c1 c2 c3 c4 c5 cf
      generalize wr.alloc _ = w5 at *
      generalize wr.heap.size = g5 at *
      obtain ⟨x0, x1, xf⟩ := q1.facts2
      go_wp2_with fail
      refine (rin_true _ _ (by omega) (by omega) _).mono ?_
      rintro e w' ⟨rfl, rfl⟩
      go_wp2_with fail
      refine (rin_true _ _ (by omega) (by omega) _).mono ?_
      rintro e w' ⟨rfl, rfl⟩
      have hd6 : decide (zy ≤ zx) = false := by simp; omega
      go_wp2
      go_roundw
      case rel => exact ⟨k + 1, by omega, by go_num, HB5.out⟩
      case measure => simp [intOf]; omega
    · have hki : ¬ ((k : Int) < (n : Int)) := by omega
      have HBZ := hide (bthr hB2 hb3 hB2.size)
      clear hb3
      go_wp2_with fail
      refine (rin_true _ _ (by omega) (by omega) _).mono ?_
      rintro e w' ⟨rfl, rfl⟩
      go_wp2_with fail
      refine (rin_true _ _ (by omega) (by omega) _).mono ?_
      rintro e w' ⟨rfl, rfl⟩
      go_wp2
      go_ret
      exact ⟨rfl, HBZ.out⟩
/-- What inside gives. -/
def InsP (zs : List Pt) (f : Int) (w : World) (e : Ending) (w' : World) : Prop := ∃ (r : Int) (i : Bool), e = .returned (.tuple #[.int .i64 r, .bool i]) ∧ (i = true → f < r ∧ r ≤ 100) ∧ (i = false → clearB zs f = true) ∧ Below w.heap.size w w'
set_option maxHeartbeats 1600000 in
set_option maxRecDepth 20000 in
theorem inside_any (u : Un) (x : Int) (hg : UnG u) (w : World) (hs : u.ok w) :
    Calls Tryz.prog 88 #[.agg u.arr, .int .i64 x] w (InsP u.r.ps x w) := by
  have q0 := Blk.new w 90 u.arr
  have hb0 := bel1 (w := w) (o := .cells u.arr 90)
  have hs0 := hs.2.below hb0
  have HZ := hide hg.z
  have hzn := hg.zn
  have HL := hide hs.2.len
  rw [Un.arr6] at q0 hb0 hs0 ⊢
  generalize hr : u.r = r at *
  obtain ⟨A, n, c, zs⟩ := r
  simp only at HL HZ hzn
  unfold Cv.v at q0 hb0 hs0 ⊢
  simp only at q0 hb0 hs0 ⊢
  obtain ⟨c0, c1, c2, c3, c4, c5, cf⟩ := q0.facts6
  have hn10 : n ≤ 10 := by have := HL.out; omega
  clear hr hs
  go_enter Tryz.func88, Tryz.ntmps88
  go_wp2
  generalize w.alloc _ = w1 at *
  go_loopw [11] (fun v wr => ∃ j : Nat, j ≤ n ∧ v = .int .i64 j ∧ Hid (∀ i (hi : i < j) (h : i < zs.length), ¬ (zs[i].x < x ∧ x < zs[i].y)) ∧ Below w1.heap.size w1 wr) (fun i _ => n - (intOf i).toNat)
  case atStart => exact ⟨0, by omega, rfl, hide (fun i hi => by omega), Below.refl _ _⟩
  case round =>
    obtain ⟨j, hj, rfl, HP, hb3⟩ := hrel
    have HB3 := hide hb3
    by_cases hlt : j < n
    · have hjl : j < zs.length := by have := HL.out; omega
      have hji : (j : Int) < (n : Int) := by omega
      have hs3 := Cv.ok.below hs0 hb3
      obtain ⟨b, o, hA, hb, hc⟩ := hs3.cells (k := j) hlt
      simp only at hA hc
      subst hA
      obtain ⟨e0, e1⟩ := hc j hjl
      have hzb := HZ.out _ (List.getElem_mem hjl)
      have HPN := hide (fun (h : ¬ ((zs[j]'hjl).x < x ∧ x < (zs[j]'hjl).y)) => show ∀ i (hi : i < j + 1) (h : i < zs.length), ¬ (zs[i].x < x ∧ x < zs[i].y) from fun i hi h2 => by
        by_cases hij : i = j
        · subst hij; exact h
        · exact HP.out i (by omega) h2)
      generalize zs[j]'hjl = z at *
      obtain ⟨zx, zy⟩ := z
      simp only at e0 e1 hzb HPN
      have q1 := Blk.new wr 45 #[.int .i64 zx, .int .i64 zy]
      have HB5 := hide (hb3.alloc hb3.size (.cells #[.int .i64 zx, .int .i64 zy] 45))
      have HBZ := hide (bthr hb0 (hb3.alloc hb3.size (.cells #[.int .i64 zx, .int .i64 zy] 45)) hb0.size)
      clear HP hb3 hc hs3
      go_upto_region 4 with fail
      clear e0 e1
      generalize wr.alloc _ = w5 at *
      generalize wr.heap.size = g5 at *
      obtain ⟨x0, x1, xf⟩ := q1.facts2
      by_cases h1 : zx < x
      · by_cases h2 : x < zy
        · have h2d : decide (x < zy) = true := by simpa using h2
          have h1d : decide (zx < x) = true := by simpa using h1
          have hR : InsP zs x w (.returned (.tuple #[.int .i64 zy, .bool true])) w5 := ⟨zy, true, rfl, fun _ => by omega, (by intro h; cases h), HBZ.out⟩
          have HR := hide hR
          clear HPN q1 hR
          go_wp2
          go_ret2
          exact HR.out
        · have h2d : decide (x < zy) = false := by simpa using h2
          have h1d : decide (zx < x) = true := by simpa using h1
          have HP2 := hide (HPN.out (by omega))
          clear HPN q1
          go_wp2
          go_roundw
          case rel => exact ⟨j + 1, by omega, by go_num, HP2, HB5.out⟩
          case measure => simp [intOf]; omega
      · have h1d : decide (zx < x) = false := by simpa using h1
        have HP2 := hide (HPN.out (by omega))
        clear HPN q1
        go_wp2
        go_roundw
        case rel => exact ⟨j + 1, by omega, by go_num, HP2, HB5.out⟩
        case measure => simp [intOf]; omega
    · have hji : ¬ ((j : Int) < (n : Int)) := by omega
      have HCL := hide (show clearB zs x = true from clearB_iff.2 (fun z hz => by
        obtain ⟨i, hi, rfl⟩ := List.getElem_of_mem hz
        exact HP.out i (by have := HL.out; omega) hi))
      have HBZ := hide (bthr hb0 hb3 hb0.size)
      clear hb3 HP
      go_wp2
      go_ret2
      exact ⟨0, false, rfl, (by intro h; cases h), fun _ => HCL.out, HBZ.out⟩
/-- What Flows gives at grain 1. -/
def RFlo (rb : Int → Bool) (w : World) (e : Ending) (w' : World) : Prop := ∃ (v : Value) (xs : List Int), e = .returned (.tuple #[v, .int .i64 0]) ∧ xs.length ≤ 200 ∧ (∀ f ∈ xs, rb f = true) ∧ w'.ownsRow w.heap.size 3 1 v xs.length (ints xs) ∧ Below w.heap.size w w'
set_option maxHeartbeats 1600000 in
set_option maxRecDepth 20000 in
theorem rflows_any (u : Un) (hg : UnG u) (w : World) (hs : u.ok w) :
    Calls Tryz.prog 69 #[.agg u.arr, .int .i64 1] w (RFlo (runsB u) w) := by
  have q0 := Blk.new w 90 u.arr
  have hb0 := bel1 (w := w) (o := .cells u.arr 90)
  have hs0 := hs.below hb0
  have HK := hide (fun W h => rucheck_ok u hg W h)
  have HY := hide (fun W (f : Int) h => inside_any u f hg W h)
  have HRB := hide (fun (f : Int) (h1 : u.lo ≤ f) (h2 : f ≤ u.hi) (h3 : clearB u.r.ps f = true) => runsB_iff.2 ⟨⟨h1, h2⟩, h3⟩)
  obtain ⟨hlo1, hlo2, hhi⟩ := hg.lo
  rw [Un.arr6] at q0 hb0 hs0 HK HY ⊢
  obtain ⟨c0, c1, c2, c3, c4, c5, cf⟩ := q0.facts6
  clear hs hg
  generalize runsB u = rb at *
  generalize u.lo = lo at *
  generalize u.hi = hi at *
  generalize u.t.v = tv at *
  generalize u.r.v = rv at *
  generalize u.up = up at *
  generalize u.dn = dn at *
  generalize u.r.ps = zs at *
  go_enter Tryz.func69, Tryz.ntmps69
  go_wp2_with fail
  generalize w.alloc _ = w1 at *
  refine (HK.out _ hs0).mono ?_
  rintro e w2 ⟨rfl, hb2⟩
  have q2 := q0.below hb2 q0.lt
  have hs2 := hs0.below hb2
  have hB2 := bthr hb0 hb2 hb0.size
  clear c0 c1 c2 c3 c4 c5 cf hs0 hb0 hb2 q0 HK
  obtain ⟨c0, c1, c2, c3, c4, c5, cf⟩ := q2.facts6
  go_wp2
  clear c0 c1 c2 c3 c4 c5 cf
  go_loopw [7, 8] (fun v x wr => ∃ (y : Int) (xs : List Int), x = .int .i64 y ∧ (lo ≤ y ∧ y ≤ 101) ∧ (xs.length : Int) ≤ y - lo ∧ Hid (∀ f ∈ xs, rb f = true) ∧ wr.ownsRow w2.heap.size 3 1 v xs.length (ints xs) ∧ Below w2.heap.size w2 wr) (fun v x _ => 102 - (intOf x).toNat)
  case atStart => exact ⟨lo, [], by simp, by omega, by simp, hide (by simp), World.ownsRow_nil _ _ _ _, Below.refl _ _⟩
  case round =>
    obtain ⟨y, xs, rfl, hy, hk, hgood, hv, hb3⟩ := hrel
    have q3 := q2.below hb3 q2.lt
    have hs3 := hs2.below hb3
    obtain ⟨c0, c1, c2, c3, c4, c5, cf⟩ := q3.facts6
    obtain ⟨hy1, hy2⟩ := hy
    obtain ⟨Av, cv, rfl, _⟩ := own_sl hv
    have HV := hide hv
    have HB3 := hide hb3
    have hz2 := hb3.size
    clear hv hb3
    by_cases hth : y ≤ hi
    · have hthd : decide (y ≤ hi) = true := by simpa using hth
      go_wp2_with fail
      refine (HY.out _ y hs3).mono ?_
      rintro e w4 ⟨r, i, rfl, r1, r2, hb4⟩
      have hV4 := hide (ownsRow_below HV.out hb4)
      have HB4 := hide (bthr HB3.out hb4 HB3.out.size)
      have hz4 := hb4.size
      clear c0 c1 c2 c3 c4 c5 cf hs3 q3 hb4 HV
      cases i
      · have hkd : ((xs.length : Int) == 200) = false := by simp; omega
        have HGY := hide (HRB.out y hy1 hth (r2 rfl))
        clear r1 r2
        go_wp2_with (at_builtin; refine wpList_push rfl _ _ _ rfl w2.heap.size _ _ slInt _ _ _ rfl hV4.out _ _ rfl rfl rfl (by omega) (by omega) ?_)
        intro v' w5 hv5 hg5 _
        have HB5 := hide (HB4.out.trans (below_push hV4.out hg5 (by omega)))
        have hv5' := own_cells hv5 (show ints xs ++ [.int .i64 y] = ints (xs ++ [y]) by rw [ints_append]; rfl)
        have HV5 := hide hv5'
        clear hv5 hv5' hg5 hV4
        go_wp2
        go_roundw
        case rel =>
          refine ⟨y + 1, xs ++ [y], rfl, by omega, by simp; omega, hide fun f hf => ?_, ?_, HB5.out⟩
          · rcases List.mem_append.1 hf with h | h
            · exact hgood.out f h
            · rw [List.mem_singleton] at h; subst h; exact HGY.out
          · rw [List.length_append]; exact HV5.out
        case measure => simp [intOf]; omega
      · obtain ⟨r3, r4⟩ := r1 rfl
        clear r1 r2
        go_wp2
        go_roundw
        case rel => exact ⟨r, xs, by simp, by omega, by omega, hgood, hV4.out, HB4.out⟩
        case measure => simp [intOf]; omega
    · have hthd : decide (y ≤ hi) = false := by simpa using hth
      have HBZ := hide (bthr hB2 HB3.out hB2.size)
      have HV2 := hide (ownsRow_base HV.out hB2.size)
      have hR : RFlo rb w (.returned (.tuple #[.slice Av xs.length cv, .int .i64 0])) wr := ⟨_, xs, rfl, by omega, hgood.out, HV2.out, HBZ.out⟩
      have HR := hide hR
      clear hR
      go_wp2
      go_ret2
      exact HR.out
end Go.Proofs.YtodamjjlnagpjaaGreatDoor
