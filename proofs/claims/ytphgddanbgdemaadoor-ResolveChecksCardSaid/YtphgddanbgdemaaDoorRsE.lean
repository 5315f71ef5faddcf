/-
  Contracts of both checks of a choice's arguments at any arguments: the error. No condition but that the list can be read.
-/
import Derived.Test.YtphgddanbgdemaaDoorProg
import Derived.Test.YtphgddanbgdemaaDoorAskE
import Derived.Test.YtphgddanbgdemaaDoorRsk
namespace Go.Proofs.YtphgddanbgdemaaDoor
open Go.RowKit

def chE (n : Nat) (cs : List Cd) (d lv bf g0 g1 wn : Int) : Int := if askE n cs d lv [bf, wn, g0, g1] ≠ 0 then askE n cs d lv [bf, wn, g0, g1] else if g1 < g0 then 3 else 0
theorem chE_ask {n : Nat} {cs : List Cd} {d lv bf g0 g1 wn : Int} (h : askE n cs d lv [bf, wn, g0, g1] ≠ 0) : chE n cs d lv bf g0 g1 wn = askE n cs d lv [bf, wn, g0, g1] := by
  unfold chE; rw [if_pos h]
theorem chE_form {n : Nat} {cs : List Cd} {d lv bf g0 g1 wn : Int} (h : askE n cs d lv [bf, wn, g0, g1] = 0) (hg : g1 < g0) : chE n cs d lv bf g0 g1 wn = 3 := by
  unfold chE; rw [if_neg (by rw [h]; simp), if_pos hg]
theorem chE_ok {n : Nat} {cs : List Cd} {d lv bf g0 g1 wn : Int} (h : askE n cs d lv [bf, wn, g0, g1] = 0) (hg : ¬ g1 < g0) : chE n cs d lv bf g0 g1 wn = 0 := by
  unfold chE; rw [if_neg (by rw [h]; simp), if_neg hg]
theorem any4 {bf wn g0 g1 : Int} : ([bf, wn, g0, g1].any fun v => !wit v 1073741824) = false ↔ wit bf 1073741824 = true ∧ wit wn 1073741824 = true ∧ wit g0 1073741824 = true ∧ wit g1 1073741824 = true := by
  simp only [List.any_cons, List.any_nil, Bool.or_false]
  cases wit bf 1073741824 <;> cases wit wn 1073741824 <;> cases wit g0 1073741824 <;> cases wit g1 1073741824 <;> simp
theorem chE_zero {n : Nat} {cs : List Cd} {d lv bf g0 g1 wn : Int} (h : chE n cs d lv bf g0 g1 wn = 0) :
    (n ≤ 200 ∧ ∀ x ∈ cs, x.err = 0) ∧ wit d 364 = true ∧ wit lv 16777216 = true ∧ (wit bf 1073741824 = true ∧ wit wn 1073741824 = true ∧ wit g0 1073741824 = true ∧ wit g1 1073741824 = true) ∧ g0 ≤ g1 := by
  by_cases ha : askE n cs d lv [bf, wn, g0, g1] = 0
  · by_cases hg : g1 < g0
    · rw [chE_form ha hg] at h; cases h
    · obtain ⟨h1, h2, h3, h4⟩ := askE_zero ha
      exact ⟨errA_zero h1, h2, h3, any4.1 h4, by omega⟩
  · rw [chE_ask ha] at h; exact absurd h ha
theorem askE_nil {n : Nat} {cs : List Cd} {d lv : Int} {zs : List Int} (h : askE n cs d lv [] ≠ 0) : askE n cs d lv zs = askE n cs d lv [] := by
  by_cases h0 : errA n cs = 0
  · have h1 : wit d 364 = false ∨ wit lv 16777216 = false := by
      cases hd : wit d 364
      · exact .inl rfl
      · cases hv : wit lv 16777216
        · exact .inr rfl
        · exact absurd (askE_ok h0 hd hv rfl) h
    rw [askE_one h0 (h1.imp id .inl), askE_one h0 (h1.imp id .inl)]
  · rw [askE_err h0, askE_err h0]
set_option maxHeartbeats 1600000 in
set_option maxRecDepth 20000 in
theorem rsasked_any (A : Option Addr) (n c : Nat) (cs : List Cd) (d lv bf g0 g1 wn : Int) (w : World) (hs : Sl w w.heap.size 7 A n c (cdCells cs)) :
    Calls Tryd.prog 26 #[.slice A n c, .int .i64 d, .int .i64 lv, .int .i64 bf, .agg #[.int .i64 g0, .int .i64 g1], .int .i64 wn] w fun e w' => e = .returned (.int .i64 (chE n cs d lv bf g0 g1 wn)) ∧ Below w.heap.size w w' := by
  have q0 := (Blk.new w 23 #[.int .i64 g0, .int .i64 g1]).alloc (.cells #[.int .i64 bf, .int .i64 wn, .int .i64 g0, .int .i64 g1] 3)
  have q1 := Blk.new (w.alloc (.cells #[.int .i64 g0, .int .i64 g1] 23)) 3 #[.int .i64 bf, .int .i64 wn, .int .i64 g0, .int .i64 g1]
  have hB := (bel1 (w := w) (o := .cells #[.int .i64 g0, .int .i64 g1] 23)).alloc (by simp) (.cells #[.int .i64 bf, .int .i64 wn, .int .i64 g0, .int .i64 g1] 3)
  have hs1 := hs.thr hB
  rw [World.size_alloc] at q1
  have HF := hide (Sl.of_blkN (n := 4) (size := 1) (xs := ints [bf, wn, g0, g1]) q1 rfl rfl (by unfold maxLen; omega))
  clear hs q1
  obtain ⟨y0, y1, _⟩ := (Blk.new w 23 #[.int .i64 g0, .int .i64 g1]).facts2
  obtain ⟨R, hR⟩ : ∃ R, chE n cs d lv bf g0 g1 wn = R := ⟨_, rfl⟩
  have HK := hide (fun W h1 h2 => asked_any A n c cs d lv (some ⟨w.heap.size + 1, 0, none⟩) 4 4 [bf, wn, g0, g1] W h1 h2)
  rw [hR]
  by_cases h0 : askE n cs d lv [bf, wn, g0, g1] = 0
  · rw [h0] at HK
    by_cases hg : g1 < g0
    · have HR := hide (hR.symm.trans (chE_form h0 hg))
      clear hR h0
      go_enter Tryd.func26, Tryd.ntmps26
      go_wp2_with fail
      generalize ((w.alloc _).alloc _) = w2 at *
      refine (HK.out w2 hs1 HF.out).mono ?_
      rintro e w3 ⟨rfl, hb3⟩
      have hB3 := hide (bthr hB hb3 hB.size)
      replace q0 := q0.below hb3 q0.lt
      clear y0 y1 hb3 hB hs1 HF
      obtain ⟨y0, y1, _⟩ := q0.facts2
      go_wp2
      first
        | (go_ret; exact ⟨ret_int HR.out.symm, hB3.out⟩)
        | (go_quiet (fail); go_wp2; go_ret; exact ⟨ret_int HR.out.symm, hB3.out⟩)
    · have HR := hide (hR.symm.trans (chE_ok h0 hg))
      clear hR h0
      go_enter Tryd.func26, Tryd.ntmps26
      go_wp2_with fail
      generalize ((w.alloc _).alloc _) = w2 at *
      refine (HK.out w2 hs1 HF.out).mono ?_
      rintro e w3 ⟨rfl, hb3⟩
      have hB3 := hide (bthr hB hb3 hB.size)
      replace q0 := q0.below hb3 q0.lt
      clear y0 y1 hb3 hB hs1 HF
      obtain ⟨y0, y1, _⟩ := q0.facts2
      go_wp2
      go_ret
      exact ⟨ret_int HR.out.symm, hB3.out⟩
  · have HR := hide (hR.symm.trans (chE_ask h0))
    clear hR
    generalize askE n cs d lv [bf, wn, g0, g1] = E at *
    have hne : (E != 0) = true := by simpa using h0
    clear h0
    go_enter Tryd.func26, Tryd.ntmps26
    go_wp2_with fail
    generalize ((w.alloc _).alloc _) = w2 at *
    refine (HK.out w2 hs1 HF.out).mono ?_
    rintro e w3 ⟨rfl, hb3⟩
    have hB3 := hide (bthr hB hb3 hB.size)
    clear y0 y1 hb3 hB hs1 HF q0
    go_wp2
    go_ret
    exact ⟨ret_int HR.out.symm, hB3.out⟩
theorem getD4 {p : Int → Prop} {bf wn g0 g1 : Int} (h : ∀ k, k < 4 → p ([bf, wn, g0, g1].getD k 0)) : p bf ∧ p wn ∧ p g0 ∧ p g1 := ⟨h 0 (by omega), h 1 (by omega), h 2 (by omega), h 3 (by omega)⟩
theorem any_at4 {bf wn g0 g1 : Int} {k : Nat} (hk : k < 4) (h : wit ([bf, wn, g0, g1].getD k 0) 1073741824 = false) : ([bf, wn, g0, g1].any fun v => !wit v 1073741824) = true := by
  rw [List.any_eq_true]
  refine ⟨[bf, wn, g0, g1].getD k 0, ?_, by rw [h]; rfl⟩
  rw [List.getD_eq_getElem?_getD, List.getElem?_eq_getElem (by simpa using hk)]
  exact List.getElem_mem _
set_option maxHeartbeats 3200000 in
set_option maxRecDepth 20000 in
theorem rwrong_any (A : Option Addr) (n c : Nat) (cs : List Cd) (d lv bf g0 g1 wn : Int) (w : World) (hs : Sl w w.heap.size 7 A n c (cdCells cs)) :
    Calls Tryd.prog 19 #[.slice A n c, .int .i64 d, .int .i64 lv, .int .i64 bf, .agg #[.int .i64 g0, .int .i64 g1], .int .i64 wn] w fun e w' => e = .returned (.int .i64 (chE n cs d lv bf g0 g1 wn)) ∧ Below w.heap.size w w' := by
  have hB := bel1 (w := w) (o := .cells #[.int .i64 g0, .int .i64 g1] 23)
  have q0 := Blk.new w 23 #[.int .i64 g0, .int .i64 g1]
  have hs1 := hs.thr hB
  clear hs
  obtain ⟨R, hR⟩ : ∃ R, chE n cs d lv bf g0 g1 wn = R := ⟨_, rfl⟩
  rw [hR]
  by_cases h0 : askE n cs d lv [] = 0
  · obtain ⟨ha, hd, hv, _⟩ := askE_zero h0
    obtain ⟨hn, hg⟩ := errA_zero ha
    have H1 := hide (fun (k : Nat) (hk : k < 4) (h : wit ([bf, wn, g0, g1].getD k 0) 1073741824 = false) => show R = 1 by
      have e := askE_one (d := d) (lv := lv) (zs := [bf, wn, g0, g1]) ha (.inr (.inr (any_at4 hk h)))
      rw [← hR, chE_ask (by rw [e]; decide), e])
    have H2 := hide (fun (h : ∀ k, k < 4 → wit ([bf, wn, g0, g1].getD k 0) 1073741824 = true) (hg : g1 < g0) => show R = 3 by
      rw [← hR]; exact chE_form (askE_ok ha hd hv (any4.2 (getD4 (p := fun z => wit z 1073741824 = true) h))) hg)
    have H3 := hide (fun (h : ∀ k, k < 4 → wit ([bf, wn, g0, g1].getD k 0) 1073741824 = true) (hg : ¬ g1 < g0) => show R = 0 by
      rw [← hR]; exact chE_ok (askE_ok ha hd hv (any4.2 (getD4 (p := fun z => wit z 1073741824 = true) h))) hg)
    have HA := hide (fun W h => ractive_ok A n c cs d lv W hn hg hd hv h)
    clear h0 ha hd hv hg hR
    go_enter Tryd.func19, Tryd.ntmps19
    go_wp2_with fail
    generalize (w.alloc _) = w1 at *
    refine (HA.out w1 hs1).mono ?_
    rintro e w2 ⟨v2, os, rfl, _, _, hb2⟩
    have hB2 := bthr hB hb2 hB.size
    replace q0 := q0.below hb2 q0.lt
    obtain ⟨y0, y1, _⟩ := q0.facts2
    have q1 := Blk.new w2 3 #[.int .i64 bf, .int .i64 wn, .int .i64 g0, .int .i64 g1]
    have HB3 := hide (hB2.alloc hB2.size (.cells #[.int .i64 bf, .int .i64 wn, .int .i64 g0, .int .i64 g1] 3))
    have Q0 := hide (q0.alloc (.cells #[.int .i64 bf, .int .i64 wn, .int .i64 g0, .int .i64 g1] 3))
    have Q1 := hide q1
    clear hB hb2 hB2 hs1 q0 q1 HA
    go_wp2
    generalize (w2.alloc _) = w3 at *
    go_loop [35] (fun i => ∃ k : Nat, k ≤ 4 ∧ i = .int .i64 k ∧ Hid (∀ j, j < k → wit ([bf, wn, g0, g1].getD j 0) 1073741824 = true)) (fun i => 4 - (intOf i).toNat)
    case atStart => exact ⟨0, by omega, rfl, hide (fun j hj => by omega)⟩
    case round =>
      obtain ⟨k, hk, rfl, HP⟩ := hrel
      by_cases hlt : k < 4
      · have hx := Q1.out.facts.1 k
        have hcx : w3.cell? ⟨w2.heap.size, k, none⟩ = some (.int .i64 ([bf, wn, g0, g1].getD k 0)) := by
          rw [hx, ← ints_get [bf, wn, g0, g1] k hlt]; simp [ints]
        have hkk : (k : Int) < 4 := by omega
        have HN := hide (H1.out k hlt)
        have HY := hide (fun (h : wit ([bf, wn, g0, g1].getD k 0) 1073741824 = true) => show ∀ j, j < k + 1 → wit ([bf, wn, g0, g1].getD j 0) 1073741824 = true from fun j hj => by
          by_cases e : j = k
          · subst e; exact h
          · exact HP.out j (by omega))
        clear hx HP
        generalize [bf, wn, g0, g1].getD k 0 = z at hcx HN HY
        cases hz : wit z 1073741824
        · have HW := hide hz
          have HX := hide (HN.out hz)
          clear hz
          go_wp2_with (go_at_call 38; refine (refIn_any _ _ _).mono ?_; rintro e w' ⟨rfl, rfl⟩; rw [HW.out])
          go_ret
          exact ⟨ret_int HX.out.symm, HB3.out⟩
        · have HW := hide hz
          have HX := hide (HY.out hz)
          clear hz
          go_wp2_with (go_at_call 38; refine (refIn_any _ _ _).mono ?_; rintro e w' ⟨rfl, rfl⟩; rw [HW.out])
          go_round
          case rel => exact ⟨k + 1, by omega, by go_num, HX⟩
          case measure => simp [intOf]; omega
      · obtain rfl : k = 4 := by omega
        obtain ⟨y2, y3, _⟩ := Q0.out.facts2
        by_cases hg : g1 < g0
        · have HX := hide (H2.out HP.out hg)
          go_wp2
          go_ret
          exact ⟨ret_int HX.out.symm, HB3.out⟩
        · have HX := hide (H3.out HP.out (by omega))
          go_wp2
          go_ret
          exact ⟨ret_int HX.out.symm, HB3.out⟩
  · have HR := hide (show askE n cs d lv [] = R by
      rw [← hR]
      have e := askE_nil (zs := [bf, wn, g0, g1]) h0
      rw [chE_ask (by rw [e]; exact h0), e])
    have HA := hide (fun W h => ractive_bad A n c cs d lv W h h0)
    clear hR
    generalize askE n cs d lv [] = E at *
    have hne : (E != 0) = true := by simpa using h0
    clear h0 q0
    go_enter Tryd.func19, Tryd.ntmps19
    go_wp2_with fail
    generalize (w.alloc _) = w1 at *
    refine (HA.out w1 hs1).mono ?_
    rintro e w2 ⟨rfl, hb2⟩
    have HB2 := hide (bthr hB hb2 hB.size)
    clear hB hb2 hs1 HA
    go_wp2
    go_ret
    exact ⟨ret_int HR.out, HB2.out⟩
end Go.Proofs.YtphgddanbgdemaaDoor
