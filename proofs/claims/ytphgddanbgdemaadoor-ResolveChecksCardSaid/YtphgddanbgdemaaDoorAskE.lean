/-
  Contracts of both Checks, of Asked and of the reference's Active at any conditions and numbers: the error. No condition but that the list can be read.
-/
import Derived.Test.YtphgddanbgdemaaDoorProg
import Derived.Test.YtphgddanbgdemaaDoorCkx
import Derived.Test.YtphgddanbgdemaaDoorAcv
import Derived.Test.YtphgddanbgdemaaDoorRac
namespace Go.Proofs.YtphgddanbgdemaaDoor
open Go.RowKit

/-- the first error of a list, also of one that is too long -/
def errA (n : Nat) (cs : List Cd) : Int := if 200 < n then 10 else errL cs
theorem errA_zero {n : Nat} {cs : List Cd} (h : errA n cs = 0) : n ≤ 200 ∧ ∀ x ∈ cs, x.err = 0 := by
  unfold errA at h
  by_cases hn : 200 < n
  · rw [if_pos hn] at h; cases h
  · rw [if_neg hn] at h; exact ⟨by omega, (errL_zero cs).1 h⟩
theorem len_cs {w : World} {A : Option Addr} {n c : Nat} {cs : List Cd} (hs : Sl w w.heap.size 7 A n c (cdCells cs)) : n = cs.length ∧ n ≤ 9223372036854775807 := by
  have h1 := hs.1
  have h2 := hs.2.1
  have h3 := hs.2.2.1
  rw [cdCells_length] at h1
  unfold maxLen at h3
  omega
set_option maxRecDepth 20000 in
theorem check_all (A : Option Addr) (n c : Nat) (cs : List Cd) (w : World) (hs : Sl w w.heap.size 7 A n c (cdCells cs)) :
    Calls Tryd.prog 60 #[.slice A n c] w fun e w' => e = .returned (.int .i64 (errA n cs)) ∧ Below w.heap.size w w' := by
  by_cases hn : n ≤ 200
  · rw [show errA n cs = errL cs by unfold errA; rw [if_neg (by omega)]]
    exact check_any A n c cs w hn hs
  · rw [show errA n cs = 10 by unfold errA; rw [if_pos (by omega)]]
    have hl := (len_cs hs).2
    have hn2 : 200 < (n : Int) := by omega
    clear hs
    go_enter Tryd.func60, Tryd.ntmps60
    go_wp2
    go_ret
    exact ⟨rfl, Below.refl _ _⟩
set_option maxRecDepth 20000 in
theorem rcheck_all (A : Option Addr) (n c : Nat) (cs : List Cd) (w : World) (hs : Sl w w.heap.size 7 A n c (cdCells cs)) :
    Calls Tryd.prog 39 #[.slice A n c] w fun e w' => e = .returned (.int .i64 (errA n cs)) ∧ Below w.heap.size w w' := by
  by_cases hn : n ≤ 200
  · rw [show errA n cs = errL cs by unfold errA; rw [if_neg (by omega)]]
    exact rcheck_any A n c cs w hn hs
  · rw [show errA n cs = 10 by unfold errA; rw [if_pos (by omega)]]
    have hl := (len_cs hs).2
    have hn2 : 200 < (n : Int) := by omega
    clear hs
    go_enter Tryd.func39, Tryd.ntmps39
    go_wp2
    go_ret
    exact ⟨rfl, Below.refl _ _⟩
/-- the error of what is asked -/
def askE (n : Nat) (cs : List Cd) (d lv : Int) (zs : List Int) : Int := if errA n cs ≠ 0 then errA n cs else if wit d 364 && wit lv 16777216 && !(zs.any fun v => !wit v 1073741824) then 0 else 1
theorem askE_zero {n : Nat} {cs : List Cd} {d lv : Int} {zs : List Int} (h : askE n cs d lv zs = 0) : errA n cs = 0 ∧ wit d 364 = true ∧ wit lv 16777216 = true ∧ (zs.any fun v => !wit v 1073741824) = false := by
  unfold askE at h
  by_cases h0 : errA n cs ≠ 0
  · rw [if_pos h0] at h; exact absurd h h0
  · rw [if_neg h0] at h
    by_cases hb : (wit d 364 && wit lv 16777216 && !(zs.any fun v => !wit v 1073741824)) = true
    · simp at hb
      simp at h0
      refine ⟨h0, hb.1.1, hb.1.2, ?_⟩
      rw [Bool.eq_false_iff]
      intro h3
      obtain ⟨x, hx, h4⟩ := List.any_eq_true.1 h3
      have := hb.2 x hx
      rw [this] at h4; cases h4
    · rw [if_neg hb] at h; cases h
theorem askE_one {n : Nat} {cs : List Cd} {d lv : Int} {zs : List Int} (h0 : errA n cs = 0) (h : wit d 364 = false ∨ wit lv 16777216 = false ∨ (zs.any fun v => !wit v 1073741824) = true) : askE n cs d lv zs = 1 := by
  unfold askE
  rw [if_neg (by rw [h0]; simp), if_neg]
  rcases h with h | h | h <;> simp only [h] <;> simp
theorem askE_err {n : Nat} {cs : List Cd} {d lv : Int} {zs : List Int} (h0 : errA n cs ≠ 0) : askE n cs d lv zs = errA n cs := by
  unfold askE; rw [if_pos h0]
theorem askE_ok {n : Nat} {cs : List Cd} {d lv : Int} {zs : List Int} (h0 : errA n cs = 0) (h1 : wit d 364 = true) (h2 : wit lv 16777216 = true) (h3 : (zs.any fun v => !wit v 1073741824) = false) : askE n cs d lv zs = 0 := by
  unfold askE
  rw [if_neg (by rw [h0]; simp), if_pos]
  rw [h1, h2, h3]; rfl
set_option maxRecDepth 20000 in
theorem asked_any (A : Option Addr) (n c : Nat) (cs : List Cd) (d lv : Int) (F : Option Addr) (m k : Nat) (zs : List Int) (w : World) (hs : Sl w w.heap.size 7 A n c (cdCells cs)) (hf : Sl w w.heap.size 1 F m k (ints zs)) :
    Calls Tryd.prog 44 #[.slice A n c, .int .i64 d, .int .i64 lv, .slice F m k] w fun e w' => e = .returned (.int .i64 (askE n cs d lv zs)) ∧ Below w.heap.size w w' := by
  have HF := hide hf
  have HC := hide (check_all A n c cs w hs)
  obtain ⟨E, hE⟩ : ∃ E, errA n cs = E := ⟨_, rfl⟩
  obtain ⟨R, hR⟩ : ∃ R, askE n cs d lv zs = R := ⟨_, rfl⟩
  have HR := hide hR
  rw [hR]
  rw [hE] at HC
  clear hf hs
  by_cases h0 : E = 0
  · subst h0
    cases hd : wit d 364
    · have HD := hide hd
      have HX := hide (hR.symm.trans (askE_one hE (.inl hd)))
      clear hd hR hE
      go_enter Tryd.func44, Tryd.ntmps44
      go_wp2_with fail
      refine HC.out.mono ?_
      rintro e w1 ⟨rfl, hb1⟩
      have HB := hide hb1
      clear hb1
      go_wp2_with (first | (go_at_call 61; refine (is_any _ _).mono ?_; rintro e w' ⟨rfl, rfl⟩; rw [HD.out]))
      go_ret
      exact ⟨ret_int HX.out.symm, HB.out⟩
    · have HD := hide hd
      cases hv : wit lv 16777216
      · have HV := hide hv
        have HX := hide (hR.symm.trans (askE_one hE (.inr (.inl hv))))
        clear hd hv hR hE
        go_enter Tryd.func44, Tryd.ntmps44
        go_wp2_with fail
        refine HC.out.mono ?_
        rintro e w1 ⟨rfl, hb1⟩
        have HB := hide hb1
        clear hb1
        go_wp2_with (first | (go_at_call 61; refine (is_any _ _).mono ?_; rintro e w' ⟨rfl, rfl⟩; rw [HD.out]) | (go_at_call 51; refine (within_any _ _ _).mono ?_; rintro e w' ⟨rfl, rfl⟩; rw [HV.out]))
        go_ret
        exact ⟨ret_int HX.out.symm, HB.out⟩
      · have HV := hide hv
        have HX1 := hide (fun h => hR.symm.trans (askE_one (zs := zs) hE (.inr (.inr h))))
        have HX2 := hide (fun h => hR.symm.trans (askE_ok (zs := zs) hE hd hv h))
        clear hd hv hR hE
        go_enter Tryd.func44, Tryd.ntmps44
        go_wp2_with fail
        refine HC.out.mono ?_
        rintro e w1 ⟨rfl, hb1⟩
        have HB := hide hb1
        have HF1 := hide (HF.out.thr hb1)
        clear hb1
        go_wp2_with (first | (go_at_call 61; refine (is_any _ _).mono ?_; rintro e w' ⟨rfl, rfl⟩; rw [HD.out]) | (go_at_call 51; refine (within_any _ _ _).mono ?_; rintro e w' ⟨rfl, rfl⟩; rw [HV.out]))
        refine (contains_func0 _ cfA1 (fun v => !wit v 1073741824) F m k zs _ HF1.out (fun v => aflow_any v _)).mono ?_
        rintro e w2 ⟨rfl, rfl⟩
        cases ha : (zs.any fun v => !wit v 1073741824)
        · have HX := hide (HX2.out ha)
          clear ha HX1 HX2
          go_wp2
          go_ret
          exact ⟨ret_int HX.out.symm, HB.out⟩
        · have HX := hide (HX1.out ha)
          clear ha HX1 HX2
          go_wp2
          go_ret
          exact ⟨ret_int HX.out.symm, HB.out⟩
  · have HX := hide (hR.symm.trans ((askE_err (d := d) (lv := lv) (zs := zs) (by rw [hE]; exact h0)).trans hE))
    have hne : (E != 0) = true := by simpa using h0
    clear hR hE h0
    go_enter Tryd.func44, Tryd.ntmps44
    go_wp2_with fail
    refine HC.out.mono ?_
    rintro e w1 ⟨rfl, hb1⟩
    have HB := hide hb1
    clear hb1
    go_wp2
    go_ret
    exact ⟨ret_int HX.out.symm, HB.out⟩
set_option maxRecDepth 20000 in
theorem ractive_bad (A : Option Addr) (n c : Nat) (cs : List Cd) (d lv : Int) (w : World) (hs : Sl w w.heap.size 7 A n c (cdCells cs)) (hbad : askE n cs d lv [] ≠ 0) :
    Calls Tryd.prog 20 #[.slice A n c, .int .i64 d, .int .i64 lv] w fun e w' => e = .returned (.tuple #[.slice none 0 0, .int .i64 (askE n cs d lv [])]) ∧ Below w.heap.size w w' := by
  have HC := hide (rcheck_all A n c cs w hs)
  obtain ⟨E, hE⟩ : ∃ E, errA n cs = E := ⟨_, rfl⟩
  rw [hE] at HC
  clear hs
  by_cases h0 : E = 0
  · subst h0
    have h1 : wit d 364 = false ∨ wit lv 16777216 = false := by
      cases hd : wit d 364
      · exact .inl rfl
      · cases hv : wit lv 16777216
        · exact .inr rfl
        · exact absurd (askE_ok hE hd hv rfl) hbad
    rw [askE_one hE (h1.imp id .inl)]
    clear hbad hE
    cases hd : wit d 364
    · have HD := hide hd
      clear hd h1
      go_enter Tryd.func20, Tryd.ntmps20
      go_wp2_with fail
      refine HC.out.mono ?_
      rintro e w1 ⟨rfl, hb1⟩
      have HB := hide hb1
      clear hb1
      go_wp2_with (first | (go_at_call 40; refine (risday_any _ _).mono ?_; rintro e w' ⟨rfl, rfl⟩; rw [HD.out]))
      go_ret2
      exact ⟨rfl, HB.out⟩
    · have HD := hide hd
      have HV := hide (show wit lv 16777216 = false from h1.resolve_left (by rw [hd]; simp))
      clear hd h1
      go_enter Tryd.func20, Tryd.ntmps20
      go_wp2_with fail
      refine HC.out.mono ?_
      rintro e w1 ⟨rfl, hb1⟩
      have HB := hide hb1
      clear hb1
      go_wp2_with (first | (go_at_call 40; refine (risday_any _ _).mono ?_; rintro e w' ⟨rfl, rfl⟩; rw [HD.out]) | (go_at_call 38; refine (refIn_any _ _ _).mono ?_; rintro e w' ⟨rfl, rfl⟩; rw [HV.out]))
      go_ret2
      exact ⟨rfl, HB.out⟩
  · rw [askE_err (by rw [hE]; exact h0), hE]
    have hne : (E != 0) = true := by simpa using h0
    clear hE h0 hbad
    go_enter Tryd.func20, Tryd.ntmps20
    go_wp2_with fail
    refine HC.out.mono ?_
    rintro e w1 ⟨rfl, hb1⟩
    have HB := hide hb1
    clear hb1
    go_wp2
    go_ret2
    exact ⟨rfl, HB.out⟩
end Go.Proofs.YtphgddanbgdemaaDoor
