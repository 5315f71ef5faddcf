/-
  Contracts of asked and wrong: the first error of rights, a day and a number. Condition: the list can be read.
-/
import Derived.Test.YtfcmgmcidngjeaaProg
import Derived.Test.YtfcmgmcidngjeaaRgc
namespace Go.Proofs.Ytfcmgmcidngjeaa
open Go.RowKit

def askE (rs : List Rt) (day x g : Int) : Int := if ckR rs ≠ 0 then ckR rs else if wit day 364 = false ∨ wit x g = false then 1 else 0
def wrgE (rs : List Rt) (day : Int) : Int := if ckR rs ≠ 0 then ckR rs else if wit day 364 = false then 1 else 0
theorem ask_wrg (rs : List Rt) (day : Int) : askE rs day 0 0 = wrgE rs day := by
  have h : wit 0 0 = true := by decide
  unfold askE wrgE
  rw [h]; simp
theorem ask_wrg2 (rs : List Rt) (day x g : Int) : askE rs day x g = if wrgE rs day ≠ 0 then wrgE rs day else if wit x g = false then 1 else 0 := by
  unfold askE wrgE
  by_cases h : ckR rs = 0
  · simp only [h]
    cases wit day 364 <;> cases wit x g <;> simp
  · simp [h]
set_option maxRecDepth 20000 in
theorem asked_any (A : Option Addr) (n c : Nat) (rs : List Rt) (day x g : Int) (w : World) (hs : Sl w w.heap.size 4 A n c (rtCells rs)) :
    Calls Try.prog 27 #[.slice A n c, .int .i64 day, .int .i64 x, .int .i64 g] w fun e w' => e = .returned (.int .i64 (askE rs day x g)) ∧ Below w.heap.size w w' := by
  have HC := hide (ckr_any A n c rs w hs)
  have HE := hide (show askE rs day x g = if ckR rs ≠ 0 then ckR rs else if wit day 364 = false ∨ wit x g = false then 1 else 0 from rfl)
  generalize ckR rs = ce at *
  generalize askE rs day x g = ae at *
  clear hs
  go_enter Try.func27, Try.ntmps27
  go_wp2_with fail
  refine HC.out.mono ?_
  rintro e w2 ⟨rfl, hb⟩
  by_cases hce : ce = 0
  · have hq : (ce != 0) = false := by simp [hce]
    have HE2 := hide (HE.out.trans (if_neg (by simp [hce])))
    clear HE hce HC
    go_wp2_with fail
    refine (is_any _ _).mono ?_
    rintro e w' ⟨rfl, rfl⟩
    cases hd : wit day 364
    · have HX := hide (HE2.out.trans (if_pos (.inl hd)))
      clear HE2 hd
      go_wp2
      go_ret
      exact ⟨by rw [HX.out]; first | done | rfl, hb⟩
    · go_wp2_with fail
      refine (within_any _ _ _).mono ?_
      rintro e w' ⟨rfl, rfl⟩
      cases hx : wit x g
      · have HX := hide (HE2.out.trans (if_pos (.inr hx)))
        clear HE2 hd hx
        go_wp2
        go_ret
        exact ⟨by rw [HX.out]; first | done | rfl, hb⟩
      · have HX := hide (HE2.out.trans (if_neg (by rw [hd, hx]; simp)))
        clear HE2 hd hx
        go_wp2
        go_ret
        exact ⟨by rw [HX.out]; first | done | rfl, hb⟩
  · have hq : (ce != 0) = true := by simp [hce]
    have HX := hide (HE.out.trans (if_pos hce))
    clear HE hce HC
    go_wp2
    go_ret
    exact ⟨by rw [HX.out]; first | done | rfl, hb⟩
set_option maxRecDepth 20000 in
theorem rwrong_any (A : Option Addr) (n c : Nat) (rs : List Rt) (day : Int) (w : World) (hs : Sl w w.heap.size 4 A n c (rtCells rs)) :
    Calls Try.prog 29 #[.slice A n c, .int .i64 day] w fun e w' => e = .returned (.int .i64 (wrgE rs day)) ∧ Below w.heap.size w w' := by
  have HC := hide (rckr_any A n c rs w hs)
  have HE := hide (show wrgE rs day = if ckR rs ≠ 0 then ckR rs else if wit day 364 = false then 1 else 0 from rfl)
  generalize ckR rs = ce at *
  generalize wrgE rs day = ae at *
  clear hs
  go_enter Try.func29, Try.ntmps29
  go_wp2_with fail
  refine HC.out.mono ?_
  rintro e w2 ⟨rfl, hb⟩
  by_cases hce : ce = 0
  · have hq : (ce != 0) = false := by simp [hce]
    have HE2 := hide (HE.out.trans (if_neg (by simp [hce])))
    clear HE hce HC
    go_wp2_with fail
    refine (risday_any _ _).mono ?_
    rintro e w' ⟨rfl, rfl⟩
    cases hd : wit day 364
    · have HX := hide (HE2.out.trans (if_pos hd))
      clear HE2 hd
      go_wp2
      go_ret
      exact ⟨by rw [HX.out]; first | done | rfl, hb⟩
    · have HX := hide (HE2.out.trans (if_neg (by rw [hd]; simp)))
      clear HE2 hd
      go_wp2
      go_ret
      exact ⟨by rw [HX.out]; first | done | rfl, hb⟩
  · have hq : (ce != 0) = true := by simp [hce]
    have HX := hide (HE.out.trans (if_pos hce))
    clear HE hce HC
    go_wp2
    go_ret
    exact ⟨by rw [HX.out]; first | done | rfl, hb⟩
end Go.Proofs.Ytfcmgmcidngjeaa
