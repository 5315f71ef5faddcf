/-
  The errors of the reference's Active, Allot, Call, Before and Needs, and of the program's: the same. Condition: the rights can be read.
  The program's and the reference's answers about rights are the same ones, at any arguments. Condition: the rights can be read.
-/
import Derived.Test.YtfcmgmcidngjeaaProg
import Derived.Test.YtfcmgmcidngjeaaRae
import Derived.Test.YtfcmgmcidngjeaaRca
import Derived.Test.YtfcmgmcidngjeaaRbf
import Derived.Test.YtfcmgmcidngjeaaSame
namespace Go.Proofs.Ytfcmgmcidngjeaa
open Go.RowKit

/-- the error of Allot, Call (greatest 1073741824) and of Before (16777216): the program's word is askE -/
theorem ask_cases {rs : List Rt} {day x g : Int} (h : askE rs day x g = 0) : ckR rs = 0 ∧ wit day 364 = true ∧ wit x g = true := by
  unfold askE at h
  by_cases h1 : ckR rs = 0
  · rw [if_neg (by simp [h1])] at h
    by_cases h2 : wit day 364 = false ∨ wit x g = false
    · rw [if_pos h2] at h; omega
    · refine ⟨h1, ?_, ?_⟩
      · cases e : wit day 364
        · exact absurd (.inl e) h2
        · rfl
      · cases e : wit x g
        · exact absurd (.inr e) h2
        · rfl
  · rw [if_pos h1] at h; exact absurd h h1
theorem wrg_cases {rs : List Rt} {day : Int} (h : wrgE rs day = 0) : ckR rs = 0 ∧ wit day 364 = true := by
  rw [← ask_wrg] at h
  obtain ⟨h1, h2, _⟩ := ask_cases h
  exact ⟨h1, h2⟩
theorem act_len {rs : List Rt} (h : ckR rs = 0) (day : Int) : (actF rs day rs.length).length ≤ 200 := by
  have h1 := actF_len rs day rs.length
  have := (ck_ok h).1
  omega
section
variable (A : Option Addr) (n c : Nat) (rs : List Rt) (day x : Int) (w : World)
set_option maxHeartbeats 1600000 in
set_option maxRecDepth 20000 in
theorem pactive_err (hs : Sl w w.heap.size 4 A n c (rtCells rs)) (he : wrgE rs day ≠ 0) :
    Calls Try.prog 11 #[.slice A n c, .int .i64 day] w fun e w' => e = .returned (.tuple #[.slice none 0 0, .int .i64 (wrgE rs day)]) ∧ Below w.heap.size w w' := by
  have HWR := hide (asked_any A n c rs day 0 0 w hs)
  rw [ask_wrg] at HWR
  generalize wrgE rs day = x at *
  clear hs
  go_enter Try.func11, Try.ntmps11
  go_wp2_with fail
  refine HWR.out.mono ?_
  rintro e w1 ⟨rfl, hb1⟩
  have HB := hide hb1
  clear hb1 HWR
  have hx : (x != 0) = true := by simpa using he
  go_wp2
  go_ret2
  exact ⟨rfl, HB.out⟩
set_option maxHeartbeats 1600000 in
set_option maxRecDepth 20000 in
theorem pallot_err (hs : Sl w w.heap.size 4 A n c (rtCells rs)) (he : askE rs day x 1073741824 ≠ 0) :
    Calls Try.prog 13 #[.slice A n c, .int .i64 x, .int .i64 day] w fun e w' => e = .returned (.tuple #[.slice none 0 0, .int .i64 (askE rs day x 1073741824)]) ∧ Below w.heap.size w w' := by
  have HWR := hide (asked_any A n c rs day x 1073741824 w hs)
  generalize askE rs day x 1073741824 = z at *
  clear hs
  go_enter Try.func13, Try.ntmps13
  go_wp2_with fail
  refine HWR.out.mono ?_
  rintro e w1 ⟨rfl, hb1⟩
  have HB := hide hb1
  clear hb1 HWR
  have hx : (z != 0) = true := by simpa using he
  go_wp2
  go_ret2
  exact ⟨rfl, HB.out⟩
set_option maxHeartbeats 1600000 in
set_option maxRecDepth 20000 in
theorem pcall_err (hs : Sl w w.heap.size 4 A n c (rtCells rs)) (he : askE rs day x 1073741824 ≠ 0) :
    Calls Try.prog 15 #[.slice A n c, .int .i64 x, .int .i64 day] w fun e w' => e = .returned (.tuple #[.int .i64 0, .bool false, .int .i64 (askE rs day x 1073741824)]) ∧ Below w.heap.size w w' := by
  have HWR := hide (pallot_err A n c rs day x w hs he)
  generalize askE rs day x 1073741824 = z at *
  clear hs
  go_enter Try.func15, Try.ntmps15
  go_wp2_with fail
  refine HWR.out.mono ?_
  rintro e w1 ⟨rfl, hb1⟩
  have HB := hide hb1
  clear hb1 HWR
  have hx : (z != 0) = true := by simpa using he
  go_wp2
  go_ret3
  exact ⟨rfl, HB.out⟩
set_option maxHeartbeats 1600000 in
set_option maxRecDepth 20000 in
theorem pbefore_err (hs : Sl w w.heap.size 4 A n c (rtCells rs)) (he : askE rs day x 16777216 ≠ 0) :
    Calls Try.prog 17 #[.slice A n c, .int .i64 x, .int .i64 day] w fun e w' => e = .returned (.tuple #[.int .i64 0, .int .i64 (askE rs day x 16777216)]) ∧ Below w.heap.size w w' := by
  have HWR := hide (asked_any A n c rs day x 16777216 w hs)
  generalize askE rs day x 16777216 = z at *
  clear hs
  go_enter Try.func17, Try.ntmps17
  go_wp2_with fail
  refine HWR.out.mono ?_
  rintro e w1 ⟨rfl, hb1⟩
  have HB := hide hb1
  clear hb1 HWR
  have hx : (z != 0) = true := by simpa using he
  go_wp2
  go_ret2
  exact ⟨rfl, HB.out⟩
set_option maxHeartbeats 1600000 in
set_option maxRecDepth 20000 in
theorem pneeds_err (hs : Sl w w.heap.size 4 A n c (rtCells rs)) (he : wrgE rs day ≠ 0) :
    Calls Try.prog 19 #[.slice A n c, .int .i64 day] w fun e w' => e = .returned (.tuple #[.int .i64 0, .int .i64 (wrgE rs day)]) ∧ Below w.heap.size w w' := by
  have HWR := hide (asked_any A n c rs day 0 0 w hs)
  rw [ask_wrg] at HWR
  generalize wrgE rs day = z at *
  clear hs
  go_enter Try.func19, Try.ntmps19
  go_wp2_with fail
  refine HWR.out.mono ?_
  rintro e w1 ⟨rfl, hb1⟩
  have HB := hide hb1
  clear hb1 HWR
  have hx : (z != 0) = true := by simpa using he
  go_wp2
  go_ret2
  exact ⟨rfl, HB.out⟩
/-- the reference -/
theorem ask_out {rs : List Rt} {day x g : Int} (h : ckR rs = 0) (_ : wit day 364 = true) (hx : wit x g = false) : askE rs day x g = 1 := by
  unfold askE
  rw [if_neg (by simp [h]), if_pos (.inr hx)]
theorem ask_w {rs : List Rt} {day x g : Int} (h : wrgE rs day ≠ 0) : askE rs day x g = wrgE rs day := by
  rw [ask_wrg2, if_pos h]
set_option maxHeartbeats 1600000 in
set_option maxRecDepth 20000 in
theorem rallot_err (hs : Sl w w.heap.size 4 A n c (rtCells rs)) (he : askE rs day x 1073741824 ≠ 0) :
    Calls Try.prog 14 #[.slice A n c, .int .i64 x, .int .i64 day] w fun e w' => e = .returned (.tuple #[.slice none 0 0, .int .i64 (askE rs day x 1073741824)]) ∧ Below w.heap.size w w' := by
  by_cases hw : wrgE rs day = 0
  · obtain ⟨hck, hd⟩ := wrg_cases hw
    have hx : wit x 1073741824 = false := by
      cases e : wit x 1073741824
      · rfl
      · exact absurd (ask_ok hck hd e) he
    rw [ask_out hck hd hx]
    have hn : n ≤ 1000 := by have := rlen hs; have := (ck_ok hck).1; omega
    have HAL := hide (ractive_any A n c rs day w hs hck hd hn)
    have HIV := hide (fun W => refIn_any x 1073741824 W)
    rw [hx] at HIV
    clear hs hck hd hx he hw
    go_enter Try.func14, Try.ntmps14
    go_wp2_with fail
    refine HAL.out.mono ?_
    rintro e w1 ⟨A', c', rfl, hv, hb1⟩
    have HB := hide hb1
    clear hb1 hv HAL
    go_wp2_with fail
    refine (HIV.out _).mono ?_
    rintro e w2 ⟨rfl, rfl⟩
    go_wp2
    go_ret2
    exact ⟨rfl, HB.out⟩
  · rw [ask_w hw]
    have HWR := hide (ractive_err A n c rs day w hs hw)
    clear he
    generalize wrgE rs day = z at *
    clear hs
    go_enter Try.func14, Try.ntmps14
    go_wp2_with fail
    refine HWR.out.mono ?_
    rintro e w1 ⟨rfl, hb1⟩
    have HB := hide hb1
    clear hb1 HWR
    have hx : (z != 0) = true := by simpa using hw
    go_wp2
    go_ret2
    exact ⟨rfl, HB.out⟩
set_option maxHeartbeats 1600000 in
set_option maxRecDepth 20000 in
theorem rcall_err (hs : Sl w w.heap.size 4 A n c (rtCells rs)) (he : askE rs day x 1073741824 ≠ 0) :
    Calls Try.prog 16 #[.slice A n c, .int .i64 x, .int .i64 day] w fun e w' => e = .returned (.tuple #[.int .i64 0, .bool false, .int .i64 (askE rs day x 1073741824)]) ∧ Below w.heap.size w w' := by
  have HWR := hide (rallot_err A n c rs day x w hs he)
  generalize askE rs day x 1073741824 = z at *
  clear hs
  go_enter Try.func16, Try.ntmps16
  go_wp2_with fail
  refine HWR.out.mono ?_
  rintro e w1 ⟨rfl, hb1⟩
  have HB := hide hb1
  clear hb1 HWR
  have hx : (z != 0) = true := by simpa using he
  go_wp2
  go_ret3
  exact ⟨rfl, HB.out⟩
set_option maxHeartbeats 1600000 in
set_option maxRecDepth 20000 in
theorem rbefore_err (hs : Sl w w.heap.size 4 A n c (rtCells rs)) (he : askE rs day x 16777216 ≠ 0) :
    Calls Try.prog 18 #[.slice A n c, .int .i64 x, .int .i64 day] w fun e w' => e = .returned (.tuple #[.int .i64 0, .int .i64 (askE rs day x 16777216)]) ∧ Below w.heap.size w w' := by
  by_cases hw : wrgE rs day = 0
  · obtain ⟨hck, hd⟩ := wrg_cases hw
    have hx : wit x 16777216 = false := by
      cases e : wit x 16777216
      · rfl
      · exact absurd (ask_ok hck hd e) he
    rw [ask_out hck hd hx]
    have hn : n ≤ 1000 := by have := rlen hs; have := (ck_ok hck).1; omega
    have HAL := hide (ractive_any A n c rs day w hs hck hd hn)
    have HIV := hide (fun W => refIn_any x 16777216 W)
    rw [hx] at HIV
    clear hs hck hd hx he hw
    go_enter Try.func18, Try.ntmps18
    go_wp2_with fail
    refine HAL.out.mono ?_
    rintro e w1 ⟨A', c', rfl, hv, hb1⟩
    have HB := hide hb1
    clear hb1 hv HAL
    go_wp2_with fail
    refine (HIV.out _).mono ?_
    rintro e w2 ⟨rfl, rfl⟩
    go_wp2
    go_ret2
    exact ⟨rfl, HB.out⟩
  · rw [ask_w hw]
    have HWR := hide (ractive_err A n c rs day w hs hw)
    clear he
    generalize wrgE rs day = z at *
    clear hs
    go_enter Try.func18, Try.ntmps18
    go_wp2_with fail
    refine HWR.out.mono ?_
    rintro e w1 ⟨rfl, hb1⟩
    have HB := hide hb1
    clear hb1 HWR
    have hx : (z != 0) = true := by simpa using hw
    go_wp2
    go_ret2
    exact ⟨rfl, HB.out⟩
set_option maxHeartbeats 1600000 in
set_option maxRecDepth 20000 in
theorem rneeds_err (hs : Sl w w.heap.size 4 A n c (rtCells rs)) (he : wrgE rs day ≠ 0) :
    Calls Try.prog 20 #[.slice A n c, .int .i64 day] w fun e w' => e = .returned (.tuple #[.int .i64 0, .int .i64 (wrgE rs day)]) ∧ Below w.heap.size w w' := by
  have HWR := hide (ractive_err A n c rs day w hs he)
  generalize wrgE rs day = z at *
  clear hs
  go_enter Try.func20, Try.ntmps20
  go_wp2_with fail
  refine HWR.out.mono ?_
  rintro e w1 ⟨rfl, hb1⟩
  have HB := hide hb1
  clear hb1 HWR
  go_wp2
  refine wp_loop_rounds 1 ?_
  rw [rounds_succ]
  go_wp2
  go_ret2
  exact ⟨rfl, HB.out⟩
end
end Go.Proofs.Ytfcmgmcidngjeaa
namespace Go.Proofs.Ytfcmgmcidngjeaa
open Go.RowKit

/-- a list and an error are returned -/
def LsPost (xs : List Int) (er : Int) (w : World) (e : Ending) (w' : World) : Prop := ∃ (A' : Option Addr) (c' : Nat), e = .returned (.tuple #[.slice A' xs.length c', .int .i64 er]) ∧ Sl w' w'.heap.size 1 A' xs.length c' (ints xs) ∧ Below w.heap.size w w'
theorem ls_nil {er : Int} {w w' : World} (hb : Below w.heap.size w w') : LsPost [] er w (.returned (.tuple #[.slice none 0 0, .int .i64 er])) w' :=
  ⟨none, 0, rfl, Sl.none_ _ _ _, hb⟩
theorem ls_own {er : Int} {m : Nat} {xs : List Int} {w w' : World} {v : Value} (hv : w'.ownsRow w.heap.size 3 1 v m (ints xs)) (hb : Below w.heap.size w w') : LsPost xs er w (.returned (.tuple #[v, .int .i64 er])) w' := by
  have hm : m = xs.length := by have := hv.1; rw [ints_length] at this; omega
  subst hm
  obtain ⟨A, c, rfl, hs⟩ := own_sl hv
  exact ⟨A, c, rfl, hs, hb⟩
theorem active_both (rs : List Rt) (day : Int) : ∃ (xs : List Int) (er : Int), (∀ (W : World) (A : Option Addr) (n c : Nat), Sl W W.heap.size 4 A n c (rtCells rs) → Calls Try.prog 11 #[.slice A n c, .int .i64 day] W (LsPost xs er W)) ∧
    (∀ (W : World) (A : Option Addr) (n c : Nat), Sl W W.heap.size 4 A n c (rtCells rs) → Calls Try.prog 12 #[.slice A n c, .int .i64 day] W (LsPost xs er W)) := by
  by_cases h : wrgE rs day = 0
  · obtain ⟨hck, hd⟩ := wrg_cases h
    refine ⟨actR rs day, 0, fun W A n c hs => Active_any A n c rs day W hs hck hd (act_len hck day), fun W A n c hs => ractive_any A n c rs day W hs hck hd ?_⟩
    have := rlen hs; have := (ck_ok hck).1; omega
  · refine ⟨[], wrgE rs day, fun W A n c hs => (pactive_err A n c rs day W hs h).mono ?_, fun W A n c hs => (ractive_err A n c rs day W hs h).mono ?_⟩
    · rintro e w' ⟨rfl, hb⟩; exact ls_nil hb
    · rintro e w' ⟨rfl, hb⟩; exact ls_nil hb
theorem allot_both (rs : List Rt) (x day : Int) : ∃ (xs : List Int) (er : Int), (∀ (W : World) (A : Option Addr) (n c : Nat), Sl W W.heap.size 4 A n c (rtCells rs) → Calls Try.prog 13 #[.slice A n c, .int .i64 x, .int .i64 day] W (LsPost xs er W)) ∧
    (∀ (W : World) (A : Option Addr) (n c : Nat), Sl W W.heap.size 4 A n c (rtCells rs) → Calls Try.prog 14 #[.slice A n c, .int .i64 x, .int .i64 day] W (LsPost xs er W)) := by
  by_cases h : askE rs day x 1073741824 = 0
  · obtain ⟨hck, hd, hx⟩ := ask_cases h
    refine ⟨allotR rs day x, 0, fun W A n c hs => (Allot_any A n c rs day x W hs hck hd (wit_iff.1 hx) (act_len hck day)).mono ?_, fun W A n c hs => (rAllot_any A n c rs day x W hs hck hd (wit_iff.1 hx) (act_len hck day)).mono ?_⟩
    · rintro e w' ⟨v, rfl, hv, hb⟩; exact ls_own hv hb
    · rintro e w' ⟨v, rfl, hv, hb⟩; exact ls_own hv hb
  · refine ⟨[], askE rs day x 1073741824, fun W A n c hs => (pallot_err A n c rs day x W hs h).mono ?_, fun W A n c hs => (rallot_err A n c rs day x W hs h).mono ?_⟩
    · rintro e w' ⟨rfl, hb⟩; exact ls_nil hb
    · rintro e w' ⟨rfl, hb⟩; exact ls_nil hb
theorem call_both (rs : List Rt) (x day : Int) : ∃ (i : Int) (b : Bool) (er : Int), (∀ (W : World) (A : Option Addr) (n c : Nat), Sl W W.heap.size 4 A n c (rtCells rs) → Calls Try.prog 15 #[.slice A n c, .int .i64 x, .int .i64 day] W fun e w' => e = .returned (.tuple #[.int .i64 i, .bool b, .int .i64 er]) ∧ Below W.heap.size W w') ∧
    (∀ (W : World) (A : Option Addr) (n c : Nat), Sl W W.heap.size 4 A n c (rtCells rs) → Calls Try.prog 16 #[.slice A n c, .int .i64 x, .int .i64 day] W fun e w' => e = .returned (.tuple #[.int .i64 i, .bool b, .int .i64 er]) ∧ Below W.heap.size W w') := by
  by_cases h : askE rs day x 1073741824 = 0
  · obtain ⟨hck, hd, hx⟩ := ask_cases h
    exact ⟨_, _, _, fun W A n c hs => Call_any A n c rs day x W hs hck hd (wit_iff.1 hx) (act_len hck day), fun W A n c hs => rCall_any A n c rs day x W hs hck hd (wit_iff.1 hx) (act_len hck day)⟩
  · exact ⟨_, _, _, fun W A n c hs => pcall_err A n c rs day x W hs h, fun W A n c hs => rcall_err A n c rs day x W hs h⟩
theorem before_both (rs : List Rt) (x day : Int) : ∃ (s er : Int), (∀ (W : World) (A : Option Addr) (n c : Nat), Sl W W.heap.size 4 A n c (rtCells rs) → Calls Try.prog 17 #[.slice A n c, .int .i64 x, .int .i64 day] W fun e w' => e = .returned (.tuple #[.int .i64 s, .int .i64 er]) ∧ Below W.heap.size W w') ∧
    (∀ (W : World) (A : Option Addr) (n c : Nat), Sl W W.heap.size 4 A n c (rtCells rs) → Calls Try.prog 18 #[.slice A n c, .int .i64 x, .int .i64 day] W fun e w' => e = .returned (.tuple #[.int .i64 s, .int .i64 er]) ∧ Below W.heap.size W w') := by
  by_cases h : askE rs day x 16777216 = 0
  · obtain ⟨hck, hd, hx⟩ := ask_cases h
    exact ⟨_, _, fun W A n c hs => Before_any A n c rs x day W hs hck hd hx (act_len hck day), fun W A n c hs => rBefore_any A n c rs x day W hs hck hd hx (act_len hck day)⟩
  · exact ⟨_, _, fun W A n c hs => pbefore_err A n c rs day x W hs h, fun W A n c hs => rbefore_err A n c rs day x W hs h⟩
theorem needs_both (rs : List Rt) (day : Int) : ∃ (s er : Int), (∀ (W : World) (A : Option Addr) (n c : Nat), Sl W W.heap.size 4 A n c (rtCells rs) → Calls Try.prog 19 #[.slice A n c, .int .i64 day] W fun e w' => e = .returned (.tuple #[.int .i64 s, .int .i64 er]) ∧ Below W.heap.size W w') ∧
    (∀ (W : World) (A : Option Addr) (n c : Nat), Sl W W.heap.size 4 A n c (rtCells rs) → Calls Try.prog 20 #[.slice A n c, .int .i64 day] W fun e w' => e = .returned (.tuple #[.int .i64 s, .int .i64 er]) ∧ Below W.heap.size W w') := by
  by_cases h : wrgE rs day = 0
  · obtain ⟨hck, hd⟩ := wrg_cases h
    exact ⟨_, _, fun W A n c hs => Needs_any A n c rs day W hs hck hd (act_len hck day), fun W A n c hs => rNeeds_any A n c rs day W hs hck hd (act_len hck day)⟩
  · exact ⟨_, _, fun W A n c hs => pneeds_err A n c rs day W hs h, fun W A n c hs => rneeds_err A n c rs day W hs h⟩
theorem same_self {A1 A2 : Option Addr} {c1 c2 : Nat} {xs : List Int} {w : World} (h1 : Sl w w.heap.size 1 A1 xs.length c1 (ints xs)) (h2 : Sl w w.heap.size 1 A2 xs.length c2 (ints xs)) :
    Calls Try.prog 21 #[.slice A1 xs.length c1, .slice A2 xs.length c2] w fun e w' => e = .returned (.bool true) ∧ Below w.heap.size w w' :=
  (same_any A1 c1 xs A2 c2 xs _ _ w h1 h2).mono fun e w' ⟨he, hb⟩ => ⟨by rw [he]; simp [sameB], hb⟩
end Go.Proofs.Ytfcmgmcidngjeaa
