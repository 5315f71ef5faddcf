/-
  Contracts of Find, Ever, Dead and Simple, of any conditions: the result, or the first error. Condition: there are 200 at most.
-/
import Derived.Test.YtjbddicgegkkjaaProg
import Derived.Test.YtjbddicgegkkjaaCkx
import Derived.Test.YtjbddicgegkkjaaFnd
import Derived.Test.YtjbddicgegkkjaaSim
namespace Go.Proofs.Ytjbddicgegkkjaa
open Go.RowKit

def fiL (cs : List Cd) : List (Int × Int) := if errL cs = 0 then allP (mayF cs) cs.length cs.length else []
def everF (cs : List Cd) : Nat → Nat → Bool := askF (fun _ e => e) cs
def evL (cs : List Cd) : List (Int × Int) := if errL cs = 0 then allP (everF cs) cs.length cs.length else []
def ddL (cs : List Cd) : List Int := if errL cs = 0 then deadL cs cs.length else []
def siL (cs : List Cd) : List Cd := if errL cs = 0 then leftL cs (deadB cs) cs.length else []
def AllE (w : World) (cs : List Cd) (ps : List (Int × Int)) (e : Ending) (w' : World) : Prop := ∃ v, e = .returned (.tuple #[v, .int .i64 (errL cs)]) ∧ w'.ownsRow w.heap.size 48 2 v ps.length (pCells ps) ∧ Below w.heap.size w w'
def DeadE (w : World) (cs : List Cd) (e : Ending) (w' : World) : Prop := ∃ v, e = .returned (.tuple #[v, .int .i64 (errL cs)]) ∧ w'.ownsRow w.heap.size 3 1 v (ddL cs).length (ints (ddL cs)) ∧ Below w.heap.size w w'
def SimE (w : World) (cs : List Cd) (e : Ending) (w' : World) : Prop := ∃ v, e = .returned (.tuple #[v, .int .i64 (errL cs)]) ∧ w'.ownsRow w.heap.size 28 7 v (siL cs).length (cdCells (siL cs)) ∧ Below w.heap.size w w'
theorem len_sl {w : World} {A : Option Addr} {n c : Nat} {cs : List Cd} (hs : Sl w w.heap.size 7 A n c (cdCells cs)) : n = cs.length := by have := hs.1; rw [cdCells_length] at this; omega
section
variable {w : World}
theorem own_nil2 {base : Nat} (h : base ≤ w.heap.size) : w.ownsRow base 48 2 (.slice none 0 0) ([] : List (Int × Int)).length (pCells []) := World.ownsRow_nil _ _ _ _
theorem own_nil1 {base : Nat} (h : base ≤ w.heap.size) : w.ownsRow base 3 1 (.slice none 0 0) ([] : List Int).length (ints []) := World.ownsRow_nil _ _ _ _
theorem own_nil7 {base : Nat} (h : base ≤ w.heap.size) : w.ownsRow base 28 7 (.slice none 0 0) ([] : List Cd).length (cdCells []) := World.ownsRow_nil _ _ _ _
end
set_option maxHeartbeats 1600000 in
set_option maxRecDepth 20000 in
theorem all_err (f : Value) (A : Option Addr) (n c : Nat) (cs : List Cd) (w : World) (hn : n ≤ 200) (he : errL cs ≠ 0) (hs : Sl w w.heap.size 7 A n c (cdCells cs)) :
    Calls Try.prog 36 #[.slice A n c, f] w fun e w' => e = .returned (.tuple #[.slice none 0 0, .int .i64 (errL cs)]) ∧ Below w.heap.size w w' := by
  have H := hide (check_any A n c cs w hn hs)
  have hq : (errL cs != 0) = true := by simp [he]
  generalize errL cs = er at *
  clear hs he
  go_enter Try.func36, Try.ntmps36
  go_wp2
  go_step3
  go_wp2_with fail
  refine H.out.mono ?_
  rintro e w1 ⟨rfl, hb1⟩
  have HB1 := hide hb1
  clear hb1 H
  go_wp2
  try rw [Exit.noGoto_ret]
  go_ret2
  exact ⟨rfl, HB1.out⟩
set_option maxHeartbeats 1600000 in
set_option maxRecDepth 20000 in
theorem find_any (A : Option Addr) (n c : Nat) (cs : List Cd) (w : World) (hn : n ≤ 200) (hs : Sl w w.heap.size 7 A n c (cdCells cs)) :
    Calls Try.prog 16 #[.slice A n c] w (AllE w cs (fiL cs)) := by
  have hl := len_sl hs
  by_cases he : errL cs = 0
  · refine (find_ok A n c cs w hn ((errL_zero cs).1 he) hs).mono ?_
    rintro e w1 ⟨v, rfl, hv, hb⟩
    refine ⟨v, by rw [he], ?_, hb⟩
    unfold fiL
    rw [if_pos he, ← hl]
    exact hv
  · have H := hide (fun f => all_err f A n c cs w hn he hs)
    have HF : Hid (fiL cs = []) := hide (if_neg he)
    clear hs hl
    unfold AllE
    rw [HF.out]
    go_enter Try.func16, Try.ntmps16
    go_wp2_with fail
    refine (H.out _).mono ?_
    rintro e w1 ⟨rfl, hb⟩
    have HB := hide hb
    clear hb
    go_wp2
    go_ret2
    exact ⟨_, rfl, World.ownsRow_nil _ _ _ _, HB.out⟩
theorem cfE1 : ∀ (a : Array Value) (W : World), (callFunc 46 a).run Try.prog W = .ok (.enter 46 a) W := fun _ _ => by kernel_rfl
theorem ever1_any (m e : Bool) (w : World) : Calls Try.prog 46 #[.bool m, .bool e] w fun x w' => x = .returned (.bool e) ∧ w = w' := by
  go_enter Try.func46, Try.ntmps46
  go_wp2
  go_ret
  exact ⟨rfl, rfl⟩
set_option maxHeartbeats 1600000 in
set_option maxRecDepth 20000 in
theorem ever_any (A : Option Addr) (n c : Nat) (cs : List Cd) (w : World) (hn : n ≤ 200) (hs : Sl w w.heap.size 7 A n c (cdCells cs)) :
    Calls Try.prog 23 #[.slice A n c] w (AllE w cs (evL cs)) := by
  have hl := len_sl hs
  by_cases he : errL cs = 0
  · have H := hide (all_ok 46 cfE1 (fun _ e => e) ever1_any A n c cs w hn ((errL_zero cs).1 he) hs)
    have HF : Hid (evL cs = allP (askF (fun _ e => e) cs) n n) := hide (by unfold evL everF; rw [if_pos he, hl])
    clear hs hl
    unfold AllE
    rw [HF.out, he]
    go_enter Try.func23, Try.ntmps23
    go_wp2_with fail
    refine H.out.mono ?_
    rintro e w1 ⟨v, rfl, hv, hb⟩
    have HV := hide hv
    have HB := hide hb
    clear hv hb
    go_wp2
    go_ret2
    exact ⟨v, rfl, HV.out, HB.out⟩
  · have H := hide (fun f => all_err f A n c cs w hn he hs)
    have HF : Hid (evL cs = []) := hide (if_neg he)
    clear hs hl
    unfold AllE
    rw [HF.out]
    go_enter Try.func23, Try.ntmps23
    go_wp2_with fail
    refine (H.out _).mono ?_
    rintro e w1 ⟨rfl, hb⟩
    have HB := hide hb
    clear hb
    go_wp2
    go_ret2
    exact ⟨_, rfl, World.ownsRow_nil _ _ _ _, HB.out⟩
set_option maxHeartbeats 1600000 in
set_option maxRecDepth 20000 in
theorem cdead_any (A : Option Addr) (n c : Nat) (cs : List Cd) (w : World) (hn : n ≤ 200) (hs : Sl w w.heap.size 7 A n c (cdCells cs)) :
    Calls Try.prog 20 #[.slice A n c] w (DeadE w cs) := by
  have hl := len_sl hs
  by_cases he : errL cs = 0
  · refine (cdead_ok A n c cs w hn ((errL_zero cs).1 he) hs).mono ?_
    rintro e w1 ⟨v, rfl, hv, hb⟩
    refine ⟨v, by rw [he], ?_, hb⟩
    unfold ddL
    rw [if_pos he, ← hl]
    exact hv
  · have H := hide (check_any A n c cs w hn hs)
    have HF : Hid (ddL cs = []) := hide (if_neg he)
    have hq : (errL cs != 0) = true := by simp [he]
    clear hs hl
    unfold DeadE
    rw [HF.out]
    generalize errL cs = er at *
    clear he
    go_enter Try.func20, Try.ntmps20
    go_wp2_with fail
    refine H.out.mono ?_
    rintro e w1 ⟨rfl, hb⟩
    have HB := hide hb
    clear hb
    go_wp2
    go_ret2
    exact ⟨_, rfl, World.ownsRow_nil _ _ _ _, HB.out⟩
set_option maxHeartbeats 1600000 in
set_option maxRecDepth 20000 in
theorem simple_any (A : Option Addr) (n c : Nat) (cs : List Cd) (w : World) (hn : n ≤ 200) (hs : Sl w w.heap.size 7 A n c (cdCells cs)) :
    Calls Try.prog 19 #[.slice A n c] w (SimE w cs) := by
  have hl := len_sl hs
  by_cases he : errL cs = 0
  · refine (simple_ok A n c cs w hn ((errL_zero cs).1 he) hs).mono ?_
    rintro e w1 ⟨v, rfl, hv, hb⟩
    refine ⟨v, by rw [he], ?_, hb⟩
    unfold siL
    rw [if_pos he, ← hl]
    exact hv
  · have H := hide (cdead_any A n c cs w hn hs)
    have HF : Hid (siL cs = []) := hide (if_neg he)
    have HG : Hid (ddL cs = []) := hide (if_neg he)
    have hq : (errL cs != 0) = true := by simp [he]
    clear hs hl
    unfold SimE
    unfold DeadE at H
    rw [HF.out]
    rw [HG.out] at H
    generalize errL cs = er at *
    clear he
    go_enter Try.func19, Try.ntmps19
    go_wp2_with fail
    refine H.out.mono ?_
    rintro e w1 ⟨v, rfl, hv, hb⟩
    obtain ⟨A2, c2, rfl, -⟩ := own_sl hv
    have HB := hide hb
    clear hb hv
    go_wp2
    go_ret2
    exact ⟨_, rfl, World.ownsRow_nil _ _ _ _, HB.out⟩
end Go.Proofs.Ytjbddicgegkkjaa
