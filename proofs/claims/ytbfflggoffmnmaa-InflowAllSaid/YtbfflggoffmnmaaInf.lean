/-
  The contract of inflow.Check: the first error of volumes and flows out. Condition: both slices can be read.
-/
import Derived.Test.YtbfflggoffmnmaaProg
import Derived.Test.YtbfflggoffmnmaaDeck0
import Derived.Test.YtbfflggoffmnmaaFind
namespace Go.Proofs.Ytbfflggoffmnmaa
open Go.RowKit

theorem cf32 : ∀ (a : Array Value) (W : World), (callFunc 32 a).run Try.prog W = .ok (.enter 32 a) W := fun _ _ => by kernel_rfl
theorem over_any (v m : Int) (g : Nat) (w : World) (hc : w.cell? ⟨g, 0, none⟩ = some (.int .i64 m)) : Calls Try.prog 32 #[.int .i64 v, .pointer (some ⟨g, 0, none⟩)] w fun e w' => e = .returned (.bool (!wit v m)) ∧ w = w' := by
  go_enter Try.func32, Try.ntmps32
  go_wp2_with (go_at_call 30; refine (within_any _ _ _).mono ?_; rintro e w' ⟨rfl, rfl⟩)
  go_ret
  exact ⟨rfl, rfl⟩
theorem beyond_any (m : Int) (w : World) : Calls Try.prog 31 #[.int .i64 m] w fun e w' => e = .returned (.func (.func 32) #[] #[.pointer (some ⟨w.heap.size, 0, none⟩)]) ∧ w.alloc (.cells #[.int .i64 m] 3) = w' := by
  have hmf : ∀ (fn : Fn) (first cap : Array Value) (w : World), (Instr.makeFunc fn first cap).run Try.prog w = .ok (.func fn first cap) w := fun _ _ _ _ => rfl
  go_enter Try.func31, Try.ntmps31
  go_wp2
  go_ret
  exact ⟨rfl, rfl⟩
def overB (m : Int) (l : List Int) : Bool := l.any fun v => !wit v m
def chkI (vs os : List Int) : Int := if vs.length ≠ os.length + 1 then 3 else if 4096 < os.length then 10 else if overB 274877906944 vs || overB 1073741824 os then 1 else 0
theorem chk_form {vs os : List Int} (h : vs.length ≠ os.length + 1) : chkI vs os = 3 := by simp [chkI, h]
theorem chk_long {vs os : List Int} (h : vs.length = os.length + 1) (h2 : 4096 < os.length) : chkI vs os = 10 := by simp [chkI, h, h2]
theorem chk_over {vs os : List Int} (h : vs.length = os.length + 1) (h2 : ¬ 4096 < os.length) (h3 : (overB 274877906944 vs || overB 1073741824 os) = true) : chkI vs os = 1 := by simp only [chkI, h, h2, h3]; simp
theorem chk_ok {vs os : List Int} (h : vs.length = os.length + 1) (h2 : ¬ 4096 < os.length) (h3 : (overB 274877906944 vs || overB 1073741824 os) = false) : chkI vs os = 0 := by simp only [chkI, h, h2, h3]; simp
theorem cont_over {m : Int} {A : Option Addr} {n c g : Nat} {zs : List Int} {w : World} (hg : g = w.heap.size) (hs : Sl w w.heap.size 1 A n c (ints zs)) :
    Calls Try.prog 26 #[.slice A n c, .func (.func 32) #[] #[.pointer (some ⟨g, 0, none⟩)]] (w.alloc (.cells #[.int .i64 m] 3)) fun e w' => e = .returned (.bool (overB m zs)) ∧ w.alloc (.cells #[.int .i64 m] 3) = w' := by
  subst hg
  refine contains_func1 _ cf32 _ (fun v => !wit v m) A n c zs _ (hs.allocw _) fun v => over_any v m _ _ ?_
  exact (Blk.new w 3 #[.int .i64 m]).facts.1 0
set_option maxHeartbeats 800000 in
set_option maxRecDepth 20000 in
theorem icheck_any (A B : Option Addr) (n c n' c' : Nat) (vs os : List Int) (w : World) (hsm : n' ≤ 4611686018427387904) (h1 : Sl w w.heap.size 1 A n c (ints vs)) (h2 : Sl w w.heap.size 1 B n' c' (ints os)) :
    Calls Try.prog 17 #[.slice A n c, .slice B n' c'] w fun e w' => e = .returned (.int .i64 (chkI vs os)) ∧ Below w.heap.size w w' := by
  have l1 : n = vs.length := by have := h1.1; rw [ints_length] at this; omega
  have l2 : n' = os.length := by have := h2.1; rw [ints_length] at this; omega
  have m1 : n ≤ 9223372036854775807 := by have a1 := h1.2.1; have a2 := h1.2.2.1; unfold maxLen at a2; omega
  have m2 : n' ≤ 9223372036854775807 := by have a1 := h2.2.1; have a2 := h2.2.2.1; unfold maxLen at a2; omega
  by_cases hl : n = n' + 1
  · by_cases hb : 4096 < n'
    · have HR := hide (chk_long (vs := vs) (os := os) (by omega) (by omega))
      have hd : ((n : Int) != (n' : Int) + 1) = false := by simp; omega
      have L1 := hide l1
      have L2 := hide l2
      have HL := hide hl
      clear l1 l2 hl
      go_enter Try.func17, Try.ntmps17
      go_wp2
      go_ret
      exact ⟨ret_int HR.out.symm, Below.refl _ _⟩
    · have hd : ((n : Int) != (n' : Int) + 1) = false := by simp; omega
      cases p1 : overB 274877906944 vs
      · have P1 := hide p1
        have HR := hide (fun (h : overB 1073741824 os = false) => chk_ok (vs := vs) (os := os) (by omega) (by omega) (by rw [p1, h]; rfl))
        have HX := hide (fun (h : overB 1073741824 os = true) => chk_over (vs := vs) (os := os) (by omega) (by omega) (by rw [p1, h]; rfl))
        have H1 := hide h1
        have H2 := hide h2
        have HL := hide hl
        clear l1 l2 hl p1 h1 h2
        go_enter Try.func17, Try.ntmps17
        go_wp2_with fail
        refine (beyond_any _ _).mono ?_
        rintro e w1 ⟨rfl, rfl⟩
        go_wp2_with fail
        refine (cont_over rfl H1.out).mono ?_
        rintro e w1 ⟨rfl, rfl⟩
        rw [P1.out]
        go_wp2_with fail
        refine (beyond_any _ _).mono ?_
        rintro e w1 ⟨rfl, rfl⟩
        go_wp2_with fail
        refine (cont_over (World.size_alloc _ _).symm (H2.out.allocw _)).mono ?_
        rintro e w1 ⟨rfl, rfl⟩
        cases p2 : overB 1073741824 os
        · have HR2 := hide (HR.out p2)
          clear HR HX p2
          go_wp2
          go_ret
          exact ⟨ret_int HR2.out.symm, bel1.alloc (by simp) _⟩
        · have HR2 := hide (HX.out p2)
          clear HR HX p2
          go_wp2
          go_ret
          exact ⟨ret_int HR2.out.symm, bel1.alloc (by simp) _⟩
      · have P1 := hide p1
        have HR := hide (chk_over (vs := vs) (os := os) (by omega) (by omega) (by rw [p1]; rfl))
        have H1 := hide h1
        have HL := hide hl
        clear l1 l2 hl p1 h1 h2
        go_enter Try.func17, Try.ntmps17
        go_wp2_with fail
        refine (beyond_any _ _).mono ?_
        rintro e w1 ⟨rfl, rfl⟩
        go_wp2_with fail
        refine (cont_over rfl H1.out).mono ?_
        rintro e w1 ⟨rfl, rfl⟩
        rw [P1.out]
        go_wp2
        go_ret
        exact ⟨ret_int HR.out.symm, bel1⟩
  · have HR := hide (chk_form (vs := vs) (os := os) (by omega))
    have hd : ((n : Int) != (n' : Int) + 1) = true := by simp; omega
    have L1 := hide l1
    have L2 := hide l2
    clear l1 l2 hl
    go_enter Try.func17, Try.ntmps17
    go_wp2
    go_ret
    exact ⟨ret_int HR.out.symm, Below.refl _ _⟩
end Go.Proofs.Ytbfflggoffmnmaa
