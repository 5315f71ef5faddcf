/-
  The contract of inflow.Smooth: the smoothed values, or the error. Condition: the slice can be read.
-/
import Derived.Test.YtbfflggoffmnmaaSmo
namespace Go.Proofs.Ytbfflggoffmnmaa
open Go.RowKit Go.Shelf
attribute [local go_sem] Oper.semAt_some

/-- an element pushed onto the row in box B: behind the store -/
theorem pushed_box {W w1 : World} {b3 n₀ B m : Nat} {v v' : Value} {k : Nat} {xs ys : List Value} {tmp : Obj} (hv : Boxed W B 22 v) (hrow : W.ownsRow b3 3 1 v k xs) (hB : B < b3) (h0 : n₀ ≤ B) (hsz : b3 ≤ W.heap.size)
    (hown' : w1.ownsRow b3 3 1 v' m ys) (hg : (W.alloc tmp).grownBy w1 v.ownBlock) :
    Boxed w1 B 22 v ∧ Boxed (w1.setCell ⟨B, 0, none⟩ v') B 22 v' ∧ (w1.setCell ⟨B, 0, none⟩ v').ownsRow b3 3 1 v' m ys ∧ KeepsOthers W (w1.setCell ⟨B, 0, none⟩ v') ∧ Below n₀ W (w1.setCell ⟨B, 0, none⟩ v') ∧
      ∀ k, k < b3 → k ≠ B → (w1.setCell ⟨B, 0, none⟩ v').heap[k]? = W.heap[k]? := by
  obtain ⟨h1, h2, _, h4, h5⟩ := hv.appended (n₀ := n₀) (by decide) (ownsRow_base hrow (by omega)) (by omega) h0 (ownsRow_base hown' (by omega)) hg
  refine ⟨h1, h2, hown'.kept (grownBy_setCell' w1 B v') (.inr (h1.not_row (by decide) hown').symm), h4, h5, fun j hj hne => ?_⟩
  rw [Below.heap_setCell w1 _ v' j hne]
  refine (hg.block j (by simp; omega) fun e => ?_).trans (Below.heap_alloc W tmp j (by omega))
  have := (hrow.lt j e.symm).1
  omega
theorem smooth1_any (v : Int) (w : World) : Calls Try.prog 27 #[.int .i64 v] w fun e w' => e = .returned (.bool (bigB v)) ∧ w = w' := by
  by_cases h1 : v < -274877906944
  · have HB := hide (show bigB v = true by simp [bigB, h1])
    go_enter Try.func27, Try.ntmps27
    go_wp2
    go_ret
    exact ⟨ret_bool HB.out.symm, rfl⟩
  · have h1' : -274877906944 ≤ v := by omega
    by_cases h2 : 274877906944 < v
    · have HB := hide (show bigB v = true by simp [bigB, h2])
      go_enter Try.func27, Try.ntmps27
      go_wp2
      go_ret
      exact ⟨ret_bool HB.out.symm, rfl⟩
    · have h2' : v ≤ 274877906944 := by omega
      have HB := hide (show bigB v = false by simp [bigB]; omega)
      go_enter Try.func27, Try.ntmps27
      go_wp2
      go_ret
      exact ⟨ret_bool HB.out.symm, rfl⟩
theorem cf27 : ∀ (a : Array Value) (W : World), (callFunc 27 a).run Try.prog W = .ok (.enter 27 a) W := fun _ _ => by kernel_rfl
theorem cf38 : ∀ (a : Array Value) (W : World), (callFunc 38 a).run Try.prog W = .ok (.enter 38 a) W := fun _ _ => by kernel_rfl
def SmoOut (w : World) (wd : Int) (xs : List Int) (e : Ending) (w' : World) : Prop := ∃ v, e = .returned (.tuple #[v, .int .i64 (smoE wd xs)]) ∧ w'.ownsRow w.heap.size 3 1 v (smoL wd xs).length (ints (smoL wd xs)) ∧ Below w.heap.size w w'
theorem cont_big {A : Option Addr} {n c : Nat} {xs : List Int} {w : World} (hs : Sl w w.heap.size 1 A n c (ints xs)) :
    Calls Try.prog 26 #[.slice A n c, .func (.func 27) #[] #[]] w fun e w' => e = .returned (.bool (xs.any bigB)) ∧ w = w' :=
  contains_func0 _ cf27 bigB A n c xs w hs fun v => smooth1_any v w
set_option maxHeartbeats 600000 in
set_option maxRecDepth 20000 in
theorem smooth_err (A : Option Addr) (n c : Nat) (xs : List Int) (wd : Int) (w : World) (hs : Sl w w.heap.size 1 A n c (ints xs)) (he : smoE wd xs ≠ 0) :
    Calls Try.prog 11 #[.slice A n c, .int .i64 wd] w (SmoOut w wd xs) := by
  have hl : n = xs.length := by have := hs.1; rw [ints_length] at this; omega
  have hm : n ≤ 9223372036854775807 := by have a1 := hs.2.1; have a2 := hs.2.2.1; unfold maxLen at a2; omega
  have HL := hide (show smoL wd xs = [] by simp [smoL, he])
  by_cases h1 : wd < 1
  · have HE := hide (show smoE wd xs = 1 by simp [smoE, h1])
    clear he hl
    go_enter Try.func11, Try.ntmps11
    go_wp2
    go_ret2
    exact ⟨_, by rw [HE.out]; rfl, by rw [HL.out]; exact World.ownsRow_nil _ _ _ _, Below.refl _ _⟩
  · have h1' : 1 ≤ wd := by omega
    by_cases h2 : 4096 < wd
    · have HE := hide (show smoE wd xs = 1 by simp [smoE, h2])
      clear he hl
      go_enter Try.func11, Try.ntmps11
      go_wp2
      go_ret2
      exact ⟨_, by rw [HE.out]; rfl, by rw [HL.out]; exact World.ownsRow_nil _ _ _ _, Below.refl _ _⟩
    · have h2' : wd ≤ 4096 := by omega
      have HC := hide (cont_big hs)
      cases hb : xs.any bigB
      · have h3 : 4096 < n := by
          rw [hl]
          by_cases h : 4096 < xs.length
          · exact h
          · exact absurd (show smoE wd xs = 0 by simp only [smoE, hb]; rw [if_neg (by simp; omega), if_neg h]) he
        have HE := hide (show smoE wd xs = 10 by simp only [smoE, hb]; rw [if_neg (by simp; omega), if_pos (by omega)])
        have h3i : (4096 : Int) < (n : Int) := by omega
        have HB := hide hb
        clear he hl hs hb
        go_enter Try.func11, Try.ntmps11
        go_wp2_with (go_at_call 26; refine HC.out.mono ?_; rintro e w' ⟨rfl, rfl⟩; rw [HB.out])
        go_ret2
        exact ⟨_, by rw [HE.out]; rfl, by rw [HL.out]; exact World.ownsRow_nil _ _ _ _, Below.refl _ _⟩
      · have HE := hide (show smoE wd xs = 1 by simp [smoE, hb])
        have HB := hide hb
        clear he hl hs hb
        go_enter Try.func11, Try.ntmps11
        go_wp2_with (go_at_call 26; refine HC.out.mono ?_; rintro e w' ⟨rfl, rfl⟩; rw [HB.out])
        go_ret2
        exact ⟨_, by rw [HE.out]; rfl, by rw [HL.out]; exact World.ownsRow_nil _ _ _ _, Below.refl _ _⟩
end Go.Proofs.Ytbfflggoffmnmaa
