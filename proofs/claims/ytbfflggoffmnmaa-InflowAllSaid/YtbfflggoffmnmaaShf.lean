/-
  The contract of quantity.Share at any amount and weights, 4096 at most: the shares, or the error. Condition: the slice can be read.
-/
import Derived.Test.YtbfflggoffmnmaaProg
import Derived.Test.YtbfflggoffmnmaaShg
import Derived.Test.YtbfflggoffmnmaaRsp
namespace Go.Proofs.Ytbfflggoffmnmaa
open Go.RowKit

def ShfPost (w : World) (a : Int) (ws : List Int) (e : Ending) (w' : World) : Prop := ∃ v, e = .returned (.tuple #[v, .int .i64 (shFE a ws)]) ∧ w'.ownsRow w.heap.size 3 1 v (shFV a ws).length (ints (shFV a ws)) ∧ Below w.heap.size w w'
theorem any_ok {ws : List Int} (h : ws.any (fun v => !wit v 10000) = false) : ∀ w ∈ ws, 0 ≤ w ∧ w ≤ 10000 := by
  intro x hx
  have := List.any_eq_false.1 h x hx
  simp at this
  exact wit_iff.1 this
set_option maxHeartbeats 600000 in
set_option maxRecDepth 20000 in
theorem share_full (a : Int) (ws : List Int) (A : Option Addr) (n c : Nat) (w : World) (hn : n ≤ 4096) (hs : Sl w w.heap.size 1 A n c (ints ws)) :
    Calls Try.prog 35 #[.int .i64 a, .slice A n c] w (ShfPost w a ws) := by
  cases hA : wit a 274877906944
  · have HA := hide hA
    have HE := hide (show shFE a ws = 1 by simp [shFE, hA])
    have HV := hide (show shFV a ws = [] by simp [shFV, hA])
    clear hA hs
    have hB := (bel1 (w := w) (o := .cells #[.int .i64 a] 3)).alloc (by simp) (.cells #[.slice A n c] 22)
    go_enter Try.func35, Try.ntmps35
    go_wp2_with fail
    refine (within_any _ _ _).mono ?_
    rintro e w1 ⟨rfl, rfl⟩
    rw [HA.out]
    go_wp2
    go_ret2
    exact ⟨_, by rw [HE.out]; rfl, by rw [HV.out]; exact World.ownsRow_nil _ _ _ _, hB⟩
  · cases hW : ws.any fun v => !wit v 10000
    · refine (share_gen a ws A n c w hn (wit_iff.1 hA) (any_ok hW) hs).mono ?_
      rintro e w' ⟨v, rfl, hv, hb⟩
      refine ⟨v, ?_, ?_, hb⟩
      · rw [show shFE a ws = shE a ws by simp [shFE, hA, hW]]
      · rw [show shFV a ws = shV a ws by simp [shFV, hA, hW]]; exact hv
    · have HA := hide hA
      have HW := hide hW
      have HE := hide (show shFE a ws = 1 by simp [shFE, hW])
      have HV := hide (show shFV a ws = [] by simp [shFV, hW])
      have HS := hide hs
      clear hA hW hs
      have hB := (bel1 (w := w) (o := .cells #[.int .i64 a] 3)).alloc (by simp) (.cells #[.slice A n c] 22)
      go_enter Try.func35, Try.ntmps35
      go_wp2_with fail
      refine (within_any _ _ _).mono ?_
      rintro e w1 ⟨rfl, rfl⟩
      rw [HA.out]
      go_wp2_with fail
      refine (contains_func0 _ cfS1 (fun v => !wit v 10000) A n c ws _ ((HS.out.allocw _).allocw _) (fun v => wrong_any v _)).mono ?_
      rintro e w1 ⟨rfl, rfl⟩
      rw [HW.out]
      go_wp2
      go_ret2
      exact ⟨_, by rw [HE.out]; rfl, by rw [HV.out]; exact World.ownsRow_nil _ _ _ _, hB⟩
end Go.Proofs.Ytbfflggoffmnmaa
