/-
  Contracts of the reference's Both and Days. No condition.
-/
import Derived.Test.YtjbddicgegkkjaaProg
import Derived.Test.YtjbddicgegkkjaaRin
namespace Go.Proofs.Ytjbddicgegkkjaa
open Go.RowKit

set_option maxRecDepth 20000 in
theorem rboth_any (f t g u : Int) (w : World) :
    Calls Try.prog 62 #[.agg #[.int .i64 f, .int .i64 t], .agg #[.int .i64 g, .int .i64 u]] w fun e w' => ∃ v, e = .returned v ∧ w'.ownsRow w.heap.size 3 1 v (bothL f t g u 365).length (ints (bothL f t g u 365)) ∧ Below w.heap.size w w' ∧ (bothL f t g u 365 = [] → v = .slice none 0 0) := by
  go_enter Try.func62, Try.ntmps62
  go_wp2
  go_loopw [5, 7] (fun v i wr => ∃ k : Nat, k ≤ 365 ∧ i = .int .i64 k ∧ wr.ownsRow (w.heap.size + 2) 3 1 v (bothL f t g u k).length (ints (bothL f t g u k)) ∧ Below (w.heap.size + 2) ((w.alloc (.cells #[.int .i64 f, .int .i64 t] 26)).alloc (.cells #[.int .i64 g, .int .i64 u] 26)) wr ∧ Hid (bothL f t g u k = [] → v = .slice none 0 0))
    (fun _ i _ => 365 - (intOf i).toNat)
  case atStart => exact ⟨0, by omega, rfl, by simpa [bothL, ints] using World.ownsRow_nil _ _ _ _, Below.refl _ _, fun _ => rfl⟩
  case round =>
    obtain ⟨k, hk, rfl, hown, hb, hnil⟩ := hrel
    obtain ⟨hc, hf⟩ := bcell hb
    have hs : w.heap.size + 2 ≤ wr.heap.size := by have := hb.size; simpa using this
    have hs0 : w.heap.size < wr.heap.size := by omega
    have hs1 : w.heap.size + 1 < wr.heap.size := by omega
    by_cases hlt : k < 365
    · cases h1 : inB f t k
      · go_wp2_with (go_at_call 66; refine (rin_any _ _ _ _).mono ?_; rintro e w1 ⟨rfl, hb1⟩)
        go_roundw
        case rel => exact ⟨k + 1, by omega, by go_num, by rw [bothL_no (by simp [h1])]; exact ownsRow_below hown hb1, bthr hb hb1 hs, by rw [bothL_no (by simp [h1])]; exact hnil⟩
        case measure => simp [intOf]; omega
      · cases h2 : inB g u k
        all_goals
          go_wp2_with fail
          refine (rin_any _ _ _ _).mono ?_; rintro e w1 ⟨rfl, hb1⟩; obtain ⟨hc1, hf1⟩ := bcell hb1
          go_wp2_with fail
          refine (rin_any _ _ _ _).mono ?_; rintro e w2 ⟨rfl, hb2⟩
          have hbb := bthr (bthr hb hb1 hs) hb2 (by have := hb1.size; omega)
          have hown2 := ownsRow_below (ownsRow_below hown hb1) hb2
          have hs2 : w.heap.size + 2 ≤ w2.heap.size := by have := hbb.size; simpa using this
          clear hb hb1 hb2 hc hf hc1 hf1 hs hs0 hs1
        · go_wp2
          go_roundw
          case rel => exact ⟨k + 1, by omega, by go_num, by rw [bothL_no (by simp [h1, h2])]; exact hown2, hbb, by rw [bothL_no (by simp [h1, h2])]; exact hnil⟩
          case measure => simp [intOf]; omega
        · have hle := bothL_le f t g u k
          go_wp2_with (at_builtin; refine wpList_push rfl _ _ _ rfl (w.heap.size + 2) _ _ slInt _ _ _ rfl hown2 _ _ rfl rfl rfl (by omega) hs2 ?_)
          intro v' w3 hown3 hg3 _
          have hb3 := hbb.trans (below_push hown2 hg3 hs2)
          go_wp2
          go_roundw
          case rel => exact ⟨k + 1, by omega, by go_num, by rw [bothL_yes (by simp [h1, h2]), ints_append, List.length_append]; exact hown3, hb3, fun he => by rw [bothL_yes (by simp [h1, h2])] at he; simp at he⟩
          case measure => simp [intOf]; omega
    · obtain rfl : k = 365 := by omega
      go_wp2
      go_ret
      exact ⟨_, rfl, ownsRow_base hown (by omega), bel3 hb (by omega), hnil.out⟩
theorem rdays_any (f t : Int) (w : World) :
    Calls Try.prog 63 #[.agg #[.int .i64 f, .int .i64 t]] w fun e w' => e = .returned (.int .i64 (daysN f t)) ∧ Below w.heap.size w w' := by
  go_enter Try.func63, Try.ntmps63
  go_wp2_with fail
  refine (rboth_any _ _ _ _ _).mono ?_; rintro e w' ⟨v, rfl, hown, hb, _⟩
  obtain ⟨A, c, rfl, hsl⟩ := own_sl hown
  clear hown
  go_wp2
  go_ret
  exact ⟨rfl, bel2 hb⟩
end Go.Proofs.Ytjbddicgegkkjaa
