/-
  The contract of inflow.Balance: the inflow of each step, or the error. Condition: both slices can be read, the second is no longer than 2^62.
-/
import Derived.Test.YtbfflggoffmnmaaProg
import Derived.Test.YtbfflggoffmnmaaUnc
namespace Go.Proofs.Ytbfflggoffmnmaa
open Go.RowKit

theorem bcells_get (l : List (Int × Int)) (k : Nat) (h : k < l.length) : (bcells l)[k * 2]? = some (.int .i64 (l.getD k (0, 0)).1) ∧ (bcells l)[k * 2 + 1]? = some (.int .i64 (l.getD k (0, 0)).2) := by
  induction l generalizing k with
  | nil => simp at h
  | cons x l ih =>
    cases k with
    | zero => exact ⟨rfl, rfl⟩
    | succ k =>
      have := ih k (by simpa using h)
      simpa [bcells, Nat.add_mul] using this
def balK (l : List (Int × Int)) (k : Nat) : List Int := (l.take k).map (·.1)
theorem balK_succ (l : List (Int × Int)) (k : Nat) (h : k < l.length) : balK l (k + 1) = balK l k ++ [(l.getD k (0, 0)).1] := by
  unfold balK
  rw [List.take_succ_eq_append_getElem h, List.map_append]
  simp [List.getD_eq_getElem?_getD, h]
theorem balK_length (l : List (Int × Int)) (k : Nat) (h : k ≤ l.length) : (balK l k).length = k := by simp [balK]; omega
def balL (vs os : List Int) : List Int := (uncL vs os 0).map (·.1)
def BalOut (w : World) (vs os : List Int) (e : Ending) (w' : World) : Prop := ∃ v, e = .returned (.tuple #[v, .int .i64 (uncE vs os 0)]) ∧ w'.ownsRow w.heap.size 3 1 v (balL vs os).length (ints (balL vs os)) ∧ Below w.heap.size w w'
set_option maxHeartbeats 1600000 in
set_option maxRecDepth 20000 in
theorem bal_any (A B : Option Addr) (n c n' c' : Nat) (vs os : List Int) (w : World) (hsm : n' ≤ 4611686018427387904) (h1 : Sl w w.heap.size 1 A n c (ints vs)) (h2 : Sl w w.heap.size 1 B n' c' (ints os)) :
    Calls Try.prog 15 #[.slice A n c, .slice B n' c'] w (BalOut w vs os) := by
  have HC := hide (unc_any A B n c n' c' vs os 0 w hsm h1 h2)
  clear h1 h2
  by_cases hk : uncE vs os 0 = 0
  · have HE := hide hk
    have HL := hide (show balL vs os = balK (uncL vs os 0) (uncL vs os 0).length by simp [balL, balK])
    have HQ := hide (show (uncL vs os 0).length ≤ 4096 by
      by_cases h : chkI vs os = 0
      · have := (chk_zero h).2.1
        simp only [uncL, hk, if_true, uncK_length]
        exact this
      · exact absurd (show uncE vs os 0 = chkI vs os by simp [uncE, h]) (by omega))
    clear hk
    go_enter Try.func15, Try.ntmps15
    go_wp2_with fail
    refine HC.out.mono ?_
    rintro e w2 ⟨v, rfl, hown, hb⟩
    rw [HE.out]
    obtain ⟨A2, c2, rfl, hsl⟩ := own_sl hown
    have hq := HQ.out
    have hz := hb.size
    clear hown
    generalize uncL vs os 0 = l at *
    obtain ⟨m, hm⟩ : ∃ m, m = l.length := ⟨_, rfl⟩
    rw [← hm] at hsl hq ⊢
    rw [← hm] at HL
    have HM := hide hm
    have H1 := hide hsl
    clear hm hsl
    go_wp2
    go_loopw [8, 22] (fun v i wr => ∃ k : Nat, k ≤ m ∧ i = .int .i64 k ∧ wr.ownsRow w2.heap.size 3 1 v k (ints (balK l k)) ∧ Below w2.heap.size w2 wr) (fun _ i _ => m - (intOf i).toNat)
    case atStart => exact ⟨0, by omega, rfl, World.ownsRow_nil _ _ _ _, Below.refl _ _⟩
    case round =>
      obtain ⟨k, hk, rfl, hown, hbr⟩ := hrel
      by_cases hlt : k < m
      · have hlm := HM.out
        obtain ⟨b1, o1, rfl, hb1, hc1⟩ := H1.out.at_ hlt
        have hg := bcells_get l k (by omega)
        have x1 := (hbr.cell (p := ⟨b1, o1 + k * 2, none⟩) hb1).trans (hc1 _ _ hg.1)
        have x2 := (hbr.cell (p := ⟨b1, o1 + k * 2 + 1, none⟩) hb1).trans (hc1 _ _ hg.2)
        have HS := hide (balK_succ l k (by omega))
        have hz2 := hbr.size
        have hz3 : w2.heap.size ≤ (wr.alloc (.cells #[.int .i64 (l.getD k (0, 0)).1, .int .i64 (l.getD k (0, 0)).2] 41)).heap.size := by simp only [World.size_alloc]; omega
        clear hg hc1 hlm
        generalize (l.getD k (0, 0)).1 = lo at *
        generalize (l.getD k (0, 0)).2 = hi at *
        go_wp2_with (at_builtin; refine wpList_pushG _ (World.size_alloc _ _).symm rfl _ _ _ rfl w2.heap.size _ _ slInt _ _ _ rfl (hown.alloc _) _ _ rfl rfl rfl (by omega) hz3 ?_)
        intro v' w4 hown4 hg4 _
        have hb4 := (hbr.alloc hz2 _).trans (below_push (hown.alloc _) hg4 hz3)
        have hown5 := own_cells hown4 (ys := ints (balK l (k + 1))) (by rw [HS.out, ints_append]; rfl)
        clear hown hown4 hg4 hbr x1 x2 hz2 hz3
        go_wp2
        go_roundw
        case rel => exact ⟨k + 1, by omega, by go_num, hown5, hb4⟩
        case measure => simp [intOf]; omega
      · obtain rfl : k = m := by omega
        go_wp2
        go_ret2
        exact ⟨_, by rw [HE.out]; rfl, by rw [HL.out, balK_length _ _ (by have := HM.out; omega)]; exact ownsRow_base hown hz, bthr hb hbr hz⟩
  · have hk2 : (uncE vs os 0 != 0) = true := by simp [hk]
    have HL := hide (show balL vs os = [] by simp [balL, uncL, hk])
    clear hk
    go_enter Try.func15, Try.ntmps15
    go_wp2_with fail
    refine HC.out.mono ?_
    rintro e w2 ⟨v, rfl, hown, hb⟩
    obtain ⟨A2, c2, rfl, hsl⟩ := own_sl hown
    clear hown hsl
    go_wp2
    go_ret2
    exact ⟨_, rfl, by rw [HL.out]; exact World.ownsRow_nil _ _ _ _, hb⟩
end Go.Proofs.Ytbfflggoffmnmaa
