/-
  The contract of inflow.Uncertain: the bounds of each step's inflow, or the error. Condition: both slices can be read, the second is no longer than 2^62.
-/
import Derived.Test.YtbfflggoffmnmaaProg
import Derived.Test.YtbfflggoffmnmaaInf
import Derived.Test.YtbfflggoffmnmaaPushN
import Derived.WalkLawsBesides
namespace Go.Proofs.Ytbfflggoffmnmaa
open Go.RowKit

def bcells (l : List (Int × Int)) : List Value := l.flatMap fun p => [.int .i64 p.1, .int .i64 p.2]
theorem bcells_append (a b : List (Int × Int)) : bcells (a ++ b) = bcells a ++ bcells b := List.flatMap_append
theorem bcells_length (l : List (Int × Int)) : (bcells l).length = l.length * 2 := by
  induction l with
  | nil => rfl
  | cons x l ih => simp only [bcells, List.flatMap_cons, List.length_append] at ih ⊢; rw [ih]; simp; omega
theorem slBnd : SlT Try.prog 37 41 2 := slT_of (z := .agg #[.int .i64 0, .int .i64 0]) (bytes := 16) Try.underlying37 (by kernel_rfl) rfl (by decide) (by decide)
def uncLo (off a b n : Int) : Int := max (b - off) 0 - (a + off) + n
def uncHi (off a b n : Int) : Int := b + off - max (a - off) 0 + n
def uncAt (vs os : List Int) (off : Int) (t : Nat) : Int × Int := (uncLo off (vs.getD t 0) (vs.getD (t + 1) 0) (os.getD t 0), uncHi off (vs.getD t 0) (vs.getD (t + 1) 0) (os.getD t 0))
def uncK (vs os : List Int) (off : Int) (k : Nat) : List (Int × Int) := (List.range k).map (uncAt vs os off)
theorem uncK_succ (vs os : List Int) (off : Int) (k : Nat) : uncK vs os off (k + 1) = uncK vs os off k ++ [uncAt vs os off k] := by simp [uncK, List.range_succ]
theorem uncK_length (vs os : List Int) (off : Int) (k : Nat) : (uncK vs os off k).length = k := by simp [uncK]
def uncE (vs os : List Int) (off : Int) : Int := if chkI vs os = 0 then (if wit off 274877906944 then 0 else 1) else chkI vs os
def uncL (vs os : List Int) (off : Int) : List (Int × Int) := if uncE vs os off = 0 then uncK vs os off os.length else []
def UncOut (w : World) (vs os : List Int) (off : Int) (e : Ending) (w' : World) : Prop := ∃ v, e = .returned (.tuple #[v, .int .i64 (uncE vs os off)]) ∧ w'.ownsRow w.heap.size 41 2 v (uncL vs os off).length (bcells (uncL vs os off)) ∧ Below w.heap.size w w'
theorem over_at {m : Int} {l : List Int} (h : overB m l = false) {k : Nat} (hk : k < l.length) : 0 ≤ l.getD k 0 ∧ l.getD k 0 ≤ m := by
  have := List.any_eq_false.1 h _ (List.getElem_mem hk)
  rw [List.getD_eq_getElem?_getD, List.getElem?_eq_getElem hk]
  simpa [wit_iff] using this
theorem chk_zero {vs os : List Int} (h : chkI vs os = 0) : vs.length = os.length + 1 ∧ os.length ≤ 4096 ∧ overB 274877906944 vs = false ∧ overB 1073741824 os = false := by
  by_cases h1 : vs.length = os.length + 1
  · by_cases h2 : 4096 < os.length
    · rw [chk_long h1 h2] at h; omega
    · cases h3 : (overB 274877906944 vs || overB 1073741824 os)
      · simp at h3; exact ⟨h1, by omega, h3.1, h3.2⟩
      · rw [chk_over h1 h2 h3] at h; omega
  · rw [chk_form h1] at h; omega
theorem own_cells {w : World} {base : Nat} {e : TypeId} {size n : Nat} {v : Value} {xs ys : List Value} (h : w.ownsRow base e size v n xs) (he : xs = ys) : w.ownsRow base e size v n ys := he ▸ h
set_option maxHeartbeats 1600000 in
set_option maxRecDepth 20000 in
theorem unc_any (A B : Option Addr) (n c n' c' : Nat) (vs os : List Int) (off : Int) (w : World) (hsm : n' ≤ 4611686018427387904) (h1 : Sl w w.heap.size 1 A n c (ints vs)) (h2 : Sl w w.heap.size 1 B n' c' (ints os)) :
    Calls Try.prog 16 #[.slice A n c, .slice B n' c', .int .i64 off] w (UncOut w vs os off) := by
  have l1 : n = vs.length := by have := h1.1; rw [ints_length] at this; omega
  have l2 : n' = os.length := by have := h2.1; rw [ints_length] at this; omega
  have HC := hide (icheck_any A B n c n' c' vs os w hsm h1 h2)
  by_cases hk : chkI vs os = 0
  · obtain ⟨g1, g2, g3, g4⟩ := chk_zero hk
    cases hw : wit off 274877906944
    · have HE := hide (show uncE vs os off = 1 by simp [uncE, hk, hw])
      have HL := hide (show uncL vs os off = [] by simp [uncL, uncE, hk, hw])
      have HK := hide hk
      clear hk g1 g2 g3 g4 l1 l2
      go_enter Try.func16, Try.ntmps16
      go_wp2_with fail
      refine HC.out.mono ?_
      rintro e w1 ⟨rfl, hb⟩
      rw [HK.out]
      go_wp2_with (go_at_call 30; refine (within_any _ _ _).mono ?_; rintro e w' ⟨rfl, rfl⟩)
      go_ret2
      exact ⟨_, by rw [HE.out]; rfl, by rw [HL.out]; exact World.ownsRow_nil _ _ _ _, hb⟩
    · have HE := hide (show uncE vs os off = 0 by simp [uncE, hk, hw])
      have HL := hide (show uncL vs os off = uncK vs os off n' by simp [uncL, uncE, hk, hw, l2])
      have HK := hide hk
      obtain ⟨w0, w1⟩ := wit_iff.1 hw
      have G3 := hide g3
      have G4 := hide g4
      have L1 := hide l1
      have L2 := hide l2
      have hn4 : n' ≤ 4096 := by omega
      have hnn : n' < n := by omega
      clear hk g1 g2 g3 g4 l1 l2
      go_enter Try.func16, Try.ntmps16
      go_wp2_with fail
      refine HC.out.mono ?_
      rintro e w2 ⟨rfl, hb⟩
      rw [HK.out]
      have H1 := hide (h1.thr hb)
      have H2 := hide (h2.thr hb)
      have hz := hb.size
      clear h1 h2
      go_wp2_with (go_at_call 30; refine (within_any _ _ _).mono ?_; rintro e w' ⟨rfl, rfl⟩)
      go_loopw [9, 25] (fun v i off' => ∃ k : Nat, k ≤ n' ∧ i = .int .i64 k ∧ off'.ownsRow w2.heap.size 41 2 v k (bcells (uncK vs os off k)) ∧ Below w2.heap.size w2 off') (fun _ i _ => n' - (intOf i).toNat)
      case atStart => exact ⟨0, by omega, rfl, World.ownsRow_nil _ _ _ _, Below.refl _ _⟩
      case round =>
        obtain ⟨k, hk, rfl, hown, hbr⟩ := hrel
        by_cases hlt : k < n'
        · have hl1 := L1.out
          have hl2 := L2.out
          obtain ⟨b1, o1, rfl, hb1, hc1⟩ := H1.out.at_ (k := k) (by omega)
          obtain ⟨b2, o2, rfl, hb2, hc2⟩ := H2.out.at_ hlt
          have x1 := (hbr.cell (p := ⟨b1, o1 + k, none⟩) hb1).trans (hc1 k _ (ints_get vs k (by omega)))
          have x2 := (hbr.cell (p := ⟨b1, o1 + (k + 1), none⟩) hb1).trans (hc1 (k + 1) _ (ints_get vs (k + 1) (by omega)))
          have x3 := (hbr.cell (p := ⟨b2, o2 + k, none⟩) hb2).trans (hc2 k _ (ints_get os k (by omega)))
          obtain ⟨p0, p1⟩ := over_at G3.out (k := k) (by omega)
          obtain ⟨q0, q1⟩ := over_at G3.out (k := k + 1) (by omega)
          obtain ⟨r0, r1⟩ := over_at G4.out (k := k) (by omega)
          have HS := hide (uncK_succ vs os off k)
          have HA := hide (show uncAt vs os off k = (uncLo off (vs.getD k 0) (vs.getD (k + 1) 0) (os.getD k 0), uncHi off (vs.getD k 0) (vs.getD (k + 1) 0) (os.getD k 0)) from rfl)
          clear hc1 hc2 hl1 hl2
          generalize vs.getD k 0 = a at *
          generalize vs.getD (k + 1) 0 = bb at *
          generalize os.getD k 0 = q at *
          have hz2 := hbr.size
          have i0 : (0 : Int) ≤ (k : Int) + 1 := by omega
          have i1 : (k : Int) + 1 < (n : Int) := by omega
          have hl0 := uncK_length vs os off k
          have HL0 := hide hl0
          clear hl0
          go_wp2
          go_quiet (fail)
          go_wp2_with (at_builtin; refine wpList_pushN rfl _ _ _ rfl w2.heap.size _ _ slBnd _ _ _ rfl hown _ _ rfl rfl rfl (by omega) hz2 ?_)
          all_goals
            intro v' w4 hown4 hg4 _
            have hb4 := hbr.trans (below_push hown hg4 hz2)
            have hown5 := own_cells hown4 (ys := bcells (uncK vs os off (k + 1))) (by
              rw [HS.out, bcells_append]
              congr 1
              simp [bcells, HA.out, uncLo, uncHi]
              omega)
            clear hown hown4 hg4 hbr x1 x2 x3 hz2
            go_wp2
            go_roundw
            case rel => exact ⟨k + 1, by omega, by go_num, hown5, hb4⟩
            case measure => simp [intOf]; omega
        · obtain rfl : k = n' := by omega
          go_wp2
          go_ret2
          exact ⟨_, by rw [HE.out]; rfl, by rw [HL.out, uncK_length]; exact ownsRow_base hown hz, bthr hb hbr hz⟩
  · have HE := hide (show uncE vs os off = chkI vs os by simp [uncE, hk])
    have HL := hide (show uncL vs os off = [] by simp [uncL, uncE, hk])
    have hk2 : (chkI vs os != 0) = true := by simp [hk]
    clear hk l1 l2
    go_enter Try.func16, Try.ntmps16
    go_wp2_with fail
    refine HC.out.mono ?_
    rintro e w1 ⟨rfl, hb⟩
    go_wp2
    go_ret2
    exact ⟨_, by rw [HE.out]; rfl, by rw [HL.out]; exact World.ownsRow_nil _ _ _ _, hb⟩
end Go.Proofs.Ytbfflggoffmnmaa
