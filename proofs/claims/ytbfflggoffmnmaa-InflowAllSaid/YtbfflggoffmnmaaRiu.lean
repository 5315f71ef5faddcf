/-
  The reference's Uncertain, Same, Spread of chapter 9, and the program's Spread at any weights. Condition: the slices can be read, the second is no longer than 2^62.
-/
import Derived.Test.YtbfflggoffmnmaaProg
import Derived.Test.YtbfflggoffmnmaaRic
namespace Go.Proofs.Ytbfflggoffmnmaa
open Go.RowKit

set_option maxHeartbeats 600000 in
set_option maxRecDepth 20000 in
theorem runc_any (A B : Option Addr) (n c n' c' : Nat) (vs os : List Int) (off : Int) (w : World) (hsm : n' ≤ 4611686018427387904) (h1 : Sl w w.heap.size 1 A n c (ints vs)) (h2 : Sl w w.heap.size 1 B n' c' (ints os)) :
    Calls Try.prog 20 #[.slice A n c, .slice B n' c', .int .i64 off] w (UncOut w vs os off) := by
  have l1 : n = vs.length := by have := h1.1; rw [ints_length] at this; omega
  have l2 : n' = os.length := by have := h2.1; rw [ints_length] at this; omega
  have HC := hide (rcheck_any A B n c n' c' vs os w hsm h1 h2)
  by_cases hk : chkI vs os = 0
  · obtain ⟨g1, g2, g3, g4⟩ := chk_zero hk
    cases hw : wit off 274877906944
    · have HE := hide (show uncE vs os off = 1 by simp [uncE, hk, hw])
      have HL := hide (show uncL vs os off = [] by simp [uncL, uncE, hk, hw])
      have HK := hide hk
      have HW := hide hw
      clear hk g1 g2 g3 g4 l1 l2 hw h1 h2
      go_enter Try.func20, Try.ntmps20
      go_wp2_with fail
      refine HC.out.mono ?_
      rintro e w1 ⟨rfl, rfl⟩
      rw [HK.out]
      go_wp2_with fail
      refine (rIn_any _ _ _).mono ?_
      rintro e w1 ⟨rfl, rfl⟩
      rw [HW.out]
      go_wp2
      go_ret2
      exact ⟨_, by rw [HE.out]; rfl, by rw [HL.out]; exact World.ownsRow_nil _ _ _ _, Below.refl _ _⟩
    · have HE := hide (show uncE vs os off = 0 by simp [uncE, hk, hw])
      have HL := hide (show uncL vs os off = uncK vs os off n' by simp [uncL, uncE, hk, hw, l2])
      have HK := hide hk
      have HW := hide hw
      obtain ⟨w0, w1⟩ := wit_iff.1 hw
      have G3 := hide g3
      have G4 := hide g4
      have L1 := hide l1
      have L2 := hide l2
      have H1 := hide h1
      have H2 := hide h2
      have hn4 : n' ≤ 4096 := by omega
      have hnn : n' < n := by omega
      clear hk g1 g2 g3 g4 l1 l2 hw h1 h2
      go_enter Try.func20, Try.ntmps20
      go_wp2_with fail
      refine HC.out.mono ?_
      rintro e w1 ⟨rfl, rfl⟩
      rw [HK.out]
      go_wp2_with fail
      refine (rIn_any _ _ _).mono ?_
      rintro e w1 ⟨rfl, rfl⟩
      rw [HW.out]
      go_wp2
      go_loopw [9, 25] (fun v i wr => ∃ k : Nat, k ≤ n' ∧ i = .int .i64 k ∧ wr.ownsRow w.heap.size 41 2 v k (bcells (uncK vs os off k)) ∧ Below w.heap.size w wr) (fun _ i _ => n' - (intOf i).toNat)
      case atStart => exact ⟨0, by omega, rfl, World.ownsRow_nil _ _ _ _, Below.refl _ _⟩
      case round =>
        obtain ⟨k, hk, rfl, hown, hbr⟩ := hrel
        by_cases hlt : k < n'
        · have hl1 := L1.out
          have hl2 := L2.out
          obtain ⟨b1, o1, rfl, hb1, hc1⟩ := H1.out.at_ (k := k) (by omega)
          obtain ⟨b2, o2, rfl, hb2, hc2⟩ := H2.out.at_ hlt
          have x1 := (hbr.cell (p := ⟨b1, o1 + k, none⟩) hb1).trans (hc1 k _ (ints_get vs k (by omega)))
          have x2 := (hbr.cell (p := ⟨b1, o1 + (k + 1), none⟩) hb1).trans (hc1 (k + 1) _ (ints_get vs (k + 1) (by omega)))
          have x3 := (hbr.cell (p := ⟨b2, o2 + k, none⟩) hb2).trans (hc2 k _ (ints_get os k (by omega)))
          obtain ⟨p0, p1⟩ := over_at G3.out (k := k) (by omega)
          obtain ⟨q0, q1⟩ := over_at G3.out (k := k + 1) (by omega)
          obtain ⟨r0, r1⟩ := over_at G4.out (k := k) (by omega)
          have HS := hide (uncK_succ vs os off k)
          have HA := hide (show uncAt vs os off k = (uncLo off (vs.getD k 0) (vs.getD (k + 1) 0) (os.getD k 0), uncHi off (vs.getD k 0) (vs.getD (k + 1) 0) (os.getD k 0)) from rfl)
          clear hc1 hc2 hl1 hl2
          generalize vs.getD k 0 = a at *
          generalize vs.getD (k + 1) 0 = bb at *
          generalize os.getD k 0 = q at *
          have hz2 := hbr.size
          have i0 : (0 : Int) ≤ (k : Int) + 1 := by omega
          have i1 : (k : Int) + 1 < (n : Int) := by omega
          have HLL := hide (uncK_length vs os off k)
          go_wp2
          go_quiet (fail)
          go_wp2_with (at_builtin; refine wpList_pushN rfl _ _ _ rfl w.heap.size _ _ slBnd _ _ _ rfl hown _ _ rfl rfl rfl (by omega) hz2 ?_)
          all_goals
            intro v' w4 hown4 hg4 _
            have hb4 := hbr.trans (below_push hown hg4 hz2)
            have hown5 := own_cells hown4 (ys := bcells (uncK vs os off (k + 1))) (by
              rw [HS.out, bcells_append]
              congr 1
              simp [bcells, HA.out, uncLo, uncHi]
              omega)
            clear hown hown4 hg4 hbr x1 x2 x3 hz2
            go_wp2
            go_roundw
            case rel => exact ⟨k + 1, by omega, by go_num, hown5, hb4⟩
            case measure => simp [intOf]; omega
        · obtain rfl : k = n' := by omega
          have HOW := hide hown
          clear hown
          go_wp2
          go_ret2
          exact ⟨_, by rw [HE.out]; rfl, by rw [HL.out, uncK_length]; exact HOW.out, hbr⟩
  · have HE := hide (show uncE vs os off = chkI vs os by simp [uncE, hk])
    have HL := hide (show uncL vs os off = [] by simp [uncL, uncE, hk])
    have hk2 : (chkI vs os != 0) = true := by simp [hk]
    clear hk l1 l2 h1 h2
    go_enter Try.func20, Try.ntmps20
    go_wp2_with fail
    refine HC.out.mono ?_
    rintro e w1 ⟨rfl, rfl⟩
    go_wp2
    go_ret2
    exact ⟨_, by rw [HE.out]; rfl, by rw [HL.out]; exact World.ownsRow_nil _ _ _ _, Below.refl _ _⟩
/-- Same at equal lists of bounds -/
theorem sameb_any (A1 A2 : Option Addr) (c1 c2 n : Nat) (xs : List (Int × Int)) (w : World) (h1 : Sl w w.heap.size 2 A1 n c1 (bcells xs)) (h2 : Sl w w.heap.size 2 A2 n c2 (bcells xs)) :
    Calls Try.prog 21 #[.slice A1 n c1, .slice A2 n c2] w fun e w' => e = .returned (.bool true) ∧ Below w.heap.size w w' := by
  have l1 : n = xs.length := by have := h1.1; rw [bcells_length] at this; omega
  have m1 : n ≤ 9223372036854775807 := by have a1 := h1.2.1; have a2 := h1.2.2.1; unfold maxLen at a2; omega
  have L1 := hide l1
  have H1 := hide h1
  have H2 := hide h2
  clear l1 h1 h2
  go_enter Try.func21, Try.ntmps21
  go_wp2
  go_loopw [13] (fun i wr => ∃ k : Nat, k ≤ n ∧ i = .int .i64 k ∧ Below w.heap.size w wr) (fun i _ => n - (intOf i).toNat)
  case atStart => exact ⟨0, by omega, rfl, Below.refl _ _⟩
  case round =>
    obtain ⟨k, hk, rfl, hb⟩ := hrel
    by_cases hlt : k < n
    · obtain ⟨b1, o1, rfl, hb1, hc1⟩ := H1.out.at_ hlt
      obtain ⟨b2, o2, rfl, hb2, hc2⟩ := H2.out.at_ hlt
      have gt := bcells_get xs k (by have := L1.out; omega)
      have y0 := (hb.cell (p := ⟨b1, o1 + k * 2, none⟩) hb1).trans (hc1 _ _ gt.1)
      have y1 := (hb.cell (p := ⟨b1, o1 + k * 2 + 1, none⟩) hb1).trans (hc1 _ _ gt.2)
      have z0 := (hb.cell (p := ⟨b2, o2 + k * 2, none⟩) hb2).trans (hc2 _ _ gt.1)
      have z1 := (hb.cell (p := ⟨b2, o2 + k * 2 + 1, none⟩) hb2).trans (hc2 _ _ gt.2)
      have hbN : ∀ q, Below w.heap.size w (wr.drewN q) := fun q => hb.grown (grown_drewN (grown_refl wr none) q) hb.size (fun k hk => by cases hk)
      have hki : (k : Int) < (n : Int) := by omega
      clear gt hc1 hc2
      generalize (xs.getD k (0, 0)).1 = u0 at *
      generalize (xs.getD k (0, 0)).2 = u1 at *
      go_wp2
      go_quiet (fail)
      go_wp2
      go_roundw
      case rel => exact ⟨k + 1, by omega, by go_num, hbN _⟩
      case measure => simp [intOf]; omega
    · obtain rfl : k = n := by omega
      go_wp2
      go_ret
      exact ⟨rfl, hb⟩
theorem spread_full (a : Int) (ws : List Int) (A : Option Addr) (n c : Nat) (w : World) (hn : n ≤ 4096) (hs : Sl w w.heap.size 1 A n c (ints ws)) :
    Calls Try.prog 23 #[.int .i64 a, .slice A n c] w (ShfPost w a ws) := by
  have HC := hide (share_full a ws A n c w hn hs)
  clear hs
  go_enter Try.func23, Try.ntmps23
  go_wp2_with fail
  refine HC.out.mono ?_
  rintro e w' ⟨v, rfl, hv, hb⟩
  have HV := hide hv
  clear hv
  go_wp2
  go_ret2
  exact ⟨v, rfl, HV.out, hb⟩
theorem rspread_full (a : Int) (ws : List Int) (A : Option Addr) (n c : Nat) (w : World) (hn : n ≤ 4096) (hs : Sl w w.heap.size 1 A n c (ints ws)) :
    Calls Try.prog 24 #[.int .i64 a, .slice A n c] w (ShfPost w a ws) := by
  have HC := hide (rshare_full a ws A n c w hn hs)
  clear hs
  go_enter Try.func24, Try.ntmps24
  go_wp2_with fail
  refine HC.out.mono ?_
  rintro e w' ⟨v, rfl, hv, hb⟩
  have HV := hide hv
  clear hv
  go_wp2
  go_ret2
  exact ⟨v, rfl, HV.out, hb⟩
end Go.Proofs.Ytbfflggoffmnmaa
