/-
  The program's and the reference's Share and Spread at any list: more than 4096 weights are an error. Condition: the slice can be read.
-/
import Derived.Test.YtbfflggoffmnmaaProg
import Derived.Test.YtbfflggoffmnmaaRiu
namespace Go.Proofs.Ytbfflggoffmnmaa
open Go.RowKit

def shGE (a : Int) (ws : List Int) : Int := if (!wit a 274877906944 || ws.any fun v => !wit v 10000) = true then 1 else if 4096 < ws.length then 10 else shE a ws
def shGV (a : Int) (ws : List Int) : List Int := if shGE a ws = 0 then shFV a ws else []
def ShgPost (w : World) (a : Int) (ws : List Int) (e : Ending) (w' : World) : Prop := ∃ v, e = .returned (.tuple #[v, .int .i64 (shGE a ws)]) ∧ w'.ownsRow w.heap.size 3 1 v (shGV a ws).length (ints (shGV a ws)) ∧ Below w.heap.size w w'
theorem shF_ne {a : Int} {ws : List Int} (h : shFE a ws ≠ 0) : shFV a ws = [] := by
  unfold shFE at h
  unfold shFV
  split
  · rfl
  · rename_i hw
    rw [if_neg hw] at h
    unfold shE at h
    unfold shV
    split at h
    · rename_i h1
      split at h
      · rename_i h2; rw [if_pos h1, if_pos h2]
      · exact absurd rfl h
    · exact absurd rfl h
theorem shG_short {a : Int} {ws : List Int} (h : ws.length ≤ 4096) : shGE a ws = shFE a ws ∧ shGV a ws = shFV a ws := by
  have he : shGE a ws = shFE a ws := by
    unfold shGE shFE
    split
    · rfl
    · rw [if_neg (by omega)]
  refine ⟨he, ?_⟩
  unfold shGV
  rw [he]
  split
  · rfl
  · rename_i hn; exact (shF_ne hn).symm
theorem shG_wrong {a : Int} {ws : List Int} (h : (!wit a 274877906944 || ws.any fun v => !wit v 10000) = true) : shGE a ws = 1 ∧ shGV a ws = [] := by
  have he : shGE a ws = 1 := by unfold shGE; rw [if_pos h]
  exact ⟨he, by unfold shGV; rw [he]; rfl⟩
theorem shG_long {a : Int} {ws : List Int} (h : (!wit a 274877906944 || ws.any fun v => !wit v 10000) = false) (hl : 4096 < ws.length) : shGE a ws = 10 ∧ shGV a ws = [] := by
  have he : shGE a ws = 10 := by unfold shGE; rw [if_neg (by simp [h]), if_pos hl]
  exact ⟨he, by unfold shGV; rw [he]; rfl⟩
theorem shg_of {a : Int} {ws : List Int} {w w' : World} {e : Ending} (hl : ws.length ≤ 4096) (h : ShfPost w a ws e w') : ShgPost w a ws e w' := by
  obtain ⟨v, h1, h2, h3⟩ := h
  obtain ⟨e1, e2⟩ := shG_short (a := a) hl
  exact ⟨v, by rw [e1]; exact h1, by rw [e2]; exact h2, h3⟩
set_option maxHeartbeats 600000 in
set_option maxRecDepth 20000 in
theorem share_all (a : Int) (ws : List Int) (A : Option Addr) (n c : Nat) (w : World) (hs : Sl w w.heap.size 1 A n c (ints ws)) :
    Calls Try.prog 35 #[.int .i64 a, .slice A n c] w (ShgPost w a ws) := by
  have hl : n = ws.length := by have := hs.1; rw [ints_length] at this; omega
  by_cases hn : n ≤ 4096
  · exact (share_full a ws A n c w hn hs).mono fun e w' h => shg_of (by omega) h
  · have hB := (bel1 (w := w) (o := .cells #[.int .i64 a] 3)).alloc (by simp) (.cells #[.slice A n c] 22)
    have hni : (4096 : Int) < (n : Int) := by omega
    have hm : n ≤ 9223372036854775807 := by have a1 := hs.2.1; have a2 := hs.2.2.1; unfold maxLen at a2; omega
    have HS := hide hs
    clear hs
    cases hA : wit a 274877906944
    · have HA := hide hA
      obtain ⟨he, hv⟩ := shG_wrong (a := a) (ws := ws) (by rw [hA]; rfl)
      have HE := hide he
      have HV := hide hv
      clear hA he hv hl
      go_enter Try.func35, Try.ntmps35
      go_wp2_with fail
      refine (within_any _ _ _).mono ?_
      rintro e w1 ⟨rfl, rfl⟩
      rw [HA.out]
      go_wp2
      go_ret2
      exact ⟨_, by rw [HE.out]; rfl, by rw [HV.out]; exact World.ownsRow_nil _ _ _ _, hB⟩
    · cases hW : ws.any fun v => !wit v 10000
      · obtain ⟨he, hv⟩ := shG_long (a := a) (ws := ws) (by rw [hA, hW]; rfl) (by omega)
        have HA := hide hA
        have HW := hide hW
        have HE := hide he
        have HV := hide hv
        clear hA hW he hv hl
        go_enter Try.func35, Try.ntmps35
        go_wp2_with fail
        refine (within_any _ _ _).mono ?_
        rintro e w1 ⟨rfl, rfl⟩
        rw [HA.out]
        go_wp2_with fail
        refine (contains_func0 _ cfS1 (fun v => !wit v 10000) A n c ws _ ((HS.out.allocw _).allocw _) (fun v => wrong_any v _)).mono ?_
        rintro e w1 ⟨rfl, rfl⟩
        rw [HW.out]
        go_wp2
        go_ret2
        exact ⟨_, by rw [HE.out]; rfl, by rw [HV.out]; exact World.ownsRow_nil _ _ _ _, hB⟩
      · obtain ⟨he, hv⟩ := shG_wrong (a := a) (ws := ws) (by rw [hW, Bool.or_true])
        have HA := hide hA
        have HW := hide hW
        have HE := hide he
        have HV := hide hv
        clear hA hW he hv hl
        go_enter Try.func35, Try.ntmps35
        go_wp2_with fail
        refine (within_any _ _ _).mono ?_
        rintro e w1 ⟨rfl, rfl⟩
        rw [HA.out]
        go_wp2_with fail
        refine (contains_func0 _ cfS1 (fun v => !wit v 10000) A n c ws _ ((HS.out.allocw _).allocw _) (fun v => wrong_any v _)).mono ?_
        rintro e w1 ⟨rfl, rfl⟩
        rw [HW.out]
        go_wp2
        go_ret2
        exact ⟨_, by rw [HE.out]; rfl, by rw [HV.out]; exact World.ownsRow_nil _ _ _ _, hB⟩
set_option maxHeartbeats 600000 in
set_option maxRecDepth 20000 in
theorem rshare_all (a : Int) (ws : List Int) (A : Option Addr) (n c : Nat) (w : World) (hs : Sl w w.heap.size 1 A n c (ints ws)) :
    Calls Try.prog 36 #[.int .i64 a, .slice A n c] w (ShgPost w a ws) := by
  have hl : n = ws.length := by have := hs.1; rw [ints_length] at this; omega
  by_cases hn : n ≤ 4096
  · exact (rshare_full a ws A n c w hn hs).mono fun e w' h => shg_of (by omega) h
  · have hni : (4096 : Int) < (n : Int) := by omega
    have hm : n ≤ 9223372036854775807 := by have a1 := hs.2.1; have a2 := hs.2.2.1; unfold maxLen at a2; omega
    have HS := hide hs
    have HL := hide hl
    clear hs hl
    cases hA : wit a 274877906944
    · have HA := hide hA
      obtain ⟨he, hv⟩ := shG_wrong (a := a) (ws := ws) (by rw [hA]; rfl)
      have HE := hide he
      have HV := hide hv
      clear hA he hv
      go_enter Try.func36, Try.ntmps36
      go_wp2_with fail
      refine (rin_any _ _ _).mono ?_
      rintro e w1 ⟨rfl, rfl⟩
      rw [HA.out]
      go_wp2
      go_ret2
      exact ⟨_, by rw [HE.out]; rfl, by rw [HV.out]; exact World.ownsRow_nil _ _ _ _, Below.refl _ _⟩
    · have HA := hide hA
      clear hA
      go_enter Try.func36, Try.ntmps36
      go_wp2_with fail
      refine (rin_any _ _ _).mono ?_
      rintro e w1 ⟨rfl, rfl⟩
      rw [HA.out]
      go_wp2
      go_loopw [6, 22] (fun v i wr => ∃ (k : Nat) (s : Int), k ≤ n ∧ i = .int .i64 k ∧ v = .int .i64 s ∧ Hid (AllW 10000 ws k) ∧ wr = w) (fun _ i _ => n - (intOf i).toNat)
      case atStart => exact ⟨0, 0, by omega, rfl, rfl, hide (fun j h => absurd h (by omega)), rfl⟩
      case round =>
        obtain ⟨k, s, hk, rfl, rfl, hall, rfl⟩ := hrel
        by_cases hlt : k < n
        · have hL := HL.out
          obtain ⟨b, o, rfl, hb, hc⟩ := HS.out.at_ hlt
          have cx := hc k _ (ints_get ws k (by omega))
          have HAW := hide (fun h => any_wrong (ws := ws) (k := k) (by omega) h)
          have HSN := hide (fun h => allW_succ hall.out h)
          have hki : (k : Int) < (n : Int) := by omega
          clear hc hL
          generalize ws.getD k 0 = x at *
          cases hx : wit x 10000
          · have HX := hide hx
            obtain ⟨he, hv⟩ := shG_wrong (a := a) (ws := ws) (by rw [HAW.out hx, Bool.or_true])
            have HE := hide he
            have HV := hide hv
            clear hx HAW HSN he hv
            go_wp2_with fail
            refine (rin_any _ _ _).mono ?_
            rintro e w1 ⟨rfl, rfl⟩
            rw [HX.out]
            go_wp2
            go_ret2
            exact ⟨_, by rw [HE.out]; rfl, by rw [HV.out]; exact World.ownsRow_nil _ _ _ _, Below.refl _ _⟩
          · have HX := hide hx
            have HSN2 := hide (HSN.out hx)
            clear hx HAW HSN
            go_wp2_with fail
            refine (rin_any _ _ _).mono ?_
            rintro e w1 ⟨rfl, rfl⟩
            rw [HX.out]
            go_wp2
            go_roundw
            case rel => exact ⟨k + 1, _, by omega, by go_num, rfl, HSN2, by trivial⟩
            case measure => simp [intOf]; omega
        · obtain rfl : k = n := by omega
          have hright := any_right (ws := ws) (fun j hj => hall.out j (by have := HL.out; omega))
          obtain ⟨he, hv⟩ := shG_long (a := a) (ws := ws) (by rw [HA.out, hright]; rfl) (by have := HL.out; omega)
          have HE := hide he
          have HV := hide hv
          clear hright he hv
          go_wp2
          go_ret2
          exact ⟨_, by rw [HE.out]; rfl, by rw [HV.out]; exact World.ownsRow_nil _ _ _ _, Below.refl _ _⟩
theorem spread_all (a : Int) (ws : List Int) (A : Option Addr) (n c : Nat) (w : World) (hs : Sl w w.heap.size 1 A n c (ints ws)) :
    Calls Try.prog 23 #[.int .i64 a, .slice A n c] w (ShgPost w a ws) := by
  have HC := hide (share_all a ws A n c w hs)
  clear hs
  go_enter Try.func23, Try.ntmps23
  go_wp2_with fail
  refine HC.out.mono ?_
  rintro e w' ⟨v, rfl, hv, hb⟩
  have HV := hide hv
  clear hv
  go_wp2
  go_ret2
  exact ⟨v, rfl, HV.out, hb⟩
theorem rspread_all (a : Int) (ws : List Int) (A : Option Addr) (n c : Nat) (w : World) (hs : Sl w w.heap.size 1 A n c (ints ws)) :
    Calls Try.prog 24 #[.int .i64 a, .slice A n c] w (ShgPost w a ws) := by
  have HC := hide (rshare_all a ws A n c w hs)
  clear hs
  go_enter Try.func24, Try.ntmps24
  go_wp2_with fail
  refine HC.out.mono ?_
  rintro e w' ⟨v, rfl, hv, hb⟩
  have HV := hide hv
  clear hv
  go_wp2
  go_ret2
  exact ⟨v, rfl, HV.out, hb⟩
end Go.Proofs.Ytbfflggoffmnmaa
