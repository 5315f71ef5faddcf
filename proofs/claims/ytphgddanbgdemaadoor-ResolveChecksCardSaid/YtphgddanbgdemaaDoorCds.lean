/-
  The contract of Conditions: at most six valid conditions, in a row of the call's own. Condition: the deck lies in memory.
-/
import Derived.Test.YtphgddanbgdemaaDoorProg
import Derived.Test.YtphgddanbgdemaaDoorApp
namespace Go.Proofs.YtphgddanbgdemaaDoor
open Go.RowKit

theorem own_cells {w : World} {base : Nat} {e : TypeId} {size n : Nat} {v : Value} {xs ys : List Value} (h : w.ownsRow base e size v n xs) (he : xs = ys) : w.ownsRow base e size v n ys := he ▸ h
theorem slCond : SlT Tryd.prog 31 47 7 := slT_of (z := .agg #[.int .i64 0, .int .i64 0, .int .i64 0, .int .i64 0, .int .i64 0, .int .i64 0, .int .i64 0]) (bytes := 56) Tryd.underlying31 (by kernel_rfl) rfl (by decide) (by decide)
theorem Dk.other {w w' : World} {b : Nat} {row : Option Nat} (h : Dk w b) (hg : w.grownBy w' row) (hr : ∀ k, row = some k → b < k) : Dk w' b := by
  have hlt := h.lt
  obtain ⟨A, n, c, a, zs, h, ha, hs⟩ := h
  have hk : ∀ i, i ≤ b → w'.heap[i]? = w.heap[i]? := fun i hi => hg.block i (by omega) (fun e => by have := hr i e.symm; omega)
  exact ⟨A, n, c, a, zs, (hk b (Nat.le_refl _)).trans h, ha, hs.keep fun p o hp => World.cell?_of_block (hk p (by omega))⟩
theorem grown_push {w w2 w3 : World} {b : Nat} {row : Option Nat} (h : w.grownBy w2 (some b)) (hg : w2.grownBy w3 row) (hr : ∀ k, row = some k → w.heap.size ≤ k) : w.grownBy w3 (some b) :=
  ⟨hg.os.trans h.os, hg.tape.trans h.tape, hg.output.trans h.output, Nat.le_trans h.size hg.size, fun i hi hn => (hg.block i (Nat.lt_of_lt_of_le hi h.size) (fun e => by have := hr i e.symm; omega)).trans (h.block i hi hn)⟩
theorem own_deck {w w' : World} {base b : Nat} {e : TypeId} {size n : Nat} {v : Value} {xs : List Value} (h : w.ownsRow base e size v n xs) (hg : w.grownBy w' (some b)) (hb : b < base) : w'.ownsRow base e size v n xs := h.kept hg (by
  cases hv : v.ownBlock with
  | none => exact .inl rfl
  | some g => exact .inr (fun e => by injection e with e; have := (h.lt g hv).1; omega))
def CondsMade (b : Nat) (w : World) (e : Ending) (w' : World) : Prop := ∃ (v : Value) (cs : List Cd), e = .returned v ∧ cs.length ≤ 6 ∧ (∀ c ∈ cs, c.good) ∧ w'.ownsRow w.heap.size 47 7 v cs.length (cdCells cs) ∧ Dk w' b ∧ w.grownBy w' (some b)
set_option maxHeartbeats 1600000 in
set_option maxRecDepth 20000 in
theorem conds_any (b : Nat) (w : World) (hD : Dk w b) : Calls Tryd.prog 16 #[.pointer (some ⟨b, 0, none⟩)] w (CondsMade b w) := by
  have hbl := hD.lt
  go_enter Tryd.func16, Tryd.ntmps16
  go_wp2_with fail
  refine (next_any _ _ (by omega) _ hD).mono ?_
  rintro e w1 ⟨m0, rfl, hm0, hm1, hD1, hg1, hz1⟩
  clear hD
  go_wp2
  go_loopw [3, 4] (fun v i wr => ∃ (m : Nat) (cs : List Cd), i = .int .i64 m ∧ m + cs.length ≤ 6 ∧ Hid (∀ c ∈ cs, c.good) ∧ wr.ownsRow w.heap.size 47 7 v cs.length (cdCells cs) ∧ Dk wr b ∧ w.grownBy wr (some b)) (fun _ i _ => (intOf i).toNat)
  case atStart => exact ⟨m0.toNat, [], by rw [Int.toNat_of_nonneg hm0], by simp; omega, hide (by simp), World.ownsRow_nil _ _ _ _, hD1, hg1⟩
  case round =>
    obtain ⟨m, cs, rfl, hm, hgood, hv, hDr, hgr⟩ := hrel
    by_cases h0 : m = 0
    · subst h0
      have HV := hide hv
      clear hv
      go_wp2
      go_ret
      exact ⟨_, cs, rfl, by omega, hgood.out, HV.out, hDr, hgr⟩
    · have hm0' : (0 : Int) < (m : Int) := by omega
      go_wp2_with fail
      refine (cond_any _ _ hDr).mono ?_
      rintro e w2 ⟨c, rfl, hc, hD2, hg2⟩
      have hv2 := own_deck hv hg2 hbl
      have hgr2 := grown_trans hgr hg2
      have hz2 := hgr2.size
      have HC := hide hc
      clear hv hg2 hDr hc
      obtain ⟨r, kd, vl, f, t, x, y⟩ := c
      unfold Cd.arr
      go_wp2_with (at_builtin; refine wpList_push rfl _ _ _ rfl w.heap.size _ _ slCond _ _ _ rfl hv2 _ _ rfl rfl rfl (by omega) hz2 ?_)
      intro v' w3 hv3 hg3 _
      have hD3 := hD2.other hg3 (fun k hk => by have := (hv2.lt k hk).1; omega)
      have hgr3 := grown_push hgr2 hg3 (fun k hk => (hv2.lt k hk).1)
      have hv4 := own_cells hv3 (ys := cdCells (cs ++ [⟨r, kd, vl, f, t, x, y⟩])) (by rw [cdCells_append]; rfl)
      have HV := hide hv4
      clear hv2 hv3 hv4 hg3 hD2
      go_wp2
      go_roundw
      case rel =>
        refine ⟨m - 1, cs ++ [⟨r, kd, vl, f, t, x, y⟩], by go_num, by simp; omega, hide ?_, ?_, hD3, hgr3⟩
        · intro z hz
          rcases List.mem_append.1 hz with h | h
          · exact hgood.out z h
          · rw [List.mem_singleton] at h; subst h; exact HC.out
        · have h9 : (cs ++ [(⟨r, kd, vl, f, t, x, y⟩ : Cd)]).length = cs.length + 1 := by simp
          rw [h9]; exact HV.out
      case measure => simp [intOf]; omega
end Go.Proofs.YtphgddanbgdemaaDoor
