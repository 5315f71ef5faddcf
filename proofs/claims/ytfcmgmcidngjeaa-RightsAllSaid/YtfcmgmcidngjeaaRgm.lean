/-
  The contract of mk.Rights: at most six valid rights, in a row of the call's own. Condition: the deck lies in memory.
-/
import Derived.Test.YtfcmgmcidngjeaaProg
import Derived.Test.YtfcmgmcidngjeaaRga
import Derived.Test.YtfcmgmcidngjeaaPushN
namespace Go.Proofs.Ytfcmgmcidngjeaa
open Go.RowKit

theorem slRt : SlT Try.prog 22 26 4 := slT_of (z := .agg #[.int .i64 0, .int .i64 0, .int .i64 0, .int .i64 0]) (bytes := 32) Try.underlying22 (by kernel_rfl) rfl (by decide) (by decide)
theorem Dk.otherF {w w' : World} {b : Nat} {row : Option Nat} (h : Dk w b) (hg : w.grownBy w' row) (hr : ∀ k, row = some k → b < k) : Dk w' b := by
  have hlt := h.lt
  obtain ⟨A, n, c, a, zs, h, ha, hs⟩ := h
  have hk : ∀ i, i ≤ b → w'.heap[i]? = w.heap[i]? := fun i hi => hg.block i (by omega) (fun e => by have := hr i e.symm; omega)
  exact ⟨A, n, c, a, zs, (hk b (Nat.le_refl _)).trans h, ha, hs.keep fun p o hp => World.cell?_of_block (hk p (by omega))⟩
theorem grown_pushF {w w2 w3 : World} {b : Nat} {row : Option Nat} (h : w.grownBy w2 (some b)) (hg : w2.grownBy w3 row) (hr : ∀ k, row = some k → w.heap.size ≤ k) : w.grownBy w3 (some b) :=
  ⟨hg.os.trans h.os, hg.tape.trans h.tape, hg.output.trans h.output, Nat.le_trans h.size hg.size, fun i hi hn => (hg.block i (Nat.lt_of_lt_of_le hi h.size) (fun e => by have := hr i e.symm; omega)).trans (h.block i hi hn)⟩
theorem own_deckF {w w' : World} {base b : Nat} {e : TypeId} {size n : Nat} {v : Value} {xs : List Value} (h : w.ownsRow base e size v n xs) (hg : w.grownBy w' (some b)) (hb : b < base) : w'.ownsRow base e size v n xs := h.kept hg (by
  cases hv : v.ownBlock with
  | none => exact .inl rfl
  | some g => exact .inr (fun e => by injection e with e; have := (h.lt g hv).1; omega))
def RtGood (r : Rt) : Prop := (0 ≤ r.date ∧ r.date ≤ 300) ∧ (0 ≤ r.flow ∧ r.flow < 12) ∧ (0 ≤ r.f ∧ r.f < 365) ∧ (0 ≤ r.t ∧ r.t < 365)
def RtsMade (b : Nat) (w : World) (e : Ending) (w' : World) : Prop := ∃ (A : Option Addr) (c : Nat) (rs : List Rt), e = .returned (.slice A rs.length c) ∧ rs.length ≤ 6 ∧ (∀ r ∈ rs, RtGood r) ∧ w'.ownsRow w.heap.size 26 4 (.slice A rs.length c) rs.length (rtCells rs) ∧ Dk w' b ∧ w.grownBy w' (some b)
set_option maxHeartbeats 1600000 in
set_option maxRecDepth 20000 in
theorem rights_any (b : Nat) (w : World) (hD : Dk w b) : Calls Try.prog 6 #[.pointer (some ⟨b, 0, none⟩)] w (RtsMade b w) := by
  have hbl := hD.lt
  go_enter Try.func6, Try.ntmps6
  go_wp2_with fail
  refine (next_any b 7 (by omega) _ hD).mono ?_
  rintro e w1 ⟨x, rfl, hx0, hx1, hD1, hg1, hz1⟩
  obtain ⟨k0, rfl⟩ : ∃ k0 : Nat, x = (k0 : Int) := ⟨x.toNat, by omega⟩
  have hk6 : k0 ≤ 6 := by omega
  clear hD hx0 hx1
  go_wp2
  go_loopw [3, 4] (fun v kk wr => ∃ (q : Nat) (rs : List Rt), q + rs.length = k0 ∧ kk = .int .i64 q ∧ (∀ r ∈ rs, RtGood r) ∧ wr.ownsRow w.heap.size 26 4 v rs.length (rtCells rs) ∧ Dk wr b ∧ w.grownBy wr (some b)) (fun _ kk _ => (intOf kk).toNat)
  case atStart => exact ⟨k0, [], by simp, rfl, by simp, World.ownsRow_nil _ _ _ _, hD1, hg1⟩
  case round =>
    obtain ⟨q, rs, hq, rfl, hgd, ho, hDr, hgr⟩ := hrel
    by_cases hlt : 0 < q
    · have hqi : (0 : Int) < (q : Int) := by omega
      have HGD := hide hgd
      have HO := hide ho
      have HG := hide hgr
      clear hgd ho hgr
      go_wp2_with fail
      refine (next_any b 4 (by omega) _ hDr).mono ?_
      rintro e w2 ⟨d, rfl, hd0, hd1, hD2, hg2, hz2⟩
      go_wp2_with fail
      refine (next_any b 12 (by omega) _ hD2).mono ?_
      rintro e w3 ⟨f, rfl, hf0, hf1, hD3, hg3, hz3⟩
      go_wp2_with fail
      refine (span_any b _ hD3).mono ?_
      rintro e w4 ⟨s, t, rfl, hst, hD4, hg4⟩
      have hG4 := grown_trans (grown_trans hg2 hg3) hg4
      have hO4 := own_deckF HO.out hG4 hbl
      have hz4 : w.heap.size ≤ w4.heap.size := (grown_trans HG.out hG4).size
      have HG4 := hide (grown_trans HG.out hG4)
      have HD4 := hide hD4
      have HNEW := hide (show RtGood ⟨d * 100, f, s, t⟩ from ⟨by simp only; omega, by simp only; omega, by simp only; omega, by simp only; omega⟩)
      have hrl : rs.length < 549755813888 := by omega
      clear hD2 hD3 hD4 hg2 hg3 hg4 hz2 hz3 hG4 hDr
      go_wp2_with (at_builtin; refine wpList_push rfl _ _ _ rfl w.heap.size _ _ slRt _ _ _ rfl hO4 _ _ rfl rfl rfl hrl hz4 ?_)
      intro v' w5 hv5 hg5 _
      have HV := hide (show w5.ownsRow w.heap.size 26 4 v' (rs ++ [(⟨d * 100, f, s, t⟩ : Rt)]).length (rtCells (rs ++ [(⟨d * 100, f, s, t⟩ : Rt)])) by
        rw [rtCells_append, List.length_append]; exact hv5)
      have HD5 := hide (HD4.out.otherF hg5 (fun g hg => by have := (hO4.lt g hg).1; omega))
      have HG5 := hide (grown_pushF HG4.out hg5 (fun g hg => (hO4.lt g hg).1))
      have HGD2 := hide (show ∀ r ∈ rs ++ [(⟨d * 100, f, s, t⟩ : Rt)], RtGood r from fun r hr => by
        rcases List.mem_append.1 hr with h | h
        · exact HGD.out r h
        · rw [List.mem_singleton] at h; subst h; exact HNEW.out)
      clear hv5 hg5 hO4
      go_wp2
      go_roundw
      case rel => exact ⟨q - 1, rs ++ [⟨d * 100, f, s, t⟩], by simp; omega, by congr 1; omega, HGD2.out, HV.out, HD5.out, HG5.out⟩
      case measure => simp [intOf]; omega
    · have hqi : ¬ (0 : Int) < (q : Int) := by omega
      obtain ⟨A, c, rfl, -⟩ := own_sl ho
      have HR := hide (show RtsMade b w (.returned (.slice A rs.length c)) wr from ⟨A, c, rs, rfl, by omega, hgd, ho, hDr, hgr⟩)
      clear hgd ho hDr hgr
      go_wp2
      go_ret
      exact HR.out
end Go.Proofs.Ytfcmgmcidngjeaa
