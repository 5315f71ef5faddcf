/-
  The iterator inflow.groups: it hands a loop body the groups of a slice, one after the other. Condition: the loop's body keeps the iterator's two boxes.
-/
import Derived.RangeFuncNested
import Derived.RangeFuncBound
import Derived.RangeFuncCalls
import Derived.RangeFuncLeaves
import Derived.RangeFuncBox
import Derived.Shelf.Abstract
import Derived.WalkKit
import Derived.OwnWalkIn
import Derived.TacticsInMore
import Derived.LoopNIn
import Derived.LoopIn
import Derived.Test.YtbfflggoffmnmaaProg
import Derived.Test.YtbfflggoffmnmaaReg
namespace Go.Proofs.Ytbfflggoffmnmaa
open Go.RowKit Go.Shelf
attribute [local go_sem] Oper.semAt_some

/-- how a round's body ends: normally -/
def rndPost (B : Nat) (Kp : World → World → Prop) (I : World → Prop) (W : World) : Exit → Act → World → Prop
  | .normal, _, W' => KeepsFrom B W W' ∧ Kp W W' ∧ I W'
  | _, _, _ => False

/-- a range over an iterator that writes its own box Bl between two rounds, and whose loop's body never leaves -/
theorem range_box {P : Program} {n : Nat} {g : Operand} {ps : Array Tmp} {assign body : Code} {Q : Exit → Act → World → Prop} {a : Act} {w : World}
    (h1 : 1 ≤ n) {gf : Nat} {lb : Array Value} (hg : a.eval g = .func (.func gf) #[] lb) (eg : ∀ args w, (callFunc gf args).run P w = .ok (.enter gf args) w)
    (enc : Nat → Value) (nx : Nat → Nat) (N : Nat) (Kp : World → World → Prop) (Bl : Nat) (hBl : Bl < w.heap.size) (hps : ps.size = 1)
    (hseq : ∀ (l : Nat) (J : Nat → World → Prop) (W : World), Below w.heap.size w W → (∀ s W1 v, J s W1 → J s (W1.setCell ⟨Bl, 0, none⟩ v)) →
      (∀ s W1, J s W1 → s < N → YieldAt Fence.wide (n - 1 - 1) P l #[enc s] W1 fun e W' => e = .returned (.bool true) ∧ J (nx s) W' ∧ Kp W1 W') → J 0 W →
      CallsIn Fence.wide (n - 1) P gf (#[.func (.yield l) #[] #[]] ++ lb) W fun e W' => (∃ v, e = .returned v) ∧ J N W')
    (hKt : ∀ {A B C : World}, Kp A B → Kp B C → Kp A C) (hKb : ∀ (W : World) (l : Nat) (o o' : Obj), w.heap.size ≤ l → W.heap[l]? = some o → o.isCells = false → Kp W (W.putObj l o'))
    (I : Nat → World → Prop) (hIs : ∀ s W v, I s W → I s (W.setCell ⟨Bl, 0, none⟩ v)) (hI : OwnFrom w.heap.size I) (h0 : I 0 w) (a₁ : Nat → Act)
    (hassign : ∀ (l : Nat) (s : Nat) (W : World) (K : Act → World → Prop), K (a₁ s) W →
      assign.wpIn (Fence.wide.inRound l) (n - 1 - 1) P (Exit.then K (fun _ _ _ => False)) { tmps := (ps.zip #[enc s]).foldl (fun t (p, v) => t.setIfInBounds p v) a.tmps, defers := [] } W)
    (hbody : ∀ (l s : Nat) (W : World), I s W → s < N → body.wpIn (Fence.wide.inRound l) (n - 1 - 1) P (rndPost w.heap.size Kp (I (nx s)) W) (a₁ s) W)
    (hdone : ∀ (D : Nat) (W : World), w.heap.size ≤ D → I N W → W.heap[D]? = some (.deferred (some [])) → Q .normal { a with defers := { target := .collected D, args := #[] } :: a.defers } W) :
    (Code.rangeFunc g ps assign body).wpIn Fence.wide n P Q a w := by
  refine wpIn_rangeFunc fun fn _ => ?_
  obtain ⟨rec, hrec⟩ : ∃ rec : LoopState → Loop, rec = fun st => { state := st, pending := none, fn, tmps := a.tmps, params := ps, assign, body, defers := w.heap.size } := ⟨_, rfl⟩
  have hst : ∀ st, (rec st).state = st := fun st => by rw [hrec]
  have hpn : ∀ st, (rec st).pending = none := fun st => by rw [hrec]
  have hwi : ∀ st st', { rec st with state := st' } = rec st' := fun st st' => by rw [hrec]
  have hwp : ∀ st st', { rec st with state := st', pending := none } = rec st' := fun st st' => by rw [hrec]
  generalize hW1 : (w.alloc (.deferred (some []))).alloc (.loop (rec .ready)) = W1
  have hL1 : W1.heap[w.heap.size + 1]? = some (.loop (rec .ready)) := by
    rw [← hW1, ← World.size_alloc w (.deferred (some []))]; exact World.alloc_heap_new _ _
  have hK1 : W1.heap[w.heap.size]? = some (.deferred (some [])) := by
    rw [← hW1]; exact (Below.heap_alloc _ _ _ (by simp)).trans (World.alloc_heap_new w _)
  have hb1 : Below w.heap.size w W1 := by
    rw [← hW1]; exact ((Below.refl _ w).alloc (Nat.le_refl _) _).alloc (by simp) _
  have hI1 : I 0 W1 := by rw [← hW1]; exact hI.alloc _ (hI.alloc _ h0)
  have oth : ∀ (W : World) (k : Nat) (v : Value), w.heap.size ≤ k → (W.setCell ⟨Bl, 0, none⟩ v).heap[k]? = W.heap[k]? := fun W k v hk => Below.heap_setCell W _ v k (by show k ≠ Bl; omega)
  refine ⟨w.heap.size + 1, [{ target := .collected w.heap.size, args := #[] }], W1, { target := .fn (.func gf) lb, args := #[.func (.yield (w.heap.size + 1)) #[] #[]] }, W1, gf, #[.func (.yield (w.heap.size + 1)) #[] #[]] ++ lb, W1, ?_, ?_, fun _ _ => trivial, ?_, fun _ => h1, ?_⟩
  · rw [← hW1, hrec]; exact run_enterLoop_outer _ _ _ _ _
  · simp only [resolve, hg]
    simp [go_sem]
  · simp [invoke, go_sem, eg]
  · refine (hseq (w.heap.size + 1) (fun s W => I s W ∧ W.heap[w.heap.size + 1]? = some (.loop (rec .ready)) ∧ W.heap[w.heap.size]? = some (.deferred (some []))) W1 hb1
      (fun s W v ⟨hi, hl, hk⟩ => ⟨hIs s W v hi, (oth W _ v (by omega)).trans hl, (oth W _ v (Nat.le_refl _)).trans hk⟩) ?_ ⟨hI1, hL1, hK1⟩).mono ?_
    · rintro s W ⟨hi, hl, hk⟩ hs
      have hlt : w.heap.size + 1 < W.heap.size := (Array.getElem?_eq_some_iff.1 hl).1
      have hy := run_yield (P := P) (args := #[enc s]) hl (by rw [hrec]; exact hps.symm)
      have hbr := run_beginRound (P := P) hl (hst _)
      rw [hwi] at hbr
      rw [hrec] at hy
      have g1 : (W.putObj (w.heap.size + 1) (.loop (rec .busy))).heap[w.heap.size + 1]? = some (.loop (rec .busy)) := World.putObj_heap_same hlt
      have g2 : (W.putObj (w.heap.size + 1) (.loop (rec .busy))).heap[w.heap.size]? = some (.deferred (some [])) := (World.putObj_heap_other (by omega)).trans hk
      refine ⟨fn, _, assign, body, hy, roundIn_of_wpIn trivial (hassign _ s W _ ⟨_, hbr, ?_⟩)⟩
      refine wpIn_mono (hbody _ s _ (hI.putObj _ hi (by omega) hl rfl) hs) ?_
      rintro e a3 W3 hp
      cases e with
      | normal =>
        obtain ⟨hk3, hkp, hi3⟩ := hp
        have g3 := hk3.same _ _ (by omega) g1 rfl
        have g4 := hk3.same _ _ (Nat.le_refl _) g2 rfl
        have hen := run_endRound (P := P) none g3
        simp only [Option.isNone_none, if_true] at hen
        rw [hwp] at hen
        exact ⟨_, _, hen, rfl, ⟨hI.putObj _ hi3 (by omega) g3 rfl, World.putObj_heap_same (Array.getElem?_eq_some_iff.1 g3).1, (World.putObj_heap_other (by omega)).trans g4⟩,
          hKt (hKt (hKb _ _ _ _ (by omega) hl rfl) hkp) (hKb _ _ _ _ (by omega) g3 rfl)⟩
      | _ => exact hp.elim
    · rintro e W2 ⟨⟨v, rfl⟩, hi, hl, hk⟩
      have hen := run_endLoop (P := P) hl (by rw [hst]; simp)
      rw [hpn] at hen
      exact ⟨none, _, hen, hdone _ _ (Nat.le_refl _) (hI.putObj _ hi (by omega) hl rfl) ((World.putObj_heap_other (by omega)).trans hk)⟩

/-! the iterator -/
def lenBox (B : Nat) (W : World) : Nat := match W.cell? ⟨B, 0, none⟩ with | some (.slice _ n _) => n | _ => 0
theorem lenBox_eq {B : Nat} {W : World} {t : TypeId} {A : Option Addr} {n c : Nat} (h : Boxed W B t (.slice A n c)) : lenBox B W = n := by simp [lenBox, h.cell]
def grpNx (wd n s : Nat) : Nat := s + min wd (n - s)
def grpV (b o wd n c s : Nat) : Value := .slice (some ⟨b, o + s, none⟩) (min wd (n - s)) (c - s)
def KeepB (n₀ Bl Bw : Nat) (W W' : World) : Prop := Below n₀ W W' ∧ W'.heap[Bl]? = W.heap[Bl]? ∧ W'.heap[Bw]? = W.heap[Bw]?
def RowAt (A : Option Addr) (b o s n : Nat) : Prop := s < n → A = some ⟨b, o + s, none⟩
theorem grp_nx0 {wd n s : Nat} (h : s ≤ n) : grpNx wd n s ≤ n := by unfold grpNx; omega

set_option maxRecDepth 100000 in
set_option maxHeartbeats 2000000 in
theorem groups1_in (n : Nat) (h1 : 1 ≤ n) (l Bl Bw n₀ b o nn c wd : Nat) (A : Option Addr) (hA : RowAt A b o 0 nn) (hne : Bw ≠ Bl) (hnc : nn ≤ c) (hc : c ≤ 9223372036854775807) (hwd : 1 ≤ wd) (hwm : wd ≤ 4096) (J : Nat → World → Prop)
    (hJ : ∀ s W1 v, J s W1 → J s (W1.setCell ⟨Bl, 0, none⟩ v))
    (hY : ∀ s W1, J s W1 → s < nn → YieldAt Fence.wide (n - 1) Try.prog l #[grpV b o wd nn c s] W1 fun e W' => e = .returned (.bool true) ∧ J (grpNx wd nn s) W' ∧ KeepB n₀ Bl Bw W1 W')
    (W : World) (hBl : Boxed W Bl 22 (.slice A nn c)) (hBw : Boxed W Bw 3 (.int .i64 wd)) (h0 : J 0 W) :
    CallsIn Fence.wide n Try.prog 38 #[.func (.yield l) #[] #[], .pointer (some ⟨Bl, 0, none⟩), .pointer (some ⟨Bw, 0, none⟩)] W fun e W' => (∃ v, e = .returned v) ∧ J nn W' := by
  refine callsIn_of_wp Try.func38 rfl trivial ?_ rfl
  simp only [Try.ntmps38, List.size_toArray, List.length_cons, List.length_nil, Nat.reduceAdd, Nat.reduceSub, Array.replicate_succ, Array.replicate_zero, List.push_toArray, List.append_toArray, List.nil_append, List.cons_append]
  gi_wp2
  gi_loopw [4] (fun _ wr => ∃ (s : Nat) (A' : Option Addr) (k d : Nat), s ≤ nn ∧ k = nn - s ∧ d = c - s ∧ Boxed wr Bl 22 (.slice A' k d) ∧ RowAt A' b o s nn ∧ Boxed wr Bw 3 (.int .i64 wd) ∧ J s wr) (fun _ wr => lenBox Bl wr)
  case atStart => exact ⟨0, A, nn, c, by omega, by omega, by omega, hBl, hA, hBw, h0⟩
  case round =>
    obtain ⟨s, A', k, d, hs, hk, hd, hB1, hA', hB2, hJs⟩ := hrel
    have hcl := hB1.cell
    have hcw := hB2.cell
    have hfl := hB1.frozen
    by_cases hlt : s < nn
    · obtain rfl := hA' hlt
      obtain ⟨fn, tmps, assign, body, hy, hR⟩ := hY _ wr hJs hlt
      have hk0 : 0 < k := by omega
      have hk0i : (0 : Int) < (k : Int) := by omega
      have hki : (k : Int) ≤ (d : Int) := by omega
      have hdm : (d : Int) ≤ 9223372036854775807 := by omega
      obtain ⟨m, hm⟩ : ∃ m, min wd (nn - s) = m := ⟨_, rfl⟩
      have HN := hide (show grpNx wd nn s = s + m by unfold grpNx; rw [hm])
      have HD := hide (show nn - s = k ∧ c - s = d from ⟨hk.symm, hd.symm⟩)
      unfold grpV at hy
      rw [hm, ← hd] at hy
      have hmk : m ≤ k := by omega
      have hm0 : 0 < m := by omega
      have hmi : (m : Int) ≤ (k : Int) := by omega
      have hmi0 : (0 : Int) ≤ (m : Int) := by omega
      have hmd : (m : Int) ≤ (d : Int) := by omega
      rcases Nat.lt_trichotomy wd k with hwk | hwk | hwk
      · obtain rfl : wd = m := by omega
        have hwi : (wd : Int) < (k : Int) := by omega
        have HK := hide hk
        clear hm hk hd
        gi_wp2
        refine hR.mono ?_
        rintro e W3 ⟨rfl, hJ3, hk3⟩
        have hB3 : Boxed W3 Bl 22 (.slice (some ⟨b, o + s, none⟩) k d) := hk3.2.1.trans hB1
        have hB4 : Boxed W3 Bw 3 (.int .i64 wd) := hk3.2.2.trans hB2
        have hcl3 := hB3.cell
        have hfl3 := hB3.frozen
        rw [HN.out] at hJ3
        clear hR hy hk3 hcl hfl hcw
        gi_wp2
        go_roundw
        case rel => exact ⟨s + wd, _, _, _, by have := HD.out; omega, by have := HD.out; omega, by have := HD.out; omega, hB3.set _, fun hx => by (first | (rw [if_neg (by have := HD.out; omega), Nat.add_assoc]) | rw [Nat.add_assoc]), hB4.kept (grownBy_setCell' _ _ _) (by simpa using hne), hJ _ _ _ hJ3⟩
        case measure => rw [lenBox_eq (hB3.set _), lenBox_eq hB1]; omega
      · obtain rfl : wd = m := by omega
        obtain rfl : wd = k := by omega
        have HK := hide hk
        clear hm hk hd
        gi_wp2
        refine hR.mono ?_
        rintro e W3 ⟨rfl, hJ3, hk3⟩
        have hB3 : Boxed W3 Bl 22 (.slice (some ⟨b, o + s, none⟩) wd d) := hk3.2.1.trans hB1
        have hB4 : Boxed W3 Bw 3 (.int .i64 wd) := hk3.2.2.trans hB2
        have hcl3 := hB3.cell
        have hfl3 := hB3.frozen
        rw [HN.out] at hJ3
        clear hR hy hk3 hcl hfl hcw
        gi_wp2
        go_roundw
        case rel => exact ⟨s + wd, _, _, _, by have := HD.out; omega, by have := HD.out; omega, by have := HD.out; omega, hB3.set _, fun hx => by (first | (rw [if_neg (by have := HD.out; omega), Nat.add_assoc]) | rw [Nat.add_assoc]), hB4.kept (grownBy_setCell' _ _ _) (by simpa using hne), hJ _ _ _ hJ3⟩
        case measure => rw [lenBox_eq (hB3.set _), lenBox_eq hB1]; omega
      · obtain rfl : k = m := by omega
        have hwi : (k : Int) < (wd : Int) := by omega
        have HK := hide hk
        clear hm hk hd
        gi_wp2
        refine hR.mono ?_
        rintro e W3 ⟨rfl, hJ3, hk3⟩
        have hB3 : Boxed W3 Bl 22 (.slice (some ⟨b, o + s, none⟩) k d) := hk3.2.1.trans hB1
        have hB4 : Boxed W3 Bw 3 (.int .i64 wd) := hk3.2.2.trans hB2
        have hcl3 := hB3.cell
        have hfl3 := hB3.frozen
        rw [HN.out] at hJ3
        clear hR hy hk3 hcl hfl hcw
        gi_wp2
        go_roundw
        case rel => exact ⟨s + k, _, _, _, by have := HD.out; omega, by have := HD.out; omega, by have := HD.out; omega, hB3.set _, fun hx => by (first | (rw [if_neg (by have := HD.out; omega), Nat.add_assoc]) | rw [Nat.add_assoc]), hB4.kept (grownBy_setCell' _ _ _) (by simpa using hne), hJ _ _ _ hJ3⟩
        case measure => rw [lenBox_eq (hB3.set _), lenBox_eq hB1]; omega
    · have hk0 : k = 0 := by omega
      have hk0i : (k : Int) ≤ 0 := by omega
      obtain rfl : s = nn := by omega
      gi_wp2
      go_end0
      exact ⟨⟨_, rfl⟩, hJs⟩

theorem groups_any (A : Option Addr) (n c wd : Nat) (w : World) :
    Calls Try.prog 28 #[.slice A n c, .int .i64 wd] w fun e w' => e = .returned (.func (.func 38) #[] #[.pointer (some ⟨w.heap.size, 0, none⟩), .pointer (some ⟨w.heap.size + 1, 0, none⟩)]) ∧
      (w.alloc (.cells #[.slice A n c] 22)).alloc (.cells #[.int .i64 wd] 3) = w' := by
  have hmf : ∀ (fn : Fn) (first cap : Array Value) (w : World), (Instr.makeFunc fn first cap).run Try.prog w = .ok (.func fn first cap) w := fun _ _ _ _ => rfl
  go_enter Try.func28, Try.ntmps28
  go_wp2
  go_ret
  exact ⟨rfl, rfl⟩
end Go.Proofs.Ytbfflggoffmnmaa
