/-
  The contract of make.Units at most two units: valid units and states, their rows the call's own. Condition: the deck lies in memory.
-/
import Derived.Test.YtodamjjlnagpjaaGreatDoorProg
import Derived.Test.YtodamjjlnagpjaaGreatDoorTge
import Derived.Test.YtodamjjlnagpjaaGreatDoorTmt
namespace Go.Proofs.YtodamjjlnagpjaaGreatDoor
open Go.RowKit

theorem slUn : SlT Tryz.prog 28 90 6 := slT_of (z := .agg #[.slice none 0 0, .int .i64 0, .int .i64 0, .slice none 0 0, .int .i64 0, .int .i64 0]) (bytes := 80) Tryz.underlying28 (by kernel_rfl) rfl (by decide) (by decide)
theorem slUsm : SlT Tryz.prog 32 93 3 := slT_of (z := .agg #[.int .i64 0, .int .i64 0, .bool false]) (bytes := 24) Tryz.underlying32 (by kernel_rfl) rfl (by decide) (by decide)
theorem cfMus : ∀ (a : Array Value) (W : World), (callFunc 43 a).run Tryz.prog W = .ok (.enter 43 a) W := fun _ _ => by kernel_rfl
/-- Each state is a valid one of its unit. -/
def UsPair (us : List Un) (ss : List Us) : Prop := ∀ (i : Nat) (u : Un) (s : Us), us[i]? = some u → ss[i]? = some s → UsG u s
theorem UsPair.snoc {us : List Un} {ss : List Us} {u : Un} {s : Us} (h : UsPair us ss) (hl : ss.length = us.length) (hs : UsG u s) : UsPair (us ++ [u]) (ss ++ [s]) := by
  intro i u' s' h1 h2
  by_cases hi : i < us.length
  · rw [List.getElem?_append_left hi] at h1
    rw [List.getElem?_append_left (by omega)] at h2
    exact h i u' s' h1 h2
  · rw [List.getElem?_append_right (by omega)] at h1 h2
    rw [hl] at h2
    cases hq : i - us.length with
    | zero => rw [hq] at h1 h2; simp at h1 h2; rw [← h1, ← h2]; exact hs
    | succ n => rw [hq] at h1; simp at h1
/-- What the maker of units gives. -/
def UnitsMade (b : Nat) (w : World) (e : Ending) (w' : World) : Prop := ∃ (uA sA : Option Addr) (uc sc : Nat) (us : List Un) (ss : List Us) (S : Nat → Prop), e = .returned (.tuple #[.slice uA us.length uc, .slice sA us.length sc]) ∧ us.length ≤ 2 ∧ ss.length = us.length ∧ (∀ u ∈ us, UnG u) ∧ UsPair us ss ∧ (∀ i, S i → w.heap.size ≤ i) ∧
  Held S w' (fun W => Sl W W.heap.size 6 uA us.length uc (unCells us) ∧ (∀ u ∈ us, u.ok W) ∧ Sl W W.heap.size 3 sA us.length sc (usCells ss)) ∧ Dk w' b ∧ w.grownBy w' (some b)
set_option maxHeartbeats 3200000 in
set_option maxRecDepth 20000 in
theorem mkunits_any (b : Nat) (w : World) (hD : Dk w b) : Calls Tryz.prog 18 #[.pointer (some ⟨b, 0, none⟩), .int .i64 2] w (UnitsMade b w) := by
  have hbl := hD.lt
  go_enter Tryz.func18, Tryz.ntmps18
  go_wp2_with fail
  refine (next_any _ _ (by omega) _ hD).mono ?_
  rintro e w1 ⟨m0, rfl, hm0, hm1, hD1, hg1, hz1⟩
  have hzw : w.heap.size ≤ w1.heap.size := by omega
  clear hD hz1
  go_wp2
  go_loopw [6, 7, 8] (fun v1 v2 kv wr => ∃ (m : Nat) (us : List Un) (ss : List Us) (S : Nat → Prop), kv = .int .i64 m ∧ m + us.length ≤ 2 ∧ Hid (ss.length = us.length ∧ (∀ u ∈ us, UnG u) ∧ UsPair us ss) ∧ wr.ownsRow w.heap.size 90 6 v1 us.length (unCells us) ∧ wr.ownsRow w.heap.size 93 3 v2 us.length (usCells ss) ∧ Hid ((∀ g, v1.ownBlock = some g → v2.ownBlock ≠ some g) ∧ ∀ i, S i → w.heap.size ≤ i ∧ v1.ownBlock ≠ some i ∧ v2.ownBlock ≠ some i) ∧ Hid (Held S wr (fun W => ∀ u ∈ us, u.ok W)) ∧ Dk wr b ∧ w.grownBy wr (some b)) (fun _ _ i _ => (intOf i).toNat)
  case atStart => exact ⟨m0.toNat, [], [], fun _ => False, by rw [Int.toNat_of_nonneg hm0], by simp; omega, hide ⟨rfl, by simp, fun i u s h => by simp at h⟩, World.ownsRow_nil _ _ _ _, World.ownsRow_nil _ _ _ _, hide ⟨fun g h => (by cases h), fun i h => h.elim⟩, hide (held_true _ (by simp)), hD1, hg1⟩
  case round =>
    obtain ⟨m, us, ss, S, rfl, hm, hG, hv1, hv2, hS, hHe, hDr, hgr⟩ := hrel
    by_cases h0 : m = 0
    · subst h0
      obtain ⟨A1, c1, rfl, _⟩ := own_sl hv1
      obtain ⟨A2, c2, rfl, _⟩ := own_sl hv2
      have hH := (((held_sl hv1).both hHe.out).both (held_sl hv2)).imp (ψ := fun W => Sl W W.heap.size 6 A1 us.length c1 (unCells us) ∧ (∀ u ∈ us, u.ok W) ∧ Sl W W.heap.size 3 A2 us.length c2 (usCells ss)) (fun W h => ⟨h.1.1, h.1.2, h.2⟩)
      have hP : UnitsMade b w (.returned (.tuple #[.slice A1 us.length c1, .slice A2 us.length c2])) wr := ⟨A1, A2, c1, c2, us, ss, _, rfl, by omega, hG.out.1, hG.out.2.1, hG.out.2.2, fun i hi => (by rcases hi with (h | h) | h; (exact (hv1.lt i h).1); (exact (hS.out.2 i h).1); (exact (hv2.lt i h).1)), hH, hDr, hgr⟩
      have HP := hide hP
      clear hP hH hv1 hv2 hgr hDr
      go_wp2
      go_ret2
      exact HP.out
    · have hm0' : (0 : Int) < (m : Int) := by omega
      go_wp2_with fail
      refine (mkunit_any b wr hDr).mono ?_
      rintro e w1u ⟨u, rfl, hug, hr1, hr2, hD2, hg2⟩
      have hzr : w.heap.size ≤ wr.heap.size := hgr.size
      have hzu : wr.heap.size ≤ w1u.heap.size := hg2.size
      have hU1 := World.ownsRow.lt hr1
      have hHB := ((hHe.out.deck hg2 (fun i hi => by have := (hS.out.2 i hi).1; omega)).both ((held_sl (show w1u.ownsRow wr.heap.size 57 2 (.slice u.t.A u.t.n u.t.c) u.t.n (ptCells u.t.ps) from hr1)).both (held_sl (show w1u.ownsRow wr.heap.size 45 2 (.slice u.r.A u.r.n u.r.c) u.r.n (ptCells u.r.ps) from hr2)))).imp (ψ := fun W => (∀ x ∈ us, x.ok W) ∧ u.ok W) (fun W h => ⟨h.1, h.2.1, h.2.2⟩)
      obtain ⟨S5, hT5, hS5⟩ : ∃ S5 : Nat → Prop, TwoB w b w1u.heap.size w.heap.size 90 #[.slice u.t.A u.t.n u.t.c, .int .i64 u.lo, .int .i64 u.hi, .slice u.r.A u.r.n u.r.c, .int .i64 u.up, .int .i64 u.dn] S5 (fun W => (∀ x ∈ us, x.ok W) ∧ u.ok W) 90 93 6 3 (w1u.alloc (.cells #[.slice u.t.A u.t.n u.t.c, .int .i64 u.lo, .int .i64 u.hi, .slice u.r.A u.r.n u.r.c, .int .i64 u.up, .int .i64 u.dn] 90)) u6 us.length (unCells us) u7 us.length (usCells ss) ∧ ∀ i, S5 i → w.heap.size ≤ i := by
        have hge : ∀ i, (S i ∨ (Value.slice u.t.A u.t.n u.t.c).ownBlock = some i ∨ (Value.slice u.r.A u.r.n u.r.c).ownBlock = some i) → w.heap.size ≤ i ∧ u6.ownBlock ≠ some i ∧ u7.ownBlock ≠ some i := by
          intro i hi
          have hown : (Value.slice u.t.A u.t.n u.t.c).ownBlock = some i ∨ (Value.slice u.r.A u.r.n u.r.c).ownBlock = some i → w.heap.size ≤ i ∧ u6.ownBlock ≠ some i ∧ u7.ownBlock ≠ some i := fun h => by
            have h1 : wr.heap.size ≤ i := by
              rcases h with h | h
              · exact (World.ownsRow.lt hr1 i h).1
              · exact (World.ownsRow.lt hr2 i h).1
            exact ⟨by omega, fun e => by have := (hv1.lt i e).2; omega, fun e => by have := (hv2.lt i e).2; omega⟩
          rcases hi with h | h
          · exact hS.out.2 i h
          · exact hown h
        refine ⟨_, ⟨(own_deck hv1 hg2 hbl).alloc _, (own_deck hv2 hg2 hbl).alloc _, hS.out.1, hHB.alloc _, fun i hi => ?_, hD2.alloc _, hbl, Nat.le_refl _, by simp only [World.size_alloc]; omega, Blk.new _ _ _, ⟨fun e => by have := (hv1.lt _ e).2; omega, fun e => by have := (hv2.lt _ e).2; omega, by omega⟩, grown_alloc (grown_trans hgr hg2) _⟩, fun i hi => (hge i hi).1⟩
        have := hge i hi
        exact ⟨by omega, this.2.1, this.2.2⟩
      have HUS := hide (fun (W : World) (hD : Dk W b) (hu : ∀ W', W.grownBy W' (some b) → u.ok W') => mkus_any b u hug W hD hu)
      rw [Un.arr7] at HUS
      have HSG := hide hS5
      have hu2 : us.length ≤ 1 := by omega
      clear hv1 hv2 hS hHe hDr hgr hr1 hr2 hD2 hg2 hHB hU1 hS5 hD1 hg1
      rw [Un.arr7]
      go_wp2_with fail
      generalize w1u.alloc _ = w5 at *
      generalize w1u.heap.size = T9 at *
      -- <R
      refine wp_region_Ja (J := fun a0 l a' w' => ∃ (xu xs : Nat) (vu vs : Value) (s : Us), a' = putIf (done l 0) 20 (u6) (putIf (done l 1) 21 (.agg #[.slice u.t.A u.t.n u.t.c, .int .i64 u.lo, .int .i64 u.hi, .slice u.r.A u.r.n u.r.c, .int .i64 u.up, .int .i64 u.dn]) (putIf (done l 2) 22 (.slice (some ⟨xu, 0, none⟩) 1 1) (putIf (done l 3) 23 (vu) (putIf (done l 4) 24 (u7) (putIf (done l 5) 25 (.pointer (some ⟨b, 0, none⟩)) (putIf (done l 6) 26 (.agg #[.slice u.t.A u.t.n u.t.c, .int .i64 u.lo, .int .i64 u.hi, .slice u.r.A u.r.n u.r.c, .int .i64 u.up, .int .i64 u.dn]) (putIf (done l 7) 27 (.agg #[.int .i64 s.fl, .int .i64 s.si, .bool s.out]) (putIf (done l 8) 28 (.slice (some ⟨xs, 0, none⟩) 1 1) (putIf (done l 9) 29 (vs) (putIf (done l 10) 6 (vu) (putIf (done l 11) 7 (vs) (a0)))))))))))) ∧ TwoB w b T9 w.heap.size 90 #[.slice u.t.A u.t.n u.t.c, .int .i64 u.lo, .int .i64 u.hi, .slice u.r.A u.r.n u.r.c, .int .i64 u.up, .int .i64 u.dn] S5 (fun W => (∀ x ∈ us, x.ok W) ∧ u.ok W) 90 93 6 3 w' (sel (done l 3) vu u6) (sel (done l 3) (us.length + 1) us.length) (sel (done l 3) (unCells us ++ #[.slice u.t.A u.t.n u.t.c, .int .i64 u.lo, .int .i64 u.hi, .slice u.r.A u.r.n u.r.c, .int .i64 u.up, .int .i64 u.dn].toList) (unCells us)) (sel (done l 9) vs u7) (sel (done l 9) (us.length + 1) us.length) (sel (done l 9) (usCells ss ++ #[.int .i64 s.fl, .int .i64 s.si, .bool s.out].toList) (usCells ss)) ∧ (done l 2 = true → Pd w' b (sel (done l 3) vu u6) (sel (done l 9) vs u7) xu 90 #[.slice u.t.A u.t.n u.t.c, .int .i64 u.lo, .int .i64 u.hi, .slice u.r.A u.r.n u.r.c, .int .i64 u.up, .int .i64 u.dn]) ∧ (done l 8 = true → Pd w' b (sel (done l 3) vu u6) (sel (done l 9) vs u7) xs 93 #[.int .i64 s.fl, .int .i64 s.si, .bool s.out]) ∧ (done l 7 = true → UsG u s) ∧ (done l 8 = true → done l 7 = true) ∧ (done l 9 = true → done l 7 = true) ∧ (done l 10 = true → done l 0 = true) ∧ (done l 10 = true → done l 3 = true) ∧ (done l 11 = true → done l 4 = true) ∧ (done l 11 = true → done l 9 = true)) (by kernel_rfl) ?_ ?_ ?_ ?_
      · refine ⟨0, 0, u6, u7, ⟨0, 0, false⟩, ?_, ?_, fun h => ?_, fun h => ?_, fun h => ?_, fun h => ?_, fun h => ?_, fun h => ?_, fun h => ?_, fun h => ?_, fun h => ?_⟩
        · simp only [done_none]; rfl
        · simp only [done_none, sel_f]; exact hT5.drew
        · rw [done_none] at h; cases h
        · rw [done_none] at h; cases h
        · rw [done_none] at h; cases h
        · rw [done_none] at h; cases h
        · rw [done_none] at h; cases h
        · rw [done_none] at h; cases h
        · rw [done_none] at h; cases h
        · rw [done_none] at h; cases h
        · rw [done_none] at h; cases h
      · intro l a' w' i hsz hJ hi
        obtain ⟨xu, xs, vu, vs, s, rfl, hT, h2, h8, h7, h87, h97, h10, h10b, h11, h11b⟩ := hJ
        rw [ready_iff] at hi
        obtain ⟨hi12, hnl, haf⟩ := hi
        have hz := done_not hnl
        have hl := getD_lt hnl
        have hcases : i = 0 ∨ i = 1 ∨ i = 2 ∨ i = 3 ∨ i = 4 ∨ i = 5 ∨ i = 6 ∨ i = 7 ∨ i = 8 ∨ i = 9 ∨ i = 10 ∨ i = 11 := by
          have : i < 12 := hi12
          omega
        rcases hcases with rfl | rfl | rfl | rfl | rfl | rfl | rfl | rfl | rfl | rfl | rfl | rfl
        · skip
          have dq2 := dOt 0 2 (l := l)
          have dq3 := dOt 0 3 (l := l)
          have dq4 := dOt 0 4 (l := l)
          have dq7 := dOt 0 7 (l := l)
          have dq8 := dOt 0 8 (l := l)
          have dq9 := dOt 0 9 (l := l)
          have dq10 := dOt 0 10 (l := l)
          have dq11 := dOt 0 11 (l := l)
          have hd10 : done l 10 = false := by
            cases hc : done l 10
            · rfl
            · have := h10 hc; rw [hz] at this; cases this
          have e10 : ∀ (v : Value) (a : Act), putIf (done l 10) 6 v a = a := fun v a => by rw [hd10]; rfl
          exact opJ_move (v := u6) rfl rfl (.tmp 6) rfl (by simp only [e10, pEo 20 6, pEo 21 6, pEo 22 6, pEo 23 6, pEo 24 6, pEo 25 6, pEo 26 6, pEo 27 6, pEo 28 6, pEo 29 6, pEo 7 6]; rfl) ⟨xu, xs, vu, vs, s, (by show Act.put _ (some 20) _ = _; simp only [e10, hz, putIf_here2, done_same hl, dOt 0 1, dq2, dq3, dq4, dOt 0 5, dOt 0 6, dq7, dq8, dq9, dq10, dq11]), (by (try simp only [dq3, dq9]) <;> first | exact hT | exact fun _ => trivial), (by (try simp only [dq2, dq3, dq9]) <;> first | exact h2 | exact fun _ => trivial), (by (try simp only [dq3, dq8, dq9]) <;> first | exact h8 | exact fun _ => trivial), (by (try simp only [dq7]) <;> first | exact h7 | exact fun _ => trivial), (by (try simp only [dq7, dq8]) <;> first | exact h87 | exact fun _ => trivial), (by (try simp only [dq7, dq9]) <;> first | exact h97 | exact fun _ => trivial), (by (try simp only [done_same hl, dq10]) <;> first | exact h10 | exact fun _ => trivial), (by (try simp only [dq3, dq10]) <;> first | exact h10b | exact fun _ => trivial), (by (try simp only [dq4, dq11]) <;> first | exact h11 | exact fun _ => trivial), (by (try simp only [dq9, dq11]) <;> first | exact h11b | exact fun _ => trivial)⟩
        · skip
          have dq0 := dOt 1 0 (l := l)
          have dq2 := dOt 1 2 (l := l)
          have dq3 := dOt 1 3 (l := l)
          have dq4 := dOt 1 4 (l := l)
          have dq7 := dOt 1 7 (l := l)
          have dq8 := dOt 1 8 (l := l)
          have dq9 := dOt 1 9 (l := l)
          have dq10 := dOt 1 10 (l := l)
          have dq11 := dOt 1 11 (l := l)
          obtain ⟨c0, c1, c2, c3, c4, c5, cf⟩ := hT.box.facts6
          exact opJ_load (v := .agg #[.slice u.t.A u.t.n u.t.c, .int .i64 u.lo, .int .i64 u.hi, .slice u.r.A u.r.n u.r.c, .int .i64 u.up, .int .i64 u.dn]) rfl rfl 90 (.tmp 9) (.pointer (some ⟨T9, 0, none⟩)) rfl (by simp only [pEo 20 9, pEo 21 9, pEo 22 9, pEo 23 9, pEo 24 9, pEo 25 9, pEo 26 9, pEo 27 9, pEo 28 9, pEo 29 9, pEo 6 9, pEo 7 9]; rfl) (by simp [go_sem, c0, c1, c2, c3, c4, c5]) ⟨xu, xs, vu, vs, s, (by show Act.put _ (some 21) _ = _; simp only [pPu 20 21, hz, putIf_here2, done_same hl, dq0, dq2, dq3, dq4, dOt 1 5, dOt 1 6, dq7, dq8, dq9, dq10, dq11]), (by (try simp only [dq3, dq9]) <;> first | exact hT | exact fun _ => trivial), (by (try simp only [dq2, dq3, dq9]) <;> first | exact h2 | exact fun _ => trivial), (by (try simp only [dq3, dq8, dq9]) <;> first | exact h8 | exact fun _ => trivial), (by (try simp only [dq7]) <;> first | exact h7 | exact fun _ => trivial), (by (try simp only [dq7, dq8]) <;> first | exact h87 | exact fun _ => trivial), (by (try simp only [dq7, dq9]) <;> first | exact h97 | exact fun _ => trivial), (by (try simp only [dq0, dq10]) <;> first | exact h10 | exact fun _ => trivial), (by (try simp only [dq3, dq10]) <;> first | exact h10b | exact fun _ => trivial), (by (try simp only [dq4, dq11]) <;> first | exact h11 | exact fun _ => trivial), (by (try simp only [dq9, dq11]) <;> first | exact h11b | exact fun _ => trivial)⟩
        · skip
          have dq0 := dOt 2 0 (l := l)
          have dq3 := dOt 2 3 (l := l)
          have dq4 := dOt 2 4 (l := l)
          have dq7 := dOt 2 7 (l := l)
          have dq8 := dOt 2 8 (l := l)
          have dq9 := dOt 2 9 (l := l)
          have dq10 := dOt 2 10 (l := l)
          have dq11 := dOt 2 11 (l := l)
          have dn1 : done l 1 = true := by simp [Region.binds] at haf; simp [done, haf]
          exact opJ_bs (v := .slice (some ⟨w'.heap.size, 0, none⟩) 1 1) (w' := w'.alloc (.cells #[.slice u.t.A u.t.n u.t.c, .int .i64 u.lo, .int .i64 u.hi, .slice u.r.A u.r.n u.r.c, .int .i64 u.up, .int .i64 u.dn] 90)) rfl rfl 28 (.tmp 21) (.agg #[.slice u.t.A u.t.n u.t.c, .int .i64 u.lo, .int .i64 u.hi, .slice u.r.A u.r.n u.r.c, .int .i64 u.up, .int .i64 u.dn]) rfl (by simp only [pEo 20 21]; rw [dn1]; exact putIf_eval_same (by simp [putIf_size])) (by simp [go_sem]) ⟨w'.heap.size, xs, vu, vs, s, (by show Act.put _ (some 22) _ = _; simp only [pPu 20 22, pPu 21 22, hz, putIf_here2, done_same hl, dq0, dOt 2 1, dq3, dq4, dOt 2 5, dOt 2 6, dq7, dq8, dq9, dq10, dq11]), (by (try simp only [dq3, dq9]) <;> first | exact hT.alloc _ | exact fun _ => trivial), (by (try simp only [done_same hl, dq3, dq9]) <;> first | exact fun _ => hT.pd _ _ | exact fun _ => trivial), (by (try simp only [dq3, dq8, dq9]) <;> first | exact fun h => (h8 h).alloc _ | exact fun _ => trivial), (by (try simp only [dq7]) <;> first | exact h7 | exact fun _ => trivial), (by (try simp only [dq7, dq8]) <;> first | exact h87 | exact fun _ => trivial), (by (try simp only [dq7, dq9]) <;> first | exact h97 | exact fun _ => trivial), (by (try simp only [dq0, dq10]) <;> first | exact h10 | exact fun _ => trivial), (by (try simp only [dq3, dq10]) <;> first | exact h10b | exact fun _ => trivial), (by (try simp only [dq4, dq11]) <;> first | exact h11 | exact fun _ => trivial), (by (try simp only [dq9, dq11]) <;> first | exact h11b | exact fun _ => trivial)⟩
        · skip
          have dq0 := dOt 3 0 (l := l)
          have dq2 := dOt 3 2 (l := l)
          have dq4 := dOt 3 4 (l := l)
          have dq7 := dOt 3 7 (l := l)
          have dq8 := dOt 3 8 (l := l)
          have dq9 := dOt 3 9 (l := l)
          have dq10 := dOt 3 10 (l := l)
          have dq11 := dOt 3 11 (l := l)
          have dn0 : done l 0 = true := by simp [Region.binds] at haf; simp [done, haf]
          have dn2 : done l 2 = true := by simp [Region.binds] at haf; simp [done, haf]
          have hd10 : done l 10 = false := by
            cases hc : done l 10
            · rfl
            · have := h10b hc; rw [hz] at this; cases this
          have e10 : ∀ (v : Value) (a : Act), putIf (done l 10) 6 v a = a := fun v a => by rw [hd10]; rfl
          simp only [hz, sel_f] at hT h2 h8
          have hP := h2 dn2
          refine opJ_append rfl rfl (.tmp 20) (.tmp 22) 28 rfl w.heap.size _ _ slUn u6 us.length (unCells us) (by rw [dn0]; exact putIf_eval_same (by simp [putIf_size])) hT.r1 xu _ 1 #[.slice u.t.A u.t.n u.t.c, .int .i64 u.lo, .int .i64 u.hi, .slice u.r.A u.r.n u.r.c, .int .i64 u.up, .int .i64 u.dn] (by simp only [pEo 20 22, pEo 21 22]; rw [dn2]; exact putIf_eval_same (by simp [putIf_size])) ⟨by omega, by omega⟩ rfl hP.blk (by simp [Value.oneCell']) (by omega) hT.zw ?_
          intro v' w'' hr' hg' hor'
          exact ⟨xu, xs, v', vs, s, (by show Act.put _ (some 23) _ = _; simp only [e10, pPu 20 23, pPu 21 23, pPu 22 23, hz, putIf_here2, done_same hl, dq0, dOt 3 1, dq2, dq4, dOt 3 5, dOt 3 6, dq7, dq8, dq9, dq10, dq11]), (by (try simp only [sel_t, done_same hl, dq9]) <;> first | exact hT.push1 hr' hg' hor' | exact fun _ => trivial), (by (try simp only [sel_t, dq2, done_same hl, dq9]) <;> first | exact fun h => (h2 h).push1 hg' hor' | exact fun _ => trivial), (by (try simp only [sel_t, done_same hl, dq8, dq9]) <;> first | exact fun h => (h8 h).push1 hg' hor' | exact fun _ => trivial), (by (try simp only [dq7]) <;> first | exact h7 | exact fun _ => trivial), (by (try simp only [dq7, dq8]) <;> first | exact h87 | exact fun _ => trivial), (by (try simp only [dq7, dq9]) <;> first | exact h97 | exact fun _ => trivial), (by (try simp only [hd10, dq0, dq10]) <;> first | exact fun h => (by cases h) | exact fun _ => trivial), (by (try simp only [hd10, done_same hl, dq10]) <;> first | exact fun _ => rfl | exact fun _ => trivial), (by (try simp only [dq4, dq11]) <;> first | exact h11 | exact fun _ => trivial), (by (try simp only [dq9, dq11]) <;> first | exact h11b | exact fun _ => trivial)⟩
        · skip
          have dq0 := dOt 4 0 (l := l)
          have dq2 := dOt 4 2 (l := l)
          have dq3 := dOt 4 3 (l := l)
          have dq7 := dOt 4 7 (l := l)
          have dq8 := dOt 4 8 (l := l)
          have dq9 := dOt 4 9 (l := l)
          have dq10 := dOt 4 10 (l := l)
          have dq11 := dOt 4 11 (l := l)
          have hd11 : done l 11 = false := by
            cases hc : done l 11
            · rfl
            · have := h11 hc; rw [hz] at this; cases this
          have e11 : ∀ (v : Value) (a : Act), putIf (done l 11) 7 v a = a := fun v a => by rw [hd11]; rfl
          exact opJ_move (v := u7) rfl rfl (.tmp 7) rfl (by simp only [e11, pEo 20 7, pEo 21 7, pEo 22 7, pEo 23 7, pEo 24 7, pEo 25 7, pEo 26 7, pEo 27 7, pEo 28 7, pEo 29 7, pEo 6 7]; rfl) ⟨xu, xs, vu, vs, s, (by show Act.put _ (some 24) _ = _; simp only [e11, pPu 20 24, pPu 21 24, pPu 22 24, pPu 23 24, hz, putIf_here2, done_same hl, dq0, dOt 4 1, dq2, dq3, dOt 4 5, dOt 4 6, dq7, dq8, dq9, dq10, dq11]), (by (try simp only [dq3, dq9]) <;> first | exact hT | exact fun _ => trivial), (by (try simp only [dq2, dq3, dq9]) <;> first | exact h2 | exact fun _ => trivial), (by (try simp only [dq3, dq8, dq9]) <;> first | exact h8 | exact fun _ => trivial), (by (try simp only [dq7]) <;> first | exact h7 | exact fun _ => trivial), (by (try simp only [dq7, dq8]) <;> first | exact h87 | exact fun _ => trivial), (by (try simp only [dq7, dq9]) <;> first | exact h97 | exact fun _ => trivial), (by (try simp only [dq0, dq10]) <;> first | exact h10 | exact fun _ => trivial), (by (try simp only [dq3, dq10]) <;> first | exact h10b | exact fun _ => trivial), (by (try simp only [done_same hl, dq11]) <;> first | exact h11 | exact fun _ => trivial), (by (try simp only [dq9, dq11]) <;> first | exact h11b | exact fun _ => trivial)⟩
        · skip
          have dq0 := dOt 5 0 (l := l)
          have dq2 := dOt 5 2 (l := l)
          have dq3 := dOt 5 3 (l := l)
          have dq4 := dOt 5 4 (l := l)
          have dq7 := dOt 5 7 (l := l)
          have dq8 := dOt 5 8 (l := l)
          have dq9 := dOt 5 9 (l := l)
          have dq10 := dOt 5 10 (l := l)
          have dq11 := dOt 5 11 (l := l)
          exact opJ_move (v := .pointer (some ⟨b, 0, none⟩)) rfl rfl (.tmp 0) rfl (by simp only [pEo 20 0, pEo 21 0, pEo 22 0, pEo 23 0, pEo 24 0, pEo 25 0, pEo 26 0, pEo 27 0, pEo 28 0, pEo 29 0, pEo 6 0, pEo 7 0]; rfl) ⟨xu, xs, vu, vs, s, (by show Act.put _ (some 25) _ = _; simp only [pPu 20 25, pPu 21 25, pPu 22 25, pPu 23 25, pPu 24 25, hz, putIf_here2, done_same hl, dq0, dOt 5 1, dq2, dq3, dq4, dOt 5 6, dq7, dq8, dq9, dq10, dq11]), (by (try simp only [dq3, dq9]) <;> first | exact hT | exact fun _ => trivial), (by (try simp only [dq2, dq3, dq9]) <;> first | exact h2 | exact fun _ => trivial), (by (try simp only [dq3, dq8, dq9]) <;> first | exact h8 | exact fun _ => trivial), (by (try simp only [dq7]) <;> first | exact h7 | exact fun _ => trivial), (by (try simp only [dq7, dq8]) <;> first | exact h87 | exact fun _ => trivial), (by (try simp only [dq7, dq9]) <;> first | exact h97 | exact fun _ => trivial), (by (try simp only [dq0, dq10]) <;> first | exact h10 | exact fun _ => trivial), (by (try simp only [dq3, dq10]) <;> first | exact h10b | exact fun _ => trivial), (by (try simp only [dq4, dq11]) <;> first | exact h11 | exact fun _ => trivial), (by (try simp only [dq9, dq11]) <;> first | exact h11b | exact fun _ => trivial)⟩
        · skip
          have dq0 := dOt 6 0 (l := l)
          have dq2 := dOt 6 2 (l := l)
          have dq3 := dOt 6 3 (l := l)
          have dq4 := dOt 6 4 (l := l)
          have dq7 := dOt 6 7 (l := l)
          have dq8 := dOt 6 8 (l := l)
          have dq9 := dOt 6 9 (l := l)
          have dq10 := dOt 6 10 (l := l)
          have dq11 := dOt 6 11 (l := l)
          obtain ⟨c0, c1, c2, c3, c4, c5, cf⟩ := hT.box.facts6
          exact opJ_load (v := .agg #[.slice u.t.A u.t.n u.t.c, .int .i64 u.lo, .int .i64 u.hi, .slice u.r.A u.r.n u.r.c, .int .i64 u.up, .int .i64 u.dn]) rfl rfl 90 (.tmp 9) (.pointer (some ⟨T9, 0, none⟩)) rfl (by simp only [pEo 20 9, pEo 21 9, pEo 22 9, pEo 23 9, pEo 24 9, pEo 25 9, pEo 26 9, pEo 27 9, pEo 28 9, pEo 29 9, pEo 6 9, pEo 7 9]; rfl) (by simp [go_sem, c0, c1, c2, c3, c4, c5]) ⟨xu, xs, vu, vs, s, (by show Act.put _ (some 26) _ = _; simp only [pPu 20 26, pPu 21 26, pPu 22 26, pPu 23 26, pPu 24 26, pPu 25 26, hz, putIf_here2, done_same hl, dq0, dOt 6 1, dq2, dq3, dq4, dOt 6 5, dq7, dq8, dq9, dq10, dq11]), (by (try simp only [dq3, dq9]) <;> first | exact hT | exact fun _ => trivial), (by (try simp only [dq2, dq3, dq9]) <;> first | exact h2 | exact fun _ => trivial), (by (try simp only [dq3, dq8, dq9]) <;> first | exact h8 | exact fun _ => trivial), (by (try simp only [dq7]) <;> first | exact h7 | exact fun _ => trivial), (by (try simp only [dq7, dq8]) <;> first | exact h87 | exact fun _ => trivial), (by (try simp only [dq7, dq9]) <;> first | exact h97 | exact fun _ => trivial), (by (try simp only [dq0, dq10]) <;> first | exact h10 | exact fun _ => trivial), (by (try simp only [dq3, dq10]) <;> first | exact h10b | exact fun _ => trivial), (by (try simp only [dq4, dq11]) <;> first | exact h11 | exact fun _ => trivial), (by (try simp only [dq9, dq11]) <;> first | exact h11b | exact fun _ => trivial)⟩
        · skip
          have dq0 := dOt 7 0 (l := l)
          have dq2 := dOt 7 2 (l := l)
          have dq3 := dOt 7 3 (l := l)
          have dq4 := dOt 7 4 (l := l)
          have dq8 := dOt 7 8 (l := l)
          have dq9 := dOt 7 9 (l := l)
          have dq10 := dOt 7 10 (l := l)
          have dq11 := dOt 7 11 (l := l)
          have dn5 : done l 5 = true := by simp [Region.binds] at haf; simp [done, haf]
          have dn6 : done l 6 = true := by simp [Region.binds] at haf; simp [done, haf]
          have hd8 : done l 8 = false := by
            cases hc : done l 8
            · rfl
            · have := h87 hc; rw [hz] at this; cases this
          have hd9 : done l 9 = false := by
            cases hc : done l 9
            · rfl
            · have := h97 hc; rw [hz] at this; cases this
          simp only [hd9, sel_f] at hT h2
          refine opJ_call rfl rfl 43 #[.tmp 25, .tmp 26] _ #[.pointer (some ⟨b, 0, none⟩), .agg #[.slice u.t.A u.t.n u.t.c, .int .i64 u.lo, .int .i64 u.hi, .slice u.r.A u.r.n u.r.c, .int .i64 u.up, .int .i64 u.dn]] rfl (map2J (by simp only [pEo 20 25, pEo 21 25, pEo 22 25, pEo 23 25, pEo 24 25]; rw [dn5]; exact putIf_eval_same (by simp [putIf_size])) (by simp only [pEo 20 26, pEo 21 26, pEo 22 26, pEo 23 26, pEo 24 26, pEo 25 26]; rw [dn6]; exact putIf_eval_same (by simp [putIf_size]))) cfMus ((HUS.out w' hT.dk (fun W hW => (hT.he.deck hW (fun i hi => (hT.s1 i hi).1)).out.2)).mono ?_)
          rintro e w'' ⟨s', rfl, hs', hD', hg'⟩
          exact ⟨_, rfl, xu, xs, vu, vs, s', (by show Act.put _ (some 27) _ = _; simp only [pPu 20 27, pPu 21 27, pPu 22 27, pPu 23 27, pPu 24 27, pPu 25 27, pPu 26 27, hz, putIf_here2, done_same hl, dq0, dOt 7 1, dq2, dq3, dq4, dOt 7 5, dOt 7 6, dq8, dq9, dq10, dq11] <;> rfl), (by (try simp only [hd9, sel_f, dq3, dq9]) <;> first | exact hT.deck hg' hD' | exact fun _ => trivial), (by (try simp only [hd9, sel_f, dq2, dq3, dq9]) <;> first | exact fun h => (h2 h).deck hg' | exact fun _ => trivial), (by (try simp only [hd8, hd9, sel_f, dq3, dq8, dq9]) <;> first | exact fun h => (by cases h) | exact fun _ => trivial), (by (try simp only [done_same hl]) <;> first | exact fun _ => hs' | exact fun _ => trivial), (by (try simp only [hd8, done_same hl, dq8]) <;> first | exact fun h => (by cases h) | exact fun _ => trivial), (by (try simp only [hd9, done_same hl, dq9]) <;> first | exact fun h => (by cases h) | exact fun _ => trivial), (by (try simp only [dq0, dq10]) <;> first | exact h10 | exact fun _ => trivial), (by (try simp only [dq3, dq10]) <;> first | exact h10b | exact fun _ => trivial), (by (try simp only [dq4, dq11]) <;> first | exact h11 | exact fun _ => trivial), (by (try simp only [hd9, dq9, dq11]) <;> first | exact fun h => (by have h9 := h11b h; rw [hd9] at h9; exact h9) | exact fun _ => trivial)⟩
        · skip
          have dq0 := dOt 8 0 (l := l)
          have dq2 := dOt 8 2 (l := l)
          have dq3 := dOt 8 3 (l := l)
          have dq4 := dOt 8 4 (l := l)
          have dq7 := dOt 8 7 (l := l)
          have dq9 := dOt 8 9 (l := l)
          have dq10 := dOt 8 10 (l := l)
          have dq11 := dOt 8 11 (l := l)
          have dn7 : done l 7 = true := by simp [Region.binds] at haf; simp [done, haf]
          exact opJ_bs (v := .slice (some ⟨w'.heap.size, 0, none⟩) 1 1) (w' := w'.alloc (.cells #[.int .i64 s.fl, .int .i64 s.si, .bool s.out] 93)) rfl rfl 32 (.tmp 27) (.agg #[.int .i64 s.fl, .int .i64 s.si, .bool s.out]) rfl (by simp only [pEo 20 27, pEo 21 27, pEo 22 27, pEo 23 27, pEo 24 27, pEo 25 27, pEo 26 27]; rw [dn7]; exact putIf_eval_same (by simp [putIf_size])) (by simp [go_sem]) ⟨xu, w'.heap.size, vu, vs, s, (by show Act.put _ (some 28) _ = _; simp only [pPu 20 28, pPu 21 28, pPu 22 28, pPu 23 28, pPu 24 28, pPu 25 28, pPu 26 28, pPu 27 28, hz, putIf_here2, done_same hl, dq0, dOt 8 1, dq2, dq3, dq4, dOt 8 5, dOt 8 6, dq7, dq9, dq10, dq11]), (by (try simp only [dq3, dq9]) <;> first | exact hT.alloc _ | exact fun _ => trivial), (by (try simp only [dq2, dq3, dq9]) <;> first | exact fun h => (h2 h).alloc _ | exact fun _ => trivial), (by (try simp only [dq3, done_same hl, dq9]) <;> first | exact fun _ => hT.pd _ _ | exact fun _ => trivial), (by (try simp only [dq7]) <;> first | exact h7 | exact fun _ => trivial), (by (try simp only [dq7, done_same hl]) <;> first | exact fun _ => dn7 | exact fun _ => trivial), (by (try simp only [dq7, dq9]) <;> first | exact h97 | exact fun _ => trivial), (by (try simp only [dq0, dq10]) <;> first | exact h10 | exact fun _ => trivial), (by (try simp only [dq3, dq10]) <;> first | exact h10b | exact fun _ => trivial), (by (try simp only [dq4, dq11]) <;> first | exact h11 | exact fun _ => trivial), (by (try simp only [dq9, dq11]) <;> first | exact h11b | exact fun _ => trivial)⟩
        · skip
          have dq0 := dOt 9 0 (l := l)
          have dq2 := dOt 9 2 (l := l)
          have dq3 := dOt 9 3 (l := l)
          have dq4 := dOt 9 4 (l := l)
          have dq7 := dOt 9 7 (l := l)
          have dq8 := dOt 9 8 (l := l)
          have dq10 := dOt 9 10 (l := l)
          have dq11 := dOt 9 11 (l := l)
          have dn4 : done l 4 = true := by simp [Region.binds] at haf; simp [done, haf]
          have dn8 : done l 8 = true := by simp [Region.binds] at haf; simp [done, haf]
          have hd11 : done l 11 = false := by
            cases hc : done l 11
            · rfl
            · have := h11b hc; rw [hz] at this; cases this
          have e11 : ∀ (v : Value) (a : Act), putIf (done l 11) 7 v a = a := fun v a => by rw [hd11]; rfl
          simp only [hz, sel_f] at hT h2 h8
          have hP := h8 dn8
          have dn7 := h87 dn8
          refine opJ_append rfl rfl (.tmp 24) (.tmp 28) 32 rfl w.heap.size _ _ slUsm u7 us.length (usCells ss) (by simp only [pEo 20 24, pEo 21 24, pEo 22 24, pEo 23 24]; rw [dn4]; exact putIf_eval_same (by simp [putIf_size])) hT.r2 xs _ 1 #[.int .i64 s.fl, .int .i64 s.si, .bool s.out] (by simp only [pEo 20 28, pEo 21 28, pEo 22 28, pEo 23 28, pEo 24 28, pEo 25 28, pEo 26 28, pEo 27 28]; rw [dn8]; exact putIf_eval_same (by simp [putIf_size])) ⟨by omega, by omega⟩ rfl hP.blk (by simp [Value.oneCell']) (by omega) hT.zw ?_
          intro v' w'' hr' hg' hor'
          exact ⟨xu, xs, vu, v', s, (by show Act.put _ (some 29) _ = _; simp only [e11, pPu 20 29, pPu 21 29, pPu 22 29, pPu 23 29, pPu 24 29, pPu 25 29, pPu 26 29, pPu 27 29, pPu 28 29, hz, putIf_here2, done_same hl, dq0, dOt 9 1, dq2, dq3, dq4, dOt 9 5, dOt 9 6, dq7, dq8, dq10, dq11]), (by (try simp only [sel_t, dq3, done_same hl]) <;> first | exact hT.push2 hr' hg' hor' | exact fun _ => trivial), (by (try simp only [sel_t, dq2, dq3, done_same hl]) <;> first | exact fun h => (h2 h).push2 hg' hor' | exact fun _ => trivial), (by (try simp only [sel_t, dq3, dq8, done_same hl]) <;> first | exact fun h => (h8 h).push2 hg' hor' | exact fun _ => trivial), (by (try simp only [dq7]) <;> first | exact h7 | exact fun _ => trivial), (by (try simp only [dq7, dq8]) <;> first | exact h87 | exact fun _ => trivial), (by (try simp only [dq7, done_same hl]) <;> first | exact fun _ => dn7 | exact fun _ => trivial), (by (try simp only [dq0, dq10]) <;> first | exact h10 | exact fun _ => trivial), (by (try simp only [dq3, dq10]) <;> first | exact h10b | exact fun _ => trivial), (by (try simp only [hd11, dq4, dq11]) <;> first | exact fun h => (by cases h) | exact fun _ => trivial), (by (try simp only [hd11, done_same hl, dq11]) <;> first | exact fun _ => rfl | exact fun _ => trivial)⟩
        · skip
          have dq0 := dOt 10 0 (l := l)
          have dq2 := dOt 10 2 (l := l)
          have dq3 := dOt 10 3 (l := l)
          have dq4 := dOt 10 4 (l := l)
          have dq7 := dOt 10 7 (l := l)
          have dq8 := dOt 10 8 (l := l)
          have dq9 := dOt 10 9 (l := l)
          have dq11 := dOt 10 11 (l := l)
          have dn0 : done l 0 = true := by simp [Region.binds] at haf; simp [done, haf]
          have dn3 : done l 3 = true := by simp [Region.binds] at haf; simp [done, haf]
          exact opJ_assign (v := vu) rfl rfl (.tmp 23) rfl (by simp only [pEo 20 23, pEo 21 23, pEo 22 23]; rw [dn3]; exact putIf_eval_same (by simp [putIf_size])) ⟨xu, xs, vu, vs, s, (by show Act.put _ (some 6) _ = _; simp only [pPu 20 6, pPu 21 6, pPu 22 6, pPu 23 6, pPu 24 6, pPu 25 6, pPu 26 6, pPu 27 6, pPu 28 6, pPu 29 6, hz, putIf_here2, done_same hl, dq0, dOt 10 1, dq2, dq3, dq4, dOt 10 5, dOt 10 6, dq7, dq8, dq9, dq11]), (by (try simp only [dq3, dq9]) <;> first | exact hT | exact fun _ => trivial), (by (try simp only [dq2, dq3, dq9]) <;> first | exact h2 | exact fun _ => trivial), (by (try simp only [dq3, dq8, dq9]) <;> first | exact h8 | exact fun _ => trivial), (by (try simp only [dq7]) <;> first | exact h7 | exact fun _ => trivial), (by (try simp only [dq7, dq8]) <;> first | exact h87 | exact fun _ => trivial), (by (try simp only [dq7, dq9]) <;> first | exact h97 | exact fun _ => trivial), (by (try simp only [dq0, done_same hl]) <;> first | exact fun _ => dn0 | exact fun _ => trivial), (by (try simp only [dq3, done_same hl]) <;> first | exact fun _ => dn3 | exact fun _ => trivial), (by (try simp only [dq4, dq11]) <;> first | exact h11 | exact fun _ => trivial), (by (try simp only [dq9, dq11]) <;> first | exact h11b | exact fun _ => trivial)⟩
        · skip
          have dq0 := dOt 11 0 (l := l)
          have dq2 := dOt 11 2 (l := l)
          have dq3 := dOt 11 3 (l := l)
          have dq4 := dOt 11 4 (l := l)
          have dq7 := dOt 11 7 (l := l)
          have dq8 := dOt 11 8 (l := l)
          have dq9 := dOt 11 9 (l := l)
          have dq10 := dOt 11 10 (l := l)
          have dn4 : done l 4 = true := by simp [Region.binds] at haf; simp [done, haf]
          have dn9 : done l 9 = true := by simp [Region.binds] at haf; simp [done, haf]
          exact opJ_assign (v := vs) rfl rfl (.tmp 29) rfl (by simp only [pEo 20 29, pEo 21 29, pEo 22 29, pEo 23 29, pEo 24 29, pEo 25 29, pEo 26 29, pEo 27 29, pEo 28 29]; rw [dn9]; exact putIf_eval_same (by simp [putIf_size])) ⟨xu, xs, vu, vs, s, (by show Act.put _ (some 7) _ = _; simp only [pPu 20 7, pPu 21 7, pPu 22 7, pPu 23 7, pPu 24 7, pPu 25 7, pPu 26 7, pPu 27 7, pPu 28 7, pPu 29 7, pPu 6 7, hz, putIf_here2, done_same hl, dq0, dOt 11 1, dq2, dq3, dq4, dOt 11 5, dOt 11 6, dq7, dq8, dq9, dq10]), (by (try simp only [dq3, dq9]) <;> first | exact hT | exact fun _ => trivial), (by (try simp only [dq2, dq3, dq9]) <;> first | exact h2 | exact fun _ => trivial), (by (try simp only [dq3, dq8, dq9]) <;> first | exact h8 | exact fun _ => trivial), (by (try simp only [dq7]) <;> first | exact h7 | exact fun _ => trivial), (by (try simp only [dq7, dq8]) <;> first | exact h87 | exact fun _ => trivial), (by (try simp only [dq7, dq9]) <;> first | exact h97 | exact fun _ => trivial), (by (try simp only [dq0, dq10]) <;> first | exact h10 | exact fun _ => trivial), (by (try simp only [dq3, dq10]) <;> first | exact h10b | exact fun _ => trivial), (by (try simp only [dq4, done_same hl]) <;> first | exact fun _ => dn4 | exact fun _ => trivial), (by (try simp only [dq9, done_same hl]) <;> first | exact fun _ => dn9 | exact fun _ => trivial)⟩
      · intro l a' w' hJ hall
        obtain ⟨xu, xs, vu, vs, s, rfl, hT, h2, h8, h7, h87, h97, h10, h10b, h11, h11b⟩ := hJ
        have hd : ∀ i, i < 12 → done l i = true := hall
        simp only [hd 3 (by decide), hd 9 (by decide), sel_t] at hT
        have hs7 := h7 (hd 7 (by decide))
        simp only [hd 0 (by decide), hd 1 (by decide), hd 2 (by decide), hd 3 (by decide), hd 4 (by decide), hd 5 (by decide), hd 6 (by decide), hd 7 (by decide), hd 8 (by decide), hd 9 (by decide), hd 10 (by decide), hd 11 (by decide), putIf, if_true, Act.put]
        clear hd hall h2 h8 h7 h87 h97 h10 h10b h11 h11b
        have hsg := hs7
        have hT7 := hT
        have HT7 := hide hT7
        have HSG2 := hide hsg
        clear hT hs7 hT7 hsg
        go_wp2
        go_roundw
        case rel =>
          have hl2 : (us ++ [u]).length = us.length + 1 := by simp
          refine ⟨m - 1, us ++ [u], ss ++ [s], S5, by go_num, by omega, hide ⟨by simp [hG.out.1], fun x hx => ?_, hG.out.2.2.snoc hG.out.1 HSG2.out⟩, ?_, ?_, hide ⟨HT7.out.ne, fun i hi => ⟨HSG.out i hi, (HT7.out.s1 i hi).2.1, (HT7.out.s1 i hi).2.2⟩⟩, hide (HT7.out.he.imp fun W h x hx => ?_), HT7.out.dk, HT7.out.gr⟩
          · rcases List.mem_append.1 hx with h | h
            · exact hG.out.2.1 x h
            · rw [List.mem_singleton] at h; subst h; exact hug
          · rw [hl2]; exact own_cells HT7.out.r1 (by rw [unCells, unCells, cellsOf_append, cellsOf_one]; rfl)
          · rw [hl2]; exact own_cells HT7.out.r2 (by rw [usCells, usCells, cellsOf_append, cellsOf_one]; rfl)
          · rcases List.mem_append.1 hx with h1 | h1
            · exact h.1 x h1
            · rw [List.mem_singleton] at h1; subst h1; exact h.2
        case measure => simp [intOf]; omega
      · kernel_rfl
      -- R>
end Go.Proofs.YtodamjjlnagpjaaGreatDoor
