/-
  The contract of make.Gates at most two gates: valid gates and states, their rows the call's own. Condition: the deck lies in memory.
-/
import Derived.Test.YtodamjjlnagpjaaGreatDoorProg
import Derived.Test.YtodamjjlnagpjaaGreatDoorTge
import Derived.Test.YtodamjjlnagpjaaGreatDoorTmv
namespace Go.Proofs.YtodamjjlnagpjaaGreatDoor
open Go.RowKit

theorem slGt : SlT Tryz.prog 29 96 3 := slT_of (z := .agg #[.slice none 0 0, .int .i64 0, .int .i64 0]) (bytes := 40) Tryz.underlying29 (by kernel_rfl) rfl (by decide) (by decide)
theorem slGsm : SlT Tryz.prog 33 99 2 := slT_of (z := .agg #[.int .i64 0, .bool false]) (bytes := 16) Tryz.underlying33 (by kernel_rfl) rfl (by decide) (by decide)
theorem cfNext : ∀ (a : Array Value) (W : World), (callFunc 11 a).run Tryz.prog W = .ok (.enter 11 a) W := fun _ _ => by kernel_rfl
/-- Each state is within its gate's opening. -/
def GsPair (us : List Gt) (ss : List Gs) : Prop := ∀ (i : Nat) (u : Gt) (s : Gs), us[i]? = some u → ss[i]? = some s → (0 ≤ s.op ∧ s.op ≤ u.mo)
theorem GsPair.snoc {us : List Gt} {ss : List Gs} {u : Gt} {s : Gs} (h : GsPair us ss) (hl : ss.length = us.length) (hs : (0 ≤ s.op ∧ s.op ≤ u.mo)) : GsPair (us ++ [u]) (ss ++ [s]) := by
  intro i u' s' h1 h2
  by_cases hi : i < us.length
  · rw [List.getElem?_append_left hi] at h1
    rw [List.getElem?_append_left (by omega)] at h2
    exact h i u' s' h1 h2
  · rw [List.getElem?_append_right (by omega)] at h1 h2
    rw [hl] at h2
    cases hq : i - us.length with
    | zero => rw [hq] at h1 h2; simp at h1 h2; rw [← h1, ← h2]; exact hs
    | succ n => rw [hq] at h1; simp at h1
/-- What the maker of gates gives. -/
def GatesMade (b : Nat) (w : World) (e : Ending) (w' : World) : Prop := ∃ (uA sA : Option Addr) (uc sc : Nat) (us : List Gt) (ss : List Gs) (S : Nat → Prop), e = .returned (.tuple #[.slice uA us.length uc, .slice sA us.length sc]) ∧ us.length ≤ 2 ∧ ss.length = us.length ∧ (∀ u ∈ us, GtG u) ∧ GsPair us ss ∧ (∀ i, S i → w.heap.size ≤ i) ∧
  Held S w' (fun W => Sl W W.heap.size 3 uA us.length uc (gtCells us) ∧ (∀ u ∈ us, u.ok W) ∧ Sl W W.heap.size 2 sA us.length sc (gsCells ss)) ∧ Dk w' b ∧ w.grownBy w' (some b)
set_option maxHeartbeats 3200000 in
set_option maxRecDepth 20000 in
theorem mkgates_any (b : Nat) (w : World) (hD : Dk w b) : Calls Tryz.prog 19 #[.pointer (some ⟨b, 0, none⟩), .int .i64 2] w (GatesMade b w) := by
  have hbl := hD.lt
  go_enter Tryz.func19, Tryz.ntmps19
  go_wp2_with fail
  refine (next_any _ _ (by omega) _ hD).mono ?_
  rintro e w1 ⟨m0, rfl, hm0, hm1, hD1, hg1, hz1⟩
  have hzw : w.heap.size ≤ w1.heap.size := by omega
  clear hD hz1
  go_wp2
  go_loopw [6, 7, 8] (fun v1 v2 kv wr => ∃ (m : Nat) (us : List Gt) (ss : List Gs) (S : Nat → Prop), kv = .int .i64 m ∧ m + us.length ≤ 2 ∧ Hid (ss.length = us.length ∧ (∀ u ∈ us, GtG u) ∧ GsPair us ss) ∧ wr.ownsRow w.heap.size 96 3 v1 us.length (gtCells us) ∧ wr.ownsRow w.heap.size 99 2 v2 us.length (gsCells ss) ∧ Hid ((∀ g, v1.ownBlock = some g → v2.ownBlock ≠ some g) ∧ ∀ i, S i → w.heap.size ≤ i ∧ v1.ownBlock ≠ some i ∧ v2.ownBlock ≠ some i) ∧ Hid (Held S wr (fun W => ∀ u ∈ us, u.ok W)) ∧ Dk wr b ∧ w.grownBy wr (some b)) (fun _ _ i _ => (intOf i).toNat)
  case atStart => exact ⟨m0.toNat, [], [], fun _ => False, by rw [Int.toNat_of_nonneg hm0], by simp; omega, hide ⟨rfl, by simp, fun i u s h => by simp at h⟩, World.ownsRow_nil _ _ _ _, World.ownsRow_nil _ _ _ _, hide ⟨fun g h => (by cases h), fun i h => h.elim⟩, hide (held_true _ (by simp)), hD1, hg1⟩
  case round =>
    obtain ⟨m, us, ss, S, rfl, hm, hG, hv1, hv2, hS, hHe, hDr, hgr⟩ := hrel
    by_cases h0 : m = 0
    · subst h0
      obtain ⟨A1, c1, rfl, _⟩ := own_sl hv1
      obtain ⟨A2, c2, rfl, _⟩ := own_sl hv2
      have hH := (((held_sl hv1).both hHe.out).both (held_sl hv2)).imp (ψ := fun W => Sl W W.heap.size 3 A1 us.length c1 (gtCells us) ∧ (∀ u ∈ us, u.ok W) ∧ Sl W W.heap.size 2 A2 us.length c2 (gsCells ss)) (fun W h => ⟨h.1.1, h.1.2, h.2⟩)
      have hP : GatesMade b w (.returned (.tuple #[.slice A1 us.length c1, .slice A2 us.length c2])) wr := ⟨A1, A2, c1, c2, us, ss, _, rfl, by omega, hG.out.1, hG.out.2.1, hG.out.2.2, fun i hi => (by rcases hi with (h | h) | h; (exact (hv1.lt i h).1); (exact (hS.out.2 i h).1); (exact (hv2.lt i h).1)), hH, hDr, hgr⟩
      have HP := hide hP
      clear hP hH hv1 hv2 hgr hDr
      go_wp2
      go_ret2
      exact HP.out
    · have hm0' : (0 : Int) < (m : Int) := by omega
      go_wp2_with fail
      refine (mkgate_any b wr hDr).mono ?_
      rintro e w1u ⟨u, Sg, rfl, hug, hSg, hHg, hD2, hg2⟩
      have hzr : w.heap.size ≤ wr.heap.size := hgr.size
      have hzu : wr.heap.size ≤ w1u.heap.size := hg2.size
      have hHB := ((hHe.out.deck hg2 (fun i hi => by have := (hS.out.2 i hi).1; omega)).both hHg).imp (ψ := fun W => (∀ x ∈ us, x.ok W) ∧ u.ok W) (fun W h => h)
      obtain ⟨S5, hT5, hS5⟩ : ∃ S5 : Nat → Prop, TwoB w b w1u.heap.size w.heap.size 96 #[.slice u.A u.n u.c, .int .i64 u.mo, .int .i64 u.mv] S5 (fun W => (∀ x ∈ us, x.ok W) ∧ u.ok W) 96 99 3 2 (w1u.alloc (.cells #[.slice u.A u.n u.c, .int .i64 u.mo, .int .i64 u.mv] 96)) u6 us.length (gtCells us) u7 us.length (gsCells ss) ∧ ∀ i, S5 i → w.heap.size ≤ i := by
        have hge : ∀ i, (S i ∨ Sg i) → w.heap.size ≤ i ∧ u6.ownBlock ≠ some i ∧ u7.ownBlock ≠ some i := by
          intro i hi
          rcases hi with h | h
          · exact hS.out.2 i h
          · have h1 := hSg i h
            exact ⟨by omega, fun e => by have := (hv1.lt i e).2; omega, fun e => by have := (hv2.lt i e).2; omega⟩
        refine ⟨_, ⟨(own_deck hv1 hg2 hbl).alloc _, (own_deck hv2 hg2 hbl).alloc _, hS.out.1, hHB.alloc _, fun i hi => ?_, hD2.alloc _, hbl, Nat.le_refl _, by simp only [World.size_alloc]; omega, Blk.new _ _ _, ⟨fun e => by have := (hv1.lt _ e).2; omega, fun e => by have := (hv2.lt _ e).2; omega, by omega⟩, grown_alloc (grown_trans hgr hg2) _⟩, fun i hi => (hge i hi).1⟩
        have := hge i hi
        exact ⟨by omega, this.2.1, this.2.2⟩
      have hmo := hug.mo
      have hwm : IntKind.i64.wrap (u.mo + 1) = u.mo + 1 := by rw [IntKind.wrap_i64]; omega
      have HSG := hide hS5
      have hu2 : us.length ≤ 1 := by omega
      clear hv1 hv2 hS hHe hDr hgr hHg hSg hD2 hg2 hHB hS5 hD1 hg1
      unfold Gt.arr
      go_wp2_with fail
      generalize w1u.alloc _ = w5 at *
      generalize w1u.heap.size = T9 at *
      -- <R
      refine wp_region_Ja (J := fun a0 l a' w' => ∃ (xu xs : Nat) (vu vs : Value) (a c : Int), a' = putIf (done l 0) 20 (u6) (putIf (done l 1) 21 (.agg #[.slice u.A u.n u.c, .int .i64 u.mo, .int .i64 u.mv]) (putIf (done l 2) 22 (.slice (some ⟨xu, 0, none⟩) 1 1) (putIf (done l 3) 23 (vu) (putIf (done l 4) 24 (u7) (putIf (done l 5) 25 (.pointer (some ⟨b, 0, none⟩)) (putIf (done l 6) 26 (.pointer (some ⟨T9, 1, none⟩)) (putIf (done l 7) 27 (.int .i64 u.mo) (putIf (done l 8) 28 (.int .i64 (u.mo + 1)) (putIf (done l 9) 29 (.int .i64 a) (putIf (done l 10) 30 (.pointer (some ⟨b, 0, none⟩)) (putIf (done l 11) 31 (.int .i64 c) (putIf (done l 12) 32 (.bool (c == 6)) (putIf (done l 13) 33 (.agg #[.int .i64 a, .bool (c == 6)]) (putIf (done l 14) 34 (.slice (some ⟨xs, 0, none⟩) 1 1) (putIf (done l 15) 35 (vs) (putIf (done l 16) 6 (vu) (putIf (done l 17) 7 (vs) (a0)))))))))))))))))) ∧ TwoB w b T9 w.heap.size 96 #[.slice u.A u.n u.c, .int .i64 u.mo, .int .i64 u.mv] S5 (fun W => (∀ x ∈ us, x.ok W) ∧ u.ok W) 96 99 3 2 w' (sel (done l 3) vu u6) (sel (done l 3) (us.length + 1) us.length) (sel (done l 3) (gtCells us ++ #[.slice u.A u.n u.c, .int .i64 u.mo, .int .i64 u.mv].toList) (gtCells us)) (sel (done l 15) vs u7) (sel (done l 15) (us.length + 1) us.length) (sel (done l 15) (gsCells ss ++ #[.int .i64 a, .bool (c == 6)].toList) (gsCells ss)) ∧ (done l 2 = true → Pd w' b (sel (done l 3) vu u6) (sel (done l 15) vs u7) xu 96 #[.slice u.A u.n u.c, .int .i64 u.mo, .int .i64 u.mv]) ∧ (done l 14 = true → Pd w' b (sel (done l 3) vu u6) (sel (done l 15) vs u7) xs 99 #[.int .i64 a, .bool (c == 6)]) ∧ (done l 9 = true → 0 ≤ a ∧ a ≤ u.mo) ∧ (done l 12 = true → done l 11 = true) ∧ (done l 13 = true → done l 9 = true) ∧ (done l 13 = true → done l 11 = true) ∧ (done l 13 = true → done l 12 = true) ∧ (done l 14 = true → done l 13 = true) ∧ (done l 15 = true → done l 13 = true) ∧ (done l 16 = true → done l 0 = true) ∧ (done l 16 = true → done l 3 = true) ∧ (done l 17 = true → done l 4 = true) ∧ (done l 17 = true → done l 15 = true)) (by kernel_rfl) ?_ ?_ ?_ ?_
      · refine ⟨0, 0, u6, u7, 0, 0, ?_, ?_, fun h => ?_, fun h => ?_, fun h => ?_, fun h => ?_, fun h => ?_, fun h => ?_, fun h => ?_, fun h => ?_, fun h => ?_, fun h => ?_, fun h => ?_, fun h => ?_, fun h => ?_⟩
        · simp only [done_none]; rfl
        · simp only [done_none, sel_f]; exact hT5.drew
        · rw [done_none] at h; cases h
        · rw [done_none] at h; cases h
        · rw [done_none] at h; cases h
        · rw [done_none] at h; cases h
        · rw [done_none] at h; cases h
        · rw [done_none] at h; cases h
        · rw [done_none] at h; cases h
        · rw [done_none] at h; cases h
        · rw [done_none] at h; cases h
        · rw [done_none] at h; cases h
        · rw [done_none] at h; cases h
        · rw [done_none] at h; cases h
        · rw [done_none] at h; cases h
      · intro l a' w' i hsz hJ hi
        obtain ⟨xu, xs, vu, vs, a, c, rfl, hT, h2, h8, hA, h12, h13a, h13b, h13c, h14c, h15c, h16, h16b, h17, h17b⟩ := hJ
        rw [ready_iff] at hi
        obtain ⟨hiN, hnl, haf⟩ := hi
        have hz := done_not hnl
        have hl := getD_lt hnl
        have hcases : i = 0 ∨ i = 1 ∨ i = 2 ∨ i = 3 ∨ i = 4 ∨ i = 5 ∨ i = 6 ∨ i = 7 ∨ i = 8 ∨ i = 9 ∨ i = 10 ∨ i = 11 ∨ i = 12 ∨ i = 13 ∨ i = 14 ∨ i = 15 ∨ i = 16 ∨ i = 17 := by
          have : i < 18 := hiN
          omega
        rcases hcases with rfl | rfl | rfl | rfl | rfl | rfl | rfl | rfl | rfl | rfl | rfl | rfl | rfl | rfl | rfl | rfl | rfl | rfl
        · skip
          have dq2 := dOt 0 2 (l := l)
          have dq3 := dOt 0 3 (l := l)
          have dq4 := dOt 0 4 (l := l)
          have dq9 := dOt 0 9 (l := l)
          have dq11 := dOt 0 11 (l := l)
          have dq12 := dOt 0 12 (l := l)
          have dq13 := dOt 0 13 (l := l)
          have dq14 := dOt 0 14 (l := l)
          have dq15 := dOt 0 15 (l := l)
          have dq16 := dOt 0 16 (l := l)
          have dq17 := dOt 0 17 (l := l)
          have hd16 : done l 16 = false := by
            cases hc : done l 16
            · rfl
            · have := h16 hc; rw [hz] at this; cases this
          have e16 : ∀ (v : Value) (a : Act), putIf (done l 16) 6 v a = a := fun v a => by rw [hd16]; rfl
          exact opJ_move (v := u6) rfl rfl (.tmp 6) rfl (by simp only [e16, pEo 20 6, pEo 21 6, pEo 22 6, pEo 23 6, pEo 24 6, pEo 25 6, pEo 26 6, pEo 27 6, pEo 28 6, pEo 29 6, pEo 30 6, pEo 31 6, pEo 32 6, pEo 33 6, pEo 34 6, pEo 35 6, pEo 7 6]; rfl) ⟨xu, xs, vu, vs, a, c, (by show Act.put _ (some 20) _ = _; simp only [e16, hz, putIf_here2, done_same hl, dOt 0 1, dq2, dq3, dq4, dOt 0 5, dOt 0 6, dOt 0 7, dOt 0 8, dq9, dOt 0 10, dq11, dq12, dq13, dq14, dq15, dq16, dq17]), (by (try simp only [dq3, dq15]) <;> first | exact hT | exact fun _ => trivial), (by (try simp only [dq2, dq3, dq15]) <;> first | exact h2 | exact fun _ => trivial), (by (try simp only [dq3, dq14, dq15]) <;> first | exact h8 | exact fun _ => trivial), (by (try simp only [dq9]) <;> first | exact hA | exact fun _ => trivial), (by (try simp only [dq11, dq12]) <;> first | exact h12 | exact fun _ => trivial), (by (try simp only [dq9, dq13]) <;> first | exact h13a | exact fun _ => trivial), (by (try simp only [dq11, dq13]) <;> first | exact h13b | exact fun _ => trivial), (by (try simp only [dq12, dq13]) <;> first | exact h13c | exact fun _ => trivial), (by (try simp only [dq13, dq14]) <;> first | exact h14c | exact fun _ => trivial), (by (try simp only [dq13, dq15]) <;> first | exact h15c | exact fun _ => trivial), (by (try simp only [done_same hl, dq16]) <;> first | exact h16 | exact fun _ => trivial), (by (try simp only [dq3, dq16]) <;> first | exact h16b | exact fun _ => trivial), (by (try simp only [dq4, dq17]) <;> first | exact h17 | exact fun _ => trivial), (by (try simp only [dq15, dq17]) <;> first | exact h17b | exact fun _ => trivial)⟩
        · skip
          have dq0 := dOt 1 0 (l := l)
          have dq2 := dOt 1 2 (l := l)
          have dq3 := dOt 1 3 (l := l)
          have dq4 := dOt 1 4 (l := l)
          have dq9 := dOt 1 9 (l := l)
          have dq11 := dOt 1 11 (l := l)
          have dq12 := dOt 1 12 (l := l)
          have dq13 := dOt 1 13 (l := l)
          have dq14 := dOt 1 14 (l := l)
          have dq15 := dOt 1 15 (l := l)
          have dq16 := dOt 1 16 (l := l)
          have dq17 := dOt 1 17 (l := l)
          obtain ⟨c0, c1, c2, cf⟩ := hT.box.facts3
          exact opJ_load (v := .agg #[.slice u.A u.n u.c, .int .i64 u.mo, .int .i64 u.mv]) rfl rfl 96 (.tmp 9) (.pointer (some ⟨T9, 0, none⟩)) rfl (by simp only [pEo 20 9, pEo 21 9, pEo 22 9, pEo 23 9, pEo 24 9, pEo 25 9, pEo 26 9, pEo 27 9, pEo 28 9, pEo 29 9, pEo 30 9, pEo 31 9, pEo 32 9, pEo 33 9, pEo 34 9, pEo 35 9, pEo 6 9, pEo 7 9]; rfl) (by simp [go_sem, c0, c1, c2]) ⟨xu, xs, vu, vs, a, c, (by show Act.put _ (some 21) _ = _; simp only [pPu 20 21, hz, putIf_here2, done_same hl, dq0, dq2, dq3, dq4, dOt 1 5, dOt 1 6, dOt 1 7, dOt 1 8, dq9, dOt 1 10, dq11, dq12, dq13, dq14, dq15, dq16, dq17]), (by (try simp only [dq3, dq15]) <;> first | exact hT | exact fun _ => trivial), (by (try simp only [dq2, dq3, dq15]) <;> first | exact h2 | exact fun _ => trivial), (by (try simp only [dq3, dq14, dq15]) <;> first | exact h8 | exact fun _ => trivial), (by (try simp only [dq9]) <;> first | exact hA | exact fun _ => trivial), (by (try simp only [dq11, dq12]) <;> first | exact h12 | exact fun _ => trivial), (by (try simp only [dq9, dq13]) <;> first | exact h13a | exact fun _ => trivial), (by (try simp only [dq11, dq13]) <;> first | exact h13b | exact fun _ => trivial), (by (try simp only [dq12, dq13]) <;> first | exact h13c | exact fun _ => trivial), (by (try simp only [dq13, dq14]) <;> first | exact h14c | exact fun _ => trivial), (by (try simp only [dq13, dq15]) <;> first | exact h15c | exact fun _ => trivial), (by (try simp only [dq0, dq16]) <;> first | exact h16 | exact fun _ => trivial), (by (try simp only [dq3, dq16]) <;> first | exact h16b | exact fun _ => trivial), (by (try simp only [dq4, dq17]) <;> first | exact h17 | exact fun _ => trivial), (by (try simp only [dq15, dq17]) <;> first | exact h17b | exact fun _ => trivial)⟩
        · skip
          have dq0 := dOt 2 0 (l := l)
          have dq3 := dOt 2 3 (l := l)
          have dq4 := dOt 2 4 (l := l)
          have dq9 := dOt 2 9 (l := l)
          have dq11 := dOt 2 11 (l := l)
          have dq12 := dOt 2 12 (l := l)
          have dq13 := dOt 2 13 (l := l)
          have dq14 := dOt 2 14 (l := l)
          have dq15 := dOt 2 15 (l := l)
          have dq16 := dOt 2 16 (l := l)
          have dq17 := dOt 2 17 (l := l)
          have dn1 : done l 1 = true := by simp [Region.binds] at haf; simp [done, haf]
          exact opJ_bs (v := .slice (some ⟨w'.heap.size, 0, none⟩) 1 1) (w' := w'.alloc (.cells #[.slice u.A u.n u.c, .int .i64 u.mo, .int .i64 u.mv] 96)) rfl rfl 29 (.tmp 21) (.agg #[.slice u.A u.n u.c, .int .i64 u.mo, .int .i64 u.mv]) rfl (by simp only [pEo 20 21]; rw [dn1]; exact putIf_eval_same (by simp [putIf_size])) (by simp [go_sem]) ⟨w'.heap.size, xs, vu, vs, a, c, (by show Act.put _ (some 22) _ = _; simp only [pPu 20 22, pPu 21 22, hz, putIf_here2, done_same hl, dq0, dOt 2 1, dq3, dq4, dOt 2 5, dOt 2 6, dOt 2 7, dOt 2 8, dq9, dOt 2 10, dq11, dq12, dq13, dq14, dq15, dq16, dq17]), (by (try simp only [dq3, dq15]) <;> first | exact hT.alloc _ | exact fun _ => trivial), (by (try simp only [done_same hl, dq3, dq15]) <;> first | exact fun _ => hT.pd _ _ | exact fun _ => trivial), (by (try simp only [dq3, dq14, dq15]) <;> first | exact fun h => (h8 h).alloc _ | exact fun _ => trivial), (by (try simp only [dq9]) <;> first | exact hA | exact fun _ => trivial), (by (try simp only [dq11, dq12]) <;> first | exact h12 | exact fun _ => trivial), (by (try simp only [dq9, dq13]) <;> first | exact h13a | exact fun _ => trivial), (by (try simp only [dq11, dq13]) <;> first | exact h13b | exact fun _ => trivial), (by (try simp only [dq12, dq13]) <;> first | exact h13c | exact fun _ => trivial), (by (try simp only [dq13, dq14]) <;> first | exact h14c | exact fun _ => trivial), (by (try simp only [dq13, dq15]) <;> first | exact h15c | exact fun _ => trivial), (by (try simp only [dq0, dq16]) <;> first | exact h16 | exact fun _ => trivial), (by (try simp only [dq3, dq16]) <;> first | exact h16b | exact fun _ => trivial), (by (try simp only [dq4, dq17]) <;> first | exact h17 | exact fun _ => trivial), (by (try simp only [dq15, dq17]) <;> first | exact h17b | exact fun _ => trivial)⟩
        · skip
          have dq0 := dOt 3 0 (l := l)
          have dq2 := dOt 3 2 (l := l)
          have dq4 := dOt 3 4 (l := l)
          have dq9 := dOt 3 9 (l := l)
          have dq11 := dOt 3 11 (l := l)
          have dq12 := dOt 3 12 (l := l)
          have dq13 := dOt 3 13 (l := l)
          have dq14 := dOt 3 14 (l := l)
          have dq15 := dOt 3 15 (l := l)
          have dq16 := dOt 3 16 (l := l)
          have dq17 := dOt 3 17 (l := l)
          have dn0 : done l 0 = true := by simp [Region.binds] at haf; simp [done, haf]
          have dn2 : done l 2 = true := by simp [Region.binds] at haf; simp [done, haf]
          have hd16 : done l 16 = false := by
            cases hc : done l 16
            · rfl
            · have := h16b hc; rw [hz] at this; cases this
          have e16 : ∀ (v : Value) (a : Act), putIf (done l 16) 6 v a = a := fun v a => by rw [hd16]; rfl
          simp only [hz, sel_f] at hT h2 h8
          have hP := h2 dn2
          refine opJ_append rfl rfl (.tmp 20) (.tmp 22) 29 rfl w.heap.size _ _ slGt u6 us.length (gtCells us) (by rw [dn0]; exact putIf_eval_same (by simp [putIf_size])) hT.r1 xu _ 1 #[.slice u.A u.n u.c, .int .i64 u.mo, .int .i64 u.mv] (by simp only [pEo 20 22, pEo 21 22]; rw [dn2]; exact putIf_eval_same (by simp [putIf_size])) ⟨by omega, by omega⟩ rfl hP.blk (by simp [Value.oneCell']) (by omega) hT.zw ?_
          intro v' w'' hr' hg' hor'
          exact ⟨xu, xs, v', vs, a, c, (by show Act.put _ (some 23) _ = _; simp only [e16, pPu 20 23, pPu 21 23, pPu 22 23, hz, putIf_here2, done_same hl, dq0, dOt 3 1, dq2, dq4, dOt 3 5, dOt 3 6, dOt 3 7, dOt 3 8, dq9, dOt 3 10, dq11, dq12, dq13, dq14, dq15, dq16, dq17]), (by (try simp only [sel_t, done_same hl, dq15]) <;> first | exact hT.push1 hr' hg' hor' | exact fun _ => trivial), (by (try simp only [sel_t, dq2, done_same hl, dq15]) <;> first | exact fun h => (h2 h).push1 hg' hor' | exact fun _ => trivial), (by (try simp only [sel_t, done_same hl, dq14, dq15]) <;> first | exact fun h => (h8 h).push1 hg' hor' | exact fun _ => trivial), (by (try simp only [dq9]) <;> first | exact hA | exact fun _ => trivial), (by (try simp only [dq11, dq12]) <;> first | exact h12 | exact fun _ => trivial), (by (try simp only [dq9, dq13]) <;> first | exact h13a | exact fun _ => trivial), (by (try simp only [dq11, dq13]) <;> first | exact h13b | exact fun _ => trivial), (by (try simp only [dq12, dq13]) <;> first | exact h13c | exact fun _ => trivial), (by (try simp only [dq13, dq14]) <;> first | exact h14c | exact fun _ => trivial), (by (try simp only [dq13, dq15]) <;> first | exact h15c | exact fun _ => trivial), (by (try simp only [hd16, dq0, dq16]) <;> first | exact fun h => (by cases h) | exact fun _ => trivial), (by (try simp only [hd16, done_same hl, dq16]) <;> first | exact h16b | exact fun _ => trivial), (by (try simp only [dq4, dq17]) <;> first | exact h17 | exact fun _ => trivial), (by (try simp only [dq15, dq17]) <;> first | exact h17b | exact fun _ => trivial)⟩
        · skip
          have dq0 := dOt 4 0 (l := l)
          have dq2 := dOt 4 2 (l := l)
          have dq3 := dOt 4 3 (l := l)
          have dq9 := dOt 4 9 (l := l)
          have dq11 := dOt 4 11 (l := l)
          have dq12 := dOt 4 12 (l := l)
          have dq13 := dOt 4 13 (l := l)
          have dq14 := dOt 4 14 (l := l)
          have dq15 := dOt 4 15 (l := l)
          have dq16 := dOt 4 16 (l := l)
          have dq17 := dOt 4 17 (l := l)
          have hd17 : done l 17 = false := by
            cases hc : done l 17
            · rfl
            · have := h17 hc; rw [hz] at this; cases this
          have e17 : ∀ (v : Value) (a : Act), putIf (done l 17) 7 v a = a := fun v a => by rw [hd17]; rfl
          exact opJ_move (v := u7) rfl rfl (.tmp 7) rfl (by simp only [e17, pEo 20 7, pEo 21 7, pEo 22 7, pEo 23 7, pEo 24 7, pEo 25 7, pEo 26 7, pEo 27 7, pEo 28 7, pEo 29 7, pEo 30 7, pEo 31 7, pEo 32 7, pEo 33 7, pEo 34 7, pEo 35 7, pEo 6 7]; rfl) ⟨xu, xs, vu, vs, a, c, (by show Act.put _ (some 24) _ = _; simp only [e17, pPu 20 24, pPu 21 24, pPu 22 24, pPu 23 24, hz, putIf_here2, done_same hl, dq0, dOt 4 1, dq2, dq3, dOt 4 5, dOt 4 6, dOt 4 7, dOt 4 8, dq9, dOt 4 10, dq11, dq12, dq13, dq14, dq15, dq16, dq17]), (by (try simp only [dq3, dq15]) <;> first | exact hT | exact fun _ => trivial), (by (try simp only [dq2, dq3, dq15]) <;> first | exact h2 | exact fun _ => trivial), (by (try simp only [dq3, dq14, dq15]) <;> first | exact h8 | exact fun _ => trivial), (by (try simp only [dq9]) <;> first | exact hA | exact fun _ => trivial), (by (try simp only [dq11, dq12]) <;> first | exact h12 | exact fun _ => trivial), (by (try simp only [dq9, dq13]) <;> first | exact h13a | exact fun _ => trivial), (by (try simp only [dq11, dq13]) <;> first | exact h13b | exact fun _ => trivial), (by (try simp only [dq12, dq13]) <;> first | exact h13c | exact fun _ => trivial), (by (try simp only [dq13, dq14]) <;> first | exact h14c | exact fun _ => trivial), (by (try simp only [dq13, dq15]) <;> first | exact h15c | exact fun _ => trivial), (by (try simp only [dq0, dq16]) <;> first | exact h16 | exact fun _ => trivial), (by (try simp only [dq3, dq16]) <;> first | exact h16b | exact fun _ => trivial), (by (try simp only [done_same hl, dq17]) <;> first | exact h17 | exact fun _ => trivial), (by (try simp only [dq15, dq17]) <;> first | exact h17b | exact fun _ => trivial)⟩
        · skip
          have dq0 := dOt 5 0 (l := l)
          have dq2 := dOt 5 2 (l := l)
          have dq3 := dOt 5 3 (l := l)
          have dq4 := dOt 5 4 (l := l)
          have dq9 := dOt 5 9 (l := l)
          have dq11 := dOt 5 11 (l := l)
          have dq12 := dOt 5 12 (l := l)
          have dq13 := dOt 5 13 (l := l)
          have dq14 := dOt 5 14 (l := l)
          have dq15 := dOt 5 15 (l := l)
          have dq16 := dOt 5 16 (l := l)
          have dq17 := dOt 5 17 (l := l)
          exact opJ_move (v := .pointer (some ⟨b, 0, none⟩)) rfl rfl (.tmp 0) rfl (by simp only [pEo 20 0, pEo 21 0, pEo 22 0, pEo 23 0, pEo 24 0, pEo 25 0, pEo 26 0, pEo 27 0, pEo 28 0, pEo 29 0, pEo 30 0, pEo 31 0, pEo 32 0, pEo 33 0, pEo 34 0, pEo 35 0, pEo 6 0, pEo 7 0]; rfl) ⟨xu, xs, vu, vs, a, c, (by show Act.put _ (some 25) _ = _; simp only [pPu 20 25, pPu 21 25, pPu 22 25, pPu 23 25, pPu 24 25, hz, putIf_here2, done_same hl, dq0, dOt 5 1, dq2, dq3, dq4, dOt 5 6, dOt 5 7, dOt 5 8, dq9, dOt 5 10, dq11, dq12, dq13, dq14, dq15, dq16, dq17]), (by (try simp only [dq3, dq15]) <;> first | exact hT | exact fun _ => trivial), (by (try simp only [dq2, dq3, dq15]) <;> first | exact h2 | exact fun _ => trivial), (by (try simp only [dq3, dq14, dq15]) <;> first | exact h8 | exact fun _ => trivial), (by (try simp only [dq9]) <;> first | exact hA | exact fun _ => trivial), (by (try simp only [dq11, dq12]) <;> first | exact h12 | exact fun _ => trivial), (by (try simp only [dq9, dq13]) <;> first | exact h13a | exact fun _ => trivial), (by (try simp only [dq11, dq13]) <;> first | exact h13b | exact fun _ => trivial), (by (try simp only [dq12, dq13]) <;> first | exact h13c | exact fun _ => trivial), (by (try simp only [dq13, dq14]) <;> first | exact h14c | exact fun _ => trivial), (by (try simp only [dq13, dq15]) <;> first | exact h15c | exact fun _ => trivial), (by (try simp only [dq0, dq16]) <;> first | exact h16 | exact fun _ => trivial), (by (try simp only [dq3, dq16]) <;> first | exact h16b | exact fun _ => trivial), (by (try simp only [dq4, dq17]) <;> first | exact h17 | exact fun _ => trivial), (by (try simp only [dq15, dq17]) <;> first | exact h17b | exact fun _ => trivial)⟩
        · skip
          have dq0 := dOt 6 0 (l := l)
          have dq2 := dOt 6 2 (l := l)
          have dq3 := dOt 6 3 (l := l)
          have dq4 := dOt 6 4 (l := l)
          have dq9 := dOt 6 9 (l := l)
          have dq11 := dOt 6 11 (l := l)
          have dq12 := dOt 6 12 (l := l)
          have dq13 := dOt 6 13 (l := l)
          have dq14 := dOt 6 14 (l := l)
          have dq15 := dOt 6 15 (l := l)
          have dq16 := dOt 6 16 (l := l)
          have dq17 := dOt 6 17 (l := l)
          exact opJ_field (v := .pointer (some ⟨T9, 1, none⟩)) rfl rfl 96 (.tmp 9) 1 (.pointer (some ⟨T9, 0, none⟩)) rfl (by simp only [pEo 20 9, pEo 21 9, pEo 22 9, pEo 23 9, pEo 24 9, pEo 25 9, pEo 26 9, pEo 27 9, pEo 28 9, pEo 29 9, pEo 30 9, pEo 31 9, pEo 32 9, pEo 33 9, pEo 34 9, pEo 35 9, pEo 6 9, pEo 7 9]; rfl) (by simp [go_sem]) ⟨xu, xs, vu, vs, a, c, (by show Act.put _ (some 26) _ = _; simp only [pPu 20 26, pPu 21 26, pPu 22 26, pPu 23 26, pPu 24 26, pPu 25 26, hz, putIf_here2, done_same hl, dq0, dOt 6 1, dq2, dq3, dq4, dOt 6 5, dOt 6 7, dOt 6 8, dq9, dOt 6 10, dq11, dq12, dq13, dq14, dq15, dq16, dq17]), (by (try simp only [dq3, dq15]) <;> first | exact hT | exact fun _ => trivial), (by (try simp only [dq2, dq3, dq15]) <;> first | exact h2 | exact fun _ => trivial), (by (try simp only [dq3, dq14, dq15]) <;> first | exact h8 | exact fun _ => trivial), (by (try simp only [dq9]) <;> first | exact hA | exact fun _ => trivial), (by (try simp only [dq11, dq12]) <;> first | exact h12 | exact fun _ => trivial), (by (try simp only [dq9, dq13]) <;> first | exact h13a | exact fun _ => trivial), (by (try simp only [dq11, dq13]) <;> first | exact h13b | exact fun _ => trivial), (by (try simp only [dq12, dq13]) <;> first | exact h13c | exact fun _ => trivial), (by (try simp only [dq13, dq14]) <;> first | exact h14c | exact fun _ => trivial), (by (try simp only [dq13, dq15]) <;> first | exact h15c | exact fun _ => trivial), (by (try simp only [dq0, dq16]) <;> first | exact h16 | exact fun _ => trivial), (by (try simp only [dq3, dq16]) <;> first | exact h16b | exact fun _ => trivial), (by (try simp only [dq4, dq17]) <;> first | exact h17 | exact fun _ => trivial), (by (try simp only [dq15, dq17]) <;> first | exact h17b | exact fun _ => trivial)⟩
        · skip
          have dq0 := dOt 7 0 (l := l)
          have dq2 := dOt 7 2 (l := l)
          have dq3 := dOt 7 3 (l := l)
          have dq4 := dOt 7 4 (l := l)
          have dq9 := dOt 7 9 (l := l)
          have dq11 := dOt 7 11 (l := l)
          have dq12 := dOt 7 12 (l := l)
          have dq13 := dOt 7 13 (l := l)
          have dq14 := dOt 7 14 (l := l)
          have dq15 := dOt 7 15 (l := l)
          have dq16 := dOt 7 16 (l := l)
          have dq17 := dOt 7 17 (l := l)
          have dn6 : done l 6 = true := by simp [Region.binds] at haf; simp [done, haf]
          obtain ⟨c0, c1, c2, cf⟩ := hT.box.facts3
          exact opJ_load (v := .int .i64 u.mo) rfl rfl 3 (.tmp 26) (.pointer (some ⟨T9, 1, none⟩)) rfl (by simp only [pEo 20 26, pEo 21 26, pEo 22 26, pEo 23 26, pEo 24 26, pEo 25 26]; rw [dn6]; exact putIf_eval_same (by simp [putIf_size])) (by simp [go_sem, c1]) ⟨xu, xs, vu, vs, a, c, (by show Act.put _ (some 27) _ = _; simp only [pPu 20 27, pPu 21 27, pPu 22 27, pPu 23 27, pPu 24 27, pPu 25 27, pPu 26 27, hz, putIf_here2, done_same hl, dq0, dOt 7 1, dq2, dq3, dq4, dOt 7 5, dOt 7 6, dOt 7 8, dq9, dOt 7 10, dq11, dq12, dq13, dq14, dq15, dq16, dq17]), (by (try simp only [dq3, dq15]) <;> first | exact hT | exact fun _ => trivial), (by (try simp only [dq2, dq3, dq15]) <;> first | exact h2 | exact fun _ => trivial), (by (try simp only [dq3, dq14, dq15]) <;> first | exact h8 | exact fun _ => trivial), (by (try simp only [dq9]) <;> first | exact hA | exact fun _ => trivial), (by (try simp only [dq11, dq12]) <;> first | exact h12 | exact fun _ => trivial), (by (try simp only [dq9, dq13]) <;> first | exact h13a | exact fun _ => trivial), (by (try simp only [dq11, dq13]) <;> first | exact h13b | exact fun _ => trivial), (by (try simp only [dq12, dq13]) <;> first | exact h13c | exact fun _ => trivial), (by (try simp only [dq13, dq14]) <;> first | exact h14c | exact fun _ => trivial), (by (try simp only [dq13, dq15]) <;> first | exact h15c | exact fun _ => trivial), (by (try simp only [dq0, dq16]) <;> first | exact h16 | exact fun _ => trivial), (by (try simp only [dq3, dq16]) <;> first | exact h16b | exact fun _ => trivial), (by (try simp only [dq4, dq17]) <;> first | exact h17 | exact fun _ => trivial), (by (try simp only [dq15, dq17]) <;> first | exact h17b | exact fun _ => trivial)⟩
        · skip
          have dq0 := dOt 8 0 (l := l)
          have dq2 := dOt 8 2 (l := l)
          have dq3 := dOt 8 3 (l := l)
          have dq4 := dOt 8 4 (l := l)
          have dq9 := dOt 8 9 (l := l)
          have dq11 := dOt 8 11 (l := l)
          have dq12 := dOt 8 12 (l := l)
          have dq13 := dOt 8 13 (l := l)
          have dq14 := dOt 8 14 (l := l)
          have dq15 := dOt 8 15 (l := l)
          have dq16 := dOt 8 16 (l := l)
          have dq17 := dOt 8 17 (l := l)
          have dn7 : done l 7 = true := by simp [Region.binds] at haf; simp [done, haf]
          exact opJ_bin (v := .int .i64 (u.mo + 1)) rfl rfl .add 3 3 (.tmp 27) (.const (.int .i64 1)) (.int .i64 u.mo) (.int .i64 1) rfl (by simp only [pEo 20 27, pEo 21 27, pEo 22 27, pEo 23 27, pEo 24 27, pEo 25 27, pEo 26 27]; rw [dn7]; exact putIf_eval_same (by simp [putIf_size])) rfl (by simp [go_sem, hwm]) ⟨xu, xs, vu, vs, a, c, (by show Act.put _ (some 28) _ = _; simp only [pPu 20 28, pPu 21 28, pPu 22 28, pPu 23 28, pPu 24 28, pPu 25 28, pPu 26 28, pPu 27 28, hz, putIf_here2, done_same hl, dq0, dOt 8 1, dq2, dq3, dq4, dOt 8 5, dOt 8 6, dOt 8 7, dq9, dOt 8 10, dq11, dq12, dq13, dq14, dq15, dq16, dq17]), (by (try simp only [dq3, dq15]) <;> first | exact hT | exact fun _ => trivial), (by (try simp only [dq2, dq3, dq15]) <;> first | exact h2 | exact fun _ => trivial), (by (try simp only [dq3, dq14, dq15]) <;> first | exact h8 | exact fun _ => trivial), (by (try simp only [dq9]) <;> first | exact hA | exact fun _ => trivial), (by (try simp only [dq11, dq12]) <;> first | exact h12 | exact fun _ => trivial), (by (try simp only [dq9, dq13]) <;> first | exact h13a | exact fun _ => trivial), (by (try simp only [dq11, dq13]) <;> first | exact h13b | exact fun _ => trivial), (by (try simp only [dq12, dq13]) <;> first | exact h13c | exact fun _ => trivial), (by (try simp only [dq13, dq14]) <;> first | exact h14c | exact fun _ => trivial), (by (try simp only [dq13, dq15]) <;> first | exact h15c | exact fun _ => trivial), (by (try simp only [dq0, dq16]) <;> first | exact h16 | exact fun _ => trivial), (by (try simp only [dq3, dq16]) <;> first | exact h16b | exact fun _ => trivial), (by (try simp only [dq4, dq17]) <;> first | exact h17 | exact fun _ => trivial), (by (try simp only [dq15, dq17]) <;> first | exact h17b | exact fun _ => trivial)⟩
        · skip
          have dq0 := dOt 9 0 (l := l)
          have dq2 := dOt 9 2 (l := l)
          have dq3 := dOt 9 3 (l := l)
          have dq4 := dOt 9 4 (l := l)
          have dq11 := dOt 9 11 (l := l)
          have dq12 := dOt 9 12 (l := l)
          have dq13 := dOt 9 13 (l := l)
          have dq14 := dOt 9 14 (l := l)
          have dq15 := dOt 9 15 (l := l)
          have dq16 := dOt 9 16 (l := l)
          have dq17 := dOt 9 17 (l := l)
          have dn5 : done l 5 = true := by simp [Region.binds] at haf; simp [done, haf]
          have dn8 : done l 8 = true := by simp [Region.binds] at haf; simp [done, haf]
          have hd13 : done l 13 = false := by
            cases hc : done l 13
            · rfl
            · have := h13a hc; rw [hz] at this; cases this
          have hd14 : done l 14 = false := by
            cases hc : done l 14
            · rfl
            · have := h14c hc; rw [hd13] at this; cases this
          have hd15 : done l 15 = false := by
            cases hc : done l 15
            · rfl
            · have := h15c hc; rw [hd13] at this; cases this
          have e13 : ∀ (v : Value) (a : Act), putIf (done l 13) 33 v a = a := fun v a => by rw [hd13]; rfl
          simp only [hd15, sel_f] at hT h2
          refine opJ_call rfl rfl 11 #[.tmp 25, .tmp 28] _ #[.pointer (some ⟨b, 0, none⟩), .int .i64 (u.mo + 1)] rfl (map2J (by simp only [pEo 20 25, pEo 21 25, pEo 22 25, pEo 23 25, pEo 24 25]; rw [dn5]; exact putIf_eval_same (by simp [putIf_size])) (by simp only [pEo 20 28, pEo 21 28, pEo 22 28, pEo 23 28, pEo 24 28, pEo 25 28, pEo 26 28, pEo 27 28]; rw [dn8]; exact putIf_eval_same (by simp [putIf_size]))) cfNext ((next_any b (u.mo + 1) (by omega) w' hT.dk).mono ?_)
          rintro e w'' ⟨a', rfl, hv0, hv1, hD', hg', _⟩
          exact ⟨_, rfl, xu, xs, vu, vs, a', c, (by show Act.put _ (some 29) _ = _; simp only [e13, pPu 20 29, pPu 21 29, pPu 22 29, pPu 23 29, pPu 24 29, pPu 25 29, pPu 26 29, pPu 27 29, pPu 28 29, hz, putIf_here2, done_same hl, dq0, dOt 9 1, dq2, dq3, dq4, dOt 9 5, dOt 9 6, dOt 9 7, dOt 9 8, dOt 9 10, dq11, dq12, dq13, dq14, dq15, dq16, dq17]), (by (try simp only [hd15, sel_f, dq3, dq15]) <;> first | exact hT.deck hg' hD' | exact fun _ => trivial), (by (try simp only [hd15, sel_f, dq2, dq3, dq15]) <;> first | exact fun h => (h2 h).deck hg' | exact fun _ => trivial), (by (try simp only [hd14, hd15, sel_f, dq3, dq14, dq15]) <;> first | exact fun h => (by cases h) | exact fun _ => trivial), (by (try simp only [done_same hl]) <;> first | exact fun _ => (by omega) | exact fun _ => trivial), (by (try simp only [dq11, dq12]) <;> first | exact h12 | exact fun _ => trivial), (by (try simp only [done_same hl, dq13]) <;> first | exact h13a | exact fun _ => trivial), (by (try simp only [dq11, dq13]) <;> first | exact h13b | exact fun _ => trivial), (by (try simp only [dq12, dq13]) <;> first | exact h13c | exact fun _ => trivial), (by (try simp only [hd14, dq13, dq14]) <;> first | exact fun h => (by cases h) | exact fun _ => trivial), (by (try simp only [hd15, dq13, dq15]) <;> first | exact fun h => (by cases h) | exact fun _ => trivial), (by (try simp only [dq0, dq16]) <;> first | exact h16 | exact fun _ => trivial), (by (try simp only [dq3, dq16]) <;> first | exact h16b | exact fun _ => trivial), (by (try simp only [dq4, dq17]) <;> first | exact h17 | exact fun _ => trivial), (by (try simp only [hd15, dq15, dq17]) <;> first | exact fun h => (by have h9 := h17b h; rw [hd15] at h9; exact h9) | exact fun _ => trivial)⟩
        · skip
          have dq0 := dOt 10 0 (l := l)
          have dq2 := dOt 10 2 (l := l)
          have dq3 := dOt 10 3 (l := l)
          have dq4 := dOt 10 4 (l := l)
          have dq9 := dOt 10 9 (l := l)
          have dq11 := dOt 10 11 (l := l)
          have dq12 := dOt 10 12 (l := l)
          have dq13 := dOt 10 13 (l := l)
          have dq14 := dOt 10 14 (l := l)
          have dq15 := dOt 10 15 (l := l)
          have dq16 := dOt 10 16 (l := l)
          have dq17 := dOt 10 17 (l := l)
          exact opJ_move (v := .pointer (some ⟨b, 0, none⟩)) rfl rfl (.tmp 0) rfl (by simp only [pEo 20 0, pEo 21 0, pEo 22 0, pEo 23 0, pEo 24 0, pEo 25 0, pEo 26 0, pEo 27 0, pEo 28 0, pEo 29 0, pEo 30 0, pEo 31 0, pEo 32 0, pEo 33 0, pEo 34 0, pEo 35 0, pEo 6 0, pEo 7 0]; rfl) ⟨xu, xs, vu, vs, a, c, (by show Act.put _ (some 30) _ = _; simp only [pPu 20 30, pPu 21 30, pPu 22 30, pPu 23 30, pPu 24 30, pPu 25 30, pPu 26 30, pPu 27 30, pPu 28 30, pPu 29 30, hz, putIf_here2, done_same hl, dq0, dOt 10 1, dq2, dq3, dq4, dOt 10 5, dOt 10 6, dOt 10 7, dOt 10 8, dq9, dq11, dq12, dq13, dq14, dq15, dq16, dq17]), (by (try simp only [dq3, dq15]) <;> first | exact hT | exact fun _ => trivial), (by (try simp only [dq2, dq3, dq15]) <;> first | exact h2 | exact fun _ => trivial), (by (try simp only [dq3, dq14, dq15]) <;> first | exact h8 | exact fun _ => trivial), (by (try simp only [dq9]) <;> first | exact hA | exact fun _ => trivial), (by (try simp only [dq11, dq12]) <;> first | exact h12 | exact fun _ => trivial), (by (try simp only [dq9, dq13]) <;> first | exact h13a | exact fun _ => trivial), (by (try simp only [dq11, dq13]) <;> first | exact h13b | exact fun _ => trivial), (by (try simp only [dq12, dq13]) <;> first | exact h13c | exact fun _ => trivial), (by (try simp only [dq13, dq14]) <;> first | exact h14c | exact fun _ => trivial), (by (try simp only [dq13, dq15]) <;> first | exact h15c | exact fun _ => trivial), (by (try simp only [dq0, dq16]) <;> first | exact h16 | exact fun _ => trivial), (by (try simp only [dq3, dq16]) <;> first | exact h16b | exact fun _ => trivial), (by (try simp only [dq4, dq17]) <;> first | exact h17 | exact fun _ => trivial), (by (try simp only [dq15, dq17]) <;> first | exact h17b | exact fun _ => trivial)⟩
        · skip
          have dq0 := dOt 11 0 (l := l)
          have dq2 := dOt 11 2 (l := l)
          have dq3 := dOt 11 3 (l := l)
          have dq4 := dOt 11 4 (l := l)
          have dq9 := dOt 11 9 (l := l)
          have dq12 := dOt 11 12 (l := l)
          have dq13 := dOt 11 13 (l := l)
          have dq14 := dOt 11 14 (l := l)
          have dq15 := dOt 11 15 (l := l)
          have dq16 := dOt 11 16 (l := l)
          have dq17 := dOt 11 17 (l := l)
          have dn10 : done l 10 = true := by simp [Region.binds] at haf; simp [done, haf]
          have hd12 : done l 12 = false := by
            cases hc : done l 12
            · rfl
            · have := h12 hc; rw [hz] at this; cases this
          have hd13 : done l 13 = false := by
            cases hc : done l 13
            · rfl
            · have := h13b hc; rw [hz] at this; cases this
          have hd14 : done l 14 = false := by
            cases hc : done l 14
            · rfl
            · have := h14c hc; rw [hd13] at this; cases this
          have hd15 : done l 15 = false := by
            cases hc : done l 15
            · rfl
            · have := h15c hc; rw [hd13] at this; cases this
          have e13 : ∀ (v : Value) (a : Act), putIf (done l 13) 33 v a = a := fun v a => by rw [hd13]; rfl
          have e12 : ∀ (v : Value) (a : Act), putIf (done l 12) 32 v a = a := fun v a => by rw [hd12]; rfl
          simp only [hd15, sel_f] at hT h2
          refine opJ_call rfl rfl 11 #[.tmp 30, .const (.int .i64 7)] _ #[.pointer (some ⟨b, 0, none⟩), .int .i64 7] rfl (map2J (by simp only [pEo 20 30, pEo 21 30, pEo 22 30, pEo 23 30, pEo 24 30, pEo 25 30, pEo 26 30, pEo 27 30, pEo 28 30, pEo 29 30]; rw [dn10]; exact putIf_eval_same (by simp [putIf_size])) rfl) cfNext ((next_any b 7 (by omega) w' hT.dk).mono ?_)
          rintro e w'' ⟨c', rfl, hv0, hv1, hD', hg', _⟩
          exact ⟨_, rfl, xu, xs, vu, vs, a, c', (by show Act.put _ (some 31) _ = _; simp only [e13, e12, pPu 20 31, pPu 21 31, pPu 22 31, pPu 23 31, pPu 24 31, pPu 25 31, pPu 26 31, pPu 27 31, pPu 28 31, pPu 29 31, pPu 30 31, hz, putIf_here2, done_same hl, dq0, dOt 11 1, dq2, dq3, dq4, dOt 11 5, dOt 11 6, dOt 11 7, dOt 11 8, dq9, dOt 11 10, dq12, dq13, dq14, dq15, dq16, dq17]), (by (try simp only [hd15, sel_f, dq3, dq15]) <;> first | exact hT.deck hg' hD' | exact fun _ => trivial), (by (try simp only [hd15, sel_f, dq2, dq3, dq15]) <;> first | exact fun h => (h2 h).deck hg' | exact fun _ => trivial), (by (try simp only [hd14, hd15, sel_f, dq3, dq14, dq15]) <;> first | exact fun h => (by cases h) | exact fun _ => trivial), (by (try simp only [dq9]) <;> first | exact hA | exact fun _ => trivial), (by (try simp only [done_same hl, dq12]) <;> first | exact h12 | exact fun _ => trivial), (by (try simp only [dq9, dq13]) <;> first | exact h13a | exact fun _ => trivial), (by (try simp only [done_same hl, dq13]) <;> first | exact h13b | exact fun _ => trivial), (by (try simp only [dq12, dq13]) <;> first | exact h13c | exact fun _ => trivial), (by (try simp only [hd14, dq13, dq14]) <;> first | exact fun h => (by cases h) | exact fun _ => trivial), (by (try simp only [hd15, dq13, dq15]) <;> first | exact fun h => (by cases h) | exact fun _ => trivial), (by (try simp only [dq0, dq16]) <;> first | exact h16 | exact fun _ => trivial), (by (try simp only [dq3, dq16]) <;> first | exact h16b | exact fun _ => trivial), (by (try simp only [dq4, dq17]) <;> first | exact h17 | exact fun _ => trivial), (by (try simp only [hd15, dq15, dq17]) <;> first | exact fun h => (by have h9 := h17b h; rw [hd15] at h9; exact h9) | exact fun _ => trivial)⟩
        · skip
          have dq0 := dOt 12 0 (l := l)
          have dq2 := dOt 12 2 (l := l)
          have dq3 := dOt 12 3 (l := l)
          have dq4 := dOt 12 4 (l := l)
          have dq9 := dOt 12 9 (l := l)
          have dq11 := dOt 12 11 (l := l)
          have dq13 := dOt 12 13 (l := l)
          have dq14 := dOt 12 14 (l := l)
          have dq15 := dOt 12 15 (l := l)
          have dq16 := dOt 12 16 (l := l)
          have dq17 := dOt 12 17 (l := l)
          have dn11 : done l 11 = true := by simp [Region.binds] at haf; simp [done, haf]
          exact opJ_bin (v := .bool (c == 6)) rfl rfl .eql 3 3 (.tmp 31) (.const (.int .i64 6)) (.int .i64 c) (.int .i64 6) rfl (by simp only [pEo 20 31, pEo 21 31, pEo 22 31, pEo 23 31, pEo 24 31, pEo 25 31, pEo 26 31, pEo 27 31, pEo 28 31, pEo 29 31, pEo 30 31]; rw [dn11]; exact putIf_eval_same (by simp [putIf_size])) rfl (by simp [go_sem]) ⟨xu, xs, vu, vs, a, c, (by show Act.put _ (some 32) _ = _; simp only [pPu 20 32, pPu 21 32, pPu 22 32, pPu 23 32, pPu 24 32, pPu 25 32, pPu 26 32, pPu 27 32, pPu 28 32, pPu 29 32, pPu 30 32, pPu 31 32, hz, putIf_here2, done_same hl, dq0, dOt 12 1, dq2, dq3, dq4, dOt 12 5, dOt 12 6, dOt 12 7, dOt 12 8, dq9, dOt 12 10, dq11, dq13, dq14, dq15, dq16, dq17]), (by (try simp only [dq3, dq15]) <;> first | exact hT | exact fun _ => trivial), (by (try simp only [dq2, dq3, dq15]) <;> first | exact h2 | exact fun _ => trivial), (by (try simp only [dq3, dq14, dq15]) <;> first | exact h8 | exact fun _ => trivial), (by (try simp only [dq9]) <;> first | exact hA | exact fun _ => trivial), (by (try simp only [dq11, done_same hl]) <;> first | exact fun _ => dn11 | exact fun _ => trivial), (by (try simp only [dq9, dq13]) <;> first | exact h13a | exact fun _ => trivial), (by (try simp only [dq11, dq13]) <;> first | exact h13b | exact fun _ => trivial), (by (try simp only [done_same hl, dq13]) <;> first | exact h13c | exact fun _ => trivial), (by (try simp only [dq13, dq14]) <;> first | exact h14c | exact fun _ => trivial), (by (try simp only [dq13, dq15]) <;> first | exact h15c | exact fun _ => trivial), (by (try simp only [dq0, dq16]) <;> first | exact h16 | exact fun _ => trivial), (by (try simp only [dq3, dq16]) <;> first | exact h16b | exact fun _ => trivial), (by (try simp only [dq4, dq17]) <;> first | exact h17 | exact fun _ => trivial), (by (try simp only [dq15, dq17]) <;> first | exact h17b | exact fun _ => trivial)⟩
        · skip
          have dq0 := dOt 13 0 (l := l)
          have dq2 := dOt 13 2 (l := l)
          have dq3 := dOt 13 3 (l := l)
          have dq4 := dOt 13 4 (l := l)
          have dq9 := dOt 13 9 (l := l)
          have dq11 := dOt 13 11 (l := l)
          have dq12 := dOt 13 12 (l := l)
          have dq14 := dOt 13 14 (l := l)
          have dq15 := dOt 13 15 (l := l)
          have dq16 := dOt 13 16 (l := l)
          have dq17 := dOt 13 17 (l := l)
          have dn9 : done l 9 = true := by simp [Region.binds] at haf; simp [done, haf]
          have dn12 : done l 12 = true := by simp [Region.binds] at haf; simp [done, haf]
          have dn11 := h12 dn12
          exact opJ_build (v := .agg #[.int .i64 a, .bool (c == 6)]) rfl rfl 99 (.tmp 29) (.tmp 32) (.int .i64 a) (.bool (c == 6)) rfl (by simp only [pEo 20 29, pEo 21 29, pEo 22 29, pEo 23 29, pEo 24 29, pEo 25 29, pEo 26 29, pEo 27 29, pEo 28 29]; rw [dn9]; exact putIf_eval_same (by simp [putIf_size])) (by simp only [pEo 20 32, pEo 21 32, pEo 22 32, pEo 23 32, pEo 24 32, pEo 25 32, pEo 26 32, pEo 27 32, pEo 28 32, pEo 29 32, pEo 30 32, pEo 31 32]; rw [dn12]; exact putIf_eval_same (by simp [putIf_size])) (by simp [go_sem]) ⟨xu, xs, vu, vs, a, c, (by show Act.put _ (some 33) _ = _; simp only [pPu 20 33, pPu 21 33, pPu 22 33, pPu 23 33, pPu 24 33, pPu 25 33, pPu 26 33, pPu 27 33, pPu 28 33, pPu 29 33, pPu 30 33, pPu 31 33, pPu 32 33, hz, putIf_here2, done_same hl, dq0, dOt 13 1, dq2, dq3, dq4, dOt 13 5, dOt 13 6, dOt 13 7, dOt 13 8, dq9, dOt 13 10, dq11, dq12, dq14, dq15, dq16, dq17]), (by (try simp only [dq3, dq15]) <;> first | exact hT | exact fun _ => trivial), (by (try simp only [dq2, dq3, dq15]) <;> first | exact h2 | exact fun _ => trivial), (by (try simp only [dq3, dq14, dq15]) <;> first | exact h8 | exact fun _ => trivial), (by (try simp only [dq9]) <;> first | exact hA | exact fun _ => trivial), (by (try simp only [dq11, dq12]) <;> first | exact h12 | exact fun _ => trivial), (by (try simp only [dq9, done_same hl]) <;> first | exact fun _ => dn9 | exact fun _ => trivial), (by (try simp only [dq11, done_same hl]) <;> first | exact fun _ => dn11 | exact fun _ => trivial), (by (try simp only [dq12, done_same hl]) <;> first | exact fun _ => dn12 | exact fun _ => trivial), (by (try simp only [done_same hl, dq14]) <;> first | exact h14c | exact fun _ => trivial), (by (try simp only [done_same hl, dq15]) <;> first | exact h15c | exact fun _ => trivial), (by (try simp only [dq0, dq16]) <;> first | exact h16 | exact fun _ => trivial), (by (try simp only [dq3, dq16]) <;> first | exact h16b | exact fun _ => trivial), (by (try simp only [dq4, dq17]) <;> first | exact h17 | exact fun _ => trivial), (by (try simp only [dq15, dq17]) <;> first | exact h17b | exact fun _ => trivial)⟩
        · skip
          have dq0 := dOt 14 0 (l := l)
          have dq2 := dOt 14 2 (l := l)
          have dq3 := dOt 14 3 (l := l)
          have dq4 := dOt 14 4 (l := l)
          have dq9 := dOt 14 9 (l := l)
          have dq11 := dOt 14 11 (l := l)
          have dq12 := dOt 14 12 (l := l)
          have dq13 := dOt 14 13 (l := l)
          have dq15 := dOt 14 15 (l := l)
          have dq16 := dOt 14 16 (l := l)
          have dq17 := dOt 14 17 (l := l)
          have dn13 : done l 13 = true := by simp [Region.binds] at haf; simp [done, haf]
          exact opJ_bs (v := .slice (some ⟨w'.heap.size, 0, none⟩) 1 1) (w' := w'.alloc (.cells #[.int .i64 a, .bool (c == 6)] 99)) rfl rfl 33 (.tmp 33) (.agg #[.int .i64 a, .bool (c == 6)]) rfl (by simp only [pEo 20 33, pEo 21 33, pEo 22 33, pEo 23 33, pEo 24 33, pEo 25 33, pEo 26 33, pEo 27 33, pEo 28 33, pEo 29 33, pEo 30 33, pEo 31 33, pEo 32 33]; rw [dn13]; exact putIf_eval_same (by simp [putIf_size])) (by simp [go_sem]) ⟨xu, w'.heap.size, vu, vs, a, c, (by show Act.put _ (some 34) _ = _; simp only [pPu 20 34, pPu 21 34, pPu 22 34, pPu 23 34, pPu 24 34, pPu 25 34, pPu 26 34, pPu 27 34, pPu 28 34, pPu 29 34, pPu 30 34, pPu 31 34, pPu 32 34, pPu 33 34, hz, putIf_here2, done_same hl, dq0, dOt 14 1, dq2, dq3, dq4, dOt 14 5, dOt 14 6, dOt 14 7, dOt 14 8, dq9, dOt 14 10, dq11, dq12, dq13, dq15, dq16, dq17]), (by (try simp only [dq3, dq15]) <;> first | exact hT.alloc _ | exact fun _ => trivial), (by (try simp only [dq2, dq3, dq15]) <;> first | exact fun h => (h2 h).alloc _ | exact fun _ => trivial), (by (try simp only [dq3, done_same hl, dq15]) <;> first | exact fun _ => hT.pd _ _ | exact fun _ => trivial), (by (try simp only [dq9]) <;> first | exact hA | exact fun _ => trivial), (by (try simp only [dq11, dq12]) <;> first | exact h12 | exact fun _ => trivial), (by (try simp only [dq9, dq13]) <;> first | exact h13a | exact fun _ => trivial), (by (try simp only [dq11, dq13]) <;> first | exact h13b | exact fun _ => trivial), (by (try simp only [dq12, dq13]) <;> first | exact h13c | exact fun _ => trivial), (by (try simp only [dq13, done_same hl]) <;> first | exact fun _ => dn13 | exact fun _ => trivial), (by (try simp only [dq13, dq15]) <;> first | exact h15c | exact fun _ => trivial), (by (try simp only [dq0, dq16]) <;> first | exact h16 | exact fun _ => trivial), (by (try simp only [dq3, dq16]) <;> first | exact h16b | exact fun _ => trivial), (by (try simp only [dq4, dq17]) <;> first | exact h17 | exact fun _ => trivial), (by (try simp only [dq15, dq17]) <;> first | exact h17b | exact fun _ => trivial)⟩
        · skip
          have dq0 := dOt 15 0 (l := l)
          have dq2 := dOt 15 2 (l := l)
          have dq3 := dOt 15 3 (l := l)
          have dq4 := dOt 15 4 (l := l)
          have dq9 := dOt 15 9 (l := l)
          have dq11 := dOt 15 11 (l := l)
          have dq12 := dOt 15 12 (l := l)
          have dq13 := dOt 15 13 (l := l)
          have dq14 := dOt 15 14 (l := l)
          have dq16 := dOt 15 16 (l := l)
          have dq17 := dOt 15 17 (l := l)
          have dn4 : done l 4 = true := by simp [Region.binds] at haf; simp [done, haf]
          have dn14 : done l 14 = true := by simp [Region.binds] at haf; simp [done, haf]
          have hd17 : done l 17 = false := by
            cases hc : done l 17
            · rfl
            · have := h17b hc; rw [hz] at this; cases this
          have e17 : ∀ (v : Value) (a : Act), putIf (done l 17) 7 v a = a := fun v a => by rw [hd17]; rfl
          simp only [hz, sel_f] at hT h2 h8
          have hP := h8 dn14
          have dn13 := h14c dn14
          refine opJ_append rfl rfl (.tmp 24) (.tmp 34) 33 rfl w.heap.size _ _ slGsm u7 us.length (gsCells ss) (by simp only [pEo 20 24, pEo 21 24, pEo 22 24, pEo 23 24]; rw [dn4]; exact putIf_eval_same (by simp [putIf_size])) hT.r2 xs _ 1 #[.int .i64 a, .bool (c == 6)] (by simp only [pEo 20 34, pEo 21 34, pEo 22 34, pEo 23 34, pEo 24 34, pEo 25 34, pEo 26 34, pEo 27 34, pEo 28 34, pEo 29 34, pEo 30 34, pEo 31 34, pEo 32 34, pEo 33 34]; rw [dn14]; exact putIf_eval_same (by simp [putIf_size])) ⟨by omega, by omega⟩ rfl hP.blk (by simp [Value.oneCell']) (by omega) hT.zw ?_
          intro v' w'' hr' hg' hor'
          exact ⟨xu, xs, vu, v', a, c, (by show Act.put _ (some 35) _ = _; simp only [e17, pPu 20 35, pPu 21 35, pPu 22 35, pPu 23 35, pPu 24 35, pPu 25 35, pPu 26 35, pPu 27 35, pPu 28 35, pPu 29 35, pPu 30 35, pPu 31 35, pPu 32 35, pPu 33 35, pPu 34 35, hz, putIf_here2, done_same hl, dq0, dOt 15 1, dq2, dq3, dq4, dOt 15 5, dOt 15 6, dOt 15 7, dOt 15 8, dq9, dOt 15 10, dq11, dq12, dq13, dq14, dq16, dq17]), (by (try simp only [sel_t, dq3, done_same hl]) <;> first | exact hT.push2 hr' hg' hor' | exact fun _ => trivial), (by (try simp only [sel_t, dq2, dq3, done_same hl]) <;> first | exact fun h => (h2 h).push2 hg' hor' | exact fun _ => trivial), (by (try simp only [sel_t, dq3, dq14, done_same hl]) <;> first | exact fun h => (h8 h).push2 hg' hor' | exact fun _ => trivial), (by (try simp only [dq9]) <;> first | exact hA | exact fun _ => trivial), (by (try simp only [dq11, dq12]) <;> first | exact h12 | exact fun _ => trivial), (by (try simp only [dq9, dq13]) <;> first | exact h13a | exact fun _ => trivial), (by (try simp only [dq11, dq13]) <;> first | exact h13b | exact fun _ => trivial), (by (try simp only [dq12, dq13]) <;> first | exact h13c | exact fun _ => trivial), (by (try simp only [dq13, dq14]) <;> first | exact h14c | exact fun _ => trivial), (by (try simp only [dq13, done_same hl]) <;> first | exact fun _ => dn13 | exact fun _ => trivial), (by (try simp only [dq0, dq16]) <;> first | exact h16 | exact fun _ => trivial), (by (try simp only [dq3, dq16]) <;> first | exact h16b | exact fun _ => trivial), (by (try simp only [hd17, dq4, dq17]) <;> first | exact fun h => (by cases h) | exact fun _ => trivial), (by (try simp only [hd17, done_same hl, dq17]) <;> first | exact h17b | exact fun _ => trivial)⟩
        · skip
          have dq0 := dOt 16 0 (l := l)
          have dq2 := dOt 16 2 (l := l)
          have dq3 := dOt 16 3 (l := l)
          have dq4 := dOt 16 4 (l := l)
          have dq9 := dOt 16 9 (l := l)
          have dq11 := dOt 16 11 (l := l)
          have dq12 := dOt 16 12 (l := l)
          have dq13 := dOt 16 13 (l := l)
          have dq14 := dOt 16 14 (l := l)
          have dq15 := dOt 16 15 (l := l)
          have dq17 := dOt 16 17 (l := l)
          have dn0 : done l 0 = true := by simp [Region.binds] at haf; simp [done, haf]
          have dn3 : done l 3 = true := by simp [Region.binds] at haf; simp [done, haf]
          exact opJ_assign (v := vu) rfl rfl (.tmp 23) rfl (by simp only [pEo 20 23, pEo 21 23, pEo 22 23]; rw [dn3]; exact putIf_eval_same (by simp [putIf_size])) ⟨xu, xs, vu, vs, a, c, (by show Act.put _ (some 6) _ = _; simp only [pPu 20 6, pPu 21 6, pPu 22 6, pPu 23 6, pPu 24 6, pPu 25 6, pPu 26 6, pPu 27 6, pPu 28 6, pPu 29 6, pPu 30 6, pPu 31 6, pPu 32 6, pPu 33 6, pPu 34 6, pPu 35 6, hz, putIf_here2, done_same hl, dq0, dOt 16 1, dq2, dq3, dq4, dOt 16 5, dOt 16 6, dOt 16 7, dOt 16 8, dq9, dOt 16 10, dq11, dq12, dq13, dq14, dq15, dq17]), (by (try simp only [dq3, dq15]) <;> first | exact hT | exact fun _ => trivial), (by (try simp only [dq2, dq3, dq15]) <;> first | exact h2 | exact fun _ => trivial), (by (try simp only [dq3, dq14, dq15]) <;> first | exact h8 | exact fun _ => trivial), (by (try simp only [dq9]) <;> first | exact hA | exact fun _ => trivial), (by (try simp only [dq11, dq12]) <;> first | exact h12 | exact fun _ => trivial), (by (try simp only [dq9, dq13]) <;> first | exact h13a | exact fun _ => trivial), (by (try simp only [dq11, dq13]) <;> first | exact h13b | exact fun _ => trivial), (by (try simp only [dq12, dq13]) <;> first | exact h13c | exact fun _ => trivial), (by (try simp only [dq13, dq14]) <;> first | exact h14c | exact fun _ => trivial), (by (try simp only [dq13, dq15]) <;> first | exact h15c | exact fun _ => trivial), (by (try simp only [dq0, done_same hl]) <;> first | exact fun _ => dn0 | exact fun _ => trivial), (by (try simp only [dq3, done_same hl]) <;> first | exact fun _ => dn3 | exact fun _ => trivial), (by (try simp only [dq4, dq17]) <;> first | exact h17 | exact fun _ => trivial), (by (try simp only [dq15, dq17]) <;> first | exact h17b | exact fun _ => trivial)⟩
        · skip
          have dq0 := dOt 17 0 (l := l)
          have dq2 := dOt 17 2 (l := l)
          have dq3 := dOt 17 3 (l := l)
          have dq4 := dOt 17 4 (l := l)
          have dq9 := dOt 17 9 (l := l)
          have dq11 := dOt 17 11 (l := l)
          have dq12 := dOt 17 12 (l := l)
          have dq13 := dOt 17 13 (l := l)
          have dq14 := dOt 17 14 (l := l)
          have dq15 := dOt 17 15 (l := l)
          have dq16 := dOt 17 16 (l := l)
          have dn4 : done l 4 = true := by simp [Region.binds] at haf; simp [done, haf]
          have dn15 : done l 15 = true := by simp [Region.binds] at haf; simp [done, haf]
          exact opJ_assign (v := vs) rfl rfl (.tmp 35) rfl (by simp only [pEo 20 35, pEo 21 35, pEo 22 35, pEo 23 35, pEo 24 35, pEo 25 35, pEo 26 35, pEo 27 35, pEo 28 35, pEo 29 35, pEo 30 35, pEo 31 35, pEo 32 35, pEo 33 35, pEo 34 35]; rw [dn15]; exact putIf_eval_same (by simp [putIf_size])) ⟨xu, xs, vu, vs, a, c, (by show Act.put _ (some 7) _ = _; simp only [pPu 20 7, pPu 21 7, pPu 22 7, pPu 23 7, pPu 24 7, pPu 25 7, pPu 26 7, pPu 27 7, pPu 28 7, pPu 29 7, pPu 30 7, pPu 31 7, pPu 32 7, pPu 33 7, pPu 34 7, pPu 35 7, pPu 6 7, hz, putIf_here2, done_same hl, dq0, dOt 17 1, dq2, dq3, dq4, dOt 17 5, dOt 17 6, dOt 17 7, dOt 17 8, dq9, dOt 17 10, dq11, dq12, dq13, dq14, dq15, dq16]), (by (try simp only [dq3, dq15]) <;> first | exact hT | exact fun _ => trivial), (by (try simp only [dq2, dq3, dq15]) <;> first | exact h2 | exact fun _ => trivial), (by (try simp only [dq3, dq14, dq15]) <;> first | exact h8 | exact fun _ => trivial), (by (try simp only [dq9]) <;> first | exact hA | exact fun _ => trivial), (by (try simp only [dq11, dq12]) <;> first | exact h12 | exact fun _ => trivial), (by (try simp only [dq9, dq13]) <;> first | exact h13a | exact fun _ => trivial), (by (try simp only [dq11, dq13]) <;> first | exact h13b | exact fun _ => trivial), (by (try simp only [dq12, dq13]) <;> first | exact h13c | exact fun _ => trivial), (by (try simp only [dq13, dq14]) <;> first | exact h14c | exact fun _ => trivial), (by (try simp only [dq13, dq15]) <;> first | exact h15c | exact fun _ => trivial), (by (try simp only [dq0, dq16]) <;> first | exact h16 | exact fun _ => trivial), (by (try simp only [dq3, dq16]) <;> first | exact h16b | exact fun _ => trivial), (by (try simp only [dq4, done_same hl]) <;> first | exact fun _ => dn4 | exact fun _ => trivial), (by (try simp only [dq15, done_same hl]) <;> first | exact fun _ => dn15 | exact fun _ => trivial)⟩
      · intro l a' w' hJ hall
        obtain ⟨xu, xs, vu, vs, a, c, rfl, hT, h2, h8, hA, h12, h13a, h13b, h13c, h14c, h15c, h16, h16b, h17, h17b⟩ := hJ
        have hd : ∀ i, i < 18 → done l i = true := hall
        simp only [hd 3 (by decide), hd 15 (by decide), sel_t] at hT
        have hs7 := hA (hd 9 (by decide))
        obtain ⟨s, hs⟩ : ∃ s : Gs, s = ⟨a, c == 6⟩ := ⟨_, rfl⟩
        have HSE := hide hs
        clear hs
        simp only [hd 0 (by decide), hd 1 (by decide), hd 2 (by decide), hd 3 (by decide), hd 4 (by decide), hd 5 (by decide), hd 6 (by decide), hd 7 (by decide), hd 8 (by decide), hd 9 (by decide), hd 10 (by decide), hd 11 (by decide), hd 12 (by decide), hd 13 (by decide), hd 14 (by decide), hd 15 (by decide), hd 16 (by decide), hd 17 (by decide), putIf, if_true, Act.put]
        clear hd hall h2 h8 hA h12 h13a h13b h13c h14c h15c h16 h16b h17 h17b
        have hsg : 0 ≤ s.op ∧ s.op ≤ u.mo := by rw [HSE.out]; exact hs7
        have hT7 := hT
        have HT7 := hide hT7
        have HSG2 := hide hsg
        clear hT hs7 hT7 hsg
        go_wp2
        go_roundw
        case rel =>
          have hl2 : (us ++ [u]).length = us.length + 1 := by simp
          refine ⟨m - 1, us ++ [u], ss ++ [s], S5, by go_num, by omega, hide ⟨by simp [hG.out.1], fun x hx => ?_, hG.out.2.2.snoc hG.out.1 HSG2.out⟩, ?_, ?_, hide ⟨HT7.out.ne, fun i hi => ⟨HSG.out i hi, (HT7.out.s1 i hi).2.1, (HT7.out.s1 i hi).2.2⟩⟩, hide (HT7.out.he.imp fun W h x hx => ?_), HT7.out.dk, HT7.out.gr⟩
          · rcases List.mem_append.1 hx with h | h
            · exact hG.out.2.1 x h
            · rw [List.mem_singleton] at h; subst h; exact hug
          · rw [hl2]; exact own_cells HT7.out.r1 (by rw [gtCells, gtCells, cellsOf_append, cellsOf_one]; rfl)
          · rw [hl2]; exact own_cells HT7.out.r2 (by rw [HSE.out, gsCells, gsCells, cellsOf_append, cellsOf_one]; rfl)
          · rcases List.mem_append.1 hx with h1 | h1
            · exact h.1 x h1
            · rw [List.mem_singleton] at h1; subst h1; exact h.2
        case measure => simp [intOf]; omega
      · kernel_rfl
      -- R>
end Go.Proofs.YtodamjjlnagpjaaGreatDoor
