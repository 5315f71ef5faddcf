/-
  Contracts of live, covers, step, weight (of every scenario) and Mean: the result, or the first error. Condition: the bundle can be read; covers and weight: the bundle is valid.
-/
import Derived.Test.YtmlpimidbgeacaaProg
import Derived.Test.YtmlpimidbgeacaaFsc
namespace Go.Proofs.Ytmlpimidbgeacaa
open Go.RowKit

/-- What a valid bundle is. -/
structure BdV (b : Bd) : Prop where
  fr : 0 ≤ b.fr ∧ b.fr ≤ 16777216
  n : 0 < b.n ∧ b.n ≤ 50
  m : 0 < stepsOf b.ss ∧ stepsOf b.ss ≤ 1000
  sc : ∀ s ∈ b.ss, (1 ≤ s.wt ∧ s.wt ≤ 10000) ∧ s.n = stepsOf b.ss ∧ ∀ v ∈ s.fl, 0 ≤ v ∧ v ≤ 1073741824
theorem bd_valid {b : Bd} (h : b.err = 0) (hl : b.n = b.ss.length) : BdV b := by
  unfold Bd.err at h
  cases hw : wit b.fr 16777216
  · rw [if_pos hw] at h; exact absurd h (by decide)
  · rw [if_neg (by rw [hw]; simp)] at h
    by_cases h0 : b.n = 0
    · rw [if_pos h0] at h; exact absurd h (by decide)
    · rw [if_neg h0] at h
      by_cases h5 : 50 < b.n
      · rw [if_pos h5] at h; exact absurd h (by decide)
      · rw [if_neg h5, scsErr_zero] at h
        have key : ∀ s ∈ b.ss, ((1 ≤ s.wt ∧ s.wt ≤ 10000) ∧ s.n = stepsOf b.ss ∧ ∀ v ∈ s.fl, 0 ≤ v ∧ v ≤ 1073741824) ∧ s.n ≠ 0 ∧ stepsOf b.ss ≤ 1000 := by
          intro s hs
          have h1 := h s hs
          unfold scErr at h1
          by_cases a1 : s.wt < 1 ∨ 10000 < s.wt
          · rw [if_pos a1] at h1; exact absurd h1 (by decide)
          · rw [if_neg a1] at h1
            by_cases a2 : s.n = 0 ∨ s.n ≠ stepsOf b.ss
            · rw [if_pos a2] at h1; exact absurd h1 (by decide)
            · rw [if_neg a2] at h1
              by_cases a3 : 1000 < stepsOf b.ss
              · rw [if_pos a3] at h1; exact absurd h1 (by decide)
              · rw [if_neg a3] at h1
                by_cases a4 : s.fl.any (fun v => !wit v 1073741824) = true
                · rw [if_pos a4] at h1; exact absurd h1 (by decide)
                · refine ⟨⟨by omega, by omega, fun v hv => ?_⟩, by omega, by omega⟩
                  rw [← wit_iff]
                  rcases hw2 : wit v 1073741824 with _ | _
                  · exact absurd (List.any_eq_true.2 ⟨v, hv, by rw [hw2]; rfl⟩) a4
                  · rfl
        have hne : ∃ s, s ∈ b.ss ∧ s.n = stepsOf b.ss := by
          rcases hss : b.ss with _ | ⟨s, t⟩
          · rw [hss] at hl; simp at hl; omega
          · exact ⟨s, by simp, by simp [stepsOf]⟩
        obtain ⟨s, hs, hsn⟩ := hne
        have h1 := key s hs
        exact ⟨wit_iff.1 hw, by omega, by omega, fun s hs => (key s hs).1⟩
theorem bd_steps {b : Bd} {w : World} (hb : b.ok w w.heap.size) (hv : BdV b) : ∃ s : Sc, ∃ h : 0 < b.ss.length, b.ss[0] = s ∧ s.n = stepsOf b.ss := by
  have hl := ScsOk.len hb
  have hn := hv.n.1
  have h0 : 0 < b.ss.length := by omega
  exact ⟨_, h0, rfl, (hv.sc _ (List.getElem_mem h0)).2.1⟩
def liveE (b : Bd) : Int := if b.err ≠ 0 then b.err else if b.wd then 9 else 0
set_option maxHeartbeats 1600000 in
set_option maxRecDepth 20000 in
theorem live_any (b : Bd) (w : World) (hb : b.ok w w.heap.size) :
    Calls Try.prog 33 #[.agg b.arr] w fun e w' => e = .returned (.int .i64 (liveE b)) ∧ Below w.heap.size w w' := by
  have HC := hide (fun W hW => fcheck_any b W hW)
  have HE := hide (show liveE b = if b.err ≠ 0 then b.err else if b.wd then 9 else 0 from rfl)
  generalize liveE b = le at *
  generalize hbe : b.err = be at *
  have q0 := Blk.new w 27 b.arr
  have hB := bel1 (w := w) (o := .cells b.arr 27)
  have hb1 := Bd.ok.thr hb hB
  obtain ⟨fr, A, n, c, ss, wd⟩ := b
  unfold Bd.arr at q0 hB HC hb1 ⊢
  simp only at q0 hB HC HE hb1 ⊢
  obtain ⟨c0, c1, c2, _⟩ := q0.facts3
  clear hb hbe
  go_enter Try.func33, Try.ntmps33
  go_wp2_with fail
  generalize w.alloc _ = w1 at *
  refine (HC.out w1 hb1).mono ?_
  rintro e w2 ⟨rfl, hb2⟩
  have q2 := q0.below hb2 q0.lt
  have HB2 := hide (bthr hB hb2 hB.size)
  clear hb1 c0 c1 c2 hB q0 hb2 HC
  obtain ⟨c0, c1, c2, _⟩ := q2.facts3
  by_cases hbe : be = 0
  · have hq : (be != 0) = false := by simp [hbe]
    have HE2 := hide (HE.out.trans (if_neg (by simp [hbe])))
    clear HE hbe
    cases wd
    · have HX := hide (HE2.out.trans (if_neg (by simp)))
      clear HE2
      go_wp2
      go_ret
      exact ⟨by rw [HX.out]; first | done | rfl, HB2.out⟩
    · have HX := hide (HE2.out.trans (if_pos rfl))
      clear HE2
      go_wp2
      go_ret
      exact ⟨by rw [HX.out]; first | done | rfl, HB2.out⟩
  · have hq : (be != 0) = true := by simp [hbe]
    have HX := hide (HE.out.trans (if_pos hbe))
    clear HE hbe
    go_wp2
    go_ret
    exact ⟨by rw [HX.out]; first | done | rfl, HB2.out⟩
def covB (b : Bd) (t : Int) : Bool := decide (b.fr ≤ t) && decide (t < b.fr + stepsOf b.ss)
set_option maxHeartbeats 1600000 in
set_option maxRecDepth 20000 in
theorem covers_ok (b : Bd) (t : Int) (w : World) (hb : b.ok w w.heap.size) (hv : BdV b) :
    Calls Try.prog 34 #[.agg b.arr, .int .i64 t] w fun e w' => e = .returned (.bool (covB b t)) ∧ Below w.heap.size w w' := by
  obtain ⟨s0, h0, e0, hst⟩ := bd_steps hb hv
  have HE := hide (show covB b t = (decide (b.fr ≤ t) && decide (t < b.fr + stepsOf b.ss)) from rfl)
  generalize covB b t = cb at *
  have hfr := hv.fr
  have hm := hv.m
  have hn := hv.n
  generalize stepsOf b.ss = m at *
  have q0 := Blk.new w 27 b.arr
  have hB := bel1 (w := w) (o := .cells b.arr 27)
  have hb1 := Bd.ok.thr hb hB
  obtain ⟨fr, A, n, c, ss, wd⟩ := b
  obtain ⟨wt', A', n', c', fl'⟩ := s0
  unfold Bd.arr at q0 hB hb1 ⊢
  simp only at q0 hB HE hb1 hfr hm hn h0 e0 hst ⊢
  obtain ⟨bl, ol, rfl, _, hcl⟩ := hb1.1.at_ hn.1
  obtain ⟨-, d1⟩ := sc_cells hcl h0 e0
  simp only [Nat.zero_mul, Nat.add_zero] at d1
  obtain ⟨c0, c1, c2, _⟩ := q0.facts3
  have hni : (0 : Int) < (n : Int) := by omega
  subst hst
  clear hb hv hb1 hcl q0 e0
  obtain ⟨f0, f1⟩ := hfr
  obtain ⟨m0, m1⟩ := hm
  have hmi : (n' : Int) ≤ 1000 := by omega
  go_enter Try.func34, Try.ntmps34
  go_wp2_with fail
  generalize w.alloc _ = w1 at *
  by_cases h1 : fr ≤ t
  · have g1 : decide (fr ≤ t) = true := by simp [h1]
    have HX := hide (show cb = decide (t < fr + n') by rw [HE.out, g1]; rfl)
    clear HE
    go_quiet (fail)
    go_wp2
    go_ret
    exact ⟨ret_bool HX.out.symm, below_drewN hB _⟩
  · have g1 : decide (fr ≤ t) = false := by simp; omega
    have HX := hide (show cb = false by rw [HE.out, g1]; rfl)
    clear HE
    go_quiet (fail)
    go_wp2
    go_ret
    exact ⟨ret_bool HX.out.symm, below_drewN hB _⟩
def stepE (b : Bd) (t : Int) : Int := if liveE b ≠ 0 then liveE b else if covB b t then 0 else 6
set_option maxHeartbeats 1600000 in
set_option maxRecDepth 20000 in
theorem step_any (b : Bd) (t : Int) (w : World) (hb : b.ok w w.heap.size) :
    Calls Try.prog 39 #[.agg b.arr, .int .i64 t] w fun e w' => e = .returned (.int .i64 (stepE b t)) ∧ Below w.heap.size w w' := by
  have HL := hide (fun W hW => live_any b W hW)
  have HCV := hide (fun W hW hv => covers_ok b t W hW hv)
  have HE := hide (show stepE b t = if liveE b ≠ 0 then liveE b else if covB b t then 0 else 6 from rfl)
  have HVV := hide (fun (h : liveE b = 0) => show BdV b from bd_valid (by
    unfold liveE at h
    by_cases hb : b.err = 0
    · exact hb
    · rw [if_pos hb] at h; exact h) (ScsOk.len hb))
  generalize stepE b t = se at *
  generalize liveE b = le at *
  generalize covB b t = cb at *
  have q0 := Blk.new w 27 b.arr
  have hB := bel1 (w := w) (o := .cells b.arr 27)
  have hb1 := Bd.ok.thr hb hB
  obtain ⟨fr, A, n, c, ss, wd⟩ := b
  unfold Bd.arr at q0 hB HL HCV hb1 ⊢
  simp only at q0 hB HL HCV HE hb1 ⊢
  obtain ⟨c0, c1, c2, _⟩ := q0.facts3
  clear hb
  go_enter Try.func39, Try.ntmps39
  go_wp2_with fail
  generalize w.alloc _ = w1 at *
  refine (HL.out w1 hb1).mono ?_
  rintro e w2 ⟨rfl, hb2⟩
  have q2 := q0.below hb2 q0.lt
  have hB2 := bthr hB hb2 hB.size
  have hb3 := Bd.ok.thr hb1 hb2
  clear hb1 c0 c1 c2 hB q0 hb2 HL
  obtain ⟨c0, c1, c2, _⟩ := q2.facts3
  by_cases hbe : le = 0
  · have hq : (le != 0) = false := by simp [hbe]
    have HE2 := hide (HE.out.trans (if_neg (by simp [hbe])))
    have hv := HVV.out hbe
    clear HE hbe
    go_wp2_with fail
    refine (HCV.out w2 hb3 hv).mono ?_
    rintro e w3 ⟨rfl, hb4⟩
    have HB3 := hide (bthr hB2 hb4 hB2.size)
    clear c0 c1 c2 hb3 hb4 hB2 q2 HCV
    cases cb
    · have HX := hide (HE2.out.trans (if_neg (by simp)))
      clear HE2
      go_wp2
      go_ret
      exact ⟨by rw [HX.out]; first | done | rfl, HB3.out⟩
    · have HX := hide (HE2.out.trans (if_pos rfl))
      clear HE2
      go_wp2
      go_ret
      exact ⟨by rw [HX.out]; first | done | rfl, HB3.out⟩
  · have hq : (le != 0) = true := by simp [hbe]
    have HX := hide (HE.out.trans (if_pos hbe))
    clear HE hbe
    go_wp2
    go_ret
    exact ⟨by rw [HX.out]; first | done | rfl, hB2⟩
end Go.Proofs.Ytmlpimidbgeacaa
