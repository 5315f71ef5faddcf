/-
  Two conditions that meet exclude one another at some release before exactly if they may, and at each one if they always do: the walk of ConflictMeans. Condition: its list can be read.
-/
import Derived.Test.YtjbddicgegkkjaaProg
import Derived.Test.YtjbddicgegkkjaaConK
import Derived.Test.YtjbddicgegkkjaaRbnd
import Derived.Test.YtjbddicgegkkjaaRmet
namespace Go.Proofs.Ytjbddicgegkkjaa
open Go.RowKit
def metX (a b : Cd) (x : Int) : Bool := metOk (bLeast a x) (bMost a x) (bLeast b x) (bMost b x)
def mayK (a b : Cd) : Bool := (lowB a.kind != lowB b.kind) && (if lowB b.kind then mayLH b a else mayLH a b)
def everK (a b : Cd) : Bool := (lowB a.kind != lowB b.kind) && (if lowB b.kind then everLH b a else everLH a b)
theorem metX_no {a b : Cd} {x : Int} : metX a b x = false ↔ bMost a x < bLeast a x ∨ bMost b x < bLeast b x ∨ min (bMost a x) (bMost b x) < max (bLeast a x) (bLeast b x) := by
  rw [Bool.eq_false_iff, Ne, metX, metOk, Bool.and_eq_true, Bool.and_eq_true, decide_eq_true_eq, decide_eq_true_eq, decide_eq_true_eq]
  omega
theorem kindF {k : Int} (h : 1 ≤ k ∧ k ≤ 4) : k = 1 ∨ k = 2 ∨ k = 3 ∨ k = 4 := by omega
theorem means_facts (a b : Cd) (ka : 1 ≤ a.kind ∧ a.kind ≤ 4) (kb : 1 ≤ b.kind ∧ b.kind ≤ 4) (va : 0 ≤ a.value ∧ a.value ≤ 29) (vb : 0 ≤ b.value ∧ b.value ≤ 29) :
    (∀ x, 0 ≤ x → x ≤ 1073741824 → metX a b x = false → mayK a b = true) ∧ (∀ x, 0 ≤ x → x ≤ 1073741824 → everK a b = true → metX a b x = false) ∧
    (mayK a b = true → metX a b 0 = false ∨ metX a b 1073741824 = false) ∧ mayK b a = mayK a b ∧ everK b a = everK a b := by
  obtain ⟨r, k, v, f, t, x, y⟩ := a
  obtain ⟨r', k', v', f', t', x', y'⟩ := b
  simp only at ka kb va vb
  simp only [metX_no]
  obtain rfl | rfl | rfl | rfl := kindF ka <;> obtain rfl | rfl | rfl | rfl := kindF kb
  all_goals
    simp [mayK, everK, lowB, mayLH, everLH, bLeast, bMost]
    try ((repeat' apply And.intro) <;> intros <;> omega)

theorem meet_back {a b : Cd} (ha : a.good) : meetB (b.at_ a) a = true := by
  obtain ⟨_, _, _, h4, h5, h6⟩ := ha
  simp only [meetB, Cd.at_, Bool.and_eq_true]
  exact ⟨decide_eq_true (by omega), decide_eq_true (span_some h4 h5)⟩
/-- What the loop is told: m: whether they may, e: whether they always do. -/
structure Means (a b : Cd) (m e : Bool) : Prop where
  no : ∀ x, 0 ≤ x → x ≤ 1073741824 → metX a b x = false → m = true
  ever : ∀ x, 0 ≤ x → x ≤ 1073741824 → e = true → metX a b x = false
  ends : m = true → metX a b 0 = false ∨ metX a b 1073741824 = false
theorem means_of {a b : Cd} (ha : a.good) (hb : b.good) : Means a (b.at_ a) (pM a (b.at_ a)) (pE a (b.at_ a)) ∧ pM (b.at_ a) a = pM a (b.at_ a) ∧ pE (b.at_ a) a = pE a (b.at_ a) := by
  have e1 : pM a (b.at_ a) = mayK a (b.at_ a) := by simp [pM, good_err ha, at_err ha hb, mayB, at_meet ha, mayK]
  have e2 : pE a (b.at_ a) = everK a (b.at_ a) := by simp [pE, good_err ha, at_err ha hb, everB, at_meet ha, everK]
  have e3 : pM (b.at_ a) a = mayK (b.at_ a) a := by simp [pM, good_err ha, at_err ha hb, mayB, meet_back ha, mayK]
  have e4 : pE (b.at_ a) a = everK (b.at_ a) a := by simp [pE, good_err ha, at_err ha hb, everB, meet_back ha, everK]
  rw [e1, e2, e3, e4]
  obtain ⟨f1, f2, f3, f4, f5⟩ := means_facts a (b.at_ a) ha.2.1 hb.2.1 ha.2.2.1 hb.2.2.1
  exact ⟨⟨f1, f2, f3⟩, f4, f5⟩
theorem cell4 {w : World} {g : Nat} {t : TypeId} {x y z u : Int} (h : Blk w g t #[.int .i64 x, .int .i64 y, .int .i64 z, .int .i64 u]) {k : Nat} (hk : k < 4) : ∃ v : Int, w.cell? ⟨g, k, none⟩ = some (.int .i64 v) ∧ (v = x ∧ k = 0 ∨ v = y ∧ k = 1 ∨ v = z ∧ k = 2 ∨ v = u ∧ k = 3) := by
  have hf := (h.facts).1 k
  obtain rfl | rfl | rfl | rfl : k = 0 ∨ k = 1 ∨ k = 2 ∨ k = 3 := by omega
  all_goals exact ⟨_, hf, by simp⟩
theorem met_some (a0 a1 b0 b1 : Int) : ∃ p q : Int, metVal a0 a1 b0 b1 = .tuple #[.agg #[.int .i64 p, .int .i64 q], .bool (metOk a0 a1 b0 b1)] := by
  cases h : metOk a0 a1 b0 b1
  · exact ⟨0, 0, by simp [metVal, h]⟩
  · exact ⟨_, _, by simp [metVal, h]; exact ⟨rfl, rfl⟩⟩
/-- The loop's state: f: whether a release at which they exclude one another has been found. -/
def MInv (a b : Cd) (m : Bool) (k : Nat) (f : Bool) : Prop := (f = true → m = true) ∧ (1 ≤ k → metX a b 0 = false → f = true) ∧ (2 ≤ k → metX a b 1073741824 = false → f = true)
theorem minv_step {a b : Cd} {m e f : Bool} {k : Nat} {v y z : Int} (hM : Means a b m e) (h : MInv a b m k f) (hv : v = 0 ∧ k = 0 ∨ v = 1073741824 ∧ k = 1 ∨ v = y ∧ k = 2 ∨ v = z ∧ k = 3) (hy : 0 ≤ y ∧ y ≤ 1073741824) (hz : 0 ≤ z ∧ z ≤ 1073741824) : MInv a b m (k + 1) (f || !metX a b v) ∧ (metX a b v = false → m = true) ∧ (metX a b v = true → e = false) := by
  have hv2 : 0 ≤ v ∧ v ≤ 1073741824 := by omega
  have h1 := hM.no v hv2.1 hv2.2
  refine ⟨⟨?_, ?_, ?_⟩, h1, ?_⟩
  · intro hf
    rcases Bool.or_eq_true _ _ ▸ hf with hf | hf
    · exact h.1 hf
    · exact h1 (by simpa using hf)
  · intro _ h0
    rcases hv with ⟨rfl, rfl⟩ | ⟨rfl, rfl⟩ | ⟨rfl, rfl⟩ | ⟨rfl, rfl⟩
    · simp [h0]
    all_goals simp [h.2.1 (by omega) h0]
  · intro hk h0
    rcases hv with ⟨rfl, rfl⟩ | ⟨rfl, rfl⟩ | ⟨rfl, rfl⟩ | ⟨rfl, rfl⟩
    · omega
    · simp [h0]
    all_goals simp [h.2.2 (by omega) h0]
  · intro ht
    cases he : e
    · rfl
    · have := hM.ever v hv2.1 hv2.2 he
      rw [ht] at this; cases this
theorem minv_end {a b : Cd} {m e f : Bool} (hM : Means a b m e) (h : MInv a b m 4 f) : f = m := by
  cases hm : m
  · cases hf : f
    · rfl
    · have := h.1 hf; rw [hm] at this; cases this
  · rcases hM.ends hm with h0 | h0
    · exact h.2.1 (by omega) h0
    · exact h.2.2 (by omega) h0
theorem met_is (c d : Cd) (u : Int) : ∃ p q : Int, metVal (bLeast c u) (bMost c u) (bLeast d u) (bMost d u) = .tuple #[.agg #[.int .i64 p, .int .i64 q], .bool (metX c d u)] := met_some _ _ _ _
theorem rb_some {c : Cd} {x : Int} (hc : c.err = 0) (h0 : 0 ≤ x) (h1 : x ≤ 1073741824) (w : World) : Calls Try.prog 12 #[.agg c.arr, .int .i64 x] w fun e w' => e = .returned (.tuple #[.agg #[.int .i64 (bLeast c x), .int .i64 (bMost c x)], .bool true]) ∧ Below w.heap.size w w' := by
  refine (rbounds_any c x w).mono ?_
  rintro e w' ⟨rfl, hb⟩
  exact ⟨by rw [bnd_yes (show bOk c x = true by simp [bOk, hc, wit_of h0 h1])], hb⟩
set_option maxHeartbeats 6400000 in
set_option maxRecDepth 20000 in
theorem means_walk {A : Option Addr} {n c : Nat} {zs : List Int} {w : World} (hs : Sl w w.heap.size 1 A n c (ints zs)) (bf : Int) : Calls Try.prog 3 #[.slice A n c, .int .i64 bf] w fun e w' => e = .returned (.bool true) ∧ Below w.heap.size w w' := by
  go_enter Try.func3, Try.ntmps3
  go_wp2_with fail
  refine (new_any _ _ _ _ _ hs).mono ?_
  rintro e w1 ⟨rfl, hD1, hb1⟩
  clear hs
  go_wp2_with fail
  refine (cond_any _ _ hD1).mono ?_
  rintro e w2 ⟨a, rfl, ha, hD2, hg2⟩
  go_wp2_with fail
  refine (cond_any _ _ hD2).mono ?_
  rintro e w3 ⟨b, rfl, hb, hD3, hg3⟩
  have hB : Below w.heap.size w w3 := below_grown hb1 (grown_trans hg2 hg3) hb1.size (Nat.le_refl _)
  have hz := hB.size
  clear hD1 hD2 hD3 hg2 hg3 hb1
  obtain ⟨hmm, hs1, hs2⟩ := means_of ha hb
  have HMM := hide hmm
  have HS1 := hide hs1
  have HS2 := hide hs2
  have HPM := hide (fun h => pE_pM (a := a) (b := b.at_ a) h)
  have HC := hide (fun W => Pair_any a (b.at_ a) W)
  have HD := hide (fun W => Pair_any (b.at_ a) a W)
  have HU := hide (fun n h0 h1 W => rb_some (x := n) (good_err ha) h0 h1 W)
  have HV := hide (fun n h0 h1 W => rb_some (x := n) (at_err ha hb) h0 h1 W)
  generalize hm : pM a (b.at_ a) = m at *
  generalize he : pE a (b.at_ a) = e at *
  clear ha hb hmm hs1 hs2 hm he
  obtain ⟨r, k, v, f, t, x, y⟩ := a
  obtain ⟨r', k', v', f', t', x', y'⟩ := b
  have q1 := (Blk.new w3 28 (Cd.arr ⟨r, k, v, f, t, x, y⟩)).alloc (.cells (Cd.arr ⟨r', k', v', f', t', x', y'⟩) 28)
  have q2 := Blk.new (w3.alloc (.cells (Cd.arr ⟨r, k, v, f, t, x, y⟩) 28)) 28 (Cd.arr ⟨r', k', v', f', t', x', y'⟩)
  have hB2 := (hB.alloc hz (.cells (Cd.arr ⟨r, k, v, f, t, x, y⟩) 28)).alloc (by simp only [World.size_alloc]; omega) (.cells (Cd.arr ⟨r', k', v', f', t', x', y'⟩) 28)
  rw [World.size_alloc] at q2
  unfold Cd.at_ at HC HD HV
  unfold Cd.arr at HC HD HU HV
  (try unfold Cd.at_ at HMM); (try unfold Cd.at_ at HS1); (try unfold Cd.at_ at HS2)
  unfold Cd.arr at q1 q2 hB2
  unfold Cd.arr
  go_wp2_with fail
  generalize ((w3.alloc _).alloc _) = w4 at *
  obtain ⟨⟨a0, a1, a2, a3, a4, a5, a6⟩, _⟩ := Blk.facts7 q1
  obtain ⟨⟨b0, b1, b2, b3, b4, b5, b6⟩, _⟩ := Blk.facts7 q2
  go_region_held3 (fun w' => w'.cell? ⟨w3.heap.size, 3, none⟩ = some (.int .i64 f) ∧ w'.cell? ⟨w3.heap.size, 4, none⟩ = some (.int .i64 t) ∧ w'.cell? ⟨w3.heap.size, 5, none⟩ = some (.int .i64 x) ∧ w'.cell? ⟨w3.heap.size, 6, none⟩ = some (.int .i64 y)) (go_keep) (fail)
  have q3 : Blk _ _ _ _ := ((((q2.set_ 3 (.int .i64 f)).set_ 4 (.int .i64 t)).set_ 5 (.int .i64 x)).set_ 6 (.int .i64 y)).drew
  have q4 : Blk _ _ _ _ := ((((q1.far (p := ⟨w3.heap.size + 1, 3, none⟩) (by simp) (.int .i64 f)).far (p := ⟨w3.heap.size + 1, 4, none⟩) (by simp) (.int .i64 t)).far (p := ⟨w3.heap.size + 1, 5, none⟩) (by simp) (.int .i64 x)).far (p := ⟨w3.heap.size + 1, 6, none⟩) (by simp) (.int .i64 y)).drew
  have hB5 : Below w.heap.size w ((((w4.setCell ⟨w3.heap.size + 1, 3, none⟩ (.int .i64 f)).setCell ⟨w3.heap.size + 1, 4, none⟩ (.int .i64 t)).setCell ⟨w3.heap.size + 1, 5, none⟩ (.int .i64 x)).setCell ⟨w3.heap.size + 1, 6, none⟩ (.int .i64 y)).drew :=
    (((((hB2.setCell (p := ⟨w3.heap.size + 1, 3, none⟩) (by show _ ≤ _; simp; omega) _).setCell (p := ⟨w3.heap.size + 1, 4, none⟩) (by show _ ≤ _; simp; omega) _).setCell (p := ⟨w3.heap.size + 1, 5, none⟩) (by show _ ≤ _; simp; omega) _).setCell (p := ⟨w3.heap.size + 1, 6, none⟩) (by show _ ≤ _; simp; omega) _)).drew
  replace q3 : Blk _ _ _ #[.int .i64 r', .int .i64 k', .int .i64 v', .int .i64 f, .int .i64 t, .int .i64 x, .int .i64 y] := q3
  clear q1 q2 hB2 a0 a1 a2 a3 a4 a5 a6 b0 b1 b2 b3 b4 b5 b6
  generalize ((((w4.setCell _ _).setCell _ _).setCell _ _).setCell _ _).drew = w5 at *
  obtain ⟨⟨a0, a1, a2, a3, a4, a5, a6⟩, _⟩ := Blk.facts7 q4
  obtain ⟨⟨b0, b1, b2, b3, b4, b5, b6⟩, _⟩ := Blk.facts7 q3
  go_wp2_with fail
  with_reducible refine (HC.out _).mono ?_
  rintro e w6 ⟨rfl, hb6⟩
  have hB6 := bthr hB5 hb6 hB5.size
  replace q3 := q3.below hb6 q3.lt
  replace q4 := q4.below hb6 q4.lt
  clear hB5 hb6 a0 a1 a2 a3 a4 a5 a6 b0 b1 b2 b3 b4 b5 b6
  obtain ⟨⟨a0, a1, a2, a3, a4, a5, a6⟩, _⟩ := Blk.facts7 q4
  obtain ⟨⟨b0, b1, b2, b3, b4, b5, b6⟩, _⟩ := Blk.facts7 q3
  go_wp2_with fail
  with_reducible refine (HD.out _).mono ?_
  rintro e' w7 ⟨rfl, hb7⟩
  rw [HS1.out, HS2.out]
  have hB7 := bthr hB6 hb7 hB6.size
  replace q3 := q3.below hb7 q3.lt
  replace q4 := q4.below hb7 q4.lt
  clear hB6 hb7 a0 a1 a2 a3 a4 a5 a6 b0 b1 b2 b3 b4 b5 b6
  obtain ⟨J, hJ⟩ : ∃ J : Nat → Bool → Prop, J = MInv ⟨r, k, v, f, t, x, y⟩ ⟨r', k', v', f, t, x, y⟩ m := ⟨_, rfl⟩
  have HJ0 := hide (show J 0 false by rw [hJ]; exact ⟨(fun h => by cases h), (fun h => by omega), (fun h => by omega)⟩)
  have HJ := hide (fun (fb : Bool) (j : Nat) (u y1 y2 : Int) (h : J j fb) hv hy hz => show J (j + 1) (fb || !metX ⟨r, k, v, f, t, x, y⟩ ⟨r', k', v', f, t, x, y⟩ u) ∧ (metX ⟨r, k, v, f, t, x, y⟩ ⟨r', k', v', f, t, x, y⟩ u = false → m = true) ∧ (metX ⟨r, k, v, f, t, x, y⟩ ⟨r', k', v', f, t, x, y⟩ u = true → e = false) by
    rw [hJ] at h ⊢; exact minv_step (y := y1) (z := y2) HMM.out h hv hy hz)
  have HJ4 := hide (fun (fb : Bool) (h : J 4 fb) => show fb = m by rw [hJ] at h; exact minv_end HMM.out h)
  clear hJ HMM
  have HM0 := hide (fun (h : e = true) (h2 : m = false) => show False by have := HPM.out h; rw [h2] at this; cases this)
  clear HC HD HS1 HS2 HPM
  cases m <;> cases e
  all_goals first | (exact (HM0.out rfl rfl).elim) | skip
  all_goals
    go_wp2_with (go_at_call 11; refine (mod_any _ _ (by omega) (by omega) _).mono ?_; rintro e w1 ⟨rfl, rfl⟩)
    obtain ⟨y1, hy1⟩ : ∃ y1, y1 = bf % 60 := ⟨_, rfl⟩
    obtain ⟨y2, hy2⟩ : ∃ y2, y2 = bf % 1073741825 := ⟨_, rfl⟩
    have hz1 : 0 ≤ y1 ∧ y1 ≤ 1073741824 := by omega
    have hz2 : 0 ≤ y2 ∧ y2 ≤ 1073741824 := by omega
    rw [← hy1, ← hy2]
    have q5 := Blk.new w7 3 #[.int .i64 0, .int .i64 1073741824, .int .i64 y1, .int .i64 y2]
    have q6 := q3.alloc (.cells #[.int .i64 0, .int .i64 1073741824, .int .i64 y1, .int .i64 y2] 3)
    have q7 := q4.alloc (.cells #[.int .i64 0, .int .i64 1073741824, .int .i64 y1, .int .i64 y2] 3)
    have hB8 := hB7.alloc hB7.size (.cells #[.int .i64 0, .int .i64 1073741824, .int .i64 y1, .int .i64 y2] 3)
    clear hy1 hy2 q3 q4 hB7
    generalize w7.alloc _ = w8 at *
    go_loopw [12, 69] (fun fnd i wr => ∃ (k : Nat) (fb : Bool), k ≤ 4 ∧ i = .int .i64 k ∧ fnd = .bool fb ∧ J k fb ∧ Below w8.heap.size w8 wr) (fun _ i _ => 4 - (intOf i).toNat)
    case atStart => exact ⟨0, false, by omega, rfl, rfl, HJ0.out, Below.refl _ _⟩
    case round =>
      obtain ⟨kk, fb, hk, rfl, rfl, hj, hbr⟩ := hrel
      by_cases hlt : kk < 4
      · obtain ⟨u, hu, huc⟩ := cell4 (q5.below hbr q5.lt) hlt
        have hu2 : 0 ≤ u ∧ u ≤ 1073741824 := by omega
        obtain ⟨j1, j2, j3⟩ := HJ.out fb kk u y1 y2 hj huc hz1 hz2
        have p3 := q6.below hbr q6.lt
        have p4 := q7.below hbr q7.lt
        have hB9 := bthr hB8 hbr hB8.size
        obtain ⟨a0', b0', hmet⟩ := met_is ⟨r, k, v, f, t, x, y⟩ ⟨r', k', v', f, t, x, y⟩ u
        have HU1 := hide (fun W => HU.out u hu2.1 hu2.2 W)
        have HV1 := hide (fun W => HV.out u hu2.1 hu2.2 W)
        have HJ1 := hide j1
        have HMT := hide hmet
        clear hj huc hu2 hz1 hz2 hmet j1
        generalize bLeast ⟨r, k, v, f, t, x, y⟩ u = l1 at *
        generalize bMost ⟨r, k, v, f, t, x, y⟩ u = m1 at *
        generalize bLeast ⟨r', k', v', f, t, x, y⟩ u = l2 at *
        generalize bMost ⟨r', k', v', f, t, x, y⟩ u = m2 at *
        generalize metX ⟨r, k, v, f, t, x, y⟩ ⟨r', k', v', f, t, x, y⟩ u = ok at *
        have hkc : (kk : Int) < 4 := by omega
        have hku : wr.cell? ⟨w7.heap.size, kk, none⟩ = some (.int .i64 u) := hu
        obtain ⟨⟨a0, a1, a2, a3, a4, a5, a6⟩, _⟩ := Blk.facts7 p4
        go_wp2_with fail
        with_reducible refine (HU1.out _).mono ?_
        rintro e w9 ⟨rfl, hb9⟩
        have hB10 := (bthr hB9 hb9 hB9.size).alloc (bthr hB9 hb9 hB9.size).size (.cells #[.int .i64 l1, .int .i64 m1] 34)
        have hL10 := (bthr hbr hb9 hbr.size).alloc (bthr hbr hb9 hbr.size).size (.cells #[.int .i64 l1, .int .i64 m1] 34)
        have p5 := (p3.below hb9 p3.lt).alloc (.cells #[.int .i64 l1, .int .i64 m1] 34)
        have p6 := Blk.new w9 34 #[.int .i64 l1, .int .i64 m1]
        clear a0 a1 a2 a3 a4 a5 a6 hb9 hku hu p3 p4
        obtain ⟨⟨b0, b1, b2, b3, b4, b5, b6⟩, _⟩ := Blk.facts7 p5
        go_wp2_with fail
        clear b0 b1 b2 b3 b4 b5 b6 p5
        generalize w9.alloc _ = w10 at *
        with_reducible refine (HV1.out _).mono ?_
        rintro e w11 ⟨rfl, hb11⟩
        have hL12 := (bthr hL10 hb11 hL10.size).alloc (bthr hL10 hb11 hL10.size).size (.cells #[.int .i64 l2, .int .i64 m2] 34)
        have hB12 := (bthr hB10 hb11 hB10.size).alloc (bthr hB10 hb11 hB10.size).size (.cells #[.int .i64 l2, .int .i64 m2] 34)
        have p7 := (p6.below hb11 p6.lt).alloc (.cells #[.int .i64 l2, .int .i64 m2] 34)
        have p8 := Blk.new w11 34 #[.int .i64 l2, .int .i64 m2]
        clear hb11 p6 hL10 hB10
        obtain ⟨c0, c1, _⟩ := p7.facts2
        obtain ⟨d0, d1, _⟩ := p8.facts2
        go_wp2_with fail
        clear c0 c1 d0 d1 p7 p8
        generalize w11.alloc _ = w12 at *
        refine (rmeet_any _ _ _ _ _).mono ?_
        rintro e w13 ⟨rfl, hb13⟩
        rw [HMT.out]
        have hL14 := (bthr hL12 hb13 hL12.size).alloc (bthr hL12 hb13 hL12.size).size (.cells #[.int .i64 a0', .int .i64 b0'] 34)
        clear hb13 hL12
        cases ok <;> cases fb
        all_goals first | (have hx := j2 rfl; cases hx; done) | (have hx := j3 rfl; cases hx; done) | skip
        all_goals
          clear j2 j3
          go_wp2
          go_roundw
          case rel => exact ⟨kk + 1, _, by omega, by go_num, rfl, HJ1.out, hL14⟩
          case measure => simp [intOf]; omega
      · obtain rfl : kk = 4 := by omega
        obtain rfl := HJ4.out fb hj
        have hB9 := bthr hB8 hbr hB8.size
        have hBs := hide hB9
        clear hB9 hbr hj q5 q6 q7
        go_wp2_with fail
        refine (awake_any _).mono ?_
        rintro e w9 ⟨rfl, hb9⟩
        go_wp2
        go_ret
        exact ⟨rfl, bth hBs.out hb9⟩
end Go.Proofs.Ytjbddicgegkkjaa
