/-
  The contract of make.Dam: a valid dam and state, in memory of the call's own. Condition: the deck lies in memory.
-/
import Derived.Test.YtodamjjlnagpjaaGreatDoorProg
import Derived.Test.YtodamjjlnagpjaaGreatDoorTmw
import Derived.Deep.RegionLaw
namespace Go.Proofs.YtodamjjlnagpjaaGreatDoor
open Go.RowKit

theorem facts9 {w : World} {g : Nat} {t : TypeId} {a0 a1 a2 a3 a4 a5 a6 a7 a8 : Value} (h : Blk w g t #[a0, a1, a2, a3, a4, a5, a6, a7, a8]) : w.cell? ⟨g, 0, none⟩ = some a0 ∧ w.cell? ⟨g, 1, none⟩ = some a1 ∧ w.cell? ⟨g, 2, none⟩ = some a2 ∧ w.cell? ⟨g, 3, none⟩ = some a3 ∧ w.cell? ⟨g, 4, none⟩ = some a4 ∧ w.cell? ⟨g, 5, none⟩ = some a5 ∧ w.cell? ⟨g, 6, none⟩ = some a6 ∧ w.cell? ⟨g, 7, none⟩ = some a7 ∧ w.cell? ⟨g, 8, none⟩ = some a8 ∧ ∀ o, w.frozen? ⟨g, o, none⟩ = false := by
  obtain ⟨c, f⟩ := Blk.facts h
  exact ⟨c 0, c 1, c 2, c 3, c 4, c 5, c 6, c 7, c 8, f⟩
/-- A dam under way: its two boxes, the two results' cells, what has been made so far. -/
structure DB (w0 : World) (b R1 R2 T4 T5 : Nat) (c4 c5 : Array Value) (S : Nat → Prop) (φ : World → Prop) (W : World) : Prop where
  q1 : Blk W R1 31 #[.slice none 0 0, .int .i64 0, .int .i64 0, .int .i64 0, .int .i64 0, .int .i64 0, .slice none 0 0, .slice none 0 0, .int .i64 0]
  q2 : Blk W R2 35 #[.int .i64 0, .int .i64 0, .slice none 0 0, .slice none 0 0]
  t4 : Blk W T4 31 c4
  t5 : Blk W T5 35 c5
  he : Held S W φ
  sg : ∀ i, S i → w0.heap.size ≤ i ∧ i ≠ R1 ∧ i ≠ R2 ∧ i ≠ T4 ∧ i ≠ T5
  dk : Dk W b
  bn : b < w0.heap.size
  rs : w0.heap.size ≤ R1 ∧ R1 < R2 ∧ R2 < T4 ∧ T4 < T5
  gr : w0.grownBy W (some b)
section
variable {w0 W W' : World} {b R1 R2 T4 T5 : Nat} {c4 c5 : Array Value} {S : Nat → Prop} {φ : World → Prop}
theorem DB.deck (h : DB w0 b R1 R2 T4 T5 c4 c5 S φ W) (hg : W.grownBy W' (some b)) (hd : Dk W' b) : DB w0 b R1 R2 T4 T5 c4 c5 S φ W' := by
  have := h.bn
  have := h.rs
  exact ⟨h.q1.only hg (by omega), h.q2.only hg (by omega), h.t4.only hg (by omega), h.t5.only hg (by omega), h.he.deck hg (fun i hi => by have := (h.sg i hi).1; omega), h.sg, hd, h.bn, h.rs, grown_trans h.gr hg⟩
theorem DB.below (h : DB w0 b R1 R2 T4 T5 c4 c5 S φ W) (hb : Below W.heap.size W W') : DB w0 b R1 R2 T4 T5 c4 c5 S φ W' := h.deck (grown_below hb _) (h.dk.below hb)
theorem DB.set4 (h : DB w0 b R1 R2 T4 T5 c4 c5 S φ W) (o : Nat) (u : Value) {c : Array Value} (e : c4.setIfInBounds o u = c) : DB w0 b R1 R2 T4 T5 c c5 S φ (W.setCell ⟨T4, o, none⟩ u) := by
  have := h.bn
  have := h.rs
  refine ⟨h.q1.far (by simp only; omega) _, h.q2.far (by simp only; omega) _, e ▸ h.t4.set_ o u, h.t5.far (by simp only; omega) _, h.he.set (fun hs => (h.sg _ hs).2.2.2.1 rfl) _, h.sg, h.dk.set (by simp only; omega) _, h.bn, h.rs, grown_set h.gr (.inr (by simp only; omega)) _⟩
theorem DB.set5 (h : DB w0 b R1 R2 T4 T5 c4 c5 S φ W) (o : Nat) (u : Value) {c : Array Value} (e : c5.setIfInBounds o u = c) : DB w0 b R1 R2 T4 T5 c4 c S φ (W.setCell ⟨T5, o, none⟩ u) := by
  have := h.bn
  have := h.rs
  refine ⟨h.q1.far (by simp only; omega) _, h.q2.far (by simp only; omega) _, h.t4.far (by simp only; omega) _, e ▸ h.t5.set_ o u, h.he.set (fun hs => (h.sg _ hs).2.2.2.2 rfl) _, h.sg, h.dk.set (by simp only; omega) _, h.bn, h.rs, grown_set h.gr (.inr (by simp only; omega)) _⟩
theorem DB.more (h : DB w0 b R1 R2 T4 T5 c4 c5 S φ W) {S' : Nat → Prop} {ψ : World → Prop} (k : Held S' W ψ) (hs : ∀ i, S' i → T5 < i) : DB w0 b R1 R2 T4 T5 c4 c5 (fun i => S i ∨ S' i) (fun w => φ w ∧ ψ w) W := by
  have := h.bn
  have := h.rs
  refine ⟨h.q1, h.q2, h.t4, h.t5, h.he.both k, fun i hi => ?_, h.dk, h.bn, h.rs, h.gr⟩
  rcases hi with hi | hi
  · exact h.sg i hi
  · have := hs i hi
    omega
end
structure DamF (b : Nat) (w W : World) (dc sc : Array Value) (S : Nat → Prop) (φ : World → Prop) : Prop where
  r1 : Blk W w.heap.size 31 dc
  r2 : Blk W (w.heap.size + 1) 35 sc
  he : Held S W φ
  dk : Dk W b
  gr : w.grownBy W (some b)
  sg : ∀ i, S i → w.heap.size ≤ i
def DamMade (b : Nat) (w : World) (e : Ending) (w' : World) : Prop := ∃ (d : Dm) (s : Ds) (S : Nat → Prop), e = .returned (.tuple #[.agg d.arr, .agg s.arr]) ∧ DmG d ∧ DsG d s ∧ (∀ i, S i → w.heap.size ≤ i) ∧ Held S w' (fun W => d.ok W ∧ s.ok W) ∧ Dk w' b ∧ w.grownBy w' (some b)
set_option maxHeartbeats 3200000 in
set_option maxRecDepth 20000 in
theorem mkdam_any (b : Nat) (w : World) (hD : Dk w b) : Calls Tryz.prog 6 #[.pointer (some ⟨b, 0, none⟩)] w (DamMade b w) := by
  have hbl := hD.lt
  obtain ⟨q0, t0, hb0⟩ := blk_two w 31 35 #[.slice none 0 0, .int .i64 0, .int .i64 0, .int .i64 0, .int .i64 0, .int .i64 0, .slice none 0 0, .slice none 0 0, .int .i64 0] #[.int .i64 0, .int .i64 0, .slice none 0 0, .slice none 0 0]
  have hD0 := (hD.alloc (.cells #[.slice none 0 0, .int .i64 0, .int .i64 0, .int .i64 0, .int .i64 0, .int .i64 0, .slice none 0 0, .slice none 0 0, .int .i64 0] 31)).alloc (.cells #[.int .i64 0, .int .i64 0, .slice none 0 0, .slice none 0 0] 35)
  have hg0 := grown_below hb0 (some b)
  have hs0 : w.heap.size + 2 ≤ ((w.alloc (.cells #[.slice none 0 0, .int .i64 0, .int .i64 0, .int .i64 0, .int .i64 0, .int .i64 0, .slice none 0 0, .slice none 0 0, .int .i64 0] 31)).alloc (.cells #[.int .i64 0, .int .i64 0, .slice none 0 0, .slice none 0 0] 35)).heap.size := by simp
  go_enter Tryz.func6, Tryz.ntmps6
  go_wp2_with fail
  generalize (w.alloc _).alloc _ = w0 at *
  refine (reservoir_any b w0 hD0).mono ?_
  rintro e w1 ⟨r, rfl, hrg, hrow, hD1, hg1⟩
  go_wp2_with fail
  refine (next_any _ _ (by omega) _ hD1).mono ?_
  rintro e w2 ⟨v2, rfl, h20, h21, hD2, hg2, hz2⟩
  obtain ⟨gn, hgn⟩ : ∃ gn, 1 + v2 = gn := ⟨_, rfl⟩
  have hgn1 : 1 ≤ gn ∧ gn ≤ 1000 := by omega
  have hrow2 := own_deck (show w1.ownsRow w0.heap.size 57 2 (.slice r.st.A r.st.n r.st.c) r.st.n (ptCells r.st.ps) from hrow) hg2 (by omega)
  have q2 := (q0.only hg1 (by omega)).only hg2 (by omega)
  have t2 := (t0.only hg1 (by omega)).only hg2 (by omega)
  have hG2 := grown_trans (grown_trans hg0 hg1) hg2
  have hz3 : w0.heap.size ≤ w2.heap.size := by have := hg1.size; omega
  have HDB : DB w b w.heap.size (w.heap.size + 1) w2.heap.size (w2.heap.size + 1) #[.slice r.st.A r.st.n r.st.c, .int .i64 r.de, .int .i64 r.lw, .int .i64 r.fu, .int .i64 r.su, .int .i64 r.cr, .slice none 0 0, .slice none 0 0, .int .i64 gn] #[.int .i64 0, .int .i64 0, .slice none 0 0, .slice none 0 0] (fun g => (Value.slice r.st.A r.st.n r.st.c).ownBlock = some g) (fun W => r.st.ok W) ((w2.alloc (.cells #[.slice r.st.A r.st.n r.st.c, .int .i64 r.de, .int .i64 r.lw, .int .i64 r.fu, .int .i64 r.su, .int .i64 r.cr, .slice none 0 0, .slice none 0 0, .int .i64 gn] 31)).alloc (.cells #[.int .i64 0, .int .i64 0, .slice none 0 0, .slice none 0 0] 35)) := by
    have h5 := Blk.new (w2.alloc (.cells #[.slice r.st.A r.st.n r.st.c, .int .i64 r.de, .int .i64 r.lw, .int .i64 r.fu, .int .i64 r.su, .int .i64 r.cr, .slice none 0 0, .slice none 0 0, .int .i64 gn] 31)) 35 #[.int .i64 0, .int .i64 0, .slice none 0 0, .slice none 0 0]
    rw [World.size_alloc] at h5
    refine ⟨(q2.alloc _).alloc _, (t2.alloc _).alloc _, (Blk.new _ _ _).alloc _, h5, ((held_sl hrow2).alloc _).alloc _, fun i hi => ?_, (hD2.alloc _).alloc _, hbl, by omega, grown_alloc (grown_alloc hG2 _) _⟩
    have := hrow2.lt i hi
    omega
  have HD := hide HDB
  have HRG := hide hrg
  have HGN := hide hgn1
  clear hD hD0 hD1 hD2 hg0 hg1 hg2 hG2 q0 t0 q2 t2 hrow hrow2 hb0 hz2 HDB h20 h21 hrg
  unfold Rs.arr
  unfold Cv.v
  have hcr : (0 ≤ r.cr ∧ r.cr ≤ 16777216) ∧ 0 ≤ val r.st.ps r.cr ∧ val r.st.ps r.cr ≤ 2000 := by
    have h := HRG.out
    have h0 := (h.st.bd _ (List.getElem_mem h.st.ne)).1
    have h1 := (h.st.bd _ (List.getElem_mem (show r.st.ps.length - 1 < r.st.ps.length by have := h.st.ne; omega))).1
    have := h.l0
    have := h.l1
    have := h.l2
    have := h.l3
    have := h.l4
    have := h.l5
    exact ⟨by omega, val_in h.st r.cr⟩
  have HRV := hide (fun (W : World) (hs : r.st.ok W) => rvolume_any r HRG.out r.cr hcr.1 W hs)
  unfold Rs.arr at HRV
  unfold Cv.v at HRV
  obtain ⟨V, hV⟩ : ∃ V, val r.st.ps r.cr = V := ⟨_, rfl⟩
  rw [hV] at hcr HRV
  have HV := hide hV
  obtain ⟨_, hV0, hV1⟩ := hcr
  clear hV
  go_wp2_with fail
  generalize (w2.alloc _).alloc _ = w4 at *
  generalize w2.heap.size = T4 at *
  refine (mkunits_any b w4 HD.out.dk).mono ?_
  rintro e w5 ⟨uA, sA, uc, sc, us, ss, SU, rfl, hul, hsl, hug, hup, hSU, hHU, hD5, hg5⟩
  have H5 := hide ((HD.out.deck hg5 hD5).more hHU (fun i hi => by have := hSU i hi; have := HD.out.t5.lt; omega))
  have HUP := hide (And.intro hul (And.intro hsl (And.intro hug hup)))
  obtain ⟨c0, c1, c2, c3, c4, c5, c6, c7, c8, cf⟩ := facts9 H5.out.t4
  obtain ⟨f0, f1, f2, f3, ff⟩ := H5.out.t5.facts4
  have H6 := hide ((H5.out.set4 6 (.slice uA us.length uc) rfl).set5 2 (.slice sA us.length sc) rfl)
  clear hsl hug hup hSU hHU hD5 hg5 H5 HD
  go_wp2_with fail
  clear c0 c1 c2 c3 c4 c5 c6 c7 c8 cf f0 f1 f2 f3 ff
  try simp only [List.setIfInBounds_toArray, List.set_cons_zero, List.set_cons_succ] at H6
  generalize World.setCell _ _ _ = w6 at *
  refine (mkgates_any b w6 H6.out.dk).mono ?_
  rintro e w7 ⟨gA, tA, gc, tc, gs, ts, SG, rfl, hgl, htl, hgg, hgp, hSG, hHG, hD7, hg7⟩
  have H7 := hide ((H6.out.deck hg7 hD7).more hHG (fun i hi => by have := hSG i hi; have := H6.out.t5.lt; omega))
  have HGP := hide (And.intro hgl (And.intro htl (And.intro hgg hgp)))
  obtain ⟨c0, c1, c2, c3, c4, c5, c6, c7, c8, cf⟩ := facts9 H7.out.t4
  obtain ⟨f0, f1, f2, f3, ff⟩ := H7.out.t5.facts4
  have H8 := hide ((H7.out.set4 7 (.slice gA gs.length gc) rfl).set5 3 (.slice tA gs.length tc) rfl)
  clear htl hgg hgp hSG hHG hD7 hg7 H7 H6
  go_upto_region 5 with fail
  clear c0 c1 c2 c3 c4 c5 c6 c7 c8 cf f0 f1 f2 f3 ff
  try simp only [List.setIfInBounds_toArray, List.set_cons_zero, List.set_cons_succ] at H8
  generalize World.setCell _ _ _ = w8 at *
  obtain ⟨c0, c1, c2, c3, c4, c5, c6, c7, c8, cf⟩ := facts9 H8.out.t4
  go_wp2_with fail
  refine (HRV.out w8 H8.out.he.out.1.1).mono ?_
  rintro e w9 ⟨rfl, hb9⟩
  have H9 := hide (H8.out.below hb9)
  clear c0 c1 c2 c3 c4 c5 c6 c7 c8 cf hb9 H8 HRV
  go_wp2_with fail
  refine (next_any _ _ (by omega) _ H9.out.dk).mono ?_
  rintro e w10 ⟨vo, rfl, hvo0, hvo1, hD10, hg10, hz10⟩
  clear hz10
  have hvo : 0 ≤ vo ∧ vo ≤ V := by omega
  have H10 := hide (H9.out.deck hg10 hD10)
  clear hD10 hg10 H9 hvo0 hvo1
  obtain ⟨f0, f1, f2, f3, ff⟩ := H10.out.t5.facts4
  have H11 := hide (H10.out.set5 0 (.int .i64 vo) rfl)
  clear H10
  go_wp2_with fail
  clear f0 f1 f2 f3 ff
  try simp only [List.setIfInBounds_toArray, List.set_cons_zero] at H11
  generalize World.setCell _ _ _ = w11 at *
  refine (next_any _ _ (by omega) _ H11.out.dk).mono ?_
  rintro e w12 ⟨re, rfl, hre0, hre1, hD12, hg12, hz12⟩
  clear hz12
  have hre : 0 ≤ re ∧ re ≤ 1073741824 := by omega
  have H12 := hide (H11.out.deck hg12 hD12)
  clear hD12 hg12 H11 hre0 hre1
  obtain ⟨f0, f1, f2, f3, ff⟩ := H12.out.t5.facts4
  have H := hide (H12.out.set5 1 (.int .i64 re) rfl)
  clear H12
  go_wp2_with fail
  clear f0 f1 f2 f3 ff
  try simp only [List.setIfInBounds_toArray, List.set_cons_zero, List.set_cons_succ] at H
  generalize World.setCell _ _ _ = w13 at *
  have hT4 : w.heap.size + 1 < T4 := by omega
  have rF := (((((((((((((H.out.q1.set_ 0 (.slice r.st.A r.st.n r.st.c)).set_ 1 (.int .i64 r.de)).set_ 2 (.int .i64 r.lw)).set_ 3 (.int .i64 r.fu)).set_ 4 (.int .i64 r.su)).set_ 5 (.int .i64 r.cr)).set_ 6 (.slice uA us.length uc)).set_ 7 (.slice gA gs.length gc)).set_ 8 (.int .i64 gn)).far (p := ⟨w.heap.size + 1, 0, none⟩) (by simp) (.int .i64 vo)).far (p := ⟨w.heap.size + 1, 1, none⟩) (by simp) (.int .i64 re)).far (p := ⟨w.heap.size + 1, 2, none⟩) (by simp) (.slice sA us.length sc)).far (p := ⟨w.heap.size + 1, 3, none⟩) (by simp) (.slice tA gs.length tc))
  have tF := (((((((((((((H.out.q2.far (p := ⟨w.heap.size, 0, none⟩) (by simp) (.slice r.st.A r.st.n r.st.c)).far (p := ⟨w.heap.size, 1, none⟩) (by simp) (.int .i64 r.de)).far (p := ⟨w.heap.size, 2, none⟩) (by simp) (.int .i64 r.lw)).far (p := ⟨w.heap.size, 3, none⟩) (by simp) (.int .i64 r.fu)).far (p := ⟨w.heap.size, 4, none⟩) (by simp) (.int .i64 r.su)).far (p := ⟨w.heap.size, 5, none⟩) (by simp) (.int .i64 r.cr)).far (p := ⟨w.heap.size, 6, none⟩) (by simp) (.slice uA us.length uc)).far (p := ⟨w.heap.size, 7, none⟩) (by simp) (.slice gA gs.length gc)).far (p := ⟨w.heap.size, 8, none⟩) (by simp) (.int .i64 gn)).set_ 0 (.int .i64 vo)).set_ 1 (.int .i64 re)).set_ 2 (.slice sA us.length sc)).set_ 3 (.slice tA gs.length tc))
  have hF := (((((((((((((H.out.he.set (p := ⟨w.heap.size, 0, none⟩) (fun hs => (H.out.sg _ hs).2.1 rfl) (.slice r.st.A r.st.n r.st.c)).set (p := ⟨w.heap.size, 1, none⟩) (fun hs => (H.out.sg _ hs).2.1 rfl) (.int .i64 r.de)).set (p := ⟨w.heap.size, 2, none⟩) (fun hs => (H.out.sg _ hs).2.1 rfl) (.int .i64 r.lw)).set (p := ⟨w.heap.size, 3, none⟩) (fun hs => (H.out.sg _ hs).2.1 rfl) (.int .i64 r.fu)).set (p := ⟨w.heap.size, 4, none⟩) (fun hs => (H.out.sg _ hs).2.1 rfl) (.int .i64 r.su)).set (p := ⟨w.heap.size, 5, none⟩) (fun hs => (H.out.sg _ hs).2.1 rfl) (.int .i64 r.cr)).set (p := ⟨w.heap.size, 6, none⟩) (fun hs => (H.out.sg _ hs).2.1 rfl) (.slice uA us.length uc)).set (p := ⟨w.heap.size, 7, none⟩) (fun hs => (H.out.sg _ hs).2.1 rfl) (.slice gA gs.length gc)).set (p := ⟨w.heap.size, 8, none⟩) (fun hs => (H.out.sg _ hs).2.1 rfl) (.int .i64 gn)).set (p := ⟨w.heap.size + 1, 0, none⟩) (fun hs => (H.out.sg _ hs).2.2.1 rfl) (.int .i64 vo)).set (p := ⟨w.heap.size + 1, 1, none⟩) (fun hs => (H.out.sg _ hs).2.2.1 rfl) (.int .i64 re)).set (p := ⟨w.heap.size + 1, 2, none⟩) (fun hs => (H.out.sg _ hs).2.2.1 rfl) (.slice sA us.length sc)).set (p := ⟨w.heap.size + 1, 3, none⟩) (fun hs => (H.out.sg _ hs).2.2.1 rfl) (.slice tA gs.length tc))
  have kF := (((((((((((((H.out.dk.set (p := ⟨w.heap.size, 0, none⟩) (by simp only; omega) (.slice r.st.A r.st.n r.st.c)).set (p := ⟨w.heap.size, 1, none⟩) (by simp only; omega) (.int .i64 r.de)).set (p := ⟨w.heap.size, 2, none⟩) (by simp only; omega) (.int .i64 r.lw)).set (p := ⟨w.heap.size, 3, none⟩) (by simp only; omega) (.int .i64 r.fu)).set (p := ⟨w.heap.size, 4, none⟩) (by simp only; omega) (.int .i64 r.su)).set (p := ⟨w.heap.size, 5, none⟩) (by simp only; omega) (.int .i64 r.cr)).set (p := ⟨w.heap.size, 6, none⟩) (by simp only; omega) (.slice uA us.length uc)).set (p := ⟨w.heap.size, 7, none⟩) (by simp only; omega) (.slice gA gs.length gc)).set (p := ⟨w.heap.size, 8, none⟩) (by simp only; omega) (.int .i64 gn)).set (p := ⟨w.heap.size + 1, 0, none⟩) (by simp only; omega) (.int .i64 vo)).set (p := ⟨w.heap.size + 1, 1, none⟩) (by simp only; omega) (.int .i64 re)).set (p := ⟨w.heap.size + 1, 2, none⟩) (by simp only; omega) (.slice sA us.length sc)).set (p := ⟨w.heap.size + 1, 3, none⟩) (by simp only; omega) (.slice tA gs.length tc))
  have gF := (grown_set (grown_set (grown_set (grown_set (grown_set (grown_set (grown_set (grown_set (grown_set (grown_set (grown_set (grown_set (grown_set H.out.gr (p := ⟨w.heap.size, 0, none⟩) (.inr (by simp)) (.slice r.st.A r.st.n r.st.c)) (p := ⟨w.heap.size, 1, none⟩) (.inr (by simp)) (.int .i64 r.de)) (p := ⟨w.heap.size, 2, none⟩) (.inr (by simp)) (.int .i64 r.lw)) (p := ⟨w.heap.size, 3, none⟩) (.inr (by simp)) (.int .i64 r.fu)) (p := ⟨w.heap.size, 4, none⟩) (.inr (by simp)) (.int .i64 r.su)) (p := ⟨w.heap.size, 5, none⟩) (.inr (by simp)) (.int .i64 r.cr)) (p := ⟨w.heap.size, 6, none⟩) (.inr (by simp)) (.slice uA us.length uc)) (p := ⟨w.heap.size, 7, none⟩) (.inr (by simp)) (.slice gA gs.length gc)) (p := ⟨w.heap.size, 8, none⟩) (.inr (by simp)) (.int .i64 gn)) (p := ⟨w.heap.size + 1, 0, none⟩) (.inr (by simp)) (.int .i64 vo)) (p := ⟨w.heap.size + 1, 1, none⟩) (.inr (by simp)) (.int .i64 re)) (p := ⟨w.heap.size + 1, 2, none⟩) (.inr (by simp)) (.slice sA us.length sc)) (p := ⟨w.heap.size + 1, 3, none⟩) (.inr (by simp)) (.slice tA gs.length tc))
  simp only [List.setIfInBounds_toArray, List.set_cons_zero, List.set_cons_succ] at rF tF
  have hP : ∀ W, W = (((((((((((((w13.setCell ⟨w.heap.size, 0, none⟩ (.slice r.st.A r.st.n r.st.c)).setCell ⟨w.heap.size, 1, none⟩ (.int .i64 r.de)).setCell ⟨w.heap.size, 2, none⟩ (.int .i64 r.lw)).setCell ⟨w.heap.size, 3, none⟩ (.int .i64 r.fu)).setCell ⟨w.heap.size, 4, none⟩ (.int .i64 r.su)).setCell ⟨w.heap.size, 5, none⟩ (.int .i64 r.cr)).setCell ⟨w.heap.size, 6, none⟩ (.slice uA us.length uc)).setCell ⟨w.heap.size, 7, none⟩ (.slice gA gs.length gc)).setCell ⟨w.heap.size, 8, none⟩ (.int .i64 gn)).setCell ⟨w.heap.size + 1, 0, none⟩ (.int .i64 vo)).setCell ⟨w.heap.size + 1, 1, none⟩ (.int .i64 re)).setCell ⟨w.heap.size + 1, 2, none⟩ (.slice sA us.length sc)).setCell ⟨w.heap.size + 1, 3, none⟩ (.slice tA gs.length tc)).drew → DamF b w W #[.slice r.st.A r.st.n r.st.c, .int .i64 r.de, .int .i64 r.lw, .int .i64 r.fu, .int .i64 r.su, .int .i64 r.cr, .slice uA us.length uc, .slice gA gs.length gc, .int .i64 gn] #[.int .i64 vo, .int .i64 re, .slice sA us.length sc, .slice tA gs.length tc] _ _ := fun W hW => by
    subst hW
    exact ⟨rF.drew, tF.drew, hF.drew, kF.drew, grown_drew gF, fun i hi => (H.out.sg i hi).1⟩
  have HP := hide hP
  obtain ⟨c0, c1, c2, c3, c4, c5, c6, c7, c8, cf⟩ := facts9 H.out.t4
  obtain ⟨f0, f1, f2, f3, ff⟩ := H.out.t5.facts4
  obtain ⟨x0, x1, x2, x3, x4, x5, x6, x7, x8, xf⟩ := facts9 H.out.q1
  obtain ⟨y0, y1, y2, y3, yf⟩ := H.out.q2.facts4
  clear hP rF tF hF kF gF H
  go_region_law (fail)
  all_goals
    have hPP := HP.out _ rfl
    clear HP c0 c1 c2 c3 c4 c5 c6 c7 c8 cf f0 f1 f2 f3 ff x0 x1 x2 x3 x4 x5 x6 x7 x8 xf y0 y1 y2 y3 yf
    generalize World.drew _ = w14 at *
    obtain ⟨a0, a1, a2, a3, a4, a5, a6, a7, a8, af⟩ := facts9 hPP.r1
    obtain ⟨b0, b1, b2, b3, bf⟩ := hPP.r2.facts4
    have hE : DamMade b w (.returned (.tuple #[.agg #[.slice r.st.A r.st.n r.st.c, .int .i64 r.de, .int .i64 r.lw, .int .i64 r.fu, .int .i64 r.su, .int .i64 r.cr, .slice uA us.length uc, .slice gA gs.length gc, .int .i64 gn], .agg #[.int .i64 vo, .int .i64 re, .slice sA us.length sc, .slice tA gs.length tc]])) w14 :=
      ⟨⟨r, uA, us.length, uc, us, gA, gs.length, gc, gs, gn⟩, ⟨vo, re, sA, us.length, sc, ss, tA, gs.length, tc, ts⟩, _, rfl,
        ⟨HRG.out, by have := hul; simp only; omega, HUP.out.2.2.1, by have := hgl; simp only; omega, HGP.out.2.2.1, hgn1⟩,
        ⟨⟨hvo.1, by have := HV.out; unfold crestV; simp only; omega⟩, hre, HUP.out.2.1, fun i h => HUP.out.2.2.2 i _ _ (List.getElem?_eq_getElem h) (List.getElem?_eq_getElem _), HGP.out.2.1, fun i h => HGP.out.2.2.2 i _ _ (List.getElem?_eq_getElem h) (List.getElem?_eq_getElem _)⟩,
        hPP.sg, hPP.he.imp (fun W h => ⟨⟨h.1.1, ⟨h.1.2.1, h.1.2.2.1⟩, h.2.1, h.2.2.1⟩, h.1.2.2.2, h.2.2.2⟩), hPP.dk, hPP.gr⟩
    have HE := hide hE
    clear hPP hE
    go_wp2
    refine bodyPost_ret (v := .tuple #[.agg #[.slice r.st.A r.st.n r.st.c, .int .i64 r.de, .int .i64 r.lw, .int .i64 r.fu, .int .i64 r.su, .int .i64 r.cr, .slice uA us.length uc, .slice gA gs.length gc, .int .i64 gn], .agg #[.int .i64 vo, .int .i64 re, .slice sA us.length sc, .slice tA gs.length tc]]) (by simp [results, Tryz.results6, go_sem, a0, a1, a2, a3, a4, a5, a6, a7, a8, b0, b1, b2, b3]) rfl HE.out
end Go.Proofs.YtodamjjlnagpjaaGreatDoor
