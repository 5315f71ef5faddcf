/-
  The engine for drawn regions with edges that do not bind; what lies in memory while a law over a dam's steps is under way. No condition.
  The walk of TopFlooded up to its sanity check: at each step what goes over the crest is what comes beyond the room that was there. Condition: the list lies in memory; the sanity check holds.
-/
import Derived.Test.YtodamjjlnagpjaaGreatDoorProg
import Derived.Test.YtodamjjlnagpjaaGreatDoorTwp
import Derived.Test.YtodamjjlnagpjaaGreatDoorTmz
import Derived.Test.YtodamjjlnagpjaaGreatDoorTge
namespace Go.Proofs.YtodamjjlnagpjaaGreatDoor
open Go.RowKit

theorem wp_region_Jb {P : Program} {ops : Array Oper} {Q : Exit → Act → World → Prop} {J : Act → Array Bool → Act → World → Prop} {id : Nat} {a : Act} {w : World} (hm : P.follows .mixedOrders = true)
    (h0 : J a (Array.replicate ops.size false) a w.drew)
    (hs : ∀ (listed : Array Bool) (a' : Act) (w' : World) (i : Nat), listed.size = ops.size → J a listed a' w' → i ∈ Region.ready .any ops listed → wpOp P ops Q i (fun a' w' => J a (listed.setIfInBounds i true) a' w') a' w')
    (he : ∀ (listed : Array Bool) (a' : Act) (w' : World), J a listed a' w' → (∀ i, i < ops.size → listed.getD i false = true) → Q .normal a' w') (hlexB : ((List.range ops.size).all fun i => ((ops[i]?).map (·.after.all fun e => !Region.binds .any e || decide (e.on < i))).getD true) = true) : (Code.region id ops true).wp P Q a w := by
  have hlex : ∀ i, i < ops.size → ∀ o, ops[i]? = some o → ∀ e ∈ o.after, Region.binds .any e = true → e.on < i := by
    intro i hi o ho e he' hb
    rw [List.all_eq_true] at hlexB
    have h1 := hlexB i (List.mem_range.2 hi)
    rw [ho] at h1
    simp only [Option.map_some, Option.getD_some, Array.all_eq_true'] at h1
    have h2 := h1 e he'
    rw [hb] at h2
    simpa using h2
  refine wp_region_J (J := fun listed a' w' => listed.size = ops.size ∧ J a listed a' w') hm ⟨by simp, h0⟩ (fun listed a' w' i hJ hi => wpOp_mono (fun a'' w'' h => ⟨by simpa using hJ.1, h⟩) (hs listed a' w' i hJ.1 hJ.2 hi)) (fun listed a' w' hJ h0 => he listed a' w' hJ.2 ?_)
  intro i
  induction i using Nat.strongRecOn with
  | ind i ih =>
    intro hi
    cases hc : listed.getD i false
    · exfalso
      have hsz := hJ.1
      have h1 : listed.getD i true = false := by
        have h2 : i < listed.size := by omega
        simpa [Array.getD, h2] using hc
      have h3 : i ∈ Region.ready .any ops listed := by
        rw [ready_iff]
        refine ⟨hi, h1, ?_⟩
        have h4 : ops[i]? = some ops[i] := Array.getElem?_eq_getElem hi
        rw [h4]
        simp only [Option.map_some, Option.getD_some, Array.all_eq_true']
        intro e he'
        cases hb : Region.binds .any e
        · simp
        · have h5 := hlex i hi _ h4 e he' hb
          rw [ih e.on h5 (by omega)]
          simp
      rw [h0] at h3
      cases h3
    · rfl
theorem cfStep : ∀ (a : Array Value) (W : World), (callFunc 12 a).run Tryz.prog W = .ok (.enter 12 a) W := fun _ _ => by kernel_rfl
section
variable {P : Program} {ops : Array Oper} {Q : Exit → Act → World → Prop} {i : Nat} {o : Oper} {a : Act} {w w' : World} {K : Act → World → Prop} {v : Value}
theorem opJ_extract (ho : ops[i]? = some o) (hg : o.guard = none) (x : Operand) (k : Nat) (p : Value) (hop : o.op = .extract x k) (hx : a.eval x = p) (hr : (Instr.extract p k).run P w = .ok v w) (hK : K (a.put o.dst v) w) : wpOp P ops Q i K a w :=
  opJ_val (w' := w) (v := v) ho hg (by simp [execOp, hop, hx, hr]) hK
theorem map5J {x1 x2 x3 x4 x5 : Operand} {v1 v2 v3 v4 v5 : Value} (h1 : a.eval x1 = v1) (h2 : a.eval x2 = v2) (h3 : a.eval x3 = v3) (h4 : a.eval x4 = v4) (h5 : a.eval x5 = v5) : (#[x1, x2, x3, x4, x5] : Array Operand).map a.eval = #[v1, v2, v3, v4, v5] := by simp [h1, h2, h3, h4, h5]
end
theorem held_two {w : World} {z : Nat} {e1 e2 : TypeId} {s : Ds} (h1 : w.ownsRow z e1 3 (.slice s.uA s.un s.uc) s.un (usCells s.us)) (h2 : w.ownsRow z e2 2 (.slice s.gA s.gn s.gc) s.gn (gsCells s.gs)) : Held (fun i => (Value.slice s.uA s.un s.uc).ownBlock = some i ∨ (Value.slice s.gA s.gn s.gc).ownBlock = some i) w (fun W => s.ok W) :=
  ((held_sl h1).both (held_sl h2)).imp fun _ h => h
theorem two_ge {w : World} {z : Nat} {e1 e2 : TypeId} {s : Ds} (h1 : w.ownsRow z e1 3 (.slice s.uA s.un s.uc) s.un (usCells s.us)) (h2 : w.ownsRow z e2 2 (.slice s.gA s.gn s.gc) s.gn (gsCells s.gs)) : ∀ i, ((Value.slice s.uA s.un s.uc).ownBlock = some i ∨ (Value.slice s.gA s.gn s.gc).ownBlock = some i) → z ≤ i := fun i h => by
  rcases h with h | h
  · exact (h1.lt i h).1
  · exact (h2.lt i h).1
/-- The law under way: the dam and its state in their boxes, the deck. -/
structure LB (w : World) (b T4 T5 : Nat) (d : Dm) (s : Ds) (Sd Ss : Nat → Prop) (W : World) : Prop where
  t4 : Blk W T4 31 #[.slice d.r.st.A d.r.st.n d.r.st.c, .int .i64 d.r.de, .int .i64 d.r.lw, .int .i64 d.r.fu, .int .i64 d.r.su, .int .i64 d.r.cr, .slice d.uA d.un d.uc, .slice d.gA d.gn d.gc, .int .i64 d.gr]
  t5 : Blk W T5 35 #[.int .i64 s.vo, .int .i64 s.re, .slice s.uA s.un s.uc, .slice s.gA s.gn s.gc]
  hd : Held Sd W (fun W => d.ok W)
  hs : Held Ss W (fun W => s.ok W)
  gd : ∀ i, Sd i → b < i ∧ i ≠ T4 ∧ i ≠ T5
  gs : ∀ i, Ss i → b < i ∧ i ≠ T4 ∧ i ≠ T5
  dk : Dk W b
  bt : w.heap.size ≤ b ∧ b < T4 ∧ T4 < T5
  gr : Below w.heap.size w W
section
variable {w W W' : World} {b T4 T5 : Nat} {d : Dm} {s : Ds} {Sd Ss : Nat → Prop}
theorem LB.deck (h : LB w b T4 T5 d s Sd Ss W) (hg : W.grownBy W' (some b)) (hd : Dk W' b) : LB w b T4 T5 d s Sd Ss W' := by
  have := h.bt
  exact ⟨h.t4.only hg (by omega), h.t5.only hg (by omega), h.hd.deck hg (fun i hi => (h.gd i hi).1), h.hs.deck hg (fun i hi => (h.gs i hi).1), h.gd, h.gs, hd, h.bt, below_grown h.gr hg h.gr.size this.1⟩
theorem LB.below (h : LB w b T4 T5 d s Sd Ss W) (hb : Below W.heap.size W W') : LB w b T4 T5 d s Sd Ss W' := h.deck (grown_below hb _) (h.dk.below hb)
theorem LB.drew (h : LB w b T4 T5 d s Sd Ss W) : LB w b T4 T5 d s Sd Ss W.drew := ⟨h.t4.drew, h.t5.drew, h.hd.drew, h.hs.drew, h.gd, h.gs, h.dk.drew, h.bt, h.gr.drew⟩
theorem LB.next (h : LB w b T4 T5 d s Sd Ss W) {s2 : Ds} {S2 : Nat → Prop} (k : Held S2 W (fun W => s2.ok W)) (hge : ∀ i, S2 i → b < i ∧ i ≠ T4 ∧ i ≠ T5) : LB w b T4 T5 d s2 Sd S2 ((((W.setCell ⟨T5, 0, none⟩ (.int .i64 s2.vo)).setCell ⟨T5, 1, none⟩ (.int .i64 s2.re)).setCell ⟨T5, 2, none⟩ (.slice s2.uA s2.un s2.uc)).setCell ⟨T5, 3, none⟩ (.slice s2.gA s2.gn s2.gc)) := by
  have := h.bt
  have n1 : ¬ Sd T5 := fun hh => (h.gd _ hh).2.2 rfl
  have n2 : ¬ S2 T5 := fun hh => (hge _ hh).2.2 rfl
  have t := (((h.t5.set_ 0 (.int .i64 s2.vo)).set_ 1 (.int .i64 s2.re)).set_ 2 (.slice s2.uA s2.un s2.uc)).set_ 3 (.slice s2.gA s2.gn s2.gc)
  simp only [List.setIfInBounds_toArray, List.set_cons_zero, List.set_cons_succ] at t
  refine ⟨(((h.t4.far (by simp only; omega) _).far (by simp only; omega) _).far (by simp only; omega) _).far (by simp only; omega) _, t, (((h.hd.set (p := ⟨T5, 0, none⟩) n1 _).set (p := ⟨T5, 1, none⟩) n1 _).set (p := ⟨T5, 2, none⟩) n1 _).set (p := ⟨T5, 3, none⟩) n1 _, (((k.set (p := ⟨T5, 0, none⟩) n2 _).set (p := ⟨T5, 1, none⟩) n2 _).set (p := ⟨T5, 2, none⟩) n2 _).set (p := ⟨T5, 3, none⟩) n2 _, h.gd, hge, (((h.dk.set (p := ⟨T5, 0, none⟩) (by simp only; omega) _).set (p := ⟨T5, 1, none⟩) (by simp only; omega) _).set (p := ⟨T5, 2, none⟩) (by simp only; omega) _).set (p := ⟨T5, 3, none⟩) (by simp only; omega) _, h.bt, (((h.gr.setCell (p := ⟨T5, 0, none⟩) (by simp only; omega) _).setCell (p := ⟨T5, 1, none⟩) (by simp only; omega) _).setCell (p := ⟨T5, 2, none⟩) (by simp only; omega) _).setCell (p := ⟨T5, 3, none⟩) (by simp only; omega) _⟩
theorem LB.blt (h : LB w b T4 T5 d s Sd Ss W) : b < W.heap.size := h.dk.lt
theorem LB.xl (h : LB w b T4 T5 d s Sd Ss W) : b < W.heap.size ∧ T4 < W.heap.size ∧ T5 < W.heap.size ∧ w.heap.size ≤ W.heap.size := ⟨h.dk.lt, h.t4.lt, h.t5.lt, h.gr.size⟩
theorem LB.sdl (h : LB w b T4 T5 d s Sd Ss W) (i : Nat) (hi : Sd i) : i < W.heap.size := h.hd.lt hi
theorem LB.ssl (h : LB w b T4 T5 d s Sd Ss W) (i : Nat) (hi : Ss i) : i < W.heap.size := h.hs.lt hi
theorem LB.setx (h : LB w b T4 T5 d s Sd Ss W) {x : Nat} (hx : b < x ∧ x ≠ T4 ∧ x ≠ T5) (h1 : ¬ Sd x) (h2 : ¬ Ss x) (o : Nat) (u : Value) : LB w b T4 T5 d s Sd Ss (W.setCell ⟨x, o, none⟩ u) := by
  have := h.bt
  exact ⟨h.t4.far (by simp only; omega) _, h.t5.far (by simp only; omega) _, h.hd.set h1 _, h.hs.set h2 _, h.gd, h.gs, h.dk.set (by simp only; omega) _, h.bt, h.gr.setCell (by simp only; omega) _⟩
end
end Go.Proofs.YtodamjjlnagpjaaGreatDoor
namespace Go.Proofs.YtodamjjlnagpjaaGreatDoor
open Go.RowKit

set_option maxHeartbeats 3200000 in
set_option maxRecDepth 20000 in
theorem flooded_of (A : Option Addr) (n c : Nat) (zs : List Int) (w : World) (hs : Sl w w.heap.size 1 A n c (ints zs)) (HA : ∀ W, Below w.heap.size w W → Calls Tryz.prog 14 #[] W fun e w' => e = .returned (.bool true) ∧ Below W.heap.size W w') :
    Calls Tryz.prog 4 #[.slice A n c] w fun e w' => e = .returned (.bool true) ∧ Below w.heap.size w w' := by
  have HAW := hide HA
  clear HA
  go_enter Tryz.func4, Tryz.ntmps4
  go_wp2_with fail
  refine (new_any A n c zs w hs).mono ?_
  rintro e w1 ⟨rfl, hD1, hb1⟩
  go_wp2_with fail
  refine (mkdam_any w.heap.size w1 hD1).mono ?_
  rintro e w2 ⟨d, s, S, rfl, hdg, hsg, hS, hH, hD2, hg2⟩
  have hz1 : w.heap.size < w1.heap.size := hD1.lt
  obtain ⟨q3, t3, hb3⟩ := blk_two w2 31 35 d.arr s.arr
  have hz2 : w1.heap.size ≤ w2.heap.size := hg2.size
  have hL3 : LB w w.heap.size w2.heap.size (w2.heap.size + 1) d s S S ((w2.alloc (.cells d.arr 31)).alloc (.cells s.arr 35)) :=
    ⟨q3, t3, (hH.below hb3).imp (fun _ h => h.1), (hH.below hb3).imp (fun _ h => h.2), fun i hi => by have := hS i hi; have := hH.lt hi; omega, fun i hi => by have := hS i hi; have := hH.lt hi; omega, hD2.below hb3, by omega, (below_grown hb1 hg2 hb1.size (Nat.le_refl _)).trans (hb3.mono (by omega))⟩
  have HDG := hide hdg
  have HSG := hide hsg
  have hcr : (0 ≤ d.r.cr ∧ d.r.cr ≤ 16777216) ∧ 0 ≤ crestV d ∧ crestV d ≤ 2000 := by
    have h := hdg.r
    have h0 := (h.st.bd _ (List.getElem_mem h.st.ne)).1
    have h1 := (h.st.bd _ (List.getElem_mem (show d.r.st.ps.length - 1 < d.r.st.ps.length by have := h.st.ne; omega))).1
    have := h.l0
    have := h.l1
    have := h.l2
    have := h.l3
    have := h.l4
    have := h.l5
    exact ⟨by omega, crestV_in hdg⟩
  obtain ⟨hcr0, hV0, hV1⟩ := hcr
  have HRV := hide (fun (W : World) (hs : d.ok W) => rvolume_any d.r HDG.out.r d.r.cr hcr0 W hs.1)
  have HRM := hide (fun (W : World) (vo : Int) (hv : 0 ≤ vo ∧ vo ≤ crestV d) (hs : d.ok W) => room_any d.r HDG.out.r vo d.r.cr hv hcr0 W hs.1)
  have HSP0 := hide (fun (s : Ds) (hsg : DsG d s) (i1 i2 i3 : Int) (W : World) (h1 : 0 ≤ i1 ∧ i1 ≤ 1073741824) (h2 : 0 ≤ i2 ∧ i2 ≤ 1073741824) (h3 : 0 ≤ i3 ∧ i3 ≤ 1073741824) (hd : d.ok W) (hs : s.ok W) => step_any d s HDG.out hsg i1 i2 i3 h1 h2 h3 W hd hs)
  unfold Dm.arr at hL3 HSP0 ⊢
  unfold Ds.arr at hL3 HSP0 ⊢
  unfold Rs.arr at HRV HRM
  unfold Cv.v at hL3 HSP0 HRV HRM ⊢
  obtain ⟨V, hV⟩ : ∃ V, crestV d = V := ⟨_, rfl⟩
  have HVE := hide hV
  rw [show val d.r.st.ps d.r.cr = V from hV] at HRV HRM
  rw [hV] at hV0 hV1 HRM
  clear hV hdg hsg hS hH hD1 hD2 hg2 hb1 q3 t3 hb3 hs
  obtain ⟨c0, c1, c2, c3, c4, c5, c6, c7, c8, cf⟩ := facts9 hL3.t4
  obtain ⟨f0, f1, f2, f3, ff⟩ := hL3.t5.facts4
  go_wp2_with fail
  generalize (w2.alloc _).alloc _ = w3 at *
  generalize w2.heap.size = T4 at *
  refine (HRV.out w3 hL3.hd.out).mono ?_
  rintro e w4 ⟨rfl, hb4⟩
  have hL4 := hL3.below hb4
  clear c0 c1 c2 c3 c4 c5 c6 c7 c8 cf f0 f1 f2 f3 ff hL3 hb4 HRV
  generalize hT5 : T4 + 1 = T5 at *
  generalize hbb : w.heap.size = b at *
  clear hT5
  go_wp2
  go_loopw [30] (fun kv wr => ∃ (k : Nat) (s : Ds) (Ss : Nat → Prop), k ≤ 6 ∧ kv = .int .i64 k ∧ Hid (DsG d s) ∧ LB w b T4 T5 d s S Ss wr) (fun i _ => 6 - (intOf i).toNat)
  case atStart => exact ⟨0, s, S, by omega, rfl, HSG, hL4⟩
  case round =>
    clear hL4 HSG
    obtain ⟨k, s, Ss, hk, rfl, HSG, hL⟩ := hrel
    by_cases hlt : k < 6
    · have hki : (k : Int) < 6 := by omega
      have hvo : 0 ≤ s.vo ∧ s.vo ≤ V := by have := HSG.out.vo; have := HVE.out; omega
      obtain ⟨c0, c1, c2, c3, c4, c5, c6, c7, c8, cf⟩ := facts9 hL.t4
      obtain ⟨f0, f1, f2, f3, ff⟩ := hL.t5.facts4
      go_wp2_with fail
      refine (HRM.out wr s.vo hvo hL.hd.out).mono ?_
      rintro e w5 ⟨rfl, hb5⟩
      have hL5 := hL.below hb5
      have HSP := hide (fun (i1 i2 i3 : Int) (W : World) (h1 : 0 ≤ i1 ∧ i1 ≤ 1073741824) (h2 : 0 ≤ i2 ∧ i2 ≤ 1073741824) (h3 : 0 ≤ i3 ∧ i3 ≤ 1073741824) (hd : d.ok W) (hs : s.ok W) => HSP0.out s HSG.out i1 i2 i3 W h1 h2 h3 hd hs)
      obtain ⟨Sd, hSd⟩ : ∃ Sd, Sd = S := ⟨_, rfl⟩
      rw [← hSd] at hL5
      have HSD := hide hSd
      clear c0 c1 c2 c3 c4 c5 c6 c7 c8 cf f0 f1 f2 f3 ff hL hb5 hSd
      have hx5 := hL5.xl
      go_wp2_with fail
      -- <R
      refine wp_region_Jb (J := fun a0 l a' w' => ∃ (xa xb : Nat) (i1 i2 i3 L T Sp O pw st : Int) (s2 : Ds) (S2 : Nat → Prop), a' = putIf (done l 0) 44 (.agg #[.slice d.r.st.A d.r.st.n d.r.st.c, .int .i64 d.r.de, .int .i64 d.r.lw, .int .i64 d.r.fu, .int .i64 d.r.su, .int .i64 d.r.cr, .slice d.uA d.un d.uc, .slice d.gA d.gn d.gc, .int .i64 d.gr]) (putIf (done l 1) 45 (.agg #[.int .i64 s.vo, .int .i64 s.re, .slice s.uA s.un s.uc, .slice s.gA s.gn s.gc]) (putIf (done l 2) 46 (.pointer (some ⟨b, 0, none⟩)) (putIf (done l 3) 47 (.int .i64 i1) (putIf (done l 4) 48 (.pointer (some ⟨b, 0, none⟩)) (putIf (done l 5) 49 (.int .i64 i2) (putIf (done l 6) 50 (.pointer (some ⟨b, 0, none⟩)) (putIf (done l 7) 51 (.int .i64 i3) (putIf (done l 8) 52 (.tuple #[.agg #[.int .i64 s2.vo, .int .i64 s2.re, .slice s2.uA s2.un s2.uc, .slice s2.gA s2.gn s2.gc], .agg #[.int .i64 i1, .int .i64 L, .int .i64 T, .int .i64 Sp, .int .i64 O, .int .i64 pw, .int .i64 st], .int .i64 0]) (putIf (done l 9) 43 (.tuple #[.agg #[.int .i64 s2.vo, .int .i64 s2.re, .slice s2.uA s2.un s2.uc, .slice s2.gA s2.gn s2.gc], .agg #[.int .i64 i1, .int .i64 L, .int .i64 T, .int .i64 Sp, .int .i64 O, .int .i64 pw, .int .i64 st], .int .i64 0]) (putIf (done l 10) 53 (.agg #[.int .i64 s2.vo, .int .i64 s2.re, .slice s2.uA s2.un s2.uc, .slice s2.gA s2.gn s2.gc]) (putIf (done l 11) 54 (.agg #[.int .i64 i1, .int .i64 L, .int .i64 T, .int .i64 Sp, .int .i64 O, .int .i64 pw, .int .i64 st]) (putIf (done l 12) 55 (.int .i64 0) (putIf (done l 13) 10 (.pointer (some ⟨xa, 0, none⟩)) (putIf (done l 14) 11 (.pointer (some ⟨xb, 0, none⟩)) (putIf (done l 17) 12 (.int .i64 0) (a0)))))))))))))))) ∧ LB w b T4 T5 d s Sd Ss w' ∧ w5.heap.size ≤ w'.heap.size ∧ (done l 3 = true → 0 ≤ i1 ∧ i1 ≤ 1000) ∧ (done l 5 = true → 0 ≤ i2 ∧ i2 ≤ 1000) ∧ (done l 7 = true → 0 ≤ i3 ∧ i3 ≤ 1000) ∧ (done l 8 = true → StepQ d s i1 i2 i3 L T Sp O s2 ∧ Held S2 w' (fun W => s2.ok W) ∧ (∀ i, S2 i → w5.heap.size ≤ i) ∧ (done l 13 = true → ¬ S2 xa) ∧ (done l 14 = true → ¬ S2 xb)) ∧ (done l 13 = true → w5.heap.size ≤ xa ∧ Blk w' xa 35 (sel (done l 15) #[.int .i64 s2.vo, .int .i64 s2.re, .slice s2.uA s2.un s2.uc, .slice s2.gA s2.gn s2.gc] #[.int .i64 0, .int .i64 0, .slice none 0 0, .slice none 0 0])) ∧ (done l 14 = true → w5.heap.size ≤ xb ∧ Blk w' xb 53 (sel (done l 16) #[.int .i64 i1, .int .i64 L, .int .i64 T, .int .i64 Sp, .int .i64 O, .int .i64 pw, .int .i64 st] #[.int .i64 0, .int .i64 0, .int .i64 0, .int .i64 0, .int .i64 0, .int .i64 0, .int .i64 0])) ∧ (done l 13 = true → done l 14 = true → xa ≠ xb) ∧ (done l 8 = true → done l 3 = true) ∧ (done l 8 = true → done l 5 = true) ∧ (done l 8 = true → done l 7 = true) ∧ (done l 9 = true → done l 8 = true) ∧ (done l 10 = true → done l 9 = true) ∧ (done l 11 = true → done l 9 = true) ∧ (done l 15 = true → done l 8 = true) ∧ (done l 16 = true → done l 8 = true) ∧ (done l 15 = true → done l 13 = true) ∧ (done l 16 = true → done l 14 = true)) (by kernel_rfl) ?_ ?_ ?_ ?_
      · refine ⟨0, 0, 0, 0, 0, 0, 0, 0, 0, 0, 0, s, fun _ => False, ?_, hL5.drew, Nat.le_refl _, fun h => ?_, fun h => ?_, fun h => ?_, fun h => ?_, fun h => ?_, fun h => ?_, fun h => ?_, fun h => ?_, fun h => ?_, fun h => ?_, fun h => ?_, fun h => ?_, fun h => ?_, fun h => ?_, fun h => ?_, fun h => ?_, fun h => ?_⟩
        · simp only [done_none]; rfl
        · rw [done_none] at h; cases h
        · rw [done_none] at h; cases h
        · rw [done_none] at h; cases h
        · rw [done_none] at h; cases h
        · rw [done_none] at h; cases h
        · rw [done_none] at h; cases h
        · rw [done_none] at h; cases h
        · rw [done_none] at h; cases h
        · rw [done_none] at h; cases h
        · rw [done_none] at h; cases h
        · rw [done_none] at h; cases h
        · rw [done_none] at h; cases h
        · rw [done_none] at h; cases h
        · rw [done_none] at h; cases h
        · rw [done_none] at h; cases h
        · rw [done_none] at h; cases h
        · rw [done_none] at h; cases h
      · intro l a' w' i hsz hJ hi
        obtain ⟨xa, xb, i1, i2, i3, L, T, Sp, O, pw, st, s2, S2, rfl, hL, hzw, h3, h5, h7, h8, h13, h14, hx, h83, h85, h87, h98, h109, h119, h158, h168, h1513, h1614⟩ := hJ
        rw [ready_iff] at hi
        obtain ⟨hiN, hnl, haf⟩ := hi
        have hz := done_not hnl
        have hl := getD_lt hnl
        have hcases : i = 0 ∨ i = 1 ∨ i = 2 ∨ i = 3 ∨ i = 4 ∨ i = 5 ∨ i = 6 ∨ i = 7 ∨ i = 8 ∨ i = 9 ∨ i = 10 ∨ i = 11 ∨ i = 12 ∨ i = 13 ∨ i = 14 ∨ i = 15 ∨ i = 16 ∨ i = 17 := by
          have : i < 18 := hiN
          omega
        rcases hcases with rfl | rfl | rfl | rfl | rfl | rfl | rfl | rfl | rfl | rfl | rfl | rfl | rfl | rfl | rfl | rfl | rfl | rfl
        · skip
          have dq3 := dOt 0 3 (l := l)
          have dq5 := dOt 0 5 (l := l)
          have dq7 := dOt 0 7 (l := l)
          have dq8 := dOt 0 8 (l := l)
          have dq9 := dOt 0 9 (l := l)
          have dq10 := dOt 0 10 (l := l)
          have dq11 := dOt 0 11 (l := l)
          have dq13 := dOt 0 13 (l := l)
          have dq14 := dOt 0 14 (l := l)
          have dq15 := dOt 0 15 (l := l)
          have dq16 := dOt 0 16 (l := l)
          obtain ⟨c0, c1, c2, c3, c4, c5, c6, c7, c8, cf⟩ := facts9 hL.t4
          exact opJ_load (v := .agg #[.slice d.r.st.A d.r.st.n d.r.st.c, .int .i64 d.r.de, .int .i64 d.r.lw, .int .i64 d.r.fu, .int .i64 d.r.su, .int .i64 d.r.cr, .slice d.uA d.un d.uc, .slice d.gA d.gn d.gc, .int .i64 d.gr]) rfl rfl 31 (.tmp 4) (.pointer (some ⟨T4, 0, none⟩)) rfl (by simp only [pEo 44 4, pEo 45 4, pEo 46 4, pEo 47 4, pEo 48 4, pEo 49 4, pEo 50 4, pEo 51 4, pEo 52 4, pEo 43 4, pEo 53 4, pEo 54 4, pEo 55 4, pEo 10 4, pEo 11 4, pEo 12 4]; rfl) (by simp [go_sem, c0, c1, c2, c3, c4, c5, c6, c7, c8]) ⟨xa, xb, i1, i2, i3, L, T, Sp, O, pw, st, s2, S2, (by show Act.put _ (some 44) _ = _; simp only [hz, putIf_here2, done_same hl, dOt 0 1, dOt 0 2, dq3, dOt 0 4, dq5, dOt 0 6, dq7, dq8, dq9, dq10, dq11, dOt 0 12, dq13, dq14, dOt 0 17]), (by (try simp only [dq3, dq5, dq7, dq8, dq9, dq10, dq11, dq13, dq14, dq15, dq16]) <;> first | exact hL | exact fun _ => trivial | exact fun h => (by cases h)), (by (try simp only [dq3, dq5, dq7, dq8, dq9, dq10, dq11, dq13, dq14, dq15, dq16]) <;> first | exact hzw | exact fun _ => trivial | exact fun h => (by cases h)), (by (try simp only [dq3]) <;> first | exact h3 | exact fun _ => trivial | exact fun h => (by cases h)), (by (try simp only [dq5]) <;> first | exact h5 | exact fun _ => trivial | exact fun h => (by cases h)), (by (try simp only [dq7]) <;> first | exact h7 | exact fun _ => trivial | exact fun h => (by cases h)), (by (try simp only [dq8, dq13, dq14]) <;> first | exact h8 | exact fun _ => trivial | exact fun h => (by cases h)), (by (try simp only [dq13, dq15]) <;> first | exact h13 | exact fun _ => trivial | exact fun h => (by cases h)), (by (try simp only [dq14, dq16]) <;> first | exact h14 | exact fun _ => trivial | exact fun h => (by cases h)), (by (try simp only [dq13, dq14]) <;> first | exact hx | exact fun _ => trivial | exact fun h => (by cases h)), (by (try simp only [dq3, dq8]) <;> first | exact h83 | exact fun _ => trivial | exact fun h => (by cases h)), (by (try simp only [dq5, dq8]) <;> first | exact h85 | exact fun _ => trivial | exact fun h => (by cases h)), (by (try simp only [dq7, dq8]) <;> first | exact h87 | exact fun _ => trivial | exact fun h => (by cases h)), (by (try simp only [dq8, dq9]) <;> first | exact h98 | exact fun _ => trivial | exact fun h => (by cases h)), (by (try simp only [dq9, dq10]) <;> first | exact h109 | exact fun _ => trivial | exact fun h => (by cases h)), (by (try simp only [dq9, dq11]) <;> first | exact h119 | exact fun _ => trivial | exact fun h => (by cases h)), (by (try simp only [dq8, dq15]) <;> first | exact h158 | exact fun _ => trivial | exact fun h => (by cases h)), (by (try simp only [dq8, dq16]) <;> first | exact h168 | exact fun _ => trivial | exact fun h => (by cases h)), (by (try simp only [dq13, dq15]) <;> first | exact h1513 | exact fun _ => trivial | exact fun h => (by cases h)), (by (try simp only [dq14, dq16]) <;> first | exact h1614 | exact fun _ => trivial | exact fun h => (by cases h))⟩
        · skip
          have dq3 := dOt 1 3 (l := l)
          have dq5 := dOt 1 5 (l := l)
          have dq7 := dOt 1 7 (l := l)
          have dq8 := dOt 1 8 (l := l)
          have dq9 := dOt 1 9 (l := l)
          have dq10 := dOt 1 10 (l := l)
          have dq11 := dOt 1 11 (l := l)
          have dq13 := dOt 1 13 (l := l)
          have dq14 := dOt 1 14 (l := l)
          have dq15 := dOt 1 15 (l := l)
          have dq16 := dOt 1 16 (l := l)
          obtain ⟨c0, c1, c2, c3, cf⟩ := hL.t5.facts4
          exact opJ_load (v := .agg #[.int .i64 s.vo, .int .i64 s.re, .slice s.uA s.un s.uc, .slice s.gA s.gn s.gc]) rfl rfl 35 (.tmp 5) (.pointer (some ⟨T5, 0, none⟩)) rfl (by simp only [pEo 44 5, pEo 45 5, pEo 46 5, pEo 47 5, pEo 48 5, pEo 49 5, pEo 50 5, pEo 51 5, pEo 52 5, pEo 43 5, pEo 53 5, pEo 54 5, pEo 55 5, pEo 10 5, pEo 11 5, pEo 12 5]; rfl) (by simp [go_sem, c0, c1, c2, c3]) ⟨xa, xb, i1, i2, i3, L, T, Sp, O, pw, st, s2, S2, (by show Act.put _ (some 45) _ = _; simp only [pPu 44 45, hz, putIf_here2, done_same hl, dOt 1 0, dOt 1 2, dq3, dOt 1 4, dq5, dOt 1 6, dq7, dq8, dq9, dq10, dq11, dOt 1 12, dq13, dq14, dOt 1 17]), (by (try simp only [dq3, dq5, dq7, dq8, dq9, dq10, dq11, dq13, dq14, dq15, dq16]) <;> first | exact hL | exact fun _ => trivial | exact fun h => (by cases h)), (by (try simp only [dq3, dq5, dq7, dq8, dq9, dq10, dq11, dq13, dq14, dq15, dq16]) <;> first | exact hzw | exact fun _ => trivial | exact fun h => (by cases h)), (by (try simp only [dq3]) <;> first | exact h3 | exact fun _ => trivial | exact fun h => (by cases h)), (by (try simp only [dq5]) <;> first | exact h5 | exact fun _ => trivial | exact fun h => (by cases h)), (by (try simp only [dq7]) <;> first | exact h7 | exact fun _ => trivial | exact fun h => (by cases h)), (by (try simp only [dq8, dq13, dq14]) <;> first | exact h8 | exact fun _ => trivial | exact fun h => (by cases h)), (by (try simp only [dq13, dq15]) <;> first | exact h13 | exact fun _ => trivial | exact fun h => (by cases h)), (by (try simp only [dq14, dq16]) <;> first | exact h14 | exact fun _ => trivial | exact fun h => (by cases h)), (by (try simp only [dq13, dq14]) <;> first | exact hx | exact fun _ => trivial | exact fun h => (by cases h)), (by (try simp only [dq3, dq8]) <;> first | exact h83 | exact fun _ => trivial | exact fun h => (by cases h)), (by (try simp only [dq5, dq8]) <;> first | exact h85 | exact fun _ => trivial | exact fun h => (by cases h)), (by (try simp only [dq7, dq8]) <;> first | exact h87 | exact fun _ => trivial | exact fun h => (by cases h)), (by (try simp only [dq8, dq9]) <;> first | exact h98 | exact fun _ => trivial | exact fun h => (by cases h)), (by (try simp only [dq9, dq10]) <;> first | exact h109 | exact fun _ => trivial | exact fun h => (by cases h)), (by (try simp only [dq9, dq11]) <;> first | exact h119 | exact fun _ => trivial | exact fun h => (by cases h)), (by (try simp only [dq8, dq15]) <;> first | exact h158 | exact fun _ => trivial | exact fun h => (by cases h)), (by (try simp only [dq8, dq16]) <;> first | exact h168 | exact fun _ => trivial | exact fun h => (by cases h)), (by (try simp only [dq13, dq15]) <;> first | exact h1513 | exact fun _ => trivial | exact fun h => (by cases h)), (by (try simp only [dq14, dq16]) <;> first | exact h1614 | exact fun _ => trivial | exact fun h => (by cases h))⟩
        · skip
          have dq3 := dOt 2 3 (l := l)
          have dq5 := dOt 2 5 (l := l)
          have dq7 := dOt 2 7 (l := l)
          have dq8 := dOt 2 8 (l := l)
          have dq9 := dOt 2 9 (l := l)
          have dq10 := dOt 2 10 (l := l)
          have dq11 := dOt 2 11 (l := l)
          have dq13 := dOt 2 13 (l := l)
          have dq14 := dOt 2 14 (l := l)
          have dq15 := dOt 2 15 (l := l)
          have dq16 := dOt 2 16 (l := l)
          exact opJ_move (v := .pointer (some ⟨b, 0, none⟩)) rfl rfl (.tmp 3) rfl (by simp only [pEo 44 3, pEo 45 3, pEo 46 3, pEo 47 3, pEo 48 3, pEo 49 3, pEo 50 3, pEo 51 3, pEo 52 3, pEo 43 3, pEo 53 3, pEo 54 3, pEo 55 3, pEo 10 3, pEo 11 3, pEo 12 3]; rfl) ⟨xa, xb, i1, i2, i3, L, T, Sp, O, pw, st, s2, S2, (by show Act.put _ (some 46) _ = _; simp only [pPu 44 46, pPu 45 46, hz, putIf_here2, done_same hl, dOt 2 0, dOt 2 1, dq3, dOt 2 4, dq5, dOt 2 6, dq7, dq8, dq9, dq10, dq11, dOt 2 12, dq13, dq14, dOt 2 17]), (by (try simp only [dq3, dq5, dq7, dq8, dq9, dq10, dq11, dq13, dq14, dq15, dq16]) <;> first | exact hL | exact fun _ => trivial | exact fun h => (by cases h)), (by (try simp only [dq3, dq5, dq7, dq8, dq9, dq10, dq11, dq13, dq14, dq15, dq16]) <;> first | exact hzw | exact fun _ => trivial | exact fun h => (by cases h)), (by (try simp only [dq3]) <;> first | exact h3 | exact fun _ => trivial | exact fun h => (by cases h)), (by (try simp only [dq5]) <;> first | exact h5 | exact fun _ => trivial | exact fun h => (by cases h)), (by (try simp only [dq7]) <;> first | exact h7 | exact fun _ => trivial | exact fun h => (by cases h)), (by (try simp only [dq8, dq13, dq14]) <;> first | exact h8 | exact fun _ => trivial | exact fun h => (by cases h)), (by (try simp only [dq13, dq15]) <;> first | exact h13 | exact fun _ => trivial | exact fun h => (by cases h)), (by (try simp only [dq14, dq16]) <;> first | exact h14 | exact fun _ => trivial | exact fun h => (by cases h)), (by (try simp only [dq13, dq14]) <;> first | exact hx | exact fun _ => trivial | exact fun h => (by cases h)), (by (try simp only [dq3, dq8]) <;> first | exact h83 | exact fun _ => trivial | exact fun h => (by cases h)), (by (try simp only [dq5, dq8]) <;> first | exact h85 | exact fun _ => trivial | exact fun h => (by cases h)), (by (try simp only [dq7, dq8]) <;> first | exact h87 | exact fun _ => trivial | exact fun h => (by cases h)), (by (try simp only [dq8, dq9]) <;> first | exact h98 | exact fun _ => trivial | exact fun h => (by cases h)), (by (try simp only [dq9, dq10]) <;> first | exact h109 | exact fun _ => trivial | exact fun h => (by cases h)), (by (try simp only [dq9, dq11]) <;> first | exact h119 | exact fun _ => trivial | exact fun h => (by cases h)), (by (try simp only [dq8, dq15]) <;> first | exact h158 | exact fun _ => trivial | exact fun h => (by cases h)), (by (try simp only [dq8, dq16]) <;> first | exact h168 | exact fun _ => trivial | exact fun h => (by cases h)), (by (try simp only [dq13, dq15]) <;> first | exact h1513 | exact fun _ => trivial | exact fun h => (by cases h)), (by (try simp only [dq14, dq16]) <;> first | exact h1614 | exact fun _ => trivial | exact fun h => (by cases h))⟩
        · skip
          have dq5 := dOt 3 5 (l := l)
          have dq7 := dOt 3 7 (l := l)
          have dq8 := dOt 3 8 (l := l)
          have dq9 := dOt 3 9 (l := l)
          have dq10 := dOt 3 10 (l := l)
          have dq11 := dOt 3 11 (l := l)
          have dq13 := dOt 3 13 (l := l)
          have dq14 := dOt 3 14 (l := l)
          have dq15 := dOt 3 15 (l := l)
          have dq16 := dOt 3 16 (l := l)
          have dn2 : done l 2 = true := by simp [Region.binds] at haf; simp [done, haf]
          have hd8 : done l 8 = false := by
            cases hc : done l 8
            · rfl
            · have := h83 hc; rw [hz] at this; cases this
          have hd9 : done l 9 = false := by
            cases hc : done l 9
            · rfl
            · have := h98 hc; rw [hd8] at this; cases this
          have hd10 : done l 10 = false := by
            cases hc : done l 10
            · rfl
            · have := h109 hc; rw [hd9] at this; cases this
          have hd11 : done l 11 = false := by
            cases hc : done l 11
            · rfl
            · have := h119 hc; rw [hd9] at this; cases this
          have hd15 : done l 15 = false := by
            cases hc : done l 15
            · rfl
            · have := h158 hc; rw [hd8] at this; cases this
          have hd16 : done l 16 = false := by
            cases hc : done l 16
            · rfl
            · have := h168 hc; rw [hd8] at this; cases this
          have e8 : ∀ (v : Value) (a : Act), putIf (done l 8) 52 v a = a := fun v a => by rw [hd8]; rfl
          have e9 : ∀ (v : Value) (a : Act), putIf (done l 9) 43 v a = a := fun v a => by rw [hd9]; rfl
          have e10 : ∀ (v : Value) (a : Act), putIf (done l 10) 53 v a = a := fun v a => by rw [hd10]; rfl
          have e11 : ∀ (v : Value) (a : Act), putIf (done l 11) 54 v a = a := fun v a => by rw [hd11]; rfl
          refine opJ_call rfl rfl 11 #[.tmp 46, .const (.int .i64 300)] _ #[.pointer (some ⟨b, 0, none⟩), .int .i64 300] rfl (map2J (by simp only [pEo 44 46, pEo 45 46]; rw [dn2]; exact putIf_eval_same (by simp [putIf_size])) rfl) cfNext ((next_any b 300 (by omega) w' hL.dk).mono ?_)
          rintro e w'' ⟨v', rfl, hv0, hv1, hD', hg', hsz'⟩
          simp only [hd15, hd16, sel_f] at h13 h14
          exact ⟨_, rfl, xa, xb, v', i2, i3, L, T, Sp, O, pw, st, s2, S2, (by show Act.put _ (some 47) _ = _; simp only [e8, e9, e10, e11, pPu 44 47, pPu 45 47, pPu 46 47, hz, putIf_here2, done_same hl, dOt 3 0, dOt 3 1, dOt 3 2, dOt 3 4, dq5, dOt 3 6, dq7, dq8, dq9, dq10, dq11, dOt 3 12, dq13, dq14, dOt 3 17]), (by (try simp only [hd8, hd9, hd10, hd11, hd15, hd16, sel_f, done_same hl, dq5, dq7, dq8, dq9, dq10, dq11, dq13, dq14, dq15, dq16]) <;> first | exact hL.deck hg' hD' | exact fun _ => trivial | exact fun h => (by cases h)), (by (try simp only [hd8, hd9, hd10, hd11, hd15, hd16, sel_f, done_same hl, dq5, dq7, dq8, dq9, dq10, dq11, dq13, dq14, dq15, dq16]) <;> first | exact (by omega) | exact fun _ => trivial | exact fun h => (by cases h)), (by (try simp only [done_same hl]) <;> first | exact fun _ => (by omega) | exact fun _ => trivial | exact fun h => (by cases h)), (by (try simp only [dq5]) <;> first | exact h5 | exact fun _ => trivial | exact fun h => (by cases h)), (by (try simp only [dq7]) <;> first | exact h7 | exact fun _ => trivial | exact fun h => (by cases h)), (by (try simp only [hd8, dq8, dq13, dq14]) <;> first | exact fun h => (by cases h) | exact fun _ => trivial | exact fun h => (by cases h)), (by (try simp only [hd15, sel_f, dq13, dq15]) <;> first | exact fun h => ⟨(h13 h).1, (h13 h).2.only hg' (by have := (h13 h).1; have := hL5.blt; omega)⟩ | exact fun _ => trivial | exact fun h => (by cases h)), (by (try simp only [hd16, sel_f, dq14, dq16]) <;> first | exact fun h => ⟨(h14 h).1, (h14 h).2.only hg' (by have := (h14 h).1; have := hL5.blt; omega)⟩ | exact fun _ => trivial | exact fun h => (by cases h)), (by (try simp only [dq13, dq14]) <;> first | exact hx | exact fun _ => trivial | exact fun h => (by cases h)), (by (try simp only [hd8, done_same hl, dq8]) <;> first | exact fun h => (by cases h) | exact fun _ => trivial | exact fun h => (by cases h)), (by (try simp only [hd8, dq5, dq8]) <;> first | exact h85 | exact fun _ => trivial | exact fun h => (by cases h)), (by (try simp only [hd8, dq7, dq8]) <;> first | exact h87 | exact fun _ => trivial | exact fun h => (by cases h)), (by (try simp only [hd8, hd9, dq8, dq9]) <;> first | exact fun h => (by cases h) | exact fun _ => trivial | exact fun h => (by cases h)), (by (try simp only [hd9, hd10, dq9, dq10]) <;> first | exact h109 | exact fun _ => trivial | exact fun h => (by cases h)), (by (try simp only [hd9, hd11, dq9, dq11]) <;> first | exact h119 | exact fun _ => trivial | exact fun h => (by cases h)), (by (try simp only [hd8, hd15, dq8, dq15]) <;> first | exact h158 | exact fun _ => trivial | exact fun h => (by cases h)), (by (try simp only [hd8, hd16, dq8, dq16]) <;> first | exact h168 | exact fun _ => trivial | exact fun h => (by cases h)), (by (try simp only [hd15, dq13, dq15]) <;> first | exact h1513 | exact fun _ => trivial | exact fun h => (by cases h)), (by (try simp only [hd16, dq14, dq16]) <;> first | exact h1614 | exact fun _ => trivial | exact fun h => (by cases h))⟩
        · skip
          have dq3 := dOt 4 3 (l := l)
          have dq5 := dOt 4 5 (l := l)
          have dq7 := dOt 4 7 (l := l)
          have dq8 := dOt 4 8 (l := l)
          have dq9 := dOt 4 9 (l := l)
          have dq10 := dOt 4 10 (l := l)
          have dq11 := dOt 4 11 (l := l)
          have dq13 := dOt 4 13 (l := l)
          have dq14 := dOt 4 14 (l := l)
          have dq15 := dOt 4 15 (l := l)
          have dq16 := dOt 4 16 (l := l)
          exact opJ_move (v := .pointer (some ⟨b, 0, none⟩)) rfl rfl (.tmp 3) rfl (by simp only [pEo 44 3, pEo 45 3, pEo 46 3, pEo 47 3, pEo 48 3, pEo 49 3, pEo 50 3, pEo 51 3, pEo 52 3, pEo 43 3, pEo 53 3, pEo 54 3, pEo 55 3, pEo 10 3, pEo 11 3, pEo 12 3]; rfl) ⟨xa, xb, i1, i2, i3, L, T, Sp, O, pw, st, s2, S2, (by show Act.put _ (some 48) _ = _; simp only [pPu 44 48, pPu 45 48, pPu 46 48, pPu 47 48, hz, putIf_here2, done_same hl, dOt 4 0, dOt 4 1, dOt 4 2, dq3, dq5, dOt 4 6, dq7, dq8, dq9, dq10, dq11, dOt 4 12, dq13, dq14, dOt 4 17]), (by (try simp only [dq3, dq5, dq7, dq8, dq9, dq10, dq11, dq13, dq14, dq15, dq16]) <;> first | exact hL | exact fun _ => trivial | exact fun h => (by cases h)), (by (try simp only [dq3, dq5, dq7, dq8, dq9, dq10, dq11, dq13, dq14, dq15, dq16]) <;> first | exact hzw | exact fun _ => trivial | exact fun h => (by cases h)), (by (try simp only [dq3]) <;> first | exact h3 | exact fun _ => trivial | exact fun h => (by cases h)), (by (try simp only [dq5]) <;> first | exact h5 | exact fun _ => trivial | exact fun h => (by cases h)), (by (try simp only [dq7]) <;> first | exact h7 | exact fun _ => trivial | exact fun h => (by cases h)), (by (try simp only [dq8, dq13, dq14]) <;> first | exact h8 | exact fun _ => trivial | exact fun h => (by cases h)), (by (try simp only [dq13, dq15]) <;> first | exact h13 | exact fun _ => trivial | exact fun h => (by cases h)), (by (try simp only [dq14, dq16]) <;> first | exact h14 | exact fun _ => trivial | exact fun h => (by cases h)), (by (try simp only [dq13, dq14]) <;> first | exact hx | exact fun _ => trivial | exact fun h => (by cases h)), (by (try simp only [dq3, dq8]) <;> first | exact h83 | exact fun _ => trivial | exact fun h => (by cases h)), (by (try simp only [dq5, dq8]) <;> first | exact h85 | exact fun _ => trivial | exact fun h => (by cases h)), (by (try simp only [dq7, dq8]) <;> first | exact h87 | exact fun _ => trivial | exact fun h => (by cases h)), (by (try simp only [dq8, dq9]) <;> first | exact h98 | exact fun _ => trivial | exact fun h => (by cases h)), (by (try simp only [dq9, dq10]) <;> first | exact h109 | exact fun _ => trivial | exact fun h => (by cases h)), (by (try simp only [dq9, dq11]) <;> first | exact h119 | exact fun _ => trivial | exact fun h => (by cases h)), (by (try simp only [dq8, dq15]) <;> first | exact h158 | exact fun _ => trivial | exact fun h => (by cases h)), (by (try simp only [dq8, dq16]) <;> first | exact h168 | exact fun _ => trivial | exact fun h => (by cases h)), (by (try simp only [dq13, dq15]) <;> first | exact h1513 | exact fun _ => trivial | exact fun h => (by cases h)), (by (try simp only [dq14, dq16]) <;> first | exact h1614 | exact fun _ => trivial | exact fun h => (by cases h))⟩
        · skip
          have dq3 := dOt 5 3 (l := l)
          have dq7 := dOt 5 7 (l := l)
          have dq8 := dOt 5 8 (l := l)
          have dq9 := dOt 5 9 (l := l)
          have dq10 := dOt 5 10 (l := l)
          have dq11 := dOt 5 11 (l := l)
          have dq13 := dOt 5 13 (l := l)
          have dq14 := dOt 5 14 (l := l)
          have dq15 := dOt 5 15 (l := l)
          have dq16 := dOt 5 16 (l := l)
          have dn4 : done l 4 = true := by simp [Region.binds] at haf; simp [done, haf]
          have hd8 : done l 8 = false := by
            cases hc : done l 8
            · rfl
            · have := h85 hc; rw [hz] at this; cases this
          have hd9 : done l 9 = false := by
            cases hc : done l 9
            · rfl
            · have := h98 hc; rw [hd8] at this; cases this
          have hd10 : done l 10 = false := by
            cases hc : done l 10
            · rfl
            · have := h109 hc; rw [hd9] at this; cases this
          have hd11 : done l 11 = false := by
            cases hc : done l 11
            · rfl
            · have := h119 hc; rw [hd9] at this; cases this
          have hd15 : done l 15 = false := by
            cases hc : done l 15
            · rfl
            · have := h158 hc; rw [hd8] at this; cases this
          have hd16 : done l 16 = false := by
            cases hc : done l 16
            · rfl
            · have := h168 hc; rw [hd8] at this; cases this
          have e8 : ∀ (v : Value) (a : Act), putIf (done l 8) 52 v a = a := fun v a => by rw [hd8]; rfl
          have e9 : ∀ (v : Value) (a : Act), putIf (done l 9) 43 v a = a := fun v a => by rw [hd9]; rfl
          have e10 : ∀ (v : Value) (a : Act), putIf (done l 10) 53 v a = a := fun v a => by rw [hd10]; rfl
          have e11 : ∀ (v : Value) (a : Act), putIf (done l 11) 54 v a = a := fun v a => by rw [hd11]; rfl
          refine opJ_call rfl rfl 11 #[.tmp 48, .const (.int .i64 10)] _ #[.pointer (some ⟨b, 0, none⟩), .int .i64 10] rfl (map2J (by simp only [pEo 44 48, pEo 45 48, pEo 46 48, pEo 47 48]; rw [dn4]; exact putIf_eval_same (by simp [putIf_size])) rfl) cfNext ((next_any b 10 (by omega) w' hL.dk).mono ?_)
          rintro e w'' ⟨v', rfl, hv0, hv1, hD', hg', hsz'⟩
          simp only [hd15, hd16, sel_f] at h13 h14
          exact ⟨_, rfl, xa, xb, i1, v', i3, L, T, Sp, O, pw, st, s2, S2, (by show Act.put _ (some 49) _ = _; simp only [e8, e9, e10, e11, pPu 44 49, pPu 45 49, pPu 46 49, pPu 47 49, pPu 48 49, hz, putIf_here2, done_same hl, dOt 5 0, dOt 5 1, dOt 5 2, dq3, dOt 5 4, dOt 5 6, dq7, dq8, dq9, dq10, dq11, dOt 5 12, dq13, dq14, dOt 5 17]), (by (try simp only [hd8, hd9, hd10, hd11, hd15, hd16, sel_f, dq3, done_same hl, dq7, dq8, dq9, dq10, dq11, dq13, dq14, dq15, dq16]) <;> first | exact hL.deck hg' hD' | exact fun _ => trivial | exact fun h => (by cases h)), (by (try simp only [hd8, hd9, hd10, hd11, hd15, hd16, sel_f, dq3, done_same hl, dq7, dq8, dq9, dq10, dq11, dq13, dq14, dq15, dq16]) <;> first | exact (by omega) | exact fun _ => trivial | exact fun h => (by cases h)), (by (try simp only [dq3]) <;> first | exact h3 | exact fun _ => trivial | exact fun h => (by cases h)), (by (try simp only [done_same hl]) <;> first | exact fun _ => (by omega) | exact fun _ => trivial | exact fun h => (by cases h)), (by (try simp only [dq7]) <;> first | exact h7 | exact fun _ => trivial | exact fun h => (by cases h)), (by (try simp only [hd8, dq8, dq13, dq14]) <;> first | exact fun h => (by cases h) | exact fun _ => trivial | exact fun h => (by cases h)), (by (try simp only [hd15, sel_f, dq13, dq15]) <;> first | exact fun h => ⟨(h13 h).1, (h13 h).2.only hg' (by have := (h13 h).1; have := hL5.blt; omega)⟩ | exact fun _ => trivial | exact fun h => (by cases h)), (by (try simp only [hd16, sel_f, dq14, dq16]) <;> first | exact fun h => ⟨(h14 h).1, (h14 h).2.only hg' (by have := (h14 h).1; have := hL5.blt; omega)⟩ | exact fun _ => trivial | exact fun h => (by cases h)), (by (try simp only [dq13, dq14]) <;> first | exact hx | exact fun _ => trivial | exact fun h => (by cases h)), (by (try simp only [hd8, dq3, dq8]) <;> first | exact fun h => (by cases h) | exact fun _ => trivial | exact fun h => (by cases h)), (by (try simp only [hd8, done_same hl, dq8]) <;> first | exact h85 | exact fun _ => trivial | exact fun h => (by cases h)), (by (try simp only [hd8, dq7, dq8]) <;> first | exact h87 | exact fun _ => trivial | exact fun h => (by cases h)), (by (try simp only [hd8, hd9, dq8, dq9]) <;> first | exact fun h => (by cases h) | exact fun _ => trivial | exact fun h => (by cases h)), (by (try simp only [hd9, hd10, dq9, dq10]) <;> first | exact h109 | exact fun _ => trivial | exact fun h => (by cases h)), (by (try simp only [hd9, hd11, dq9, dq11]) <;> first | exact h119 | exact fun _ => trivial | exact fun h => (by cases h)), (by (try simp only [hd8, hd15, dq8, dq15]) <;> first | exact h158 | exact fun _ => trivial | exact fun h => (by cases h)), (by (try simp only [hd8, hd16, dq8, dq16]) <;> first | exact h168 | exact fun _ => trivial | exact fun h => (by cases h)), (by (try simp only [hd15, dq13, dq15]) <;> first | exact h1513 | exact fun _ => trivial | exact fun h => (by cases h)), (by (try simp only [hd16, dq14, dq16]) <;> first | exact h1614 | exact fun _ => trivial | exact fun h => (by cases h))⟩
        · skip
          have dq3 := dOt 6 3 (l := l)
          have dq5 := dOt 6 5 (l := l)
          have dq7 := dOt 6 7 (l := l)
          have dq8 := dOt 6 8 (l := l)
          have dq9 := dOt 6 9 (l := l)
          have dq10 := dOt 6 10 (l := l)
          have dq11 := dOt 6 11 (l := l)
          have dq13 := dOt 6 13 (l := l)
          have dq14 := dOt 6 14 (l := l)
          have dq15 := dOt 6 15 (l := l)
          have dq16 := dOt 6 16 (l := l)
          exact opJ_move (v := .pointer (some ⟨b, 0, none⟩)) rfl rfl (.tmp 3) rfl (by simp only [pEo 44 3, pEo 45 3, pEo 46 3, pEo 47 3, pEo 48 3, pEo 49 3, pEo 50 3, pEo 51 3, pEo 52 3, pEo 43 3, pEo 53 3, pEo 54 3, pEo 55 3, pEo 10 3, pEo 11 3, pEo 12 3]; rfl) ⟨xa, xb, i1, i2, i3, L, T, Sp, O, pw, st, s2, S2, (by show Act.put _ (some 50) _ = _; simp only [pPu 44 50, pPu 45 50, pPu 46 50, pPu 47 50, pPu 48 50, pPu 49 50, hz, putIf_here2, done_same hl, dOt 6 0, dOt 6 1, dOt 6 2, dq3, dOt 6 4, dq5, dq7, dq8, dq9, dq10, dq11, dOt 6 12, dq13, dq14, dOt 6 17]), (by (try simp only [dq3, dq5, dq7, dq8, dq9, dq10, dq11, dq13, dq14, dq15, dq16]) <;> first | exact hL | exact fun _ => trivial | exact fun h => (by cases h)), (by (try simp only [dq3, dq5, dq7, dq8, dq9, dq10, dq11, dq13, dq14, dq15, dq16]) <;> first | exact hzw | exact fun _ => trivial | exact fun h => (by cases h)), (by (try simp only [dq3]) <;> first | exact h3 | exact fun _ => trivial | exact fun h => (by cases h)), (by (try simp only [dq5]) <;> first | exact h5 | exact fun _ => trivial | exact fun h => (by cases h)), (by (try simp only [dq7]) <;> first | exact h7 | exact fun _ => trivial | exact fun h => (by cases h)), (by (try simp only [dq8, dq13, dq14]) <;> first | exact h8 | exact fun _ => trivial | exact fun h => (by cases h)), (by (try simp only [dq13, dq15]) <;> first | exact h13 | exact fun _ => trivial | exact fun h => (by cases h)), (by (try simp only [dq14, dq16]) <;> first | exact h14 | exact fun _ => trivial | exact fun h => (by cases h)), (by (try simp only [dq13, dq14]) <;> first | exact hx | exact fun _ => trivial | exact fun h => (by cases h)), (by (try simp only [dq3, dq8]) <;> first | exact h83 | exact fun _ => trivial | exact fun h => (by cases h)), (by (try simp only [dq5, dq8]) <;> first | exact h85 | exact fun _ => trivial | exact fun h => (by cases h)), (by (try simp only [dq7, dq8]) <;> first | exact h87 | exact fun _ => trivial | exact fun h => (by cases h)), (by (try simp only [dq8, dq9]) <;> first | exact h98 | exact fun _ => trivial | exact fun h => (by cases h)), (by (try simp only [dq9, dq10]) <;> first | exact h109 | exact fun _ => trivial | exact fun h => (by cases h)), (by (try simp only [dq9, dq11]) <;> first | exact h119 | exact fun _ => trivial | exact fun h => (by cases h)), (by (try simp only [dq8, dq15]) <;> first | exact h158 | exact fun _ => trivial | exact fun h => (by cases h)), (by (try simp only [dq8, dq16]) <;> first | exact h168 | exact fun _ => trivial | exact fun h => (by cases h)), (by (try simp only [dq13, dq15]) <;> first | exact h1513 | exact fun _ => trivial | exact fun h => (by cases h)), (by (try simp only [dq14, dq16]) <;> first | exact h1614 | exact fun _ => trivial | exact fun h => (by cases h))⟩
        · skip
          have dq3 := dOt 7 3 (l := l)
          have dq5 := dOt 7 5 (l := l)
          have dq8 := dOt 7 8 (l := l)
          have dq9 := dOt 7 9 (l := l)
          have dq10 := dOt 7 10 (l := l)
          have dq11 := dOt 7 11 (l := l)
          have dq13 := dOt 7 13 (l := l)
          have dq14 := dOt 7 14 (l := l)
          have dq15 := dOt 7 15 (l := l)
          have dq16 := dOt 7 16 (l := l)
          have dn6 : done l 6 = true := by simp [Region.binds] at haf; simp [done, haf]
          have hd8 : done l 8 = false := by
            cases hc : done l 8
            · rfl
            · have := h87 hc; rw [hz] at this; cases this
          have hd9 : done l 9 = false := by
            cases hc : done l 9
            · rfl
            · have := h98 hc; rw [hd8] at this; cases this
          have hd10 : done l 10 = false := by
            cases hc : done l 10
            · rfl
            · have := h109 hc; rw [hd9] at this; cases this
          have hd11 : done l 11 = false := by
            cases hc : done l 11
            · rfl
            · have := h119 hc; rw [hd9] at this; cases this
          have hd15 : done l 15 = false := by
            cases hc : done l 15
            · rfl
            · have := h158 hc; rw [hd8] at this; cases this
          have hd16 : done l 16 = false := by
            cases hc : done l 16
            · rfl
            · have := h168 hc; rw [hd8] at this; cases this
          have e8 : ∀ (v : Value) (a : Act), putIf (done l 8) 52 v a = a := fun v a => by rw [hd8]; rfl
          have e9 : ∀ (v : Value) (a : Act), putIf (done l 9) 43 v a = a := fun v a => by rw [hd9]; rfl
          have e10 : ∀ (v : Value) (a : Act), putIf (done l 10) 53 v a = a := fun v a => by rw [hd10]; rfl
          have e11 : ∀ (v : Value) (a : Act), putIf (done l 11) 54 v a = a := fun v a => by rw [hd11]; rfl
          refine opJ_call rfl rfl 11 #[.tmp 50, .const (.int .i64 80)] _ #[.pointer (some ⟨b, 0, none⟩), .int .i64 80] rfl (map2J (by simp only [pEo 44 50, pEo 45 50, pEo 46 50, pEo 47 50, pEo 48 50, pEo 49 50]; rw [dn6]; exact putIf_eval_same (by simp [putIf_size])) rfl) cfNext ((next_any b 80 (by omega) w' hL.dk).mono ?_)
          rintro e w'' ⟨v', rfl, hv0, hv1, hD', hg', hsz'⟩
          simp only [hd15, hd16, sel_f] at h13 h14
          exact ⟨_, rfl, xa, xb, i1, i2, v', L, T, Sp, O, pw, st, s2, S2, (by show Act.put _ (some 51) _ = _; simp only [e8, e9, e10, e11, pPu 44 51, pPu 45 51, pPu 46 51, pPu 47 51, pPu 48 51, pPu 49 51, pPu 50 51, hz, putIf_here2, done_same hl, dOt 7 0, dOt 7 1, dOt 7 2, dq3, dOt 7 4, dq5, dOt 7 6, dq8, dq9, dq10, dq11, dOt 7 12, dq13, dq14, dOt 7 17]), (by (try simp only [hd8, hd9, hd10, hd11, hd15, hd16, sel_f, dq3, dq5, done_same hl, dq8, dq9, dq10, dq11, dq13, dq14, dq15, dq16]) <;> first | exact hL.deck hg' hD' | exact fun _ => trivial | exact fun h => (by cases h)), (by (try simp only [hd8, hd9, hd10, hd11, hd15, hd16, sel_f, dq3, dq5, done_same hl, dq8, dq9, dq10, dq11, dq13, dq14, dq15, dq16]) <;> first | exact (by omega) | exact fun _ => trivial | exact fun h => (by cases h)), (by (try simp only [dq3]) <;> first | exact h3 | exact fun _ => trivial | exact fun h => (by cases h)), (by (try simp only [dq5]) <;> first | exact h5 | exact fun _ => trivial | exact fun h => (by cases h)), (by (try simp only [done_same hl]) <;> first | exact fun _ => (by omega) | exact fun _ => trivial | exact fun h => (by cases h)), (by (try simp only [hd8, dq8, dq13, dq14]) <;> first | exact fun h => (by cases h) | exact fun _ => trivial | exact fun h => (by cases h)), (by (try simp only [hd15, sel_f, dq13, dq15]) <;> first | exact fun h => ⟨(h13 h).1, (h13 h).2.only hg' (by have := (h13 h).1; have := hL5.blt; omega)⟩ | exact fun _ => trivial | exact fun h => (by cases h)), (by (try simp only [hd16, sel_f, dq14, dq16]) <;> first | exact fun h => ⟨(h14 h).1, (h14 h).2.only hg' (by have := (h14 h).1; have := hL5.blt; omega)⟩ | exact fun _ => trivial | exact fun h => (by cases h)), (by (try simp only [dq13, dq14]) <;> first | exact hx | exact fun _ => trivial | exact fun h => (by cases h)), (by (try simp only [hd8, dq3, dq8]) <;> first | exact fun h => (by cases h) | exact fun _ => trivial | exact fun h => (by cases h)), (by (try simp only [hd8, dq5, dq8]) <;> first | exact h85 | exact fun _ => trivial | exact fun h => (by cases h)), (by (try simp only [hd8, done_same hl, dq8]) <;> first | exact h87 | exact fun _ => trivial | exact fun h => (by cases h)), (by (try simp only [hd8, hd9, dq8, dq9]) <;> first | exact fun h => (by cases h) | exact fun _ => trivial | exact fun h => (by cases h)), (by (try simp only [hd9, hd10, dq9, dq10]) <;> first | exact h109 | exact fun _ => trivial | exact fun h => (by cases h)), (by (try simp only [hd9, hd11, dq9, dq11]) <;> first | exact h119 | exact fun _ => trivial | exact fun h => (by cases h)), (by (try simp only [hd8, hd15, dq8, dq15]) <;> first | exact h158 | exact fun _ => trivial | exact fun h => (by cases h)), (by (try simp only [hd8, hd16, dq8, dq16]) <;> first | exact h168 | exact fun _ => trivial | exact fun h => (by cases h)), (by (try simp only [hd15, dq13, dq15]) <;> first | exact h1513 | exact fun _ => trivial | exact fun h => (by cases h)), (by (try simp only [hd16, dq14, dq16]) <;> first | exact h1614 | exact fun _ => trivial | exact fun h => (by cases h))⟩
        · skip
          have dq3 := dOt 8 3 (l := l)
          have dq5 := dOt 8 5 (l := l)
          have dq7 := dOt 8 7 (l := l)
          have dq9 := dOt 8 9 (l := l)
          have dq10 := dOt 8 10 (l := l)
          have dq11 := dOt 8 11 (l := l)
          have dq13 := dOt 8 13 (l := l)
          have dq14 := dOt 8 14 (l := l)
          have dq15 := dOt 8 15 (l := l)
          have dq16 := dOt 8 16 (l := l)
          have dn0 : done l 0 = true := by simp [Region.binds] at haf; simp [done, haf]
          have dn1 : done l 1 = true := by simp [Region.binds] at haf; simp [done, haf]
          have dn3 : done l 3 = true := by simp [Region.binds] at haf; simp [done, haf]
          have dn5 : done l 5 = true := by simp [Region.binds] at haf; simp [done, haf]
          have dn7 : done l 7 = true := by simp [Region.binds] at haf; simp [done, haf]
          have hd8 := hz
          have hd9 : done l 9 = false := by
            cases hc : done l 9
            · rfl
            · have := h98 hc; rw [hd8] at this; cases this
          have hd10 : done l 10 = false := by
            cases hc : done l 10
            · rfl
            · have := h109 hc; rw [hd9] at this; cases this
          have hd11 : done l 11 = false := by
            cases hc : done l 11
            · rfl
            · have := h119 hc; rw [hd9] at this; cases this
          have hd15 : done l 15 = false := by
            cases hc : done l 15
            · rfl
            · have := h158 hc; rw [hd8] at this; cases this
          have hd16 : done l 16 = false := by
            cases hc : done l 16
            · rfl
            · have := h168 hc; rw [hd8] at this; cases this
          have e8 : ∀ (v : Value) (a : Act), putIf (done l 8) 52 v a = a := fun v a => by rw [hd8]; rfl
          have e9 : ∀ (v : Value) (a : Act), putIf (done l 9) 43 v a = a := fun v a => by rw [hd9]; rfl
          have e10 : ∀ (v : Value) (a : Act), putIf (done l 10) 53 v a = a := fun v a => by rw [hd10]; rfl
          have e11 : ∀ (v : Value) (a : Act), putIf (done l 11) 54 v a = a := fun v a => by rw [hd11]; rfl
          simp only [hd15, hd16, sel_f] at h13 h14
          refine opJ_call rfl rfl 12 #[.tmp 44, .tmp 45, .tmp 47, .tmp 49, .tmp 51] _ #[.agg #[.slice d.r.st.A d.r.st.n d.r.st.c, .int .i64 d.r.de, .int .i64 d.r.lw, .int .i64 d.r.fu, .int .i64 d.r.su, .int .i64 d.r.cr, .slice d.uA d.un d.uc, .slice d.gA d.gn d.gc, .int .i64 d.gr], .agg #[.int .i64 s.vo, .int .i64 s.re, .slice s.uA s.un s.uc, .slice s.gA s.gn s.gc], .int .i64 i1, .int .i64 i2, .int .i64 i3] rfl (map5J (by rw [dn0]; exact putIf_eval_same (by simp [putIf_size])) (by simp only [pEo 44 45]; rw [dn1]; exact putIf_eval_same (by simp [putIf_size])) (by simp only [pEo 44 47, pEo 45 47, pEo 46 47]; rw [dn3]; exact putIf_eval_same (by simp [putIf_size])) (by simp only [pEo 44 49, pEo 45 49, pEo 46 49, pEo 47 49, pEo 48 49]; rw [dn5]; exact putIf_eval_same (by simp [putIf_size])) (by simp only [pEo 44 51, pEo 45 51, pEo 46 51, pEo 47 51, pEo 48 51, pEo 49 51, pEo 50 51]; rw [dn7]; exact putIf_eval_same (by simp [putIf_size]))) cfStep ((HSP.out i1 i2 i3 w' (by have := h3 dn3; omega) (by have := h5 dn5; omega) (by have := h7 dn7; omega) hL.hd.out hL.hs.out).mono ?_)
          rintro e w'' ⟨L', T', Sp', O', pw', st', s2', rfl, hQ', hr1', hr2', hb'⟩
          have hH' := held_two hr1' hr2'
          exact ⟨_, rfl, xa, xb, i1, i2, i3, L', T', Sp', O', pw', st', s2', _, (by show Act.put _ (some 52) _ = _; simp only [e9, e10, e11, pPu 44 52, pPu 45 52, pPu 46 52, pPu 47 52, pPu 48 52, pPu 49 52, pPu 50 52, pPu 51 52, hz, putIf_here2, done_same hl, dOt 8 0, dOt 8 1, dOt 8 2, dq3, dOt 8 4, dq5, dOt 8 6, dq7, dq9, dq10, dq11, dOt 8 12, dq13, dq14, dOt 8 17] <;> rfl), (by (try simp only [hd9, hd10, hd11, hd15, hd16, sel_f, dq3, dq5, dq7, done_same hl, dq9, dq10, dq11, dq13, dq14, dq15, dq16]) <;> first | exact hL.below hb' | exact fun _ => trivial | exact fun h => (by cases h)), (by (try simp only [hd9, hd10, hd11, hd15, hd16, sel_f, dq3, dq5, dq7, done_same hl, dq9, dq10, dq11, dq13, dq14, dq15, dq16]) <;> first | exact Nat.le_trans hzw hb'.size | exact fun _ => trivial | exact fun h => (by cases h)), (by (try simp only [dq3]) <;> first | exact h3 | exact fun _ => trivial | exact fun h => (by cases h)), (by (try simp only [dq5]) <;> first | exact h5 | exact fun _ => trivial | exact fun h => (by cases h)), (by (try simp only [dq7]) <;> first | exact h7 | exact fun _ => trivial | exact fun h => (by cases h)), (by (try simp only [done_same hl, dq13, dq14]) <;> first | exact fun _ => ⟨hQ', hH', fun i hi => Nat.le_trans hzw (two_ge hr1' hr2' i hi), fun h hi => (by have := (h13 h).2.lt; have := two_ge hr1' hr2' _ hi; omega), fun h hi => (by have := (h14 h).2.lt; have := two_ge hr1' hr2' _ hi; omega)⟩ | exact fun _ => trivial | exact fun h => (by cases h)), (by (try simp only [hd15, sel_f, dq13, dq15]) <;> first | exact fun h => ⟨(h13 h).1, (h13 h).2.below hb' (h13 h).2.lt⟩ | exact fun _ => trivial | exact fun h => (by cases h)), (by (try simp only [hd16, sel_f, dq14, dq16]) <;> first | exact fun h => ⟨(h14 h).1, (h14 h).2.below hb' (h14 h).2.lt⟩ | exact fun _ => trivial | exact fun h => (by cases h)), (by (try simp only [dq13, dq14]) <;> first | exact hx | exact fun _ => trivial | exact fun h => (by cases h)), (by (try simp only [dq3, done_same hl]) <;> first | exact fun _ => dn3 | exact fun _ => trivial | exact fun h => (by cases h)), (by (try simp only [dq5, done_same hl]) <;> first | exact fun _ => dn5 | exact fun _ => trivial | exact fun h => (by cases h)), (by (try simp only [dq7, done_same hl]) <;> first | exact fun _ => dn7 | exact fun _ => trivial | exact fun h => (by cases h)), (by (try simp only [hd9, done_same hl, dq9]) <;> first | exact fun h => (by cases h) | exact fun _ => trivial | exact fun h => (by cases h)), (by (try simp only [hd9, hd10, dq9, dq10]) <;> first | exact h109 | exact fun _ => trivial | exact fun h => (by cases h)), (by (try simp only [hd9, hd11, dq9, dq11]) <;> first | exact h119 | exact fun _ => trivial | exact fun h => (by cases h)), (by (try simp only [hd15, done_same hl, dq15]) <;> first | exact h158 | exact fun _ => trivial | exact fun h => (by cases h)), (by (try simp only [hd16, done_same hl, dq16]) <;> first | exact h168 | exact fun _ => trivial | exact fun h => (by cases h)), (by (try simp only [hd15, dq13, dq15]) <;> first | exact h1513 | exact fun _ => trivial | exact fun h => (by cases h)), (by (try simp only [hd16, dq14, dq16]) <;> first | exact h1614 | exact fun _ => trivial | exact fun h => (by cases h))⟩
        · skip
          have dq3 := dOt 9 3 (l := l)
          have dq5 := dOt 9 5 (l := l)
          have dq7 := dOt 9 7 (l := l)
          have dq8 := dOt 9 8 (l := l)
          have dq10 := dOt 9 10 (l := l)
          have dq11 := dOt 9 11 (l := l)
          have dq13 := dOt 9 13 (l := l)
          have dq14 := dOt 9 14 (l := l)
          have dq15 := dOt 9 15 (l := l)
          have dq16 := dOt 9 16 (l := l)
          have dn8 : done l 8 = true := by simp [Region.binds] at haf; simp [done, haf]
          exact opJ_move (v := .tuple #[.agg #[.int .i64 s2.vo, .int .i64 s2.re, .slice s2.uA s2.un s2.uc, .slice s2.gA s2.gn s2.gc], .agg #[.int .i64 i1, .int .i64 L, .int .i64 T, .int .i64 Sp, .int .i64 O, .int .i64 pw, .int .i64 st], .int .i64 0]) rfl rfl (.tmp 52) rfl (by simp only [pEo 44 52, pEo 45 52, pEo 46 52, pEo 47 52, pEo 48 52, pEo 49 52, pEo 50 52, pEo 51 52]; rw [dn8]; exact putIf_eval_same (by simp [putIf_size])) ⟨xa, xb, i1, i2, i3, L, T, Sp, O, pw, st, s2, S2, (by show Act.put _ (some 43) _ = _; simp only [pPu 44 43, pPu 45 43, pPu 46 43, pPu 47 43, pPu 48 43, pPu 49 43, pPu 50 43, pPu 51 43, pPu 52 43, hz, putIf_here2, done_same hl, dOt 9 0, dOt 9 1, dOt 9 2, dq3, dOt 9 4, dq5, dOt 9 6, dq7, dq8, dq10, dq11, dOt 9 12, dq13, dq14, dOt 9 17]), (by (try simp only [dq3, dq5, dq7, dq8, done_same hl, dq10, dq11, dq13, dq14, dq15, dq16]) <;> first | exact hL | exact fun _ => trivial | exact fun h => (by cases h)), (by (try simp only [dq3, dq5, dq7, dq8, done_same hl, dq10, dq11, dq13, dq14, dq15, dq16]) <;> first | exact hzw | exact fun _ => trivial | exact fun h => (by cases h)), (by (try simp only [dq3]) <;> first | exact h3 | exact fun _ => trivial | exact fun h => (by cases h)), (by (try simp only [dq5]) <;> first | exact h5 | exact fun _ => trivial | exact fun h => (by cases h)), (by (try simp only [dq7]) <;> first | exact h7 | exact fun _ => trivial | exact fun h => (by cases h)), (by (try simp only [dq8, dq13, dq14]) <;> first | exact h8 | exact fun _ => trivial | exact fun h => (by cases h)), (by (try simp only [dq13, dq15]) <;> first | exact h13 | exact fun _ => trivial | exact fun h => (by cases h)), (by (try simp only [dq14, dq16]) <;> first | exact h14 | exact fun _ => trivial | exact fun h => (by cases h)), (by (try simp only [dq13, dq14]) <;> first | exact hx | exact fun _ => trivial | exact fun h => (by cases h)), (by (try simp only [dq3, dq8]) <;> first | exact h83 | exact fun _ => trivial | exact fun h => (by cases h)), (by (try simp only [dq5, dq8]) <;> first | exact h85 | exact fun _ => trivial | exact fun h => (by cases h)), (by (try simp only [dq7, dq8]) <;> first | exact h87 | exact fun _ => trivial | exact fun h => (by cases h)), (by (try simp only [dq8, done_same hl]) <;> first | exact fun _ => dn8 | exact fun _ => trivial | exact fun h => (by cases h)), (by (try simp only [done_same hl, dq10]) <;> first | exact h109 | exact fun _ => trivial | exact fun h => (by cases h)), (by (try simp only [done_same hl, dq11]) <;> first | exact h119 | exact fun _ => trivial | exact fun h => (by cases h)), (by (try simp only [dq8, dq15]) <;> first | exact h158 | exact fun _ => trivial | exact fun h => (by cases h)), (by (try simp only [dq8, dq16]) <;> first | exact h168 | exact fun _ => trivial | exact fun h => (by cases h)), (by (try simp only [dq13, dq15]) <;> first | exact h1513 | exact fun _ => trivial | exact fun h => (by cases h)), (by (try simp only [dq14, dq16]) <;> first | exact h1614 | exact fun _ => trivial | exact fun h => (by cases h))⟩
        · skip
          have dq3 := dOt 10 3 (l := l)
          have dq5 := dOt 10 5 (l := l)
          have dq7 := dOt 10 7 (l := l)
          have dq8 := dOt 10 8 (l := l)
          have dq9 := dOt 10 9 (l := l)
          have dq11 := dOt 10 11 (l := l)
          have dq13 := dOt 10 13 (l := l)
          have dq14 := dOt 10 14 (l := l)
          have dq15 := dOt 10 15 (l := l)
          have dq16 := dOt 10 16 (l := l)
          have dn9 : done l 9 = true := by simp [Region.binds] at haf; simp [done, haf]
          exact opJ_extract (v := .agg #[.int .i64 s2.vo, .int .i64 s2.re, .slice s2.uA s2.un s2.uc, .slice s2.gA s2.gn s2.gc]) rfl rfl (.tmp 43) 0 (.tuple #[.agg #[.int .i64 s2.vo, .int .i64 s2.re, .slice s2.uA s2.un s2.uc, .slice s2.gA s2.gn s2.gc], .agg #[.int .i64 i1, .int .i64 L, .int .i64 T, .int .i64 Sp, .int .i64 O, .int .i64 pw, .int .i64 st], .int .i64 0]) rfl (by simp only [pEo 44 43, pEo 45 43, pEo 46 43, pEo 47 43, pEo 48 43, pEo 49 43, pEo 50 43, pEo 51 43, pEo 52 43]; rw [dn9]; exact putIf_eval_same (by simp [putIf_size])) (by simp [go_sem]) ⟨xa, xb, i1, i2, i3, L, T, Sp, O, pw, st, s2, S2, (by show Act.put _ (some 53) _ = _; simp only [pPu 44 53, pPu 45 53, pPu 46 53, pPu 47 53, pPu 48 53, pPu 49 53, pPu 50 53, pPu 51 53, pPu 52 53, pPu 43 53, hz, putIf_here2, done_same hl, dOt 10 0, dOt 10 1, dOt 10 2, dq3, dOt 10 4, dq5, dOt 10 6, dq7, dq8, dq9, dq11, dOt 10 12, dq13, dq14, dOt 10 17]), (by (try simp only [dq3, dq5, dq7, dq8, dq9, done_same hl, dq11, dq13, dq14, dq15, dq16]) <;> first | exact hL | exact fun _ => trivial | exact fun h => (by cases h)), (by (try simp only [dq3, dq5, dq7, dq8, dq9, done_same hl, dq11, dq13, dq14, dq15, dq16]) <;> first | exact hzw | exact fun _ => trivial | exact fun h => (by cases h)), (by (try simp only [dq3]) <;> first | exact h3 | exact fun _ => trivial | exact fun h => (by cases h)), (by (try simp only [dq5]) <;> first | exact h5 | exact fun _ => trivial | exact fun h => (by cases h)), (by (try simp only [dq7]) <;> first | exact h7 | exact fun _ => trivial | exact fun h => (by cases h)), (by (try simp only [dq8, dq13, dq14]) <;> first | exact h8 | exact fun _ => trivial | exact fun h => (by cases h)), (by (try simp only [dq13, dq15]) <;> first | exact h13 | exact fun _ => trivial | exact fun h => (by cases h)), (by (try simp only [dq14, dq16]) <;> first | exact h14 | exact fun _ => trivial | exact fun h => (by cases h)), (by (try simp only [dq13, dq14]) <;> first | exact hx | exact fun _ => trivial | exact fun h => (by cases h)), (by (try simp only [dq3, dq8]) <;> first | exact h83 | exact fun _ => trivial | exact fun h => (by cases h)), (by (try simp only [dq5, dq8]) <;> first | exact h85 | exact fun _ => trivial | exact fun h => (by cases h)), (by (try simp only [dq7, dq8]) <;> first | exact h87 | exact fun _ => trivial | exact fun h => (by cases h)), (by (try simp only [dq8, dq9]) <;> first | exact h98 | exact fun _ => trivial | exact fun h => (by cases h)), (by (try simp only [dq9, done_same hl]) <;> first | exact fun _ => dn9 | exact fun _ => trivial | exact fun h => (by cases h)), (by (try simp only [dq9, dq11]) <;> first | exact h119 | exact fun _ => trivial | exact fun h => (by cases h)), (by (try simp only [dq8, dq15]) <;> first | exact h158 | exact fun _ => trivial | exact fun h => (by cases h)), (by (try simp only [dq8, dq16]) <;> first | exact h168 | exact fun _ => trivial | exact fun h => (by cases h)), (by (try simp only [dq13, dq15]) <;> first | exact h1513 | exact fun _ => trivial | exact fun h => (by cases h)), (by (try simp only [dq14, dq16]) <;> first | exact h1614 | exact fun _ => trivial | exact fun h => (by cases h))⟩
        · skip
          have dq3 := dOt 11 3 (l := l)
          have dq5 := dOt 11 5 (l := l)
          have dq7 := dOt 11 7 (l := l)
          have dq8 := dOt 11 8 (l := l)
          have dq9 := dOt 11 9 (l := l)
          have dq10 := dOt 11 10 (l := l)
          have dq13 := dOt 11 13 (l := l)
          have dq14 := dOt 11 14 (l := l)
          have dq15 := dOt 11 15 (l := l)
          have dq16 := dOt 11 16 (l := l)
          have dn9 : done l 9 = true := by simp [Region.binds] at haf; simp [done, haf]
          exact opJ_extract (v := .agg #[.int .i64 i1, .int .i64 L, .int .i64 T, .int .i64 Sp, .int .i64 O, .int .i64 pw, .int .i64 st]) rfl rfl (.tmp 43) 1 (.tuple #[.agg #[.int .i64 s2.vo, .int .i64 s2.re, .slice s2.uA s2.un s2.uc, .slice s2.gA s2.gn s2.gc], .agg #[.int .i64 i1, .int .i64 L, .int .i64 T, .int .i64 Sp, .int .i64 O, .int .i64 pw, .int .i64 st], .int .i64 0]) rfl (by simp only [pEo 44 43, pEo 45 43, pEo 46 43, pEo 47 43, pEo 48 43, pEo 49 43, pEo 50 43, pEo 51 43, pEo 52 43]; rw [dn9]; exact putIf_eval_same (by simp [putIf_size])) (by simp [go_sem]) ⟨xa, xb, i1, i2, i3, L, T, Sp, O, pw, st, s2, S2, (by show Act.put _ (some 54) _ = _; simp only [pPu 44 54, pPu 45 54, pPu 46 54, pPu 47 54, pPu 48 54, pPu 49 54, pPu 50 54, pPu 51 54, pPu 52 54, pPu 43 54, pPu 53 54, hz, putIf_here2, done_same hl, dOt 11 0, dOt 11 1, dOt 11 2, dq3, dOt 11 4, dq5, dOt 11 6, dq7, dq8, dq9, dq10, dOt 11 12, dq13, dq14, dOt 11 17]), (by (try simp only [dq3, dq5, dq7, dq8, dq9, dq10, done_same hl, dq13, dq14, dq15, dq16]) <;> first | exact hL | exact fun _ => trivial | exact fun h => (by cases h)), (by (try simp only [dq3, dq5, dq7, dq8, dq9, dq10, done_same hl, dq13, dq14, dq15, dq16]) <;> first | exact hzw | exact fun _ => trivial | exact fun h => (by cases h)), (by (try simp only [dq3]) <;> first | exact h3 | exact fun _ => trivial | exact fun h => (by cases h)), (by (try simp only [dq5]) <;> first | exact h5 | exact fun _ => trivial | exact fun h => (by cases h)), (by (try simp only [dq7]) <;> first | exact h7 | exact fun _ => trivial | exact fun h => (by cases h)), (by (try simp only [dq8, dq13, dq14]) <;> first | exact h8 | exact fun _ => trivial | exact fun h => (by cases h)), (by (try simp only [dq13, dq15]) <;> first | exact h13 | exact fun _ => trivial | exact fun h => (by cases h)), (by (try simp only [dq14, dq16]) <;> first | exact h14 | exact fun _ => trivial | exact fun h => (by cases h)), (by (try simp only [dq13, dq14]) <;> first | exact hx | exact fun _ => trivial | exact fun h => (by cases h)), (by (try simp only [dq3, dq8]) <;> first | exact h83 | exact fun _ => trivial | exact fun h => (by cases h)), (by (try simp only [dq5, dq8]) <;> first | exact h85 | exact fun _ => trivial | exact fun h => (by cases h)), (by (try simp only [dq7, dq8]) <;> first | exact h87 | exact fun _ => trivial | exact fun h => (by cases h)), (by (try simp only [dq8, dq9]) <;> first | exact h98 | exact fun _ => trivial | exact fun h => (by cases h)), (by (try simp only [dq9, dq10]) <;> first | exact h109 | exact fun _ => trivial | exact fun h => (by cases h)), (by (try simp only [dq9, done_same hl]) <;> first | exact fun _ => dn9 | exact fun _ => trivial | exact fun h => (by cases h)), (by (try simp only [dq8, dq15]) <;> first | exact h158 | exact fun _ => trivial | exact fun h => (by cases h)), (by (try simp only [dq8, dq16]) <;> first | exact h168 | exact fun _ => trivial | exact fun h => (by cases h)), (by (try simp only [dq13, dq15]) <;> first | exact h1513 | exact fun _ => trivial | exact fun h => (by cases h)), (by (try simp only [dq14, dq16]) <;> first | exact h1614 | exact fun _ => trivial | exact fun h => (by cases h))⟩
        · skip
          have dq3 := dOt 12 3 (l := l)
          have dq5 := dOt 12 5 (l := l)
          have dq7 := dOt 12 7 (l := l)
          have dq8 := dOt 12 8 (l := l)
          have dq9 := dOt 12 9 (l := l)
          have dq10 := dOt 12 10 (l := l)
          have dq11 := dOt 12 11 (l := l)
          have dq13 := dOt 12 13 (l := l)
          have dq14 := dOt 12 14 (l := l)
          have dq15 := dOt 12 15 (l := l)
          have dq16 := dOt 12 16 (l := l)
          have dn9 : done l 9 = true := by simp [Region.binds] at haf; simp [done, haf]
          exact opJ_extract (v := .int .i64 0) rfl rfl (.tmp 43) 2 (.tuple #[.agg #[.int .i64 s2.vo, .int .i64 s2.re, .slice s2.uA s2.un s2.uc, .slice s2.gA s2.gn s2.gc], .agg #[.int .i64 i1, .int .i64 L, .int .i64 T, .int .i64 Sp, .int .i64 O, .int .i64 pw, .int .i64 st], .int .i64 0]) rfl (by simp only [pEo 44 43, pEo 45 43, pEo 46 43, pEo 47 43, pEo 48 43, pEo 49 43, pEo 50 43, pEo 51 43, pEo 52 43]; rw [dn9]; exact putIf_eval_same (by simp [putIf_size])) (by simp [go_sem]) ⟨xa, xb, i1, i2, i3, L, T, Sp, O, pw, st, s2, S2, (by show Act.put _ (some 55) _ = _; simp only [pPu 44 55, pPu 45 55, pPu 46 55, pPu 47 55, pPu 48 55, pPu 49 55, pPu 50 55, pPu 51 55, pPu 52 55, pPu 43 55, pPu 53 55, pPu 54 55, hz, putIf_here2, done_same hl, dOt 12 0, dOt 12 1, dOt 12 2, dq3, dOt 12 4, dq5, dOt 12 6, dq7, dq8, dq9, dq10, dq11, dq13, dq14, dOt 12 17]), (by (try simp only [dq3, dq5, dq7, dq8, dq9, dq10, dq11, dq13, dq14, dq15, dq16]) <;> first | exact hL | exact fun _ => trivial | exact fun h => (by cases h)), (by (try simp only [dq3, dq5, dq7, dq8, dq9, dq10, dq11, dq13, dq14, dq15, dq16]) <;> first | exact hzw | exact fun _ => trivial | exact fun h => (by cases h)), (by (try simp only [dq3]) <;> first | exact h3 | exact fun _ => trivial | exact fun h => (by cases h)), (by (try simp only [dq5]) <;> first | exact h5 | exact fun _ => trivial | exact fun h => (by cases h)), (by (try simp only [dq7]) <;> first | exact h7 | exact fun _ => trivial | exact fun h => (by cases h)), (by (try simp only [dq8, dq13, dq14]) <;> first | exact h8 | exact fun _ => trivial | exact fun h => (by cases h)), (by (try simp only [dq13, dq15]) <;> first | exact h13 | exact fun _ => trivial | exact fun h => (by cases h)), (by (try simp only [dq14, dq16]) <;> first | exact h14 | exact fun _ => trivial | exact fun h => (by cases h)), (by (try simp only [dq13, dq14]) <;> first | exact hx | exact fun _ => trivial | exact fun h => (by cases h)), (by (try simp only [dq3, dq8]) <;> first | exact h83 | exact fun _ => trivial | exact fun h => (by cases h)), (by (try simp only [dq5, dq8]) <;> first | exact h85 | exact fun _ => trivial | exact fun h => (by cases h)), (by (try simp only [dq7, dq8]) <;> first | exact h87 | exact fun _ => trivial | exact fun h => (by cases h)), (by (try simp only [dq8, dq9]) <;> first | exact h98 | exact fun _ => trivial | exact fun h => (by cases h)), (by (try simp only [dq9, dq10]) <;> first | exact h109 | exact fun _ => trivial | exact fun h => (by cases h)), (by (try simp only [dq9, dq11]) <;> first | exact h119 | exact fun _ => trivial | exact fun h => (by cases h)), (by (try simp only [dq8, dq15]) <;> first | exact h158 | exact fun _ => trivial | exact fun h => (by cases h)), (by (try simp only [dq8, dq16]) <;> first | exact h168 | exact fun _ => trivial | exact fun h => (by cases h)), (by (try simp only [dq13, dq15]) <;> first | exact h1513 | exact fun _ => trivial | exact fun h => (by cases h)), (by (try simp only [dq14, dq16]) <;> first | exact h1614 | exact fun _ => trivial | exact fun h => (by cases h))⟩
        · skip
          have dq3 := dOt 13 3 (l := l)
          have dq5 := dOt 13 5 (l := l)
          have dq7 := dOt 13 7 (l := l)
          have dq8 := dOt 13 8 (l := l)
          have dq9 := dOt 13 9 (l := l)
          have dq10 := dOt 13 10 (l := l)
          have dq11 := dOt 13 11 (l := l)
          have dq14 := dOt 13 14 (l := l)
          have dq15 := dOt 13 15 (l := l)
          have dq16 := dOt 13 16 (l := l)
          have hd15 : done l 15 = false := by
            cases hc : done l 15
            · rfl
            · have := h1513 hc; rw [hz] at this; cases this
          exact opJ_alloc (v := .pointer (some ⟨w'.heap.size, 0, none⟩)) (w' := w'.alloc (.cells #[.int .i64 0, .int .i64 0, .slice none 0 0, .slice none 0 0] 35)) rfl rfl 35 rfl (by simp [go_sem]) ⟨w'.heap.size, xb, i1, i2, i3, L, T, Sp, O, pw, st, s2, S2, (by show Act.put _ (some 10) _ = _; simp only [pPu 44 10, pPu 45 10, pPu 46 10, pPu 47 10, pPu 48 10, pPu 49 10, pPu 50 10, pPu 51 10, pPu 52 10, pPu 43 10, pPu 53 10, pPu 54 10, pPu 55 10, hz, putIf_here2, done_same hl, dOt 13 0, dOt 13 1, dOt 13 2, dq3, dOt 13 4, dq5, dOt 13 6, dq7, dq8, dq9, dq10, dq11, dOt 13 12, dq14, dOt 13 17]), (by (try simp only [hd15, sel_f, dq3, dq5, dq7, dq8, dq9, dq10, dq11, done_same hl, dq14, dq15, dq16]) <;> first | exact hL.below bel1 | exact fun _ => trivial | exact fun h => (by cases h)), (by (try simp only [hd15, sel_f, dq3, dq5, dq7, dq8, dq9, dq10, dq11, done_same hl, dq14, dq15, dq16]) <;> first | exact (by simp only [World.size_alloc]; omega) | exact fun _ => trivial | exact fun h => (by cases h)), (by (try simp only [dq3]) <;> first | exact h3 | exact fun _ => trivial | exact fun h => (by cases h)), (by (try simp only [dq5]) <;> first | exact h5 | exact fun _ => trivial | exact fun h => (by cases h)), (by (try simp only [dq7]) <;> first | exact h7 | exact fun _ => trivial | exact fun h => (by cases h)), (by (try simp only [dq8, done_same hl, dq14]) <;> first | exact fun h => ⟨(h8 h).1, (h8 h).2.1.alloc _, (h8 h).2.2.1, fun _ hi => Nat.lt_irrefl _ ((h8 h).2.1.lt hi), (h8 h).2.2.2.2⟩ | exact fun _ => trivial | exact fun h => (by cases h)), (by (try simp only [hd15, sel_f, done_same hl, dq15]) <;> first | exact fun _ => ⟨hzw, Blk.new _ _ _⟩ | exact fun _ => trivial | exact fun h => (by cases h)), (by (try simp only [dq14, dq16]) <;> first | exact fun h => ⟨(h14 h).1, (h14 h).2.alloc _⟩ | exact fun _ => trivial | exact fun h => (by cases h)), (by (try simp only [done_same hl, dq14]) <;> first | exact fun _ h => (by have h9 := (h14 h).2.lt; omega) | exact fun _ => trivial | exact fun h => (by cases h)), (by (try simp only [dq3, dq8]) <;> first | exact h83 | exact fun _ => trivial | exact fun h => (by cases h)), (by (try simp only [dq5, dq8]) <;> first | exact h85 | exact fun _ => trivial | exact fun h => (by cases h)), (by (try simp only [dq7, dq8]) <;> first | exact h87 | exact fun _ => trivial | exact fun h => (by cases h)), (by (try simp only [dq8, dq9]) <;> first | exact h98 | exact fun _ => trivial | exact fun h => (by cases h)), (by (try simp only [dq9, dq10]) <;> first | exact h109 | exact fun _ => trivial | exact fun h => (by cases h)), (by (try simp only [dq9, dq11]) <;> first | exact h119 | exact fun _ => trivial | exact fun h => (by cases h)), (by (try simp only [hd15, dq8, dq15]) <;> first | exact h158 | exact fun _ => trivial | exact fun h => (by cases h)), (by (try simp only [dq8, dq16]) <;> first | exact h168 | exact fun _ => trivial | exact fun h => (by cases h)), (by (try simp only [hd15, done_same hl, dq15]) <;> first | exact h1513 | exact fun _ => trivial | exact fun h => (by cases h)), (by (try simp only [dq14, dq16]) <;> first | exact h1614 | exact fun _ => trivial | exact fun h => (by cases h))⟩
        · skip
          have dq3 := dOt 14 3 (l := l)
          have dq5 := dOt 14 5 (l := l)
          have dq7 := dOt 14 7 (l := l)
          have dq8 := dOt 14 8 (l := l)
          have dq9 := dOt 14 9 (l := l)
          have dq10 := dOt 14 10 (l := l)
          have dq11 := dOt 14 11 (l := l)
          have dq13 := dOt 14 13 (l := l)
          have dq15 := dOt 14 15 (l := l)
          have dq16 := dOt 14 16 (l := l)
          have hd16 : done l 16 = false := by
            cases hc : done l 16
            · rfl
            · have := h1614 hc; rw [hz] at this; cases this
          exact opJ_alloc (v := .pointer (some ⟨w'.heap.size, 0, none⟩)) (w' := w'.alloc (.cells #[.int .i64 0, .int .i64 0, .int .i64 0, .int .i64 0, .int .i64 0, .int .i64 0, .int .i64 0] 53)) rfl rfl 53 rfl (by simp [go_sem]) ⟨xa, w'.heap.size, i1, i2, i3, L, T, Sp, O, pw, st, s2, S2, (by show Act.put _ (some 11) _ = _; simp only [pPu 44 11, pPu 45 11, pPu 46 11, pPu 47 11, pPu 48 11, pPu 49 11, pPu 50 11, pPu 51 11, pPu 52 11, pPu 43 11, pPu 53 11, pPu 54 11, pPu 55 11, pPu 10 11, hz, putIf_here2, done_same hl, dOt 14 0, dOt 14 1, dOt 14 2, dq3, dOt 14 4, dq5, dOt 14 6, dq7, dq8, dq9, dq10, dq11, dOt 14 12, dq13, dOt 14 17]), (by (try simp only [hd16, sel_f, dq3, dq5, dq7, dq8, dq9, dq10, dq11, dq13, done_same hl, dq15, dq16]) <;> first | exact hL.below bel1 | exact fun _ => trivial | exact fun h => (by cases h)), (by (try simp only [hd16, sel_f, dq3, dq5, dq7, dq8, dq9, dq10, dq11, dq13, done_same hl, dq15, dq16]) <;> first | exact (by simp only [World.size_alloc]; omega) | exact fun _ => trivial | exact fun h => (by cases h)), (by (try simp only [dq3]) <;> first | exact h3 | exact fun _ => trivial | exact fun h => (by cases h)), (by (try simp only [dq5]) <;> first | exact h5 | exact fun _ => trivial | exact fun h => (by cases h)), (by (try simp only [dq7]) <;> first | exact h7 | exact fun _ => trivial | exact fun h => (by cases h)), (by (try simp only [dq8, dq13, done_same hl]) <;> first | exact fun h => ⟨(h8 h).1, (h8 h).2.1.alloc _, (h8 h).2.2.1, (h8 h).2.2.2.1, fun _ hi => Nat.lt_irrefl _ ((h8 h).2.1.lt hi)⟩ | exact fun _ => trivial | exact fun h => (by cases h)), (by (try simp only [dq13, dq15]) <;> first | exact fun h => ⟨(h13 h).1, (h13 h).2.alloc _⟩ | exact fun _ => trivial | exact fun h => (by cases h)), (by (try simp only [hd16, sel_f, done_same hl, dq16]) <;> first | exact fun _ => ⟨hzw, Blk.new _ _ _⟩ | exact fun _ => trivial | exact fun h => (by cases h)), (by (try simp only [dq13, done_same hl]) <;> first | exact fun h => (by have h9 := (h13 h).2.lt; omega) | exact fun _ => trivial | exact fun h => (by cases h)), (by (try simp only [dq3, dq8]) <;> first | exact h83 | exact fun _ => trivial | exact fun h => (by cases h)), (by (try simp only [dq5, dq8]) <;> first | exact h85 | exact fun _ => trivial | exact fun h => (by cases h)), (by (try simp only [dq7, dq8]) <;> first | exact h87 | exact fun _ => trivial | exact fun h => (by cases h)), (by (try simp only [dq8, dq9]) <;> first | exact h98 | exact fun _ => trivial | exact fun h => (by cases h)), (by (try simp only [dq9, dq10]) <;> first | exact h109 | exact fun _ => trivial | exact fun h => (by cases h)), (by (try simp only [dq9, dq11]) <;> first | exact h119 | exact fun _ => trivial | exact fun h => (by cases h)), (by (try simp only [dq8, dq15]) <;> first | exact h158 | exact fun _ => trivial | exact fun h => (by cases h)), (by (try simp only [hd16, dq8, dq16]) <;> first | exact h168 | exact fun _ => trivial | exact fun h => (by cases h)), (by (try simp only [dq13, dq15]) <;> first | exact h1513 | exact fun _ => trivial | exact fun h => (by cases h)), (by (try simp only [hd16, done_same hl, dq16]) <;> first | exact h1614 | exact fun _ => trivial | exact fun h => (by cases h))⟩
        · skip
          have dq3 := dOt 15 3 (l := l)
          have dq5 := dOt 15 5 (l := l)
          have dq7 := dOt 15 7 (l := l)
          have dq8 := dOt 15 8 (l := l)
          have dq9 := dOt 15 9 (l := l)
          have dq10 := dOt 15 10 (l := l)
          have dq11 := dOt 15 11 (l := l)
          have dq13 := dOt 15 13 (l := l)
          have dq14 := dOt 15 14 (l := l)
          have dq16 := dOt 15 16 (l := l)
          have dn13 : done l 13 = true := by simp [Region.binds] at haf; simp [done, haf]
          have dn10 : done l 10 = true := by simp [Region.binds] at haf; simp [done, haf]
          have dn9 := h109 dn10
          have dn8 := h98 dn9
          obtain ⟨hx0, hx1⟩ := h13 dn13
          rw [hz, sel_f] at hx1
          have hv2 := ((((hx1.set_ 0 (.int .i64 s2.vo)).set_ 1 (.int .i64 s2.re)).set_ 2 (.slice s2.uA s2.un s2.uc)).set_ 3 (.slice s2.gA s2.gn s2.gc))
          simp only [List.setIfInBounds_toArray, List.set_cons_zero, List.set_cons_succ] at hv2
          obtain ⟨t0, t1, t2, t3, tf⟩ := hx1.facts4
          have hLn := ((((hL.setx (x := xa) (by have := hL5.xl; omega) (fun h => by have := hL5.sdl _ h; omega) (fun h => by have := hL5.ssl _ h; omega) 0 (.int .i64 s2.vo)).setx (x := xa) (by have := hL5.xl; omega) (fun h => by have := hL5.sdl _ h; omega) (fun h => by have := hL5.ssl _ h; omega) 1 (.int .i64 s2.re)).setx (x := xa) (by have := hL5.xl; omega) (fun h => by have := hL5.sdl _ h; omega) (fun h => by have := hL5.ssl _ h; omega) 2 (.slice s2.uA s2.un s2.uc)).setx (x := xa) (by have := hL5.xl; omega) (fun h => by have := hL5.sdl _ h; omega) (fun h => by have := hL5.ssl _ h; omega) 3 (.slice s2.gA s2.gn s2.gc))
          have h8a := h8 dn8
          have hnS : ¬ S2 xa := h8a.2.2.2.1 dn13
          have h8n := ((((h8a.2.1.set (p := ⟨xa, 0, none⟩) hnS (.int .i64 s2.vo)).set (p := ⟨xa, 1, none⟩) hnS (.int .i64 s2.re)).set (p := ⟨xa, 2, none⟩) hnS (.slice s2.uA s2.un s2.uc)).set (p := ⟨xa, 3, none⟩) hnS (.slice s2.gA s2.gn s2.gc))
          exact opJ_store (w' := ((((w'.setCell ⟨xa, 0, none⟩ (.int .i64 s2.vo)).setCell ⟨xa, 1, none⟩ (.int .i64 s2.re)).setCell ⟨xa, 2, none⟩ (.slice s2.uA s2.un s2.uc)).setCell ⟨xa, 3, none⟩ (.slice s2.gA s2.gn s2.gc))) rfl rfl 35 (.tmp 10) (.tmp 53) (.pointer (some ⟨xa, 0, none⟩)) (.agg #[.int .i64 s2.vo, .int .i64 s2.re, .slice s2.uA s2.un s2.uc, .slice s2.gA s2.gn s2.gc]) rfl (by simp only [pEo 44 10, pEo 45 10, pEo 46 10, pEo 47 10, pEo 48 10, pEo 49 10, pEo 50 10, pEo 51 10, pEo 52 10, pEo 43 10, pEo 53 10, pEo 54 10, pEo 55 10]; rw [dn13]; exact putIf_eval_same (by simp [putIf_size])) (by simp only [pEo 44 53, pEo 45 53, pEo 46 53, pEo 47 53, pEo 48 53, pEo 49 53, pEo 50 53, pEo 51 53, pEo 52 53, pEo 43 53]; rw [dn10]; exact putIf_eval_same (by simp [putIf_size])) (by simp [go_sem, t0, t1, t2, t3, tf]) ⟨xa, xb, i1, i2, i3, L, T, Sp, O, pw, st, s2, S2, (by show Act.put _ none _ = _; simp only [dOt 15 0, dOt 15 1, dOt 15 2, dq3, dOt 15 4, dq5, dOt 15 6, dq7, dq8, dq9, dq10, dq11, dOt 15 12, dq13, dq14, dOt 15 17]; rfl), (by (try simp only [sel_t, dq3, dq5, dq7, dq8, dq9, dq10, dq11, dq13, dq14, done_same hl, dq16]) <;> first | exact hLn | exact fun _ => trivial | exact fun h => (by cases h)), (by (try simp only [sel_t, dq3, dq5, dq7, dq8, dq9, dq10, dq11, dq13, dq14, done_same hl, dq16]) <;> first | exact (by simpa [World.setCell] using hzw) | exact fun _ => trivial | exact fun h => (by cases h)), (by (try simp only [dq3]) <;> first | exact h3 | exact fun _ => trivial | exact fun h => (by cases h)), (by (try simp only [dq5]) <;> first | exact h5 | exact fun _ => trivial | exact fun h => (by cases h)), (by (try simp only [dq7]) <;> first | exact h7 | exact fun _ => trivial | exact fun h => (by cases h)), (by (try simp only [dq8, dq13, dq14]) <;> first | exact fun _ => ⟨h8a.1, h8n, h8a.2.2⟩ | exact fun _ => trivial | exact fun h => (by cases h)), (by (try simp only [sel_t, dq13, done_same hl]) <;> first | exact fun _ => ⟨hx0, hv2⟩ | exact fun _ => trivial | exact fun h => (by cases h)), (by (try simp only [dq14, dq16]) <;> first | exact fun h => ⟨(h14 h).1, (((((h14 h).2.far (p := ⟨xa, 0, none⟩) ((hx dn13 h).symm) (.int .i64 s2.vo)).far (p := ⟨xa, 1, none⟩) ((hx dn13 h).symm) (.int .i64 s2.re)).far (p := ⟨xa, 2, none⟩) ((hx dn13 h).symm) (.slice s2.uA s2.un s2.uc)).far (p := ⟨xa, 3, none⟩) ((hx dn13 h).symm) (.slice s2.gA s2.gn s2.gc))⟩ | exact fun _ => trivial | exact fun h => (by cases h)), (by (try simp only [dq13, dq14]) <;> first | exact hx | exact fun _ => trivial | exact fun h => (by cases h)), (by (try simp only [dq3, dq8]) <;> first | exact h83 | exact fun _ => trivial | exact fun h => (by cases h)), (by (try simp only [dq5, dq8]) <;> first | exact h85 | exact fun _ => trivial | exact fun h => (by cases h)), (by (try simp only [dq7, dq8]) <;> first | exact h87 | exact fun _ => trivial | exact fun h => (by cases h)), (by (try simp only [dq8, dq9]) <;> first | exact h98 | exact fun _ => trivial | exact fun h => (by cases h)), (by (try simp only [dq9, dq10]) <;> first | exact h109 | exact fun _ => trivial | exact fun h => (by cases h)), (by (try simp only [dq9, dq11]) <;> first | exact h119 | exact fun _ => trivial | exact fun h => (by cases h)), (by (try simp only [dq8, done_same hl]) <;> first | exact fun _ => dn8 | exact fun _ => trivial | exact fun h => (by cases h)), (by (try simp only [dq8, dq16]) <;> first | exact h168 | exact fun _ => trivial | exact fun h => (by cases h)), (by (try simp only [dq13, done_same hl]) <;> first | exact fun _ => dn13 | exact fun _ => trivial | exact fun h => (by cases h)), (by (try simp only [dq14, dq16]) <;> first | exact h1614 | exact fun _ => trivial | exact fun h => (by cases h))⟩
        · skip
          have dq3 := dOt 16 3 (l := l)
          have dq5 := dOt 16 5 (l := l)
          have dq7 := dOt 16 7 (l := l)
          have dq8 := dOt 16 8 (l := l)
          have dq9 := dOt 16 9 (l := l)
          have dq10 := dOt 16 10 (l := l)
          have dq11 := dOt 16 11 (l := l)
          have dq13 := dOt 16 13 (l := l)
          have dq14 := dOt 16 14 (l := l)
          have dq15 := dOt 16 15 (l := l)
          have dn14 : done l 14 = true := by simp [Region.binds] at haf; simp [done, haf]
          have dn11 : done l 11 = true := by simp [Region.binds] at haf; simp [done, haf]
          have dn9 := h119 dn11
          have dn8 := h98 dn9
          obtain ⟨hx0, hx1⟩ := h14 dn14
          rw [hz, sel_f] at hx1
          have hv2 := (((((((hx1.set_ 0 (.int .i64 i1)).set_ 1 (.int .i64 L)).set_ 2 (.int .i64 T)).set_ 3 (.int .i64 Sp)).set_ 4 (.int .i64 O)).set_ 5 (.int .i64 pw)).set_ 6 (.int .i64 st))
          simp only [List.setIfInBounds_toArray, List.set_cons_zero, List.set_cons_succ] at hv2
          obtain ⟨t0, t1, t2, t3, t4, t5, t6, tf⟩ := facts7 hx1
          have hLn := (((((((hL.setx (x := xb) (by have := hL5.xl; omega) (fun h => by have := hL5.sdl _ h; omega) (fun h => by have := hL5.ssl _ h; omega) 0 (.int .i64 i1)).setx (x := xb) (by have := hL5.xl; omega) (fun h => by have := hL5.sdl _ h; omega) (fun h => by have := hL5.ssl _ h; omega) 1 (.int .i64 L)).setx (x := xb) (by have := hL5.xl; omega) (fun h => by have := hL5.sdl _ h; omega) (fun h => by have := hL5.ssl _ h; omega) 2 (.int .i64 T)).setx (x := xb) (by have := hL5.xl; omega) (fun h => by have := hL5.sdl _ h; omega) (fun h => by have := hL5.ssl _ h; omega) 3 (.int .i64 Sp)).setx (x := xb) (by have := hL5.xl; omega) (fun h => by have := hL5.sdl _ h; omega) (fun h => by have := hL5.ssl _ h; omega) 4 (.int .i64 O)).setx (x := xb) (by have := hL5.xl; omega) (fun h => by have := hL5.sdl _ h; omega) (fun h => by have := hL5.ssl _ h; omega) 5 (.int .i64 pw)).setx (x := xb) (by have := hL5.xl; omega) (fun h => by have := hL5.sdl _ h; omega) (fun h => by have := hL5.ssl _ h; omega) 6 (.int .i64 st))
          have h8a := h8 dn8
          have hnS : ¬ S2 xb := h8a.2.2.2.2 dn14
          have h8n := (((((((h8a.2.1.set (p := ⟨xb, 0, none⟩) hnS (.int .i64 i1)).set (p := ⟨xb, 1, none⟩) hnS (.int .i64 L)).set (p := ⟨xb, 2, none⟩) hnS (.int .i64 T)).set (p := ⟨xb, 3, none⟩) hnS (.int .i64 Sp)).set (p := ⟨xb, 4, none⟩) hnS (.int .i64 O)).set (p := ⟨xb, 5, none⟩) hnS (.int .i64 pw)).set (p := ⟨xb, 6, none⟩) hnS (.int .i64 st))
          exact opJ_store (w' := (((((((w'.setCell ⟨xb, 0, none⟩ (.int .i64 i1)).setCell ⟨xb, 1, none⟩ (.int .i64 L)).setCell ⟨xb, 2, none⟩ (.int .i64 T)).setCell ⟨xb, 3, none⟩ (.int .i64 Sp)).setCell ⟨xb, 4, none⟩ (.int .i64 O)).setCell ⟨xb, 5, none⟩ (.int .i64 pw)).setCell ⟨xb, 6, none⟩ (.int .i64 st))) rfl rfl 53 (.tmp 11) (.tmp 54) (.pointer (some ⟨xb, 0, none⟩)) (.agg #[.int .i64 i1, .int .i64 L, .int .i64 T, .int .i64 Sp, .int .i64 O, .int .i64 pw, .int .i64 st]) rfl (by simp only [pEo 44 11, pEo 45 11, pEo 46 11, pEo 47 11, pEo 48 11, pEo 49 11, pEo 50 11, pEo 51 11, pEo 52 11, pEo 43 11, pEo 53 11, pEo 54 11, pEo 55 11, pEo 10 11]; rw [dn14]; exact putIf_eval_same (by simp [putIf_size])) (by simp only [pEo 44 54, pEo 45 54, pEo 46 54, pEo 47 54, pEo 48 54, pEo 49 54, pEo 50 54, pEo 51 54, pEo 52 54, pEo 43 54, pEo 53 54]; rw [dn11]; exact putIf_eval_same (by simp [putIf_size])) (by simp [go_sem, t0, t1, t2, t3, t4, t5, t6, tf]) ⟨xa, xb, i1, i2, i3, L, T, Sp, O, pw, st, s2, S2, (by show Act.put _ none _ = _; simp only [dOt 16 0, dOt 16 1, dOt 16 2, dq3, dOt 16 4, dq5, dOt 16 6, dq7, dq8, dq9, dq10, dq11, dOt 16 12, dq13, dq14, dOt 16 17]; rfl), (by (try simp only [sel_t, dq3, dq5, dq7, dq8, dq9, dq10, dq11, dq13, dq14, dq15, done_same hl]) <;> first | exact hLn | exact fun _ => trivial | exact fun h => (by cases h)), (by (try simp only [sel_t, dq3, dq5, dq7, dq8, dq9, dq10, dq11, dq13, dq14, dq15, done_same hl]) <;> first | exact (by simpa [World.setCell] using hzw) | exact fun _ => trivial | exact fun h => (by cases h)), (by (try simp only [dq3]) <;> first | exact h3 | exact fun _ => trivial | exact fun h => (by cases h)), (by (try simp only [dq5]) <;> first | exact h5 | exact fun _ => trivial | exact fun h => (by cases h)), (by (try simp only [dq7]) <;> first | exact h7 | exact fun _ => trivial | exact fun h => (by cases h)), (by (try simp only [dq8, dq13, dq14]) <;> first | exact fun _ => ⟨h8a.1, h8n, h8a.2.2⟩ | exact fun _ => trivial | exact fun h => (by cases h)), (by (try simp only [dq13, dq15]) <;> first | exact fun h => ⟨(h13 h).1, ((((((((h13 h).2.far (p := ⟨xb, 0, none⟩) (hx h dn14) (.int .i64 i1)).far (p := ⟨xb, 1, none⟩) (hx h dn14) (.int .i64 L)).far (p := ⟨xb, 2, none⟩) (hx h dn14) (.int .i64 T)).far (p := ⟨xb, 3, none⟩) (hx h dn14) (.int .i64 Sp)).far (p := ⟨xb, 4, none⟩) (hx h dn14) (.int .i64 O)).far (p := ⟨xb, 5, none⟩) (hx h dn14) (.int .i64 pw)).far (p := ⟨xb, 6, none⟩) (hx h dn14) (.int .i64 st))⟩ | exact fun _ => trivial | exact fun h => (by cases h)), (by (try simp only [sel_t, dq14, done_same hl]) <;> first | exact fun _ => ⟨hx0, hv2⟩ | exact fun _ => trivial | exact fun h => (by cases h)), (by (try simp only [dq13, dq14]) <;> first | exact hx | exact fun _ => trivial | exact fun h => (by cases h)), (by (try simp only [dq3, dq8]) <;> first | exact h83 | exact fun _ => trivial | exact fun h => (by cases h)), (by (try simp only [dq5, dq8]) <;> first | exact h85 | exact fun _ => trivial | exact fun h => (by cases h)), (by (try simp only [dq7, dq8]) <;> first | exact h87 | exact fun _ => trivial | exact fun h => (by cases h)), (by (try simp only [dq8, dq9]) <;> first | exact h98 | exact fun _ => trivial | exact fun h => (by cases h)), (by (try simp only [dq9, dq10]) <;> first | exact h109 | exact fun _ => trivial | exact fun h => (by cases h)), (by (try simp only [dq9, dq11]) <;> first | exact h119 | exact fun _ => trivial | exact fun h => (by cases h)), (by (try simp only [dq8, dq15]) <;> first | exact h158 | exact fun _ => trivial | exact fun h => (by cases h)), (by (try simp only [dq8, done_same hl]) <;> first | exact fun _ => dn8 | exact fun _ => trivial | exact fun h => (by cases h)), (by (try simp only [dq13, dq15]) <;> first | exact h1513 | exact fun _ => trivial | exact fun h => (by cases h)), (by (try simp only [dq14, done_same hl]) <;> first | exact fun _ => dn14 | exact fun _ => trivial | exact fun h => (by cases h))⟩
        · skip
          have dq3 := dOt 17 3 (l := l)
          have dq5 := dOt 17 5 (l := l)
          have dq7 := dOt 17 7 (l := l)
          have dq8 := dOt 17 8 (l := l)
          have dq9 := dOt 17 9 (l := l)
          have dq10 := dOt 17 10 (l := l)
          have dq11 := dOt 17 11 (l := l)
          have dq13 := dOt 17 13 (l := l)
          have dq14 := dOt 17 14 (l := l)
          have dq15 := dOt 17 15 (l := l)
          have dq16 := dOt 17 16 (l := l)
          have dn12 : done l 12 = true := by simp [Region.binds] at haf; simp [done, haf]
          exact opJ_assign (v := .int .i64 0) rfl rfl (.tmp 55) rfl (by simp only [pEo 44 55, pEo 45 55, pEo 46 55, pEo 47 55, pEo 48 55, pEo 49 55, pEo 50 55, pEo 51 55, pEo 52 55, pEo 43 55, pEo 53 55, pEo 54 55]; rw [dn12]; exact putIf_eval_same (by simp [putIf_size])) ⟨xa, xb, i1, i2, i3, L, T, Sp, O, pw, st, s2, S2, (by show Act.put _ (some 12) _ = _; simp only [pPu 44 12, pPu 45 12, pPu 46 12, pPu 47 12, pPu 48 12, pPu 49 12, pPu 50 12, pPu 51 12, pPu 52 12, pPu 43 12, pPu 53 12, pPu 54 12, pPu 55 12, pPu 10 12, pPu 11 12, hz, putIf_here2, done_same hl, dOt 17 0, dOt 17 1, dOt 17 2, dq3, dOt 17 4, dq5, dOt 17 6, dq7, dq8, dq9, dq10, dq11, dOt 17 12, dq13, dq14]), (by (try simp only [dq3, dq5, dq7, dq8, dq9, dq10, dq11, dq13, dq14, dq15, dq16]) <;> first | exact hL | exact fun _ => trivial | exact fun h => (by cases h)), (by (try simp only [dq3, dq5, dq7, dq8, dq9, dq10, dq11, dq13, dq14, dq15, dq16]) <;> first | exact hzw | exact fun _ => trivial | exact fun h => (by cases h)), (by (try simp only [dq3]) <;> first | exact h3 | exact fun _ => trivial | exact fun h => (by cases h)), (by (try simp only [dq5]) <;> first | exact h5 | exact fun _ => trivial | exact fun h => (by cases h)), (by (try simp only [dq7]) <;> first | exact h7 | exact fun _ => trivial | exact fun h => (by cases h)), (by (try simp only [dq8, dq13, dq14]) <;> first | exact h8 | exact fun _ => trivial | exact fun h => (by cases h)), (by (try simp only [dq13, dq15]) <;> first | exact h13 | exact fun _ => trivial | exact fun h => (by cases h)), (by (try simp only [dq14, dq16]) <;> first | exact h14 | exact fun _ => trivial | exact fun h => (by cases h)), (by (try simp only [dq13, dq14]) <;> first | exact hx | exact fun _ => trivial | exact fun h => (by cases h)), (by (try simp only [dq3, dq8]) <;> first | exact h83 | exact fun _ => trivial | exact fun h => (by cases h)), (by (try simp only [dq5, dq8]) <;> first | exact h85 | exact fun _ => trivial | exact fun h => (by cases h)), (by (try simp only [dq7, dq8]) <;> first | exact h87 | exact fun _ => trivial | exact fun h => (by cases h)), (by (try simp only [dq8, dq9]) <;> first | exact h98 | exact fun _ => trivial | exact fun h => (by cases h)), (by (try simp only [dq9, dq10]) <;> first | exact h109 | exact fun _ => trivial | exact fun h => (by cases h)), (by (try simp only [dq9, dq11]) <;> first | exact h119 | exact fun _ => trivial | exact fun h => (by cases h)), (by (try simp only [dq8, dq15]) <;> first | exact h158 | exact fun _ => trivial | exact fun h => (by cases h)), (by (try simp only [dq8, dq16]) <;> first | exact h168 | exact fun _ => trivial | exact fun h => (by cases h)), (by (try simp only [dq13, dq15]) <;> first | exact h1513 | exact fun _ => trivial | exact fun h => (by cases h)), (by (try simp only [dq14, dq16]) <;> first | exact h1614 | exact fun _ => trivial | exact fun h => (by cases h))⟩
      · intro l a' w' hJ hall
        obtain ⟨xa, xb, i1, i2, i3, L, T, Sp, O, pw, st, s2, S2, rfl, hL, hzw, h3, h5, h7, h8, h13, h14, hx, h83, h85, h87, h98, h109, h119, h158, h168, h1513, h1614⟩ := hJ
        have hd : ∀ i, i < 18 → done l i = true := hall
        obtain ⟨hQ8, hH8, hS28, hxa8, hxb8⟩ := h8 (hd 8 (by decide))
        obtain ⟨ha0, hxa⟩ := h13 (hd 13 (by decide))
        obtain ⟨hb0x, hxb⟩ := h14 (hd 14 (by decide))
        rw [hd 15 (by decide), sel_t] at hxa
        rw [hd 16 (by decide), sel_t] at hxb
        have hi1 := h3 (hd 3 (by decide))
        have h5' := h5 (hd 5 (by decide))
        simp only [hd 0 (by decide), hd 1 (by decide), hd 2 (by decide), hd 3 (by decide), hd 4 (by decide), hd 5 (by decide), hd 6 (by decide), hd 7 (by decide), hd 8 (by decide), hd 9 (by decide), hd 10 (by decide), hd 11 (by decide), hd 12 (by decide), hd 13 (by decide), hd 14 (by decide), hd 17 (by decide), putIf, if_true, Act.put]
        clear hd hall h3 h5 h7 h8 h13 h14 hx h83 h85 h87 h98 h109 h119 h158 h168 h1513 h1614
        have HLX := hide hL
        have HHX := hide hH8
        have hge8 : ∀ i, S2 i → b < i ∧ i ≠ T4 ∧ i ≠ T5 := fun i hi => by have := hS28 i hi; omega
        have HNX := hide (hL.next hH8 hge8)
        have HG2 := hide hQ8.g
        have hfin : (0 ≤ L ∧ L ≤ 10000) ∧ (0 ≤ T ∧ T ≤ 10000) ∧ (0 ≤ Sp ∧ Sp ≤ 10000) ∧ (0 ≤ O ∧ O ≤ 10000) ∧ O = max 0 (i1 - L - T - Sp - (V - s.vo)) ∧ s2.vo ≤ V := by
          have e1 := hQ8.l
          have e2 := hQ8.t
          have e3 := hQ8.sp
          have e4 := hQ8.o
          have e5 := hQ8.g.vo
          have e6 := HVE.out
          rw [e6] at e4 e5
          have hi2 := h5'
          have e7 := freeV_in HDG.out (l := s.vo + i1 - L) (by omega)
          omega
        obtain ⟨⟨fL0, fL1⟩, ⟨fT0, fT1⟩, ⟨fS0, fS1⟩, ⟨fO0, fO1⟩, hOe, hvo2⟩ := hfin
        obtain ⟨a0, a1, a2, a3, af⟩ := hxa.facts4
        obtain ⟨b0, b1, b2, b3, b4, b5, b6, bf⟩ := facts7 hxb
        obtain ⟨f0, f1, f2, f3, ff⟩ := hL.t5.facts4
        have hne1 : (O != max 0 (i1 - L - T - Sp - (V - s.vo))) = false := by rw [← hOe]; simp
        have hd2 : decide (V < s2.vo) = false := by simp; omega
        have HOE := hide hOe
        obtain ⟨hi10, hi11⟩ := hi1
        obtain ⟨hvo0, hvo1⟩ := hvo
        clear hL hH8 hS28 hge8 hQ8 hOe ha0 hb0x h5' hxa8 hxb8
        go_wp2
        go_roundw
        case rel => exact ⟨k + 1, s2, S2, by omega, by go_num, HG2, by have := HNX.out; rw [HSD.out] at this; exact this⟩
        case measure => simp [intOf]; omega
      · kernel_rfl
      -- R>
    · have hki : ¬ ((k : Int) < 6) := by omega
      go_wp2_with fail
      refine (HAW.out wr (by rw [← hbb]; exact hL.gr)).mono ?_
      rintro e w9 ⟨rfl, hb9⟩
      have HE := hide (bthr hL.gr hb9 hL.gr.size)
      clear hL hb9
      go_wp2
      go_ret
      exact ⟨rfl, HE.out⟩
end Go.Proofs.YtodamjjlnagpjaaGreatDoor
