/-
  The contract of make.Gate: a valid gate, its rows the call's own. Condition: the deck lies in memory.
  The contract of make.UnitState: a valid state of a valid unit. Condition: the deck lies in memory; the unit lies in memory whatever is drawn from the deck.
  Two own rows that grow side by side, beside a deck, a box and facts held elsewhere; what each step of a region that draws its order leaves of them. No condition.
-/
import Derived.Test.YtodamjjlnagpjaaGreatDoorProg
import Derived.Test.YtodamjjlnagpjaaGreatDoorTmc
import Derived.Test.YtodamjjlnagpjaaGreatDoorTsn
import Derived.Test.YtodamjjlnagpjaaGreatDoorTrj
namespace Go.Proofs.YtodamjjlnagpjaaGreatDoor
open Go.RowKit

theorem slGr : SlT Tryz.prog 94 101 2 := slT_of (z := .agg #[.int .i64 0, .slice none 0 0]) (bytes := 32) Tryz.underlying94 (by kernel_rfl) rfl (by decide) (by decide)
/-- Ratings that rise up to a level. -/
structure RatUp (rs : List Gr) (l : Int) : Prop where
  lv : ∀ r ∈ rs, 0 ≤ r.lv ∧ r.lv ≤ 2000
  up : ∀ (i : Nat) (h : i + 1 < rs.length), (rs[i]'(by omega)).lv < rs[i + 1].lv
  hi : ∀ r ∈ rs, r.lv < l
  cv : ∀ r ∈ rs, CvG 2000 r.cv.ps ∧ ∃ t, r.cv.ps = ⟨0, 0⟩ :: t
theorem RatUp.snoc {rs : List Gr} {l l2 : Int} {r : Gr} (h : RatUp rs l) (hr : r.lv = l) (hl : 0 ≤ l ∧ l ≤ 2000) (h2 : l < l2) (hc : CvG 2000 r.cv.ps ∧ ∃ t, r.cv.ps = ⟨0, 0⟩ :: t) : RatUp (rs ++ [r]) l2 := by
  refine ⟨fun x hx => ?_, fun i hi => ?_, fun x hx => ?_, fun x hx => ?_⟩
  · rcases List.mem_append.1 hx with h1 | h1
    · exact h.lv x h1
    · rw [List.mem_singleton] at h1; subst h1; omega
  · simp only [List.length_append, List.length_cons, List.length_nil] at hi
    by_cases hi2 : i + 1 < rs.length
    · rw [List.getElem_append_left (by omega), List.getElem_append_left hi2]
      exact h.up i hi2
    · rw [List.getElem_append_left (by omega), List.getElem_append_right (by omega)]
      have := h.hi _ (List.getElem_mem (show i < rs.length by omega))
      simp only [show i + 1 - rs.length = 0 by omega, List.getElem_cons_zero]
      omega
  · rcases List.mem_append.1 hx with h1 | h1
    · have := h.hi x h1; omega
    · rw [List.mem_singleton] at h1; subst h1; omega
  · rcases List.mem_append.1 hx with h1 | h1
    · exact h.cv x h1
    · rw [List.mem_singleton] at h1; subst h1; exact hc
theorem Climb.zero {ps : List Pt} (h : Climb false 0 0 ps) (hl : ps.length ≤ 5) : CvG 2000 ps ∧ ∃ t, ps = ⟨0, 0⟩ :: t := by
  refine ⟨h.curve (by omega) (by omega) hl, ?_⟩
  have h1 := h.hd
  cases ps with
  | nil => exact absurd h.ne (by simp)
  | cons a t => exact ⟨t, by simp only [List.getElem_cons_zero] at h1; rw [h1]⟩
def GateMade (b : Nat) (w : World) (e : Ending) (w' : World) : Prop := ∃ (g : Gt) (S : Nat → Prop), e = .returned (.agg g.arr) ∧ GtG g ∧ (∀ i, S i → w.heap.size ≤ i) ∧ Held S w' (fun W => g.ok W) ∧ Dk w' b ∧ w.grownBy w' (some b)
set_option maxHeartbeats 1600000 in
set_option maxRecDepth 20000 in
theorem mkgate_any (b : Nat) (w : World) (hD : Dk w b) : Calls Tryz.prog 44 #[.pointer (some ⟨b, 0, none⟩)] w (GateMade b w) := by
  have hbl := hD.lt
  have hD0 := hD.alloc (.cells #[.slice none 0 0, .int .i64 0, .int .i64 0] 96)
  have q0 := Blk.new w 96 #[.slice none 0 0, .int .i64 0, .int .i64 0]
  have hg0 : w.grownBy (w.alloc (.cells #[.slice none 0 0, .int .i64 0, .int .i64 0] 96)) (some b) := grown_alloc (grown_refl _ _) _
  go_enter Tryz.func44, Tryz.ntmps44
  go_wp2_with fail
  generalize w.alloc _ = w0 at *
  refine (next_any _ _ (by omega) _ hD0).mono ?_
  rintro e w1 ⟨mo, rfl, h10, h11, hD1, hg1, hz1⟩
  clear hz1
  go_wp2_with fail
  refine (next_any _ _ (by omega) _ hD1).mono ?_
  rintro e w2 ⟨mv, rfl, h20, h21, hD2, hg2, hz2⟩
  clear hz2
  have q2 := (q0.only hg1 (by omega)).only hg2 (by omega)
  have hgr2 := hide (grown_trans (grown_trans hg0 hg1) hg2)
  have hzw : w.heap.size < w2.heap.size := q2.lt
  have u3 := Blk.new w2 96 #[.slice none 0 0, .int .i64 mo, .int .i64 mv]
  have hD3 := hD2.alloc (.cells #[.slice none 0 0, .int .i64 mo, .int .i64 mv] 96)
  have hg3 : w2.grownBy (w2.alloc (.cells #[.slice none 0 0, .int .i64 mo, .int .i64 mv] 96)) (some b) := grown_alloc (grown_refl _ _) _
  have hmo : (0 ≤ mo ∧ mo ≤ 1000) ∧ 0 ≤ mv ∧ mv ≤ 1000 := by omega
  have hU : b < w2.heap.size := by omega
  clear hD hD0 hD1 hD2 hg0 hg1 hg2 q0 h10 h11 h20 h21
  go_wp2_with fail
  generalize w2.alloc _ = w3 at *
  refine (next_any _ _ (by omega) _ hD3).mono ?_
  rintro e w4 ⟨v4, rfl, h40, h41, hD4, hg4, hz4⟩
  clear hz4
  go_wp2_with fail
  refine (next_any _ _ (by omega) _ hD4).mono ?_
  rintro e w5 ⟨v5, rfl, h50, h51, hD5, hg5, hz5⟩
  clear hz5
  have u5 := (u3.only hg4 (by omega)).only hg5 (by omega)
  have HG5 := hide (grown_trans (grown_trans hg3 hg4) hg5)
  clear hD3 hD4 hg3 hg4 hg5 u3
  go_wp2
  go_loopw [4, 5] (fun lvv kv wr => ∃ (kk lv : Int) (rv : Value) (rs : List Gr) (S : Nat → Prop), kv = .int .i64 kk ∧ (-1 ≤ kk ∧ kk + rs.length ≤ 2 ∧ (rs.length = 0 → 0 ≤ kk)) ∧ lvv = .int .i64 lv ∧ (0 ≤ lv ∧ lv ≤ 130 + 40 * (rs.length : Int)) ∧ Hid (RatUp rs lv) ∧ Blk wr w2.heap.size 96 #[rv, .int .i64 mo, .int .i64 mv] ∧ wr.ownsRow (w2.heap.size + 1) 101 2 rv rs.length (grCells rs) ∧ Hid ((∀ i, S i → w2.heap.size + 1 ≤ i) ∧ (∀ i, S i → rv.ownBlock ≠ some i)) ∧ Hid (Held S wr (fun W => ∀ r ∈ rs, r.cv.ok W)) ∧ Dk wr b ∧ w2.grownBy wr (some b)) (fun _ i _ => (intOf i + 1).toNat)
  case atStart => exact ⟨v5, 90 + v4, .slice none 0 0, [], fun _ => False, rfl, by simp; omega, rfl, by simp; omega, hide ⟨by simp, fun i h => by simp at h, by simp, by simp⟩, u5, World.ownsRow_nil _ _ _ _, hide ⟨fun i h => h.elim, fun i h => h.elim⟩, hide (held_true _ (by simp)), hD5, HG5.out⟩
  case round =>
    obtain ⟨kk, lv, rv, rs, S, rfl, ⟨hk0, hk1, hk2⟩, rfl, ⟨hl0, hl1⟩, hrat, hbu, hv, hS, hHe, hDr, hgr⟩ := hrel
    have hszr := hbu.lt
    by_cases h0 : kk < 0
    · have h0d : decide (0 ≤ kk) = false := by simp; omega
      obtain ⟨A2, c2, rfl, _⟩ := own_sl hv
      have hne : 0 < rs.length := by omega
      have q9 : Blk wr w.heap.size 96 #[.slice none 0 0, .int .i64 0, .int .i64 0] := q2.only hgr (by omega)
      have hAll := (held_sl hv).both hHe.out
      have hnS : ¬ ((Value.slice A2 rs.length c2).ownBlock = some w.heap.size ∨ S w.heap.size) := by
        rintro (h | h)
        · have := (hv.lt _ h).1; omega
        · have := hS.out.1 _ h; omega
      have hfin := (((q9.set_ 0 (.slice A2 rs.length c2)).set_ 1 (.int .i64 mo)).set_ 2 (.int .i64 mv))
      have hDf := (((hDr.set (p := ⟨w.heap.size, 0, none⟩) hbl (.slice A2 rs.length c2)).set (p := ⟨w.heap.size, 1, none⟩) hbl (.int .i64 mo)).set (p := ⟨w.heap.size, 2, none⟩) hbl (.int .i64 mv))
      have hGf := (grown_set (grown_set (grown_set (grown_trans hgr2.out hgr) (p := ⟨w.heap.size, 0, none⟩) (.inr (Nat.le_refl _)) (.slice A2 rs.length c2)) (p := ⟨w.heap.size, 1, none⟩) (.inr (Nat.le_refl _)) (.int .i64 mo)) (p := ⟨w.heap.size, 2, none⟩) (.inr (Nat.le_refl _)) (.int .i64 mv))
      have hHf := (((hAll.set (p := ⟨w.heap.size, 0, none⟩) hnS (.slice A2 rs.length c2)).set (p := ⟨w.heap.size, 1, none⟩) hnS (.int .i64 mo)).set (p := ⟨w.heap.size, 2, none⟩) hnS (.int .i64 mv))
      simp only [List.setIfInBounds_toArray, List.set_cons_zero, List.set_cons_succ] at hfin
      obtain ⟨u0, u1, u2, uf⟩ := hfin.facts3
      have hr := hrat.out
      have hP : GateMade b w (.returned (.agg #[.slice A2 rs.length c2, .int .i64 mo, .int .i64 mv])) _ := ⟨⟨A2, rs.length, c2, rs, mo, mv⟩, _, rfl, ⟨hne, by simp only; omega, hr.lv, hr.up, hr.cv, hmo.1, hmo.2⟩, fun i h => (by rcases h with h | h; (have := (hv.lt _ h).1; omega); (have := hS.out.1 _ h; omega)), hHf, hDf, hGf⟩
      have HP := hide hP
      obtain ⟨c0, c1, c2', cf⟩ := hbu.facts3
      obtain ⟨z0, z1, z2, zf⟩ := q9.facts3
      clear hP hDf hGf hfin hHf q9 hgr hDr hbu hv hr hAll
      go_wp2
      refine bodyPost_ret (v := .agg #[.slice A2 rs.length c2, .int .i64 mo, .int .i64 mv]) (by simp [results, Tryz.results44, go_sem, u0, u1, u2]) rfl HP.out
    · have h0d : decide (0 ≤ kk) = true := by simp; omega
      have HV8 := hide hv
      have HG8 := hide hgr
      have u8 := hbu
      have hD8 := hDr
      clear hv hgr u5 hD5 hbu hDr
      obtain ⟨c0, c1, c2, cf⟩ := u8.facts3
      go_wp2_with fail
      go_region_law (first | (refine step_ext (w := (w9.alloc (.cells #[.int .i64 lv, .slice cA cn cc] 101))) rfl (.tmp 21) (.tmp 26) 94 rfl (w2.heap.size + 1) _ _ slGr rv rs.length (grCells rs) (by simp [Act.eval]) rA.out _ _ _ _ _ (by simp [Act.eval]) slA.out (by simp [Value.oneCell']) (by omega) zA ?_; intro v' w11 hv11 hg11 hor11; obtain ⟨gv, cv, rfl, hgv, _⟩ := hv11.form (by omega); have u11 : Blk w11 w2.heap.size 96 #[rv, .int .i64 mo, .int .i64 mv] := (hg11.block w2.heap.size uA.out.lt (fun e => by have := (rA.out.lt _ e.symm).1; omega)).trans uA.out; obtain ⟨f0, f1, f2, ff⟩ := u11.facts3) | (go_simp; go_at_call 41; refine (mkcurve_any b 0 0 6 20 false (by omega) (by omega) (by omega) (by omega) wr.drew hD8.drew).mono ?_; rintro e w9 ⟨cA, cn, cc, ps, rfl, hcn, hc2, hc5, hcl, hcrow, hD9, hg9⟩; have hcn' := hide hcn; clear hcn; have hcl' := hide hcl; clear hcl; have u9 := u8.drew.only hg9 (by omega); obtain ⟨e0, e1, e2, ef⟩ := u9.facts3; have rA := hide (World.ownsRow.alloc (own_deck (show wr.drew.ownsRow _ _ _ _ _ _ from World.ownsRow.drew HV8.out) hg9 (by omega)) (.cells #[.int .i64 lv, .slice cA cn cc] 101)); have uA := hide (u9.alloc (.cells #[.int .i64 lv, .slice cA cn cc] 101)); have e0a := uA.out.facts3.1; have slA := hide (sl_two (Blk.new w9 101 #[.int .i64 lv, .slice cA cn cc])); have zA : w2.heap.size + 1 ≤ (w9.alloc (.cells #[.int .i64 lv, .slice cA cn cc] 101)).heap.size := (by have := u9.lt; simp only [World.size_alloc]; omega); have DA := hide (hD9.alloc (.cells #[.int .i64 lv, .slice cA cn cc] 101)); have GA := hide (grown_alloc (grown_trans (grown_drew HG8.out) hg9) (.cells #[.int .i64 lv, .slice cA cn cc] 101)); have HA := hide ((Held.alloc ((Held.deck (Held.drew hHe.out) hg9 (fun i h => by have := hS.out.1 i h; omega)).both (held_sl hcrow)) (.cells #[.int .i64 lv, .slice cA cn cc] 101))); have hwz : wr.heap.size ≤ w9.heap.size := hg9.size; have hcge := hide (fun g (hg : (Value.slice cA cn cc).ownBlock = some g) => (hcrow.lt g hg)); clear u9 hD9 hg9 hcrow))
      all_goals
        have hvo : ∀ i, S i ∨ (Value.slice cA cn cc).ownBlock = some i → rv.ownBlock ≠ some i := fun i h e => by
          rcases h with h | h
          · exact hS.out.2 i h e
          · have h1 := (hcge.out i h).1
            have h2 := (HV8.out.lt i e).2
            simp only [World.size_drew] at h1
            omega
        obtain ⟨hH11, hN11⟩ := held_push HA.out hvo hg11 hor11
        have hSge : ∀ i, S i ∨ (Value.slice cA cn cc).ownBlock = some i → w2.heap.size + 1 ≤ i := fun i h => by
          rcases h with h | h
          · exact hS.out.1 i h
          · have h1 := (hcge.out i h).1
            simp only [World.size_drew] at h1
            omega
        have HH12 := hide ((hH11.set (p := ⟨w2.heap.size, 0, none⟩) (fun h => by have := hSge _ h; simp only at this; omega) (.slice (some ⟨gv, 0, none⟩) (rs.length + 1) cv)).imp (ψ := fun W => ∀ r ∈ rs ++ [(⟨lv, ⟨cA, cn, cc, ps⟩⟩ : Gr)], r.cv.ok W) (fun W h r hr => by
          rcases List.mem_append.1 hr with h1 | h1
          · exact h.1 r h1
          · rw [List.mem_singleton] at h1; subst h1; exact h.2))
        have HN12 := hide (And.intro hSge hN11)
        have k12 := u11.set_ 0 (.slice (some ⟨gv, 0, none⟩) (rs.length + 1) cv)
        simp only [List.setIfInBounds_toArray, List.set_cons_zero] at k12
        have D12 := (DA.out.other hg11 (fun j hj => by have := (rA.out.lt j hj).1; omega)).set (p := ⟨w2.heap.size, 0, none⟩) hU (.slice (some ⟨gv, 0, none⟩) (rs.length + 1) cv)
        have G12 := hide (grown_set (grown_push GA.out hg11 (fun j hj => by have := (rA.out.lt j hj).1; omega)) (p := ⟨w2.heap.size, 0, none⟩) (.inr (Nat.le_refl _)) (.slice (some ⟨gv, 0, none⟩) (rs.length + 1) cv))
        have R12 := hide (own_set hv11 (p := ⟨w2.heap.size, 0, none⟩) (fun e => by simp only [Value.ownBlock, Option.some.injEq] at e; omega) (.slice (some ⟨gv, 0, none⟩) (rs.length + 1) cv))
        have HCV := hide (hcl'.out.zero (by have := hcn'.out; omega))
        clear u11 hv11 hg11 f0 f1 f2 ff e0 e1 e2 ef e0a c0 c1 c2 cf rA uA slA DA GA HA HV8 HG8 u8 hD8 hH11 hN11 hSge hvo hor11
        go_wp2_with fail
        generalize World.setCell _ _ _ = w12 at *
        refine (next_any _ _ (by omega) _ D12).mono ?_
        rintro e w13 ⟨v13, rfl, h130, h131, hD13, hg13, hz13⟩
        clear hz13
        have k13 := k12.only hg13 (by omega)
        have G13 := hide (grown_trans G12.out hg13)
        have R13 := hide (own_deck R12.out hg13 (by omega))
        have HH13 := hide (HH12.out.deck hg13 (fun i h => by have := HN12.out.1 i h; omega))
        obtain ⟨l2, hl2⟩ : ∃ l2, lv + (1 + v13) = l2 := ⟨_, rfl⟩
        have hl2b : lv < l2 ∧ l2 ≤ lv + 40 := by omega
        have HRT := hide (hrat.out.snoc (r := ⟨lv, ⟨cA, cn, cc, ps⟩⟩) (l2 := l2) rfl (by omega) (by omega) HCV.out)
        clear k12 D12 G12 R12 HH12 hg13
        go_wp2
        go_roundw
        case rel => exact ⟨kk - 1, l2, _, rs ++ [⟨lv, ⟨cA, cn, cc, ps⟩⟩], _, by go_num, by rw [List.length_append]; simp only [List.length_cons, List.length_nil]; omega, by go_num, by rw [List.length_append]; simp only [List.length_cons, List.length_nil]; omega, HRT, k13, by rw [List.length_append]; exact own_cells R13.out (by rw [grCells, grCells, cellsOf_append, cellsOf_one]; rfl), HN12, HH13, hD13, G13.out⟩
        case measure => simp [intOf]; omega
end Go.Proofs.YtodamjjlnagpjaaGreatDoor
namespace Go.Proofs.YtodamjjlnagpjaaGreatDoor
open Go.RowKit

def UsMade (b : Nat) (u : Un) (w : World) (e : Ending) (w' : World) : Prop := ∃ s : Us, e = .returned (.agg s.arr) ∧ UsG u s ∧ Dk w' b ∧ w.grownBy w' (some b)
set_option maxHeartbeats 1600000 in
set_option maxRecDepth 20000 in
theorem mkus_any (b : Nat) (u : Un) (hg : UnG u) (w : World) (hD : Dk w b) (hu : ∀ W, w.grownBy W (some b) → u.ok W) : Calls Tryz.prog 43 #[.pointer (some ⟨b, 0, none⟩), .agg u.arr] w (UsMade b u w) := by
  have hbl := hD.lt
  obtain ⟨q0, t0, hb0⟩ := blk_two w 90 93 u.arr #[.int .i64 0, .int .i64 0, .bool false]
  have hD0 := (hD.alloc (.cells u.arr 90)).alloc (.cells #[.int .i64 0, .int .i64 0, .bool false] 93)
  have hg0 := grown_below hb0 (some b)
  have HFL := hide (fun (W : World) (hW : w.grownBy W (some b)) => rflows_any u hg W (hu W hW))
  have HUG := hide (fun (fl si : Int) (ob : Bool) (h1 : 0 ≤ si ∧ si ≤ 1000) (h2 : fl = 0 ∨ ob = false ∧ runsB u fl = true) => (show UsG u ⟨fl, si, ob⟩ from ⟨h1, h2⟩))
  rw [Un.arr7] at q0 t0 hb0 hD0 hg0 HFL ⊢
  clear hu hg
  go_enter Tryz.func43, Tryz.ntmps43
  go_wp2_with fail
  generalize (w.alloc _).alloc _ = w0 at *
  refine (next_any _ _ (by omega) _ hD0).mono ?_
  rintro e w1 ⟨v5, rfl, h50, h51, hD1, hg1, hz1⟩
  clear hz1
  go_wp2_with fail
  refine (next_any _ _ (by omega) _ hD1).mono ?_
  rintro e w2 ⟨v7, rfl, h70, h71, hD2, hg2, hz2⟩
  clear hz2
  obtain ⟨ob, hob⟩ : ∃ ob, (v7 == 6) = ob := ⟨_, rfl⟩
  have q2 := (q0.only hg1 (by omega)).only hg2 (by omega)
  have t2 := (t0.only hg1 (by omega)).only hg2 (by omega)
  have hG2 := grown_trans (grown_trans hg0 hg1) hg2
  have hzw : w.heap.size + 1 < w2.heap.size := t2.lt
  have s3 := Blk.new w2 93 #[.int .i64 0, .int .i64 v5, .bool ob]
  have q3 := q2.alloc (.cells #[.int .i64 0, .int .i64 v5, .bool ob] 93)
  have t3 := t2.alloc (.cells #[.int .i64 0, .int .i64 v5, .bool ob] 93)
  have hD3 := hD2.alloc (.cells #[.int .i64 0, .int .i64 v5, .bool ob] 93)
  have hG3 := grown_alloc hG2 (.cells #[.int .i64 0, .int .i64 v5, .bool ob] 93)
  obtain ⟨c0, c1, c2, c3, c4, c5, cf⟩ := q3.facts6
  clear q0 t0 hb0 hD hD0 hD1 hD2 hg0 hg1 hg2 q2 t2 hG2
  go_wp2_with fail
  generalize w2.alloc _ = w3 at *
  refine (HFL.out w3 hG3).mono ?_
  rintro e w4 ⟨v, xs, rfl, hxl, hxg, hrow, hb4⟩
  have hxl2 := hide hxl
  have hxg2 := hide hxg
  have s4 := s3.below hb4 s3.lt
  have t4 := t3.below hb4 t3.lt
  have hD4 := hD3.below hb4
  have hG4 := grown_trans hG3 (grown_below hb4 (some b))
  obtain ⟨Av, cv, rfl, _⟩ := own_sl hrow
  have HROW := hide hrow
  have HG4 := hide hG4
  have hz3 : w2.heap.size < w3.heap.size := s3.lt
  clear c0 c1 c2 c3 c4 c5 cf q3 t3 s3 hD3 hG3 hrow hb4 HFL hob h70 h71 hG4 hxg hxl
  obtain ⟨a0, a1, a2, af⟩ := s4.facts3
  obtain ⟨n, hn⟩ : ∃ n, xs.length = n := ⟨_, rfl⟩
  rw [hn] at HROW hxl2 ⊢
  have HN := hide hn
  clear hn
  by_cases h0 : n = 0
  · have hd0 : decide ((0 : Int) < (n : Int)) = false := by simp; omega
    skip
    have z4 := t4
    have hfin := ((z4.set_ 0 (.int .i64 0)).set_ 1 (.int .i64 v5)).set_ 2 (.bool ob)
    have hDf := ((hD4.set (p := ⟨w.heap.size + 1, 0, none⟩) (by simp only; omega) (.int .i64 0)).set (p := ⟨w.heap.size + 1, 1, none⟩) (by simp only; omega) (.int .i64 v5)).set (p := ⟨w.heap.size + 1, 2, none⟩) (by simp only; omega) (.bool ob)
    have hGf := grown_set (grown_set (grown_set HG4.out (p := ⟨w.heap.size + 1, 0, none⟩) (.inr (by simp)) (.int .i64 0)) (p := ⟨w.heap.size + 1, 1, none⟩) (.inr (by simp)) (.int .i64 v5)) (p := ⟨w.heap.size + 1, 2, none⟩) (.inr (by simp)) (.bool ob)
    simp only [List.setIfInBounds_toArray, List.set_cons_zero, List.set_cons_succ] at hfin
    obtain ⟨x0, x1, x2, xf⟩ := hfin.facts3
    have hP : UsMade b u w (.returned (.agg #[.int .i64 0, .int .i64 v5, .bool ob])) _ := ⟨⟨0, v5, ob⟩, rfl, HUG.out _ _ _ (by omega) (.inl rfl), hDf, hGf⟩
    have HP := hide hP
    obtain ⟨z0, z1, z2, zf⟩ := z4.facts3
    obtain ⟨y0, y1, y2, yf⟩ := (s4).facts3
    clear hP hfin hDf hGf
    go_wp2
    refine bodyPost_ret (v := .agg #[.int .i64 0, .int .i64 v5, .bool ob]) (by simp [results, Tryz.results43, go_sem, x0, x1, x2]) rfl HP.out
  · have hd0 : decide ((0 : Int) < (n : Int)) = true := by simp; omega
    have hnp : 0 < n := by omega
    cases ob
    · go_wp2_with fail
      refine (next_any _ _ (by omega) _ hD4).mono ?_
      rintro e w5 ⟨v2, rfl, h20, h21, hD5, hg5, hz5⟩
      clear hz5
      have s5 := s4.only hg5 (by omega)
      have t5 := t4.only hg5 (by omega)
      have HG5 := hide (grown_trans HG4.out hg5)
      have HROW5 := hide (own_deck HROW.out hg5 (by have := hz3; omega))
      clear a0 a1 a2 af s4 t4 hD4 hg5
      obtain ⟨a0, a1, a2, af⟩ := s5.facts3
      by_cases h2 : v2 = 0
      · have hd2 : (v2 == 0) = true := by simpa using h2
        subst h2
        go_wp2_with fail
        refine (next_any _ _ (by have := hxl2.out; omega) _ hD5).mono ?_
        rintro e w6 ⟨ix, rfl, hi0, hi1, hD6, hg6, hz6⟩
        clear hz6
        have s6 := s5.only hg6 (by omega)
        have t6 := t5.only hg6 (by omega)
        have HG6 := hide (grown_trans HG5.out hg6)
        have hr6 := own_deck HROW5.out hg6 (by have := hz3; omega)
        clear a0 a1 a2 af s5 t5 hD5 hg6
        obtain ⟨a0, a1, a2, af⟩ := s6.facts3
        obtain ⟨g, cap, hv, hge, hlt⟩ := hr6.form hnp
        injection hv with hv1 hv2 hv3
        subst hv1
        clear hv2 hv3
        obtain ⟨i, hi⟩ : ∃ i : Nat, ix = (i : Int) := ⟨ix.toNat, (Int.toNat_of_nonneg hi0).symm⟩
        subst hi
        have hin : i < n := by omega
        have hini : (i : Int) < (n : Int) := by omega
        have hxi : i < xs.length := by rw [HN.out]; exact hin
        obtain ⟨fl, hfl⟩ : ∃ f, xs[i]? = some f := ⟨_, List.getElem?_eq_getElem hxi⟩
        have hrun : runsB u fl = true := hxg2.out fl (List.mem_of_getElem? hfl)
        have hcell : w6.cell? ⟨g, i, none⟩ = some (.int .i64 fl) := by
          rw [hr6.cellAt i (by omega)]
          simp [ints, hfl]
        have hng : w2.heap.size ≠ g := by omega
        have s7 := s6.set_ 0 (.int .i64 fl)
        simp only [List.setIfInBounds_toArray, List.set_cons_zero] at s7
        have t7 := t6.far (p := ⟨w2.heap.size, 0, none⟩) (by simp only; omega) (.int .i64 fl)
        have hD7 := hD6.set (p := ⟨w2.heap.size, 0, none⟩) (by simp only; omega) (.int .i64 fl)
        have HG7 := hide (grown_set HG6.out (p := ⟨w2.heap.size, 0, none⟩) (.inr (by simp only; omega)) (.int .i64 fl))
        clear hr6 hfl HROW HROW5 HG4 HG5 HG6 HN
        have z4 := t7
        have hfin := ((z4.set_ 0 (.int .i64 fl)).set_ 1 (.int .i64 v5)).set_ 2 (.bool false)
        have hDf := ((hD7.set (p := ⟨w.heap.size + 1, 0, none⟩) (by simp only; omega) (.int .i64 fl)).set (p := ⟨w.heap.size + 1, 1, none⟩) (by simp only; omega) (.int .i64 v5)).set (p := ⟨w.heap.size + 1, 2, none⟩) (by simp only; omega) (.bool false)
        have hGf := grown_set (grown_set (grown_set HG7.out (p := ⟨w.heap.size + 1, 0, none⟩) (.inr (by simp)) (.int .i64 fl)) (p := ⟨w.heap.size + 1, 1, none⟩) (.inr (by simp)) (.int .i64 v5)) (p := ⟨w.heap.size + 1, 2, none⟩) (.inr (by simp)) (.bool false)
        simp only [List.setIfInBounds_toArray, List.set_cons_zero, List.set_cons_succ] at hfin
        obtain ⟨x0, x1, x2, xf⟩ := hfin.facts3
        have hP : UsMade b u w (.returned (.agg #[.int .i64 fl, .int .i64 v5, .bool false])) _ := ⟨⟨fl, v5, false⟩, rfl, HUG.out _ _ _ (by omega) (.inr ⟨rfl, hrun⟩), hDf, hGf⟩
        have HP := hide hP
        obtain ⟨z0, z1, z2, zf⟩ := z4.facts3
        obtain ⟨y0, y1, y2, yf⟩ := (s7).facts3
        clear hP hfin hDf hGf
        go_wp2
        refine bodyPost_ret (v := .agg #[.int .i64 fl, .int .i64 v5, .bool false]) (by simp [results, Tryz.results43, go_sem, x0, x1, x2]) rfl HP.out
      · have hd2 : (v2 == 0) = false := by simpa using h2
        have z4 := t5
        have hfin := ((z4.set_ 0 (.int .i64 0)).set_ 1 (.int .i64 v5)).set_ 2 (.bool false)
        have hDf := ((hD5.set (p := ⟨w.heap.size + 1, 0, none⟩) (by simp only; omega) (.int .i64 0)).set (p := ⟨w.heap.size + 1, 1, none⟩) (by simp only; omega) (.int .i64 v5)).set (p := ⟨w.heap.size + 1, 2, none⟩) (by simp only; omega) (.bool false)
        have hGf := grown_set (grown_set (grown_set HG5.out (p := ⟨w.heap.size + 1, 0, none⟩) (.inr (by simp)) (.int .i64 0)) (p := ⟨w.heap.size + 1, 1, none⟩) (.inr (by simp)) (.int .i64 v5)) (p := ⟨w.heap.size + 1, 2, none⟩) (.inr (by simp)) (.bool false)
        simp only [List.setIfInBounds_toArray, List.set_cons_zero, List.set_cons_succ] at hfin
        obtain ⟨x0, x1, x2, xf⟩ := hfin.facts3
        have hP : UsMade b u w (.returned (.agg #[.int .i64 0, .int .i64 v5, .bool false])) _ := ⟨⟨0, v5, false⟩, rfl, HUG.out _ _ _ (by omega) (.inl rfl), hDf, hGf⟩
        have HP := hide hP
        obtain ⟨z0, z1, z2, zf⟩ := z4.facts3
        obtain ⟨y0, y1, y2, yf⟩ := (s5).facts3
        clear hP hfin hDf hGf
        go_wp2
        refine bodyPost_ret (v := .agg #[.int .i64 0, .int .i64 v5, .bool false]) (by simp [results, Tryz.results43, go_sem, x0, x1, x2]) rfl HP.out
    · skip
      have z4 := t4
      have hfin := ((z4.set_ 0 (.int .i64 0)).set_ 1 (.int .i64 v5)).set_ 2 (.bool true)
      have hDf := ((hD4.set (p := ⟨w.heap.size + 1, 0, none⟩) (by simp only; omega) (.int .i64 0)).set (p := ⟨w.heap.size + 1, 1, none⟩) (by simp only; omega) (.int .i64 v5)).set (p := ⟨w.heap.size + 1, 2, none⟩) (by simp only; omega) (.bool true)
      have hGf := grown_set (grown_set (grown_set HG4.out (p := ⟨w.heap.size + 1, 0, none⟩) (.inr (by simp)) (.int .i64 0)) (p := ⟨w.heap.size + 1, 1, none⟩) (.inr (by simp)) (.int .i64 v5)) (p := ⟨w.heap.size + 1, 2, none⟩) (.inr (by simp)) (.bool true)
      simp only [List.setIfInBounds_toArray, List.set_cons_zero, List.set_cons_succ] at hfin
      obtain ⟨x0, x1, x2, xf⟩ := hfin.facts3
      have hP : UsMade b u w (.returned (.agg #[.int .i64 0, .int .i64 v5, .bool true])) _ := ⟨⟨0, v5, true⟩, rfl, HUG.out _ _ _ (by omega) (.inl rfl), hDf, hGf⟩
      have HP := hide hP
      obtain ⟨z0, z1, z2, zf⟩ := z4.facts3
      obtain ⟨y0, y1, y2, yf⟩ := (s4).facts3
      clear hP hfin hDf hGf
      go_wp2
      refine bodyPost_ret (v := .agg #[.int .i64 0, .int .i64 v5, .bool true]) (by simp [results, Tryz.results43, go_sem, x0, x1, x2]) rfl HP.out
end Go.Proofs.YtodamjjlnagpjaaGreatDoor
namespace Go.Proofs.YtodamjjlnagpjaaGreatDoor
open Go.RowKit

def sel {α : Type} (c : Bool) (x y : α) : α := match c with | true => x | false => y
theorem sel_t {α : Type} (x y : α) : sel true x y = x := rfl
theorem sel_f {α : Type} (x y : α) : sel false x y = y := rfl
theorem putIf_ff (d : Nat) (v : Value) (a : Act) : putIf false d v a = a := rfl
structure TwoB (w0 : World) (b T z : Nat) (bt : TypeId) (bc : Array Value) (S : Nat → Prop) (φ : World → Prop) (e1 e2 : TypeId) (z1 z2 : Nat) (W : World) (v1 : Value) (n1 : Nat) (xs1 : List Value) (v2 : Value) (n2 : Nat) (xs2 : List Value) : Prop where
  r1 : W.ownsRow z e1 z1 v1 n1 xs1
  r2 : W.ownsRow z e2 z2 v2 n2 xs2
  ne : ∀ g, v1.ownBlock = some g → v2.ownBlock ≠ some g
  he : Held S W φ
  s1 : ∀ i, S i → b < i ∧ v1.ownBlock ≠ some i ∧ v2.ownBlock ≠ some i
  dk : Dk W b
  bz : b < z
  zl : w0.heap.size ≤ z
  zw : z ≤ W.heap.size
  box : Blk W T bt bc
  tn : v1.ownBlock ≠ some T ∧ v2.ownBlock ≠ some T ∧ T ≠ b
  gr : w0.grownBy W (some b)
section
variable {w0 W W' : World} {b T z : Nat} {bt : TypeId} {bc : Array Value} {S : Nat → Prop} {φ : World → Prop} {e1 e2 : TypeId} {z1 z2 : Nat} {v1 v2 : Value} {n1 n2 : Nat} {xs1 xs2 : List Value}
theorem TwoB.alloc (h : TwoB w0 b T z bt bc S φ e1 e2 z1 z2 W v1 n1 xs1 v2 n2 xs2) (o : Obj) : TwoB w0 b T z bt bc S φ e1 e2 z1 z2 (W.alloc o) v1 n1 xs1 v2 n2 xs2 :=
  ⟨h.r1.alloc _, h.r2.alloc _, h.ne, h.he.alloc _, h.s1, h.dk.alloc _, h.bz, h.zl, by have := h.zw; simp only [World.size_alloc]; omega, h.box.alloc _, h.tn, grown_alloc h.gr _⟩
theorem TwoB.drew (h : TwoB w0 b T z bt bc S φ e1 e2 z1 z2 W v1 n1 xs1 v2 n2 xs2) : TwoB w0 b T z bt bc S φ e1 e2 z1 z2 W.drew v1 n1 xs1 v2 n2 xs2 :=
  ⟨h.r1.drew, h.r2.drew, h.ne, h.he.drew, h.s1, h.dk.drew, h.bz, h.zl, h.zw, h.box.drew, h.tn, grown_drew h.gr⟩
theorem TwoB.deck (h : TwoB w0 b T z bt bc S φ e1 e2 z1 z2 W v1 n1 xs1 v2 n2 xs2) (hg : W.grownBy W' (some b)) (hd : Dk W' b) : TwoB w0 b T z bt bc S φ e1 e2 z1 z2 W' v1 n1 xs1 v2 n2 xs2 :=
  ⟨own_deck h.r1 hg h.bz, own_deck h.r2 hg h.bz, h.ne, h.he.deck hg fun i hi => (h.s1 i hi).1, h.s1, hd, h.bz, h.zl, Nat.le_trans h.zw hg.size, h.box.only hg h.tn.2.2, h.tn, grown_trans h.gr hg⟩
theorem not_own {v v' : Value} {i : Nat} (hor : v'.ownBlock = v.ownBlock ∨ ∃ g, v'.ownBlock = some g ∧ W.heap.size ≤ g) (hi : i < W.heap.size) (hn : v.ownBlock ≠ some i) : v'.ownBlock ≠ some i := by
  intro e
  rcases hor with h | ⟨g, h, hg⟩
  · exact hn (h ▸ e)
  · rw [h] at e; injection e with e; omega
theorem TwoB.push1 (h : TwoB w0 b T z bt bc S φ e1 e2 z1 z2 W v1 n1 xs1 v2 n2 xs2) {v' : Value} {n' : Nat} {ys : List Value} (hr : W'.ownsRow z e1 z1 v' n' ys) (hg : W.grownBy W' v1.ownBlock) (hor : v'.ownBlock = v1.ownBlock ∨ ∃ g, v'.ownBlock = some g ∧ W.heap.size ≤ g) : TwoB w0 b T z bt bc S φ e1 e2 z1 z2 W' v' n' ys v2 n2 xs2 := by
  have hz : ∀ k, v1.ownBlock = some k → z ≤ k := fun k hk => (h.r1.lt k hk).1
  refine ⟨hr, ?_, ?_, ?_, ?_, h.dk.other hg (fun k hk => by have := hz k hk; have := h.bz; omega), h.bz, h.zl, Nat.le_trans h.zw hg.size, ?_, ?_, grown_push h.gr hg (fun k hk => ?_)⟩
  · exact ownsRow_agree h.r2 fun g hg2 => hg.block g (h.r2.lt g hg2).2 fun e => h.ne g e.symm hg2
  · intro g h1 h2
    exact not_own hor (h.r2.lt g h2).2 (fun e => h.ne g e h2) h1
  · exact h.he.grown hg fun k hk hs => (h.s1 k hs).2.1 hk
  · intro i hi
    exact ⟨(h.s1 i hi).1, not_own hor (h.he.lt hi) (h.s1 i hi).2.1, (h.s1 i hi).2.2⟩
  · exact (hg.block T h.box.lt fun e => h.tn.1 e.symm).trans h.box
  · exact ⟨not_own hor h.box.lt h.tn.1, h.tn.2.1, h.tn.2.2⟩
  · exact Nat.le_trans h.zl (hz k hk)
theorem TwoB.swap (h : TwoB w0 b T z bt bc S φ e1 e2 z1 z2 W v1 n1 xs1 v2 n2 xs2) : TwoB w0 b T z bt bc S φ e2 e1 z2 z1 W v2 n2 xs2 v1 n1 xs1 :=
  ⟨h.r2, h.r1, fun g h1 h2 => h.ne g h2 h1, h.he, fun i hi => ⟨(h.s1 i hi).1, (h.s1 i hi).2.2, (h.s1 i hi).2.1⟩, h.dk, h.bz, h.zl, h.zw, h.box, ⟨h.tn.2.1, h.tn.1, h.tn.2.2⟩, h.gr⟩
theorem TwoB.push2 (h : TwoB w0 b T z bt bc S φ e1 e2 z1 z2 W v1 n1 xs1 v2 n2 xs2) {v' : Value} {n' : Nat} {ys : List Value} (hr : W'.ownsRow z e2 z2 v' n' ys) (hg : W.grownBy W' v2.ownBlock) (hor : v'.ownBlock = v2.ownBlock ∨ ∃ g, v'.ownBlock = some g ∧ W.heap.size ≤ g) : TwoB w0 b T z bt bc S φ e1 e2 z1 z2 W' v1 n1 xs1 v' n' ys :=
  (h.swap.push1 hr hg hor).swap
/-- A block that waits to be appended. -/
structure Pd (W : World) (b : Nat) (v1 v2 : Value) (x : Nat) (t : TypeId) (cs : Array Value) : Prop where
  blk : Blk W x t cs
  n1 : v1.ownBlock ≠ some x
  n2 : v2.ownBlock ≠ some x
  nb : x ≠ b
variable {x : Nat} {t : TypeId} {cs : Array Value}
theorem TwoB.pd (h : TwoB w0 b T z bt bc S φ e1 e2 z1 z2 W v1 n1 xs1 v2 n2 xs2) (t : TypeId) (cs : Array Value) : Pd (W.alloc (.cells cs t)) b v1 v2 W.heap.size t cs :=
  ⟨Blk.new _ _ _, fun e => by have := (h.r1.lt _ e).2; omega, fun e => by have := (h.r2.lt _ e).2; omega, by have := h.bz; have := h.zw; omega⟩
theorem Pd.alloc (h : Pd W b v1 v2 x t cs) (o : Obj) : Pd (W.alloc o) b v1 v2 x t cs := ⟨h.blk.alloc _, h.n1, h.n2, h.nb⟩
theorem Pd.deck (h : Pd W b v1 v2 x t cs) (hg : W.grownBy W' (some b)) : Pd W' b v1 v2 x t cs := ⟨h.blk.only hg h.nb, h.n1, h.n2, h.nb⟩
theorem Pd.push1 (h : Pd W b v1 v2 x t cs) {v' : Value} (hg : W.grownBy W' v1.ownBlock) (hor : v'.ownBlock = v1.ownBlock ∨ ∃ g, v'.ownBlock = some g ∧ W.heap.size ≤ g) : Pd W' b v' v2 x t cs :=
  ⟨(hg.block x h.blk.lt fun e => h.n1 e.symm).trans h.blk, not_own hor h.blk.lt h.n1, h.n2, h.nb⟩
theorem Pd.push2 (h : Pd W b v1 v2 x t cs) {v' : Value} (hg : W.grownBy W' v2.ownBlock) (hor : v'.ownBlock = v2.ownBlock ∨ ∃ g, v'.ownBlock = some g ∧ W.heap.size ≤ g) : Pd W' b v1 v' x t cs :=
  ⟨(hg.block x h.blk.lt fun e => h.n2 e.symm).trans h.blk, h.n1, not_own hor h.blk.lt h.n2, h.nb⟩
end
section
variable {P : Program} {ops : Array Oper} {Q : Exit → Act → World → Prop} {i : Nat} {o : Oper} {a : Act} {w : World} {K : Act → World → Prop}
theorem opJ_append (hop : ops[i]? = some o) (hgd : o.guard = none) (s x : Operand) (t : TypeId)
    (ho : o.op = .call { callee := .builtin .append, args := #[s, x], argTypes := #[t, t] }) (base : Nat) (e : TypeId) (size : Nat) (hT : SlT P t e size) (v : Value) (n : Nat) (xs : List Value) (hs : a.eval s = v) (hown : w.ownsRow base e size v n xs)
    (g m c : Nat) (cs : Array Value) (hx : a.eval x = .slice (some ⟨g, 0, none⟩) 1 c) (hc : 1 ≤ c ∧ c ≤ 1) (hl : cs.size = size) (hb : Blk w g m cs) (h1 : ∀ u ∈ cs.toList, u.oneCell' = true) (hnm : n + 1 < 549755813888) (hbase : base ≤ w.heap.size)
    (h : ∀ v' w', w'.ownsRow base e size v' (n + 1) (xs ++ cs.toList) → w.grownBy w' v.ownBlock → (v'.ownBlock = v.ownBlock ∨ ∃ g, v'.ownBlock = some g ∧ w.heap.size ≤ g) → K (a.put o.dst v') w') :
    wpOp P ops Q i K a w := by
  have hw : Region.wanted o (yielded ops a.tmps) = true := by simp [Region.wanted, hgd]
  have hsl : Sl w w.heap.size size (some ⟨g, 0, none⟩) 1 c cs.toList := ⟨by simp [hl], hc.1, by unfold maxLen; omega, fun _ => ⟨g, 0, rfl, hb.lt, fun j u hu => by rw [hb.facts.1, Nat.zero_add, ← hu]; simp⟩⟩
  have h2 := step_ext (ops := ops) (Q := Q) (E := True) hgd s x t ho base e size hT v n xs hs hown (some ⟨g, 0, none⟩) 1 c w.heap.size cs.toList hx hsl h1 hnm hbase h
  rw [if_pos hw] at h2
  exact opJ hop hgd h2
theorem opJ_bs {w' : World} {v : Value} (ho : ops[i]? = some o) (hg : o.guard = none) (t : TypeId) (x : Operand) (p : Value) (hop : o.op = .buildSlice t 1 #[(0, x)]) (hx : a.eval x = p) (hr : (Instr.buildSlice t 1 #[(0, p)]).run P w = .ok v w') (hK : K (a.put o.dst v) w') : wpOp P ops Q i K a w :=
  opJ_val (w' := w') (v := v) ho hg (by simp [execOp, hop, hx, hr]) hK
theorem opJ_assign {v : Value} (ho : ops[i]? = some o) (hg : o.guard = none) (x : Operand) (hop : o.op = .assign x) (hx : a.eval x = v) (hK : K (a.put o.dst v) w) : wpOp P ops Q i K a w :=
  opJ_val (w' := w) (v := v) ho hg (by simp [execOp, hop, hx]) hK
theorem opJ_build {v : Value} (ho : ops[i]? = some o) (hg : o.guard = none) (t : TypeId) (x y : Operand) (p q : Value) (hop : o.op = .build t #[(0, x), (1, y)]) (hx : a.eval x = p) (hy : a.eval y = q) (hr : (Instr.build t #[(0, p), (1, q)]).run P w = .ok v w) (hK : K (a.put o.dst v) w) : wpOp P ops Q i K a w :=
  opJ_val (w' := w) (v := v) ho hg (by simp [execOp, hop, hx, hy, hr]) hK
end
end Go.Proofs.YtodamjjlnagpjaaGreatDoor
