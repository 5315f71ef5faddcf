/-
  The walk of TopOperated up to its sanity check: the level asked is that of the water that is there, the turbines take at most what the rules permit. Condition: the list lies in memory; the table of kinds; the sanity check holds.
-/
import Derived.Test.YtodamjjlnagpjaaGreatDoorProg
import Derived.Test.YtodamjjlnagpjaaGreatDoorTge
import Derived.Test.YtodamjjlnagpjaaGreatDoorTor
import Derived.Test.YtodamjjlnagpjaaGreatDoorTod
namespace Go.Proofs.YtodamjjlnagpjaaGreatDoor
open Go.RowKit

theorem cfChoose : ∀ (a : Array Value) (W : World), (callFunc 10 a).run Tryz.prog W = .ok (.enter 10 a) W := fun _ _ => by kernel_rfl
section
variable {P : Program} {ops : Array Oper} {Q : Exit → Act → World → Prop} {i : Nat} {o : Oper} {a : Act} {w w' : World} {K : Act → World → Prop} {v : Value}
theorem opJ_build1 (ho : ops[i]? = some o) (hg : o.guard = none) (t : TypeId) (j : Nat) (y : Operand) (q : Value) (hop : o.op = .build t #[(j, y)]) (hy : a.eval y = q) (hr : (Instr.build t #[(j, q)]).run P w = .ok v w) (hK : K (a.put o.dst v) w) : wpOp P ops Q i K a w :=
  opJ_val (w' := w) (v := v) ho hg (by simp [execOp, hop, hy, hr]) hK
theorem map6J {x1 x2 x3 x4 x5 x6 : Operand} {v1 v2 v3 v4 v5 v6 : Value} (h1 : a.eval x1 = v1) (h2 : a.eval x2 = v2) (h3 : a.eval x3 = v3) (h4 : a.eval x4 = v4) (h5 : a.eval x5 = v5) (h6 : a.eval x6 = v6) : (#[x1, x2, x3, x4, x5, x6] : Array Operand).map a.eval = #[v1, v2, v3, v4, v5, v6] := by simp [h1, h2, h3, h4, h5, h6]
end
set_option maxHeartbeats 6400000 in
set_option maxRecDepth 20000 in
theorem operated_of (A : Option Addr) (n c : Nat) (zs : List Int) (w : World) (hT : KT w) (hs : Sl w w.heap.size 1 A n c (ints zs)) (HA : ∀ W, Below w.heap.size w W → Calls Tryz.prog 14 #[] W fun e w' => e = .returned (.bool true) ∧ Below W.heap.size W w') :
    Calls Tryz.prog 3 #[.slice A n c] w fun e w' => e = .returned (.bool true) ∧ Below w.heap.size w w' := by
  have HAW := hide HA
  have HKT := hide hT
  clear HA hT
  go_enter Tryz.func3, Tryz.ntmps3
  go_wp2_with fail
  refine (new_any A n c zs w hs).mono ?_
  rintro e w1 ⟨rfl, hD1, hb1⟩
  go_wp2_with fail
  refine (mkdam_any w.heap.size w1 hD1).mono ?_
  rintro e w2 ⟨d, s, S, rfl, hdg, hsg, hS, hH, hD2, hg2⟩
  have hz1 : w.heap.size < w1.heap.size := hD1.lt
  obtain ⟨q3, t3, hb3⟩ := blk_two w2 31 35 d.arr s.arr
  have hz2 : w1.heap.size ≤ w2.heap.size := hg2.size
  have hL3 : LB w w.heap.size w2.heap.size (w2.heap.size + 1) d s S S ((w2.alloc (.cells d.arr 31)).alloc (.cells s.arr 35)) :=
    ⟨q3, t3, (hH.below hb3).imp (fun _ h => h.1), (hH.below hb3).imp (fun _ h => h.2), fun i hi => by have := hS i hi; have := hH.lt hi; omega, fun i hi => by have := hS i hi; have := hH.lt hi; omega, hD2.below hb3, by omega, (below_grown hb1 hg2 hb1.size (Nat.le_refl _)).trans (hb3.mono (by omega))⟩
  have HDG := hide hdg
  have HSG := hide hsg
  have hz3 : ((w2.alloc (.cells d.arr 31)).alloc (.cells s.arr 35)).heap.size = w2.heap.size + 2 := by simp
  have HLV := hide (fun (s : Ds) (hsg : DsG d s) (W : World) (hd : d.ok W) (hs : s.ok W) => dlevel_any d s HDG.out hsg W hd hs)
  have HVO := hide (fun (lv : Int) (hl : 0 ≤ lv ∧ lv ≤ 16777216) (W : World) (hd : d.ok W) => volume_any d.r HDG.out.r lv hl W hd.1)
  have HSP0 := hide (fun (s : Ds) (hsg : DsG d s) (i1 i2 i3 : Int) (W : World) (h1 : 0 ≤ i1 ∧ i1 ≤ 1073741824) (h2 : 0 ≤ i2 ∧ i2 ≤ 1073741824) (h3 : 0 ≤ i3 ∧ i3 ≤ 1073741824) (hd : d.ok W) (hs : s.ok W) => step_any d s HDG.out hsg i1 i2 i3 h1 h2 h3 W hd hs)
  have HRV := hide (fun (s2 : Ds) (hsg : DsG d s2) (W : World) (hd : d.ok W) (hs : s2.ok W) => rdvalid_ok d s2 HDG.out hsg W hd hs)
  unfold Dm.arr at hL3 HLV HSP0 HRV hz3 ⊢
  unfold Ds.arr at hL3 HLV HSP0 HRV hz3 ⊢
  unfold Rs.arr at HVO
  unfold Cv.v at hL3 HLV HVO HSP0 HRV hz3 ⊢
  clear hdg hsg hS hH hD1 hD2 hg2 hb1 q3 t3 hb3 hs
  go_wp2_with fail
  generalize (w2.alloc _).alloc _ = w3 at *
  generalize w2.heap.size = T4 at *
  refine (conds_any w.heap.size w3 hL3.dk).mono ?_
  rintro e w4 ⟨vC, cs, rfl, hcl, hcg, hvC, hDk4, hg4⟩
  obtain ⟨CA, cc, rfl, _⟩ := own_sl hvC
  obtain ⟨Sc, hSc⟩ : ∃ Sc : Nat → Prop, Sc = fun g => (Value.slice CA cs.length cc).ownBlock = some g := ⟨_, rfl⟩
  have hO4 : OB w w.heap.size T4 (T4 + 1) d s S S Sc CA cs.length cc cs w4 := ⟨hL3.deck hg4 hDk4, by rw [hSc]; exact held_sl hvC, fun i hi => by
    rw [hSc] at hi
    have h1 := (hvC.lt i hi).1
    have h2 := hL3.xl
    omega⟩
  have HCG := hide (fun x hx => good_err (hcg x hx))
  clear hSc hvC hg4 hDk4 hL3 hz3 hcg
  generalize hT5 : T4 + 1 = T5 at *
  generalize hbb : w.heap.size = b at *
  clear hT5
  go_wp2
  go_loopw [7] (fun kv wr => ∃ (k : Nat) (s : Ds) (Ss : Nat → Prop), k ≤ 6 ∧ kv = .int .i64 k ∧ Hid (DsG d s) ∧ OB w b T4 T5 d s S Ss Sc CA cs.length cc cs wr) (fun i _ => 6 - (intOf i).toNat)
  case atStart => exact ⟨0, s, S, by omega, rfl, HSG, hO4⟩
  case round =>
    clear hO4 HSG
    obtain ⟨k, s, Ss, hk, rfl, HSG, hL⟩ := hrel
    by_cases hlt : k < 6
    · have hki : (k : Int) < 6 := by omega
      have hwk : IntKind.i64.wrap ((k : Int) * 60) = (k : Int) * 60 := by rw [IntKind.wrap_i64]; omega
      obtain ⟨c0, c1, c2, c3, c4, c5, c6, c7, c8, cf⟩ := facts9 hL.lb.t4
      obtain ⟨f0, f1, f2, f3, ff⟩ := hL.lb.t5.facts4
      go_wp2_with fail
      refine (HLV.out s HSG.out wr hL.lb.hd.out hL.lb.hs.out).mono ?_
      rintro e w5 ⟨rfl, hb5⟩
      have hL5 := hL.below hb5
      have hlv := lastX_in HDG.out.r.st s.vo
      have hval := val_last HDG.out.r.st s.vo
      have hne := HDG.out.r.st.ne
      generalize lastX d.r.st.ps s.vo = lv at *
      clear c0 c1 c2 c3 c4 c5 c6 c7 c8 cf f0 f1 f2 f3 ff hL hb5
      obtain ⟨c0, c1, c2, c3, c4, c5, c6, c7, c8, cf⟩ := facts9 hL5.lb.t4
      obtain ⟨f0, f1, f2, f3, ff⟩ := hL5.lb.t5.facts4
      go_wp2_with fail
      refine (HVO.out lv (by omega) w5 hL5.lb.hd.out).mono ?_
      rintro e w6 ⟨rfl, hb6⟩
      have hL6 := hL5.below hb6
      generalize val d.r.st.ps lv = V at *
      have HSP := hide (fun (i1 i2 i3 : Int) (W : World) (h1 : 0 ≤ i1 ∧ i1 ≤ 1073741824) (h2 : 0 ≤ i2 ∧ i2 ≤ 1073741824) (h3 : 0 ≤ i3 ∧ i3 ≤ 1073741824) (hd : d.ok W) (hs : s.ok W) => HSP0.out s HSG.out i1 i2 i3 W h1 h2 h3 hd hs)
      have HCH := hide (fun (j1 : Int) (hj : 0 ≤ j1 ∧ j1 ≤ 1000) (W : World) (hW : Below w.heap.size w W) (hc : Sl W W.heap.size 7 CA cs.length cc (cdCells cs)) => choose_law CA cs.length cc cs ((k : Int) * 60) lv s.re j1 (by omega) HCG.out (by omega) (by omega) HSG.out.re hj W (HKT.out.below hW HKT.out.pos) hc)
      obtain ⟨Sd, hSd⟩ : ∃ Sd, Sd = S := ⟨_, rfl⟩
      rw [← hSd] at hL6
      have HSD := hide hSd
      clear c0 c1 c2 c3 c4 c5 c6 c7 c8 cf f0 f1 f2 f3 ff hL5 hb6 hSd
      have hx6 := hL6.lb.xl
      go_wp2_with fail
      -- <R
      refine wp_region_Jb (J := fun a0 l a' w' => ∃ (xc : Nat) (j1 rl lo hi : Int) (Y : Option Addr) (yn yk : Nat), a' = putIf (done l 0) 44 (.slice CA cs.length cc) (putIf (done l 1) 45 (.int .i64 (k : Int)) (putIf (done l 2) 46 (.int .i64 ((k : Int) * 60)) (putIf (done l 3) 47 (.int .i64 lv) (putIf (done l 4) 48 (.pointer (some ⟨T5, 1, none⟩)) (putIf (done l 5) 49 (.int .i64 s.re) (putIf (done l 6) 50 (.agg #[.int .i64 0, .int .i64 1073741824]) (putIf (done l 7) 51 (.pointer (some ⟨b, 0, none⟩)) (putIf (done l 8) 52 (.int .i64 j1) (putIf (done l 9) 53 (.tuple #[.agg #[.int .i64 rl, .int .i64 lo, .int .i64 hi, .slice Y yn yk], .int .i64 0]) (putIf (done l 10) 43 (.tuple #[.agg #[.int .i64 rl, .int .i64 lo, .int .i64 hi, .slice Y yn yk], .int .i64 0]) (putIf (done l 11) 54 (.agg #[.int .i64 rl, .int .i64 lo, .int .i64 hi, .slice Y yn yk]) (putIf (done l 12) 55 (.int .i64 0) (putIf (done l 13) 12 (.pointer (some ⟨xc, 0, none⟩)) (putIf (done l 15) 13 (.int .i64 0) (a0))))))))))))))) ∧ OB w b T4 T5 d s Sd Ss Sc CA cs.length cc cs w' ∧ w6.heap.size ≤ w'.heap.size ∧ (done l 8 = true → 0 ≤ j1 ∧ j1 ≤ 1000) ∧ (done l 9 = true → (0 ≤ rl ∧ rl ≤ 1073741824) ∧ rl ≤ hi) ∧ (done l 13 = true → w6.heap.size ≤ xc ∧ Blk w' xc 48 (sel (done l 14) #[.int .i64 rl, .int .i64 lo, .int .i64 hi, .slice Y yn yk] #[.int .i64 0, .int .i64 0, .int .i64 0, .slice none 0 0])) ∧ (done l 9 = true → done l 8 = true) ∧ (done l 10 = true → done l 9 = true) ∧ (done l 11 = true → done l 10 = true) ∧ (done l 14 = true → done l 9 = true) ∧ (done l 14 = true → done l 13 = true)) (by kernel_rfl) ?_ ?_ ?_ ?_
      · refine ⟨0, 0, 0, 0, 0, none, 0, 0, ?_, hL6.drew, Nat.le_refl _, fun h => ?_, fun h => ?_, fun h => ?_, fun h => ?_, fun h => ?_, fun h => ?_, fun h => ?_, fun h => ?_⟩
        · simp only [done_none]; rfl
        · rw [done_none] at h; cases h
        · rw [done_none] at h; cases h
        · rw [done_none] at h; cases h
        · rw [done_none] at h; cases h
        · rw [done_none] at h; cases h
        · rw [done_none] at h; cases h
        · rw [done_none] at h; cases h
        · rw [done_none] at h; cases h
      · intro l a' w' i hsz hJ hi'
        obtain ⟨xc, j1, rl, lo, hi, Y, yn, yk, rfl, hL, hzw, h8, h9, h13, h98, h109, h1110, h149, h1413⟩ := hJ
        rw [ready_iff] at hi'
        obtain ⟨hiN, hnl, haf⟩ := hi'
        have hz' := done_not hnl
        have hl := getD_lt hnl
        have hcases : i = 0 ∨ i = 1 ∨ i = 2 ∨ i = 3 ∨ i = 4 ∨ i = 5 ∨ i = 6 ∨ i = 7 ∨ i = 8 ∨ i = 9 ∨ i = 10 ∨ i = 11 ∨ i = 12 ∨ i = 13 ∨ i = 14 ∨ i = 15 := by
          have : i < 16 := hiN
          omega
        rcases hcases with rfl | rfl | rfl | rfl | rfl | rfl | rfl | rfl | rfl | rfl | rfl | rfl | rfl | rfl | rfl | rfl
        · skip
          have dq1 := dOt 0 1 (l := l)
          have dq2 := dOt 0 2 (l := l)
          have dq3 := dOt 0 3 (l := l)
          have dq4 := dOt 0 4 (l := l)
          have dq5 := dOt 0 5 (l := l)
          have dq6 := dOt 0 6 (l := l)
          have dq7 := dOt 0 7 (l := l)
          have dq8 := dOt 0 8 (l := l)
          have dq9 := dOt 0 9 (l := l)
          have dq10 := dOt 0 10 (l := l)
          have dq11 := dOt 0 11 (l := l)
          have dq12 := dOt 0 12 (l := l)
          have dq13 := dOt 0 13 (l := l)
          have dq14 := dOt 0 14 (l := l)
          have dq15 := dOt 0 15 (l := l)
          exact opJ_move (v := .slice CA cs.length cc) rfl rfl (.tmp 6) rfl (by simp only [pEo 44 6, pEo 45 6, pEo 46 6, pEo 47 6, pEo 48 6, pEo 49 6, pEo 50 6, pEo 51 6, pEo 52 6, pEo 53 6, pEo 43 6, pEo 54 6, pEo 55 6, pEo 12 6, pEo 13 6]; rfl) ⟨xc, j1, rl, lo, hi, Y, yn, yk, (by show Act.put _ (some 44) _ = _; simp only [hz', putIf_here2, done_same hl, dq1, dq2, dq3, dq4, dq5, dq6, dq7, dq8, dq9, dq10, dq11, dq12, dq13, dq15]), (by (try simp only [dq8, dq9, dq10, dq11, dq13, dq14]) <;> first | exact hL | exact fun _ => trivial | exact fun h => (by cases h)), (by (try simp only [dq8, dq9, dq10, dq11, dq13, dq14]) <;> first | exact hzw | exact fun _ => trivial | exact fun h => (by cases h)), (by (try simp only [dq8]) <;> first | exact h8 | exact fun _ => trivial | exact fun h => (by cases h)), (by (try simp only [dq9]) <;> first | exact h9 | exact fun _ => trivial | exact fun h => (by cases h)), (by (try simp only [dq13, dq14]) <;> first | exact h13 | exact fun _ => trivial | exact fun h => (by cases h)), (by (try simp only [dq8, dq9]) <;> first | exact h98 | exact fun _ => trivial | exact fun h => (by cases h)), (by (try simp only [dq9, dq10]) <;> first | exact h109 | exact fun _ => trivial | exact fun h => (by cases h)), (by (try simp only [dq10, dq11]) <;> first | exact h1110 | exact fun _ => trivial | exact fun h => (by cases h)), (by (try simp only [dq9, dq14]) <;> first | exact h149 | exact fun _ => trivial | exact fun h => (by cases h)), (by (try simp only [dq13, dq14]) <;> first | exact h1413 | exact fun _ => trivial | exact fun h => (by cases h))⟩
        · skip
          have dq0 := dOt 1 0 (l := l)
          have dq2 := dOt 1 2 (l := l)
          have dq3 := dOt 1 3 (l := l)
          have dq4 := dOt 1 4 (l := l)
          have dq5 := dOt 1 5 (l := l)
          have dq6 := dOt 1 6 (l := l)
          have dq7 := dOt 1 7 (l := l)
          have dq8 := dOt 1 8 (l := l)
          have dq9 := dOt 1 9 (l := l)
          have dq10 := dOt 1 10 (l := l)
          have dq11 := dOt 1 11 (l := l)
          have dq12 := dOt 1 12 (l := l)
          have dq13 := dOt 1 13 (l := l)
          have dq14 := dOt 1 14 (l := l)
          have dq15 := dOt 1 15 (l := l)
          exact opJ_move (v := .int .i64 (k : Int)) rfl rfl (.tmp 7) rfl (by simp only [pEo 44 7, pEo 45 7, pEo 46 7, pEo 47 7, pEo 48 7, pEo 49 7, pEo 50 7, pEo 51 7, pEo 52 7, pEo 53 7, pEo 43 7, pEo 54 7, pEo 55 7, pEo 12 7, pEo 13 7]; rfl) ⟨xc, j1, rl, lo, hi, Y, yn, yk, (by show Act.put _ (some 45) _ = _; simp only [pPu 44 45, hz', putIf_here2, done_same hl, dq0, dq2, dq3, dq4, dq5, dq6, dq7, dq8, dq9, dq10, dq11, dq12, dq13, dq15]), (by (try simp only [dq8, dq9, dq10, dq11, dq13, dq14]) <;> first | exact hL | exact fun _ => trivial | exact fun h => (by cases h)), (by (try simp only [dq8, dq9, dq10, dq11, dq13, dq14]) <;> first | exact hzw | exact fun _ => trivial | exact fun h => (by cases h)), (by (try simp only [dq8]) <;> first | exact h8 | exact fun _ => trivial | exact fun h => (by cases h)), (by (try simp only [dq9]) <;> first | exact h9 | exact fun _ => trivial | exact fun h => (by cases h)), (by (try simp only [dq13, dq14]) <;> first | exact h13 | exact fun _ => trivial | exact fun h => (by cases h)), (by (try simp only [dq8, dq9]) <;> first | exact h98 | exact fun _ => trivial | exact fun h => (by cases h)), (by (try simp only [dq9, dq10]) <;> first | exact h109 | exact fun _ => trivial | exact fun h => (by cases h)), (by (try simp only [dq10, dq11]) <;> first | exact h1110 | exact fun _ => trivial | exact fun h => (by cases h)), (by (try simp only [dq9, dq14]) <;> first | exact h149 | exact fun _ => trivial | exact fun h => (by cases h)), (by (try simp only [dq13, dq14]) <;> first | exact h1413 | exact fun _ => trivial | exact fun h => (by cases h))⟩
        · skip
          have dq0 := dOt 2 0 (l := l)
          have dq1 := dOt 2 1 (l := l)
          have dq3 := dOt 2 3 (l := l)
          have dq4 := dOt 2 4 (l := l)
          have dq5 := dOt 2 5 (l := l)
          have dq6 := dOt 2 6 (l := l)
          have dq7 := dOt 2 7 (l := l)
          have dq8 := dOt 2 8 (l := l)
          have dq9 := dOt 2 9 (l := l)
          have dq10 := dOt 2 10 (l := l)
          have dq11 := dOt 2 11 (l := l)
          have dq12 := dOt 2 12 (l := l)
          have dq13 := dOt 2 13 (l := l)
          have dq14 := dOt 2 14 (l := l)
          have dq15 := dOt 2 15 (l := l)
          have dn1 : done l 1 = true := by simp [Region.binds] at haf; simp [done, haf]
          exact opJ_bin (v := .int .i64 ((k : Int) * 60)) rfl rfl .mul 3 3 (.tmp 45) (.const (.int .i64 60)) (.int .i64 (k : Int)) (.int .i64 60) rfl (by simp only [pEo 44 45]; rw [dn1]; exact putIf_eval_same (by simp [putIf_size])) rfl (by simp [go_sem, hwk]) ⟨xc, j1, rl, lo, hi, Y, yn, yk, (by show Act.put _ (some 46) _ = _; simp only [pPu 44 46, pPu 45 46, hz', putIf_here2, done_same hl, dq0, dq1, dq3, dq4, dq5, dq6, dq7, dq8, dq9, dq10, dq11, dq12, dq13, dq15]), (by (try simp only [dq8, dq9, dq10, dq11, dq13, dq14]) <;> first | exact hL | exact fun _ => trivial | exact fun h => (by cases h)), (by (try simp only [dq8, dq9, dq10, dq11, dq13, dq14]) <;> first | exact hzw | exact fun _ => trivial | exact fun h => (by cases h)), (by (try simp only [dq8]) <;> first | exact h8 | exact fun _ => trivial | exact fun h => (by cases h)), (by (try simp only [dq9]) <;> first | exact h9 | exact fun _ => trivial | exact fun h => (by cases h)), (by (try simp only [dq13, dq14]) <;> first | exact h13 | exact fun _ => trivial | exact fun h => (by cases h)), (by (try simp only [dq8, dq9]) <;> first | exact h98 | exact fun _ => trivial | exact fun h => (by cases h)), (by (try simp only [dq9, dq10]) <;> first | exact h109 | exact fun _ => trivial | exact fun h => (by cases h)), (by (try simp only [dq10, dq11]) <;> first | exact h1110 | exact fun _ => trivial | exact fun h => (by cases h)), (by (try simp only [dq9, dq14]) <;> first | exact h149 | exact fun _ => trivial | exact fun h => (by cases h)), (by (try simp only [dq13, dq14]) <;> first | exact h1413 | exact fun _ => trivial | exact fun h => (by cases h))⟩
        · skip
          have dq0 := dOt 3 0 (l := l)
          have dq1 := dOt 3 1 (l := l)
          have dq2 := dOt 3 2 (l := l)
          have dq4 := dOt 3 4 (l := l)
          have dq5 := dOt 3 5 (l := l)
          have dq6 := dOt 3 6 (l := l)
          have dq7 := dOt 3 7 (l := l)
          have dq8 := dOt 3 8 (l := l)
          have dq9 := dOt 3 9 (l := l)
          have dq10 := dOt 3 10 (l := l)
          have dq11 := dOt 3 11 (l := l)
          have dq12 := dOt 3 12 (l := l)
          have dq13 := dOt 3 13 (l := l)
          have dq14 := dOt 3 14 (l := l)
          have dq15 := dOt 3 15 (l := l)
          exact opJ_move (v := .int .i64 lv) rfl rfl (.tmp 8) rfl (by simp only [pEo 44 8, pEo 45 8, pEo 46 8, pEo 47 8, pEo 48 8, pEo 49 8, pEo 50 8, pEo 51 8, pEo 52 8, pEo 53 8, pEo 43 8, pEo 54 8, pEo 55 8, pEo 12 8, pEo 13 8]; rfl) ⟨xc, j1, rl, lo, hi, Y, yn, yk, (by show Act.put _ (some 47) _ = _; simp only [pPu 44 47, pPu 45 47, pPu 46 47, hz', putIf_here2, done_same hl, dq0, dq1, dq2, dq4, dq5, dq6, dq7, dq8, dq9, dq10, dq11, dq12, dq13, dq15]), (by (try simp only [dq8, dq9, dq10, dq11, dq13, dq14]) <;> first | exact hL | exact fun _ => trivial | exact fun h => (by cases h)), (by (try simp only [dq8, dq9, dq10, dq11, dq13, dq14]) <;> first | exact hzw | exact fun _ => trivial | exact fun h => (by cases h)), (by (try simp only [dq8]) <;> first | exact h8 | exact fun _ => trivial | exact fun h => (by cases h)), (by (try simp only [dq9]) <;> first | exact h9 | exact fun _ => trivial | exact fun h => (by cases h)), (by (try simp only [dq13, dq14]) <;> first | exact h13 | exact fun _ => trivial | exact fun h => (by cases h)), (by (try simp only [dq8, dq9]) <;> first | exact h98 | exact fun _ => trivial | exact fun h => (by cases h)), (by (try simp only [dq9, dq10]) <;> first | exact h109 | exact fun _ => trivial | exact fun h => (by cases h)), (by (try simp only [dq10, dq11]) <;> first | exact h1110 | exact fun _ => trivial | exact fun h => (by cases h)), (by (try simp only [dq9, dq14]) <;> first | exact h149 | exact fun _ => trivial | exact fun h => (by cases h)), (by (try simp only [dq13, dq14]) <;> first | exact h1413 | exact fun _ => trivial | exact fun h => (by cases h))⟩
        · skip
          have dq0 := dOt 4 0 (l := l)
          have dq1 := dOt 4 1 (l := l)
          have dq2 := dOt 4 2 (l := l)
          have dq3 := dOt 4 3 (l := l)
          have dq5 := dOt 4 5 (l := l)
          have dq6 := dOt 4 6 (l := l)
          have dq7 := dOt 4 7 (l := l)
          have dq8 := dOt 4 8 (l := l)
          have dq9 := dOt 4 9 (l := l)
          have dq10 := dOt 4 10 (l := l)
          have dq11 := dOt 4 11 (l := l)
          have dq12 := dOt 4 12 (l := l)
          have dq13 := dOt 4 13 (l := l)
          have dq14 := dOt 4 14 (l := l)
          have dq15 := dOt 4 15 (l := l)
          exact opJ_field (v := .pointer (some ⟨T5, 1, none⟩)) rfl rfl 35 (.tmp 5) 1 (.pointer (some ⟨T5, 0, none⟩)) rfl (by simp only [pEo 44 5, pEo 45 5, pEo 46 5, pEo 47 5, pEo 48 5, pEo 49 5, pEo 50 5, pEo 51 5, pEo 52 5, pEo 53 5, pEo 43 5, pEo 54 5, pEo 55 5, pEo 12 5, pEo 13 5]; rfl) (by simp [go_sem]) ⟨xc, j1, rl, lo, hi, Y, yn, yk, (by show Act.put _ (some 48) _ = _; simp only [pPu 44 48, pPu 45 48, pPu 46 48, pPu 47 48, hz', putIf_here2, done_same hl, dq0, dq1, dq2, dq3, dq5, dq6, dq7, dq8, dq9, dq10, dq11, dq12, dq13, dq15]), (by (try simp only [dq8, dq9, dq10, dq11, dq13, dq14]) <;> first | exact hL | exact fun _ => trivial | exact fun h => (by cases h)), (by (try simp only [dq8, dq9, dq10, dq11, dq13, dq14]) <;> first | exact hzw | exact fun _ => trivial | exact fun h => (by cases h)), (by (try simp only [dq8]) <;> first | exact h8 | exact fun _ => trivial | exact fun h => (by cases h)), (by (try simp only [dq9]) <;> first | exact h9 | exact fun _ => trivial | exact fun h => (by cases h)), (by (try simp only [dq13, dq14]) <;> first | exact h13 | exact fun _ => trivial | exact fun h => (by cases h)), (by (try simp only [dq8, dq9]) <;> first | exact h98 | exact fun _ => trivial | exact fun h => (by cases h)), (by (try simp only [dq9, dq10]) <;> first | exact h109 | exact fun _ => trivial | exact fun h => (by cases h)), (by (try simp only [dq10, dq11]) <;> first | exact h1110 | exact fun _ => trivial | exact fun h => (by cases h)), (by (try simp only [dq9, dq14]) <;> first | exact h149 | exact fun _ => trivial | exact fun h => (by cases h)), (by (try simp only [dq13, dq14]) <;> first | exact h1413 | exact fun _ => trivial | exact fun h => (by cases h))⟩
        · skip
          have dq0 := dOt 5 0 (l := l)
          have dq1 := dOt 5 1 (l := l)
          have dq2 := dOt 5 2 (l := l)
          have dq3 := dOt 5 3 (l := l)
          have dq4 := dOt 5 4 (l := l)
          have dq6 := dOt 5 6 (l := l)
          have dq7 := dOt 5 7 (l := l)
          have dq8 := dOt 5 8 (l := l)
          have dq9 := dOt 5 9 (l := l)
          have dq10 := dOt 5 10 (l := l)
          have dq11 := dOt 5 11 (l := l)
          have dq12 := dOt 5 12 (l := l)
          have dq13 := dOt 5 13 (l := l)
          have dq14 := dOt 5 14 (l := l)
          have dq15 := dOt 5 15 (l := l)
          have dn4 : done l 4 = true := by simp [Region.binds] at haf; simp [done, haf]
          obtain ⟨c0, c1, c2, c3, cf⟩ := hL.lb.t5.facts4
          exact opJ_load (v := .int .i64 s.re) rfl rfl 3 (.tmp 48) (.pointer (some ⟨T5, 1, none⟩)) rfl (by simp only [pEo 44 48, pEo 45 48, pEo 46 48, pEo 47 48]; rw [dn4]; exact putIf_eval_same (by simp [putIf_size])) (by simp [go_sem, c1]) ⟨xc, j1, rl, lo, hi, Y, yn, yk, (by show Act.put _ (some 49) _ = _; simp only [pPu 44 49, pPu 45 49, pPu 46 49, pPu 47 49, pPu 48 49, hz', putIf_here2, done_same hl, dq0, dq1, dq2, dq3, dq4, dq6, dq7, dq8, dq9, dq10, dq11, dq12, dq13, dq15]), (by (try simp only [dq8, dq9, dq10, dq11, dq13, dq14]) <;> first | exact hL | exact fun _ => trivial | exact fun h => (by cases h)), (by (try simp only [dq8, dq9, dq10, dq11, dq13, dq14]) <;> first | exact hzw | exact fun _ => trivial | exact fun h => (by cases h)), (by (try simp only [dq8]) <;> first | exact h8 | exact fun _ => trivial | exact fun h => (by cases h)), (by (try simp only [dq9]) <;> first | exact h9 | exact fun _ => trivial | exact fun h => (by cases h)), (by (try simp only [dq13, dq14]) <;> first | exact h13 | exact fun _ => trivial | exact fun h => (by cases h)), (by (try simp only [dq8, dq9]) <;> first | exact h98 | exact fun _ => trivial | exact fun h => (by cases h)), (by (try simp only [dq9, dq10]) <;> first | exact h109 | exact fun _ => trivial | exact fun h => (by cases h)), (by (try simp only [dq10, dq11]) <;> first | exact h1110 | exact fun _ => trivial | exact fun h => (by cases h)), (by (try simp only [dq9, dq14]) <;> first | exact h149 | exact fun _ => trivial | exact fun h => (by cases h)), (by (try simp only [dq13, dq14]) <;> first | exact h1413 | exact fun _ => trivial | exact fun h => (by cases h))⟩
        · skip
          have dq0 := dOt 6 0 (l := l)
          have dq1 := dOt 6 1 (l := l)
          have dq2 := dOt 6 2 (l := l)
          have dq3 := dOt 6 3 (l := l)
          have dq4 := dOt 6 4 (l := l)
          have dq5 := dOt 6 5 (l := l)
          have dq7 := dOt 6 7 (l := l)
          have dq8 := dOt 6 8 (l := l)
          have dq9 := dOt 6 9 (l := l)
          have dq10 := dOt 6 10 (l := l)
          have dq11 := dOt 6 11 (l := l)
          have dq12 := dOt 6 12 (l := l)
          have dq13 := dOt 6 13 (l := l)
          have dq14 := dOt 6 14 (l := l)
          have dq15 := dOt 6 15 (l := l)
          exact opJ_build1 (v := .agg #[.int .i64 0, .int .i64 1073741824]) rfl rfl 45 1 (.const (.int .i64 1073741824)) (.int .i64 1073741824) rfl rfl (by simp [go_sem]) ⟨xc, j1, rl, lo, hi, Y, yn, yk, (by show Act.put _ (some 50) _ = _; simp only [pPu 44 50, pPu 45 50, pPu 46 50, pPu 47 50, pPu 48 50, pPu 49 50, hz', putIf_here2, done_same hl, dq0, dq1, dq2, dq3, dq4, dq5, dq7, dq8, dq9, dq10, dq11, dq12, dq13, dq15]), (by (try simp only [dq8, dq9, dq10, dq11, dq13, dq14]) <;> first | exact hL | exact fun _ => trivial | exact fun h => (by cases h)), (by (try simp only [dq8, dq9, dq10, dq11, dq13, dq14]) <;> first | exact hzw | exact fun _ => trivial | exact fun h => (by cases h)), (by (try simp only [dq8]) <;> first | exact h8 | exact fun _ => trivial | exact fun h => (by cases h)), (by (try simp only [dq9]) <;> first | exact h9 | exact fun _ => trivial | exact fun h => (by cases h)), (by (try simp only [dq13, dq14]) <;> first | exact h13 | exact fun _ => trivial | exact fun h => (by cases h)), (by (try simp only [dq8, dq9]) <;> first | exact h98 | exact fun _ => trivial | exact fun h => (by cases h)), (by (try simp only [dq9, dq10]) <;> first | exact h109 | exact fun _ => trivial | exact fun h => (by cases h)), (by (try simp only [dq10, dq11]) <;> first | exact h1110 | exact fun _ => trivial | exact fun h => (by cases h)), (by (try simp only [dq9, dq14]) <;> first | exact h149 | exact fun _ => trivial | exact fun h => (by cases h)), (by (try simp only [dq13, dq14]) <;> first | exact h1413 | exact fun _ => trivial | exact fun h => (by cases h))⟩
        · skip
          have dq0 := dOt 7 0 (l := l)
          have dq1 := dOt 7 1 (l := l)
          have dq2 := dOt 7 2 (l := l)
          have dq3 := dOt 7 3 (l := l)
          have dq4 := dOt 7 4 (l := l)
          have dq5 := dOt 7 5 (l := l)
          have dq6 := dOt 7 6 (l := l)
          have dq8 := dOt 7 8 (l := l)
          have dq9 := dOt 7 9 (l := l)
          have dq10 := dOt 7 10 (l := l)
          have dq11 := dOt 7 11 (l := l)
          have dq12 := dOt 7 12 (l := l)
          have dq13 := dOt 7 13 (l := l)
          have dq14 := dOt 7 14 (l := l)
          have dq15 := dOt 7 15 (l := l)
          exact opJ_move (v := .pointer (some ⟨b, 0, none⟩)) rfl rfl (.tmp 3) rfl (by simp only [pEo 44 3, pEo 45 3, pEo 46 3, pEo 47 3, pEo 48 3, pEo 49 3, pEo 50 3, pEo 51 3, pEo 52 3, pEo 53 3, pEo 43 3, pEo 54 3, pEo 55 3, pEo 12 3, pEo 13 3]; rfl) ⟨xc, j1, rl, lo, hi, Y, yn, yk, (by show Act.put _ (some 51) _ = _; simp only [pPu 44 51, pPu 45 51, pPu 46 51, pPu 47 51, pPu 48 51, pPu 49 51, pPu 50 51, hz', putIf_here2, done_same hl, dq0, dq1, dq2, dq3, dq4, dq5, dq6, dq8, dq9, dq10, dq11, dq12, dq13, dq15]), (by (try simp only [dq8, dq9, dq10, dq11, dq13, dq14]) <;> first | exact hL | exact fun _ => trivial | exact fun h => (by cases h)), (by (try simp only [dq8, dq9, dq10, dq11, dq13, dq14]) <;> first | exact hzw | exact fun _ => trivial | exact fun h => (by cases h)), (by (try simp only [dq8]) <;> first | exact h8 | exact fun _ => trivial | exact fun h => (by cases h)), (by (try simp only [dq9]) <;> first | exact h9 | exact fun _ => trivial | exact fun h => (by cases h)), (by (try simp only [dq13, dq14]) <;> first | exact h13 | exact fun _ => trivial | exact fun h => (by cases h)), (by (try simp only [dq8, dq9]) <;> first | exact h98 | exact fun _ => trivial | exact fun h => (by cases h)), (by (try simp only [dq9, dq10]) <;> first | exact h109 | exact fun _ => trivial | exact fun h => (by cases h)), (by (try simp only [dq10, dq11]) <;> first | exact h1110 | exact fun _ => trivial | exact fun h => (by cases h)), (by (try simp only [dq9, dq14]) <;> first | exact h149 | exact fun _ => trivial | exact fun h => (by cases h)), (by (try simp only [dq13, dq14]) <;> first | exact h1413 | exact fun _ => trivial | exact fun h => (by cases h))⟩
        · skip
          have dq0 := dOt 8 0 (l := l)
          have dq1 := dOt 8 1 (l := l)
          have dq2 := dOt 8 2 (l := l)
          have dq3 := dOt 8 3 (l := l)
          have dq4 := dOt 8 4 (l := l)
          have dq5 := dOt 8 5 (l := l)
          have dq6 := dOt 8 6 (l := l)
          have dq7 := dOt 8 7 (l := l)
          have dq9 := dOt 8 9 (l := l)
          have dq10 := dOt 8 10 (l := l)
          have dq11 := dOt 8 11 (l := l)
          have dq12 := dOt 8 12 (l := l)
          have dq13 := dOt 8 13 (l := l)
          have dq14 := dOt 8 14 (l := l)
          have dq15 := dOt 8 15 (l := l)
          have dn7 : done l 7 = true := by simp [Region.binds] at haf; simp [done, haf]
          have hd9 : done l 9 = false := by
            cases hc : done l 9
            · rfl
            · have := h98 hc; rw [hz'] at this; cases this
          have hd14 : done l 14 = false := by
            cases hc : done l 14
            · rfl
            · have := h149 hc; rw [hd9] at this; cases this
          have e9 : ∀ (v : Value) (a : Act), putIf (done l 9) 53 v a = a := fun v a => by rw [hd9]; rfl
          simp only [hd14, sel_f] at h13
          refine opJ_call rfl rfl 11 #[.tmp 51, .const (.int .i64 60)] _ #[.pointer (some ⟨b, 0, none⟩), .int .i64 60] rfl (map2J (by simp only [pEo 44 51, pEo 45 51, pEo 46 51, pEo 47 51, pEo 48 51, pEo 49 51, pEo 50 51]; rw [dn7]; exact putIf_eval_same (by simp [putIf_size])) rfl) cfNext ((next_any b 60 (by omega) w' hL.lb.dk).mono ?_)
          rintro e w'' ⟨v', rfl, hv0, hv1, hD', hg', hsz'⟩
          exact ⟨_, rfl, xc, v', rl, lo, hi, Y, yn, yk, (by show Act.put _ (some 52) _ = _; simp only [pPu 44 52, pPu 45 52, pPu 46 52, pPu 47 52, pPu 48 52, pPu 49 52, pPu 50 52, pPu 51 52, hz', putIf_here2, done_same hl, dq0, dq1, dq2, dq3, dq4, dq5, dq6, dq7, dq9, dq10, dq11, dq12, dq13, dq15]), (by (try simp only [hd14, sel_f, done_same hl, dq9, dq10, dq11, dq13, dq14]) <;> first | exact hL.deck hg' hD' | exact fun _ => trivial | exact fun h => (by cases h)), (by (try simp only [hd14, sel_f, done_same hl, dq9, dq10, dq11, dq13, dq14]) <;> first | exact (by omega) | exact fun _ => trivial | exact fun h => (by cases h)), (by (try simp only [done_same hl]) <;> first | exact fun _ => (by omega) | exact fun _ => trivial | exact fun h => (by cases h)), (by (try simp only [dq9]) <;> first | exact fun h => (by rw [hd9] at h; cases h) | exact fun _ => trivial | exact fun h => (by cases h)), (by (try simp only [hd14, sel_f, dq13, dq14]) <;> first | exact fun h => ⟨(h13 h).1, (h13 h).2.only hg' (by have := (h13 h).1; have := hL6.lb.blt; omega)⟩ | exact fun _ => trivial | exact fun h => (by cases h)), (by (try simp only [done_same hl, dq9]) <;> first | exact fun h => (by rw [hd9] at h; cases h) | exact fun _ => trivial | exact fun h => (by cases h)), (by (try simp only [dq9, dq10]) <;> first | exact h109 | exact fun _ => trivial | exact fun h => (by cases h)), (by (try simp only [dq10, dq11]) <;> first | exact h1110 | exact fun _ => trivial | exact fun h => (by cases h)), (by (try simp only [hd14, dq9, dq14]) <;> first | exact h149 | exact fun _ => trivial | exact fun h => (by cases h)), (by (try simp only [hd14, dq13, dq14]) <;> first | exact h1413 | exact fun _ => trivial | exact fun h => (by cases h))⟩
        · skip
          have dq0 := dOt 9 0 (l := l)
          have dq1 := dOt 9 1 (l := l)
          have dq2 := dOt 9 2 (l := l)
          have dq3 := dOt 9 3 (l := l)
          have dq4 := dOt 9 4 (l := l)
          have dq5 := dOt 9 5 (l := l)
          have dq6 := dOt 9 6 (l := l)
          have dq7 := dOt 9 7 (l := l)
          have dq8 := dOt 9 8 (l := l)
          have dq10 := dOt 9 10 (l := l)
          have dq11 := dOt 9 11 (l := l)
          have dq12 := dOt 9 12 (l := l)
          have dq13 := dOt 9 13 (l := l)
          have dq14 := dOt 9 14 (l := l)
          have dq15 := dOt 9 15 (l := l)
          have dn0 : done l 0 = true := by simp [Region.binds] at haf; simp [done, haf]
          have dn2 : done l 2 = true := by simp [Region.binds] at haf; simp [done, haf]
          have dn3 : done l 3 = true := by simp [Region.binds] at haf; simp [done, haf]
          have dn5 : done l 5 = true := by simp [Region.binds] at haf; simp [done, haf]
          have dn6 : done l 6 = true := by simp [Region.binds] at haf; simp [done, haf]
          have dn8 : done l 8 = true := by simp [Region.binds] at haf; simp [done, haf]
          have hd10 : done l 10 = false := by
            cases hc : done l 10
            · rfl
            · have := h109 hc; rw [hz'] at this; cases this
          have hd11 : done l 11 = false := by
            cases hc : done l 11
            · rfl
            · have := h1110 hc; rw [hd10] at this; cases this
          have hd14 : done l 14 = false := by
            cases hc : done l 14
            · rfl
            · have := h149 hc; rw [hz'] at this; cases this
          have e10 : ∀ (v : Value) (a : Act), putIf (done l 10) 43 v a = a := fun v a => by rw [hd10]; rfl
          have e11 : ∀ (v : Value) (a : Act), putIf (done l 11) 54 v a = a := fun v a => by rw [hd11]; rfl
          simp only [hd14, sel_f] at h13
          have h8' := h8 dn8
          refine opJ_call rfl rfl 10 #[.tmp 44, .tmp 46, .tmp 47, .tmp 49, .tmp 50, .tmp 52] _ #[.slice CA cs.length cc, .int .i64 ((k : Int) * 60), .int .i64 lv, .int .i64 s.re, .agg #[.int .i64 0, .int .i64 1073741824], .int .i64 j1] rfl (map6J (by rw [dn0]; exact putIf_eval_same (by simp [putIf_size])) (by simp only [pEo 44 46, pEo 45 46]; rw [dn2]; exact putIf_eval_same (by simp [putIf_size])) (by simp only [pEo 44 47, pEo 45 47, pEo 46 47]; rw [dn3]; exact putIf_eval_same (by simp [putIf_size])) (by simp only [pEo 44 49, pEo 45 49, pEo 46 49, pEo 47 49, pEo 48 49]; rw [dn5]; exact putIf_eval_same (by simp [putIf_size])) (by simp only [pEo 44 50, pEo 45 50, pEo 46 50, pEo 47 50, pEo 48 50, pEo 49 50]; rw [dn6]; exact putIf_eval_same (by simp [putIf_size])) (by simp only [pEo 44 52, pEo 45 52, pEo 46 52, pEo 47 52, pEo 48 52, pEo 49 52, pEo 50 52, pEo 51 52]; rw [dn8]; exact putIf_eval_same (by simp [putIf_size]))) cfChoose ((HCH.out j1 (by omega) w' hL.lb.gr hL.hc.out).mono ?_)
          rintro e w'' ⟨rl', lo', hi', Y', yn', yk', rfl, hC', hb'⟩
          exact ⟨_, rfl, xc, j1, rl', lo', hi', Y', yn', yk', (by show Act.put _ (some 53) _ = _; simp only [e10, e11, pPu 44 53, pPu 45 53, pPu 46 53, pPu 47 53, pPu 48 53, pPu 49 53, pPu 50 53, pPu 51 53, pPu 52 53, hz', putIf_here2, done_same hl, dq0, dq1, dq2, dq3, dq4, dq5, dq6, dq7, dq8, dq10, dq11, dq12, dq13, dq15] <;> rfl), (by (try simp only [hd14, sel_f, dq8, done_same hl, dq10, dq11, dq13, dq14]) <;> first | exact hL.below hb' | exact fun _ => trivial | exact fun h => (by cases h)), (by (try simp only [hd14, sel_f, dq8, done_same hl, dq10, dq11, dq13, dq14]) <;> first | exact Nat.le_trans hzw hb'.size | exact fun _ => trivial | exact fun h => (by cases h)), (by (try simp only [dq8]) <;> first | exact h8 | exact fun _ => trivial | exact fun h => (by cases h)), (by (try simp only [done_same hl]) <;> first | exact fun _ => hC' | exact fun _ => trivial | exact fun h => (by cases h)), (by (try simp only [hd14, sel_f, dq13, dq14]) <;> first | exact fun h => ⟨(h13 h).1, (h13 h).2.below hb' (h13 h).2.lt⟩ | exact fun _ => trivial | exact fun h => (by cases h)), (by (try simp only [dq8, done_same hl]) <;> first | exact fun _ => dn8 | exact fun _ => trivial | exact fun h => (by cases h)), (by (try simp only [done_same hl, dq10]) <;> first | exact fun _ => trivial | exact fun _ => trivial | exact fun h => (by cases h)), (by (try simp only [dq10, dq11]) <;> first | exact h1110 | exact fun _ => trivial | exact fun h => (by cases h)), (by (try simp only [hd14, done_same hl, dq14]) <;> first | exact h149 | exact fun _ => trivial | exact fun h => (by cases h)), (by (try simp only [hd14, dq13, dq14]) <;> first | exact h1413 | exact fun _ => trivial | exact fun h => (by cases h))⟩
        · skip
          have dq0 := dOt 10 0 (l := l)
          have dq1 := dOt 10 1 (l := l)
          have dq2 := dOt 10 2 (l := l)
          have dq3 := dOt 10 3 (l := l)
          have dq4 := dOt 10 4 (l := l)
          have dq5 := dOt 10 5 (l := l)
          have dq6 := dOt 10 6 (l := l)
          have dq7 := dOt 10 7 (l := l)
          have dq8 := dOt 10 8 (l := l)
          have dq9 := dOt 10 9 (l := l)
          have dq11 := dOt 10 11 (l := l)
          have dq12 := dOt 10 12 (l := l)
          have dq13 := dOt 10 13 (l := l)
          have dq14 := dOt 10 14 (l := l)
          have dq15 := dOt 10 15 (l := l)
          have dn9 : done l 9 = true := by simp [Region.binds] at haf; simp [done, haf]
          exact opJ_move (v := .tuple #[.agg #[.int .i64 rl, .int .i64 lo, .int .i64 hi, .slice Y yn yk], .int .i64 0]) rfl rfl (.tmp 53) rfl (by simp only [pEo 44 53, pEo 45 53, pEo 46 53, pEo 47 53, pEo 48 53, pEo 49 53, pEo 50 53, pEo 51 53, pEo 52 53]; rw [dn9]; exact putIf_eval_same (by simp [putIf_size])) ⟨xc, j1, rl, lo, hi, Y, yn, yk, (by show Act.put _ (some 43) _ = _; simp only [pPu 44 43, pPu 45 43, pPu 46 43, pPu 47 43, pPu 48 43, pPu 49 43, pPu 50 43, pPu 51 43, pPu 52 43, pPu 53 43, hz', putIf_here2, done_same hl, dq0, dq1, dq2, dq3, dq4, dq5, dq6, dq7, dq8, dq9, dq11, dq12, dq13, dq15]), (by (try simp only [dq8, dq9, done_same hl, dq11, dq13, dq14]) <;> first | exact hL | exact fun _ => trivial | exact fun h => (by cases h)), (by (try simp only [dq8, dq9, done_same hl, dq11, dq13, dq14]) <;> first | exact hzw | exact fun _ => trivial | exact fun h => (by cases h)), (by (try simp only [dq8]) <;> first | exact h8 | exact fun _ => trivial | exact fun h => (by cases h)), (by (try simp only [dq9]) <;> first | exact h9 | exact fun _ => trivial | exact fun h => (by cases h)), (by (try simp only [dq13, dq14]) <;> first | exact h13 | exact fun _ => trivial | exact fun h => (by cases h)), (by (try simp only [dq8, dq9]) <;> first | exact h98 | exact fun _ => trivial | exact fun h => (by cases h)), (by (try simp only [dq9, done_same hl]) <;> first | exact fun _ => dn9 | exact fun _ => trivial | exact fun h => (by cases h)), (by (try simp only [done_same hl, dq11]) <;> first | exact h1110 | exact fun _ => trivial | exact fun h => (by cases h)), (by (try simp only [dq9, dq14]) <;> first | exact h149 | exact fun _ => trivial | exact fun h => (by cases h)), (by (try simp only [dq13, dq14]) <;> first | exact h1413 | exact fun _ => trivial | exact fun h => (by cases h))⟩
        · skip
          have dq0 := dOt 11 0 (l := l)
          have dq1 := dOt 11 1 (l := l)
          have dq2 := dOt 11 2 (l := l)
          have dq3 := dOt 11 3 (l := l)
          have dq4 := dOt 11 4 (l := l)
          have dq5 := dOt 11 5 (l := l)
          have dq6 := dOt 11 6 (l := l)
          have dq7 := dOt 11 7 (l := l)
          have dq8 := dOt 11 8 (l := l)
          have dq9 := dOt 11 9 (l := l)
          have dq10 := dOt 11 10 (l := l)
          have dq12 := dOt 11 12 (l := l)
          have dq13 := dOt 11 13 (l := l)
          have dq14 := dOt 11 14 (l := l)
          have dq15 := dOt 11 15 (l := l)
          have dn10 : done l 10 = true := by simp [Region.binds] at haf; simp [done, haf]
          exact opJ_extract (v := .agg #[.int .i64 rl, .int .i64 lo, .int .i64 hi, .slice Y yn yk]) rfl rfl (.tmp 43) 0 (.tuple #[.agg #[.int .i64 rl, .int .i64 lo, .int .i64 hi, .slice Y yn yk], .int .i64 0]) rfl (by simp only [pEo 44 43, pEo 45 43, pEo 46 43, pEo 47 43, pEo 48 43, pEo 49 43, pEo 50 43, pEo 51 43, pEo 52 43, pEo 53 43]; rw [dn10]; exact putIf_eval_same (by simp [putIf_size])) (by simp [go_sem]) ⟨xc, j1, rl, lo, hi, Y, yn, yk, (by show Act.put _ (some 54) _ = _; simp only [pPu 44 54, pPu 45 54, pPu 46 54, pPu 47 54, pPu 48 54, pPu 49 54, pPu 50 54, pPu 51 54, pPu 52 54, pPu 53 54, pPu 43 54, hz', putIf_here2, done_same hl, dq0, dq1, dq2, dq3, dq4, dq5, dq6, dq7, dq8, dq9, dq10, dq12, dq13, dq15]), (by (try simp only [dq8, dq9, dq10, done_same hl, dq13, dq14]) <;> first | exact hL | exact fun _ => trivial | exact fun h => (by cases h)), (by (try simp only [dq8, dq9, dq10, done_same hl, dq13, dq14]) <;> first | exact hzw | exact fun _ => trivial | exact fun h => (by cases h)), (by (try simp only [dq8]) <;> first | exact h8 | exact fun _ => trivial | exact fun h => (by cases h)), (by (try simp only [dq9]) <;> first | exact h9 | exact fun _ => trivial | exact fun h => (by cases h)), (by (try simp only [dq13, dq14]) <;> first | exact h13 | exact fun _ => trivial | exact fun h => (by cases h)), (by (try simp only [dq8, dq9]) <;> first | exact h98 | exact fun _ => trivial | exact fun h => (by cases h)), (by (try simp only [dq9, dq10]) <;> first | exact h109 | exact fun _ => trivial | exact fun h => (by cases h)), (by (try simp only [dq10, done_same hl]) <;> first | exact fun _ => dn10 | exact fun _ => trivial | exact fun h => (by cases h)), (by (try simp only [dq9, dq14]) <;> first | exact h149 | exact fun _ => trivial | exact fun h => (by cases h)), (by (try simp only [dq13, dq14]) <;> first | exact h1413 | exact fun _ => trivial | exact fun h => (by cases h))⟩
        · skip
          have dq0 := dOt 12 0 (l := l)
          have dq1 := dOt 12 1 (l := l)
          have dq2 := dOt 12 2 (l := l)
          have dq3 := dOt 12 3 (l := l)
          have dq4 := dOt 12 4 (l := l)
          have dq5 := dOt 12 5 (l := l)
          have dq6 := dOt 12 6 (l := l)
          have dq7 := dOt 12 7 (l := l)
          have dq8 := dOt 12 8 (l := l)
          have dq9 := dOt 12 9 (l := l)
          have dq10 := dOt 12 10 (l := l)
          have dq11 := dOt 12 11 (l := l)
          have dq13 := dOt 12 13 (l := l)
          have dq14 := dOt 12 14 (l := l)
          have dq15 := dOt 12 15 (l := l)
          have dn10 : done l 10 = true := by simp [Region.binds] at haf; simp [done, haf]
          exact opJ_extract (v := .int .i64 0) rfl rfl (.tmp 43) 1 (.tuple #[.agg #[.int .i64 rl, .int .i64 lo, .int .i64 hi, .slice Y yn yk], .int .i64 0]) rfl (by simp only [pEo 44 43, pEo 45 43, pEo 46 43, pEo 47 43, pEo 48 43, pEo 49 43, pEo 50 43, pEo 51 43, pEo 52 43, pEo 53 43]; rw [dn10]; exact putIf_eval_same (by simp [putIf_size])) (by simp [go_sem]) ⟨xc, j1, rl, lo, hi, Y, yn, yk, (by show Act.put _ (some 55) _ = _; simp only [pPu 44 55, pPu 45 55, pPu 46 55, pPu 47 55, pPu 48 55, pPu 49 55, pPu 50 55, pPu 51 55, pPu 52 55, pPu 53 55, pPu 43 55, pPu 54 55, hz', putIf_here2, done_same hl, dq0, dq1, dq2, dq3, dq4, dq5, dq6, dq7, dq8, dq9, dq10, dq11, dq13, dq15]), (by (try simp only [dq8, dq9, dq10, dq11, dq13, dq14]) <;> first | exact hL | exact fun _ => trivial | exact fun h => (by cases h)), (by (try simp only [dq8, dq9, dq10, dq11, dq13, dq14]) <;> first | exact hzw | exact fun _ => trivial | exact fun h => (by cases h)), (by (try simp only [dq8]) <;> first | exact h8 | exact fun _ => trivial | exact fun h => (by cases h)), (by (try simp only [dq9]) <;> first | exact h9 | exact fun _ => trivial | exact fun h => (by cases h)), (by (try simp only [dq13, dq14]) <;> first | exact h13 | exact fun _ => trivial | exact fun h => (by cases h)), (by (try simp only [dq8, dq9]) <;> first | exact h98 | exact fun _ => trivial | exact fun h => (by cases h)), (by (try simp only [dq9, dq10]) <;> first | exact h109 | exact fun _ => trivial | exact fun h => (by cases h)), (by (try simp only [dq10, dq11]) <;> first | exact h1110 | exact fun _ => trivial | exact fun h => (by cases h)), (by (try simp only [dq9, dq14]) <;> first | exact h149 | exact fun _ => trivial | exact fun h => (by cases h)), (by (try simp only [dq13, dq14]) <;> first | exact h1413 | exact fun _ => trivial | exact fun h => (by cases h))⟩
        · skip
          have dq0 := dOt 13 0 (l := l)
          have dq1 := dOt 13 1 (l := l)
          have dq2 := dOt 13 2 (l := l)
          have dq3 := dOt 13 3 (l := l)
          have dq4 := dOt 13 4 (l := l)
          have dq5 := dOt 13 5 (l := l)
          have dq6 := dOt 13 6 (l := l)
          have dq7 := dOt 13 7 (l := l)
          have dq8 := dOt 13 8 (l := l)
          have dq9 := dOt 13 9 (l := l)
          have dq10 := dOt 13 10 (l := l)
          have dq11 := dOt 13 11 (l := l)
          have dq12 := dOt 13 12 (l := l)
          have dq14 := dOt 13 14 (l := l)
          have dq15 := dOt 13 15 (l := l)
          have hd14 : done l 14 = false := by
            cases hc : done l 14
            · rfl
            · have := h1413 hc; rw [hz'] at this; cases this
          exact opJ_alloc (v := .pointer (some ⟨w'.heap.size, 0, none⟩)) (w' := w'.alloc (.cells #[.int .i64 0, .int .i64 0, .int .i64 0, .slice none 0 0] 48)) rfl rfl 48 rfl (by simp [go_sem]) ⟨w'.heap.size, j1, rl, lo, hi, Y, yn, yk, (by show Act.put _ (some 12) _ = _; simp only [pPu 44 12, pPu 45 12, pPu 46 12, pPu 47 12, pPu 48 12, pPu 49 12, pPu 50 12, pPu 51 12, pPu 52 12, pPu 53 12, pPu 43 12, pPu 54 12, pPu 55 12, hz', putIf_here2, done_same hl, dq0, dq1, dq2, dq3, dq4, dq5, dq6, dq7, dq8, dq9, dq10, dq11, dq12, dq15]), (by (try simp only [hd14, sel_f, dq8, dq9, dq10, dq11, done_same hl, dq14]) <;> first | exact hL.below bel1 | exact fun _ => trivial | exact fun h => (by cases h)), (by (try simp only [hd14, sel_f, dq8, dq9, dq10, dq11, done_same hl, dq14]) <;> first | exact (by simp only [World.size_alloc]; omega) | exact fun _ => trivial | exact fun h => (by cases h)), (by (try simp only [dq8]) <;> first | exact h8 | exact fun _ => trivial | exact fun h => (by cases h)), (by (try simp only [dq9]) <;> first | exact h9 | exact fun _ => trivial | exact fun h => (by cases h)), (by (try simp only [hd14, sel_f, done_same hl, dq14]) <;> first | exact fun _ => ⟨hzw, Blk.new _ _ _⟩ | exact fun _ => trivial | exact fun h => (by cases h)), (by (try simp only [dq8, dq9]) <;> first | exact h98 | exact fun _ => trivial | exact fun h => (by cases h)), (by (try simp only [dq9, dq10]) <;> first | exact h109 | exact fun _ => trivial | exact fun h => (by cases h)), (by (try simp only [dq10, dq11]) <;> first | exact h1110 | exact fun _ => trivial | exact fun h => (by cases h)), (by (try simp only [hd14, dq9, dq14]) <;> first | exact h149 | exact fun _ => trivial | exact fun h => (by cases h)), (by (try simp only [hd14, done_same hl, dq14]) <;> first | exact fun h => (by rw [hd14] at h; cases h) | exact fun _ => trivial | exact fun h => (by cases h))⟩
        · skip
          have dq0 := dOt 14 0 (l := l)
          have dq1 := dOt 14 1 (l := l)
          have dq2 := dOt 14 2 (l := l)
          have dq3 := dOt 14 3 (l := l)
          have dq4 := dOt 14 4 (l := l)
          have dq5 := dOt 14 5 (l := l)
          have dq6 := dOt 14 6 (l := l)
          have dq7 := dOt 14 7 (l := l)
          have dq8 := dOt 14 8 (l := l)
          have dq9 := dOt 14 9 (l := l)
          have dq10 := dOt 14 10 (l := l)
          have dq11 := dOt 14 11 (l := l)
          have dq12 := dOt 14 12 (l := l)
          have dq13 := dOt 14 13 (l := l)
          have dq15 := dOt 14 15 (l := l)
          have dn13 : done l 13 = true := by simp [Region.binds] at haf; simp [done, haf]
          have dn11 : done l 11 = true := by simp [Region.binds] at haf; simp [done, haf]
          have dn10 := h1110 dn11
          have dn9 := h109 dn10
          obtain ⟨hx0, hx1⟩ := h13 dn13
          rw [hz', sel_f] at hx1
          have hv2 := ((((hx1.set_ 0 (.int .i64 rl)).set_ 1 (.int .i64 lo)).set_ 2 (.int .i64 hi)).set_ 3 (.slice Y yn yk))
          simp only [List.setIfInBounds_toArray, List.set_cons_zero, List.set_cons_succ] at hv2
          obtain ⟨t0, t1, t2, t3, tf⟩ := hx1.facts4
          obtain ⟨hfr, hf1, hf2, hf3⟩ := hL6.fresh hx0
          have hLn := ((((hL.setx (x := xc) hfr hf1 hf2 hf3 0 (.int .i64 rl)).setx (x := xc) hfr hf1 hf2 hf3 1 (.int .i64 lo)).setx (x := xc) hfr hf1 hf2 hf3 2 (.int .i64 hi)).setx (x := xc) hfr hf1 hf2 hf3 3 (.slice Y yn yk))
          exact opJ_store (w' := ((((w'.setCell ⟨xc, 0, none⟩ (.int .i64 rl)).setCell ⟨xc, 1, none⟩ (.int .i64 lo)).setCell ⟨xc, 2, none⟩ (.int .i64 hi)).setCell ⟨xc, 3, none⟩ (.slice Y yn yk))) rfl rfl 48 (.tmp 12) (.tmp 54) (.pointer (some ⟨xc, 0, none⟩)) (.agg #[.int .i64 rl, .int .i64 lo, .int .i64 hi, .slice Y yn yk]) rfl (by simp only [pEo 44 12, pEo 45 12, pEo 46 12, pEo 47 12, pEo 48 12, pEo 49 12, pEo 50 12, pEo 51 12, pEo 52 12, pEo 53 12, pEo 43 12, pEo 54 12, pEo 55 12]; rw [dn13]; exact putIf_eval_same (by simp [putIf_size])) (by simp only [pEo 44 54, pEo 45 54, pEo 46 54, pEo 47 54, pEo 48 54, pEo 49 54, pEo 50 54, pEo 51 54, pEo 52 54, pEo 53 54, pEo 43 54]; rw [dn11]; exact putIf_eval_same (by simp [putIf_size])) (by simp [go_sem, t0, t1, t2, t3, tf]) ⟨xc, j1, rl, lo, hi, Y, yn, yk, (by show Act.put _ none _ = _; simp only [dq0, dq1, dq2, dq3, dq4, dq5, dq6, dq7, dq8, dq9, dq10, dq11, dq12, dq13, dq15]; rfl), (by (try simp only [sel_t, dq8, dq9, dq10, dq11, dq13, done_same hl]) <;> first | exact hLn | exact fun _ => trivial | exact fun h => (by cases h)), (by (try simp only [sel_t, dq8, dq9, dq10, dq11, dq13, done_same hl]) <;> first | exact (by simpa [World.setCell] using hzw) | exact fun _ => trivial | exact fun h => (by cases h)), (by (try simp only [dq8]) <;> first | exact h8 | exact fun _ => trivial | exact fun h => (by cases h)), (by (try simp only [dq9]) <;> first | exact h9 | exact fun _ => trivial | exact fun h => (by cases h)), (by (try simp only [sel_t, dq13, done_same hl]) <;> first | exact fun _ => ⟨hx0, hv2⟩ | exact fun _ => trivial | exact fun h => (by cases h)), (by (try simp only [dq8, dq9]) <;> first | exact h98 | exact fun _ => trivial | exact fun h => (by cases h)), (by (try simp only [dq9, dq10]) <;> first | exact h109 | exact fun _ => trivial | exact fun h => (by cases h)), (by (try simp only [dq10, dq11]) <;> first | exact h1110 | exact fun _ => trivial | exact fun h => (by cases h)), (by (try simp only [dq9, done_same hl]) <;> first | exact fun _ => dn9 | exact fun _ => trivial | exact fun h => (by cases h)), (by (try simp only [dq13, done_same hl]) <;> first | exact fun _ => dn13 | exact fun _ => trivial | exact fun h => (by cases h))⟩
        · skip
          have dq0 := dOt 15 0 (l := l)
          have dq1 := dOt 15 1 (l := l)
          have dq2 := dOt 15 2 (l := l)
          have dq3 := dOt 15 3 (l := l)
          have dq4 := dOt 15 4 (l := l)
          have dq5 := dOt 15 5 (l := l)
          have dq6 := dOt 15 6 (l := l)
          have dq7 := dOt 15 7 (l := l)
          have dq8 := dOt 15 8 (l := l)
          have dq9 := dOt 15 9 (l := l)
          have dq10 := dOt 15 10 (l := l)
          have dq11 := dOt 15 11 (l := l)
          have dq12 := dOt 15 12 (l := l)
          have dq13 := dOt 15 13 (l := l)
          have dq14 := dOt 15 14 (l := l)
          have dn12 : done l 12 = true := by simp [Region.binds] at haf; simp [done, haf]
          exact opJ_assign (v := .int .i64 0) rfl rfl (.tmp 55) rfl (by simp only [pEo 44 55, pEo 45 55, pEo 46 55, pEo 47 55, pEo 48 55, pEo 49 55, pEo 50 55, pEo 51 55, pEo 52 55, pEo 53 55, pEo 43 55, pEo 54 55]; rw [dn12]; exact putIf_eval_same (by simp [putIf_size])) ⟨xc, j1, rl, lo, hi, Y, yn, yk, (by show Act.put _ (some 13) _ = _; simp only [pPu 44 13, pPu 45 13, pPu 46 13, pPu 47 13, pPu 48 13, pPu 49 13, pPu 50 13, pPu 51 13, pPu 52 13, pPu 53 13, pPu 43 13, pPu 54 13, pPu 55 13, pPu 12 13, hz', putIf_here2, done_same hl, dq0, dq1, dq2, dq3, dq4, dq5, dq6, dq7, dq8, dq9, dq10, dq11, dq12, dq13]), (by (try simp only [dq8, dq9, dq10, dq11, dq13, dq14]) <;> first | exact hL | exact fun _ => trivial | exact fun h => (by cases h)), (by (try simp only [dq8, dq9, dq10, dq11, dq13, dq14]) <;> first | exact hzw | exact fun _ => trivial | exact fun h => (by cases h)), (by (try simp only [dq8]) <;> first | exact h8 | exact fun _ => trivial | exact fun h => (by cases h)), (by (try simp only [dq9]) <;> first | exact h9 | exact fun _ => trivial | exact fun h => (by cases h)), (by (try simp only [dq13, dq14]) <;> first | exact h13 | exact fun _ => trivial | exact fun h => (by cases h)), (by (try simp only [dq8, dq9]) <;> first | exact h98 | exact fun _ => trivial | exact fun h => (by cases h)), (by (try simp only [dq9, dq10]) <;> first | exact h109 | exact fun _ => trivial | exact fun h => (by cases h)), (by (try simp only [dq10, dq11]) <;> first | exact h1110 | exact fun _ => trivial | exact fun h => (by cases h)), (by (try simp only [dq9, dq14]) <;> first | exact h149 | exact fun _ => trivial | exact fun h => (by cases h)), (by (try simp only [dq13, dq14]) <;> first | exact h1413 | exact fun _ => trivial | exact fun h => (by cases h))⟩
      · intro l a' w' hJ hall
        obtain ⟨xc, j1, rl, lo, hi, Y, yn, yk, rfl, hL, hzw, h8, h9, h13, h98, h109, h1110, h149, h1413⟩ := hJ
        have hd : ∀ i, i < 16 → done l i = true := hall
        obtain ⟨hxc0, hxc⟩ := h13 (hd 13 (by decide))
        rw [hd 14 (by decide), sel_t] at hxc
        obtain ⟨⟨hrl0, hrl1⟩, hrl2⟩ := h9 (hd 9 (by decide))
        simp only [hd 0 (by decide), hd 1 (by decide), hd 2 (by decide), hd 3 (by decide), hd 4 (by decide), hd 5 (by decide), hd 6 (by decide), hd 7 (by decide), hd 8 (by decide), hd 9 (by decide), hd 10 (by decide), hd 11 (by decide), hd 12 (by decide), hd 13 (by decide), hd 15 (by decide), putIf, if_true, Act.put]
        simp only [List.setIfInBounds_toArray, List.set_cons_zero, List.set_cons_succ]
        clear hd hall h8 h9 h13 h98 h109 h1110 h149 h1413
        have hL7 := hL
        clear hL
        have hxcf := hL6.fresh hxc0
        have hxcl := hxc.lt
        go_wp2_with fail
        generalize hw7 : w' = w7 at *
        clear hw7
        refine wp_region_Jb (J := fun a0 l a' w' => ∃ (xa xb : Nat) (i1 i2 L T Sp O pw st : Int) (s2 : Ds) (S2 : Nat → Prop), a' = putIf (done l 0) 57 (.agg #[.slice d.r.st.A d.r.st.n d.r.st.c, .int .i64 d.r.de, .int .i64 d.r.lw, .int .i64 d.r.fu, .int .i64 d.r.su, .int .i64 d.r.cr, .slice d.uA d.un d.uc, .slice d.gA d.gn d.gc, .int .i64 d.gr]) (putIf (done l 1) 58 (.agg #[.int .i64 s.vo, .int .i64 s.re, .slice s.uA s.un s.uc, .slice s.gA s.gn s.gc]) (putIf (done l 2) 59 (.pointer (some ⟨b, 0, none⟩)) (putIf (done l 3) 60 (.int .i64 i1) (putIf (done l 4) 61 (.pointer (some ⟨b, 0, none⟩)) (putIf (done l 5) 62 (.int .i64 i2) (putIf (done l 6) 63 (.pointer (some ⟨xc, 0, none⟩)) (putIf (done l 7) 64 (.int .i64 rl) (putIf (done l 8) 65 (.tuple #[.agg #[.int .i64 s2.vo, .int .i64 s2.re, .slice s2.uA s2.un s2.uc, .slice s2.gA s2.gn s2.gc], .agg #[.int .i64 i1, .int .i64 L, .int .i64 T, .int .i64 Sp, .int .i64 O, .int .i64 pw, .int .i64 st], .int .i64 0]) (putIf (done l 9) 56 (.tuple #[.agg #[.int .i64 s2.vo, .int .i64 s2.re, .slice s2.uA s2.un s2.uc, .slice s2.gA s2.gn s2.gc], .agg #[.int .i64 i1, .int .i64 L, .int .i64 T, .int .i64 Sp, .int .i64 O, .int .i64 pw, .int .i64 st], .int .i64 0]) (putIf (done l 10) 66 (.agg #[.int .i64 s2.vo, .int .i64 s2.re, .slice s2.uA s2.un s2.uc, .slice s2.gA s2.gn s2.gc]) (putIf (done l 11) 67 (.agg #[.int .i64 i1, .int .i64 L, .int .i64 T, .int .i64 Sp, .int .i64 O, .int .i64 pw, .int .i64 st]) (putIf (done l 12) 68 (.int .i64 0) (putIf (done l 13) 14 (.pointer (some ⟨xa, 0, none⟩)) (putIf (done l 14) 15 (.pointer (some ⟨xb, 0, none⟩)) (putIf (done l 17) 16 (.int .i64 0) (a0)))))))))))))))) ∧ OB w b T4 T5 d s Sd Ss Sc CA cs.length cc cs w' ∧ w7.heap.size ≤ w'.heap.size ∧ Blk w' xc 48 #[.int .i64 rl, .int .i64 lo, .int .i64 hi, .slice Y yn yk] ∧ (done l 3 = true → 0 ≤ i1 ∧ i1 ≤ 1000) ∧ (done l 5 = true → 0 ≤ i2 ∧ i2 ≤ 1000) ∧ (done l 8 = true → StepQ d s i1 i2 rl L T Sp O s2 ∧ Held S2 w' (fun W => s2.ok W) ∧ (∀ i, S2 i → w7.heap.size ≤ i) ∧ (done l 13 = true → ¬ S2 xa) ∧ (done l 14 = true → ¬ S2 xb)) ∧ (done l 13 = true → w7.heap.size ≤ xa ∧ Blk w' xa 35 (sel (done l 15) #[.int .i64 s2.vo, .int .i64 s2.re, .slice s2.uA s2.un s2.uc, .slice s2.gA s2.gn s2.gc] #[.int .i64 0, .int .i64 0, .slice none 0 0, .slice none 0 0])) ∧ (done l 14 = true → w7.heap.size ≤ xb ∧ Blk w' xb 53 (sel (done l 16) #[.int .i64 i1, .int .i64 L, .int .i64 T, .int .i64 Sp, .int .i64 O, .int .i64 pw, .int .i64 st] #[.int .i64 0, .int .i64 0, .int .i64 0, .int .i64 0, .int .i64 0, .int .i64 0, .int .i64 0])) ∧ (done l 13 = true → done l 14 = true → xa ≠ xb) ∧ (done l 8 = true → done l 3 = true) ∧ (done l 8 = true → done l 5 = true) ∧ (done l 9 = true → done l 8 = true) ∧ (done l 10 = true → done l 9 = true) ∧ (done l 11 = true → done l 9 = true) ∧ (done l 15 = true → done l 8 = true) ∧ (done l 16 = true → done l 8 = true) ∧ (done l 15 = true → done l 13 = true) ∧ (done l 16 = true → done l 14 = true)) (by kernel_rfl) ?_ ?_ ?_ ?_
        · refine ⟨0, 0, 0, 0, 0, 0, 0, 0, 0, 0, s, fun _ => False, ?_, hL7.drew, Nat.le_refl _, hxc.drew, fun h => ?_, fun h => ?_, fun h => ?_, fun h => ?_, fun h => ?_, fun h => ?_, fun h => ?_, fun h => ?_, fun h => ?_, fun h => ?_, fun h => ?_, fun h => ?_, fun h => ?_, fun h => ?_, fun h => ?_⟩
          · simp only [done_none]; rfl
          · rw [done_none] at h; cases h
          · rw [done_none] at h; cases h
          · rw [done_none] at h; cases h
          · rw [done_none] at h; cases h
          · rw [done_none] at h; cases h
          · rw [done_none] at h; cases h
          · rw [done_none] at h; cases h
          · rw [done_none] at h; cases h
          · rw [done_none] at h; cases h
          · rw [done_none] at h; cases h
          · rw [done_none] at h; cases h
          · rw [done_none] at h; cases h
          · rw [done_none] at h; cases h
          · rw [done_none] at h; cases h
          · rw [done_none] at h; cases h
        · intro l a' w' i hsz hJ hi'
          obtain ⟨xa, xb, i1, i2, L, T, Sp, O, pw, st, s2, S2, rfl, hL, hzw, hxc, h3, h5, h8, h13, h14, hx, h83, h85, h98, h109, h119, h158, h168, h1513, h1614⟩ := hJ
          rw [ready_iff] at hi'
          obtain ⟨hiN, hnl, haf⟩ := hi'
          have hz' := done_not hnl
          have hl := getD_lt hnl
          have hcases : i = 0 ∨ i = 1 ∨ i = 2 ∨ i = 3 ∨ i = 4 ∨ i = 5 ∨ i = 6 ∨ i = 7 ∨ i = 8 ∨ i = 9 ∨ i = 10 ∨ i = 11 ∨ i = 12 ∨ i = 13 ∨ i = 14 ∨ i = 15 ∨ i = 16 ∨ i = 17 := by
            have : i < 18 := hiN
            omega
          rcases hcases with rfl | rfl | rfl | rfl | rfl | rfl | rfl | rfl | rfl | rfl | rfl | rfl | rfl | rfl | rfl | rfl | rfl | rfl
          · skip
            have dq1 := dOt 0 1 (l := l)
            have dq2 := dOt 0 2 (l := l)
            have dq3 := dOt 0 3 (l := l)
            have dq4 := dOt 0 4 (l := l)
            have dq5 := dOt 0 5 (l := l)
            have dq6 := dOt 0 6 (l := l)
            have dq7 := dOt 0 7 (l := l)
            have dq8 := dOt 0 8 (l := l)
            have dq9 := dOt 0 9 (l := l)
            have dq10 := dOt 0 10 (l := l)
            have dq11 := dOt 0 11 (l := l)
            have dq12 := dOt 0 12 (l := l)
            have dq13 := dOt 0 13 (l := l)
            have dq14 := dOt 0 14 (l := l)
            have dq15 := dOt 0 15 (l := l)
            have dq16 := dOt 0 16 (l := l)
            have dq17 := dOt 0 17 (l := l)
            obtain ⟨c0, c1, c2, c3, c4, c5, c6, c7, c8, cf⟩ := facts9 hL.lb.t4
            exact opJ_load (v := .agg #[.slice d.r.st.A d.r.st.n d.r.st.c, .int .i64 d.r.de, .int .i64 d.r.lw, .int .i64 d.r.fu, .int .i64 d.r.su, .int .i64 d.r.cr, .slice d.uA d.un d.uc, .slice d.gA d.gn d.gc, .int .i64 d.gr]) rfl rfl 31 (.tmp 4) (.pointer (some ⟨T4, 0, none⟩)) rfl (by simp only [pEo 57 4, pEo 58 4, pEo 59 4, pEo 60 4, pEo 61 4, pEo 62 4, pEo 63 4, pEo 64 4, pEo 65 4, pEo 56 4, pEo 66 4, pEo 67 4, pEo 68 4, pEo 14 4, pEo 15 4, pEo 16 4]; rfl) (by simp [go_sem, c0, c1, c2, c3, c4, c5, c6, c7, c8]) ⟨xa, xb, i1, i2, L, T, Sp, O, pw, st, s2, S2, (by show Act.put _ (some 57) _ = _; simp only [hz', putIf_here2, done_same hl, dq1, dq2, dq3, dq4, dq5, dq6, dq7, dq8, dq9, dq10, dq11, dq12, dq13, dq14, dq17]), (by (try simp only [dq3, dq5, dq8, dq9, dq10, dq11, dq13, dq14, dq15, dq16]) <;> first | exact hL | exact fun _ => trivial | exact fun h => (by cases h)), (by (try simp only [dq3, dq5, dq8, dq9, dq10, dq11, dq13, dq14, dq15, dq16]) <;> first | exact hzw | exact fun _ => trivial | exact fun h => (by cases h)), (by (try simp only [dq3, dq5, dq8, dq9, dq10, dq11, dq13, dq14, dq15, dq16]) <;> first | exact hxc | exact fun _ => trivial | exact fun h => (by cases h)), (by (try simp only [dq3]) <;> first | exact h3 | exact fun _ => trivial | exact fun h => (by cases h)), (by (try simp only [dq5]) <;> first | exact h5 | exact fun _ => trivial | exact fun h => (by cases h)), (by (try simp only [dq8, dq13, dq14]) <;> first | exact h8 | exact fun _ => trivial | exact fun h => (by cases h)), (by (try simp only [dq13, dq15]) <;> first | exact h13 | exact fun _ => trivial | exact fun h => (by cases h)), (by (try simp only [dq14, dq16]) <;> first | exact h14 | exact fun _ => trivial | exact fun h => (by cases h)), (by (try simp only [dq13, dq14]) <;> first | exact hx | exact fun _ => trivial | exact fun h => (by cases h)), (by (try simp only [dq3, dq8]) <;> first | exact h83 | exact fun _ => trivial | exact fun h => (by cases h)), (by (try simp only [dq5, dq8]) <;> first | exact h85 | exact fun _ => trivial | exact fun h => (by cases h)), (by (try simp only [dq8, dq9]) <;> first | exact h98 | exact fun _ => trivial | exact fun h => (by cases h)), (by (try simp only [dq9, dq10]) <;> first | exact h109 | exact fun _ => trivial | exact fun h => (by cases h)), (by (try simp only [dq9, dq11]) <;> first | exact h119 | exact fun _ => trivial | exact fun h => (by cases h)), (by (try simp only [dq8, dq15]) <;> first | exact h158 | exact fun _ => trivial | exact fun h => (by cases h)), (by (try simp only [dq8, dq16]) <;> first | exact h168 | exact fun _ => trivial | exact fun h => (by cases h)), (by (try simp only [dq13, dq15]) <;> first | exact h1513 | exact fun _ => trivial | exact fun h => (by cases h)), (by (try simp only [dq14, dq16]) <;> first | exact h1614 | exact fun _ => trivial | exact fun h => (by cases h))⟩
          · skip
            have dq0 := dOt 1 0 (l := l)
            have dq2 := dOt 1 2 (l := l)
            have dq3 := dOt 1 3 (l := l)
            have dq4 := dOt 1 4 (l := l)
            have dq5 := dOt 1 5 (l := l)
            have dq6 := dOt 1 6 (l := l)
            have dq7 := dOt 1 7 (l := l)
            have dq8 := dOt 1 8 (l := l)
            have dq9 := dOt 1 9 (l := l)
            have dq10 := dOt 1 10 (l := l)
            have dq11 := dOt 1 11 (l := l)
            have dq12 := dOt 1 12 (l := l)
            have dq13 := dOt 1 13 (l := l)
            have dq14 := dOt 1 14 (l := l)
            have dq15 := dOt 1 15 (l := l)
            have dq16 := dOt 1 16 (l := l)
            have dq17 := dOt 1 17 (l := l)
            obtain ⟨c0, c1, c2, c3, cf⟩ := hL.lb.t5.facts4
            exact opJ_load (v := .agg #[.int .i64 s.vo, .int .i64 s.re, .slice s.uA s.un s.uc, .slice s.gA s.gn s.gc]) rfl rfl 35 (.tmp 5) (.pointer (some ⟨T5, 0, none⟩)) rfl (by simp only [pEo 57 5, pEo 58 5, pEo 59 5, pEo 60 5, pEo 61 5, pEo 62 5, pEo 63 5, pEo 64 5, pEo 65 5, pEo 56 5, pEo 66 5, pEo 67 5, pEo 68 5, pEo 14 5, pEo 15 5, pEo 16 5]; rfl) (by simp [go_sem, c0, c1, c2, c3]) ⟨xa, xb, i1, i2, L, T, Sp, O, pw, st, s2, S2, (by show Act.put _ (some 58) _ = _; simp only [pPu 57 58, hz', putIf_here2, done_same hl, dq0, dq2, dq3, dq4, dq5, dq6, dq7, dq8, dq9, dq10, dq11, dq12, dq13, dq14, dq17]), (by (try simp only [dq3, dq5, dq8, dq9, dq10, dq11, dq13, dq14, dq15, dq16]) <;> first | exact hL | exact fun _ => trivial | exact fun h => (by cases h)), (by (try simp only [dq3, dq5, dq8, dq9, dq10, dq11, dq13, dq14, dq15, dq16]) <;> first | exact hzw | exact fun _ => trivial | exact fun h => (by cases h)), (by (try simp only [dq3, dq5, dq8, dq9, dq10, dq11, dq13, dq14, dq15, dq16]) <;> first | exact hxc | exact fun _ => trivial | exact fun h => (by cases h)), (by (try simp only [dq3]) <;> first | exact h3 | exact fun _ => trivial | exact fun h => (by cases h)), (by (try simp only [dq5]) <;> first | exact h5 | exact fun _ => trivial | exact fun h => (by cases h)), (by (try simp only [dq8, dq13, dq14]) <;> first | exact h8 | exact fun _ => trivial | exact fun h => (by cases h)), (by (try simp only [dq13, dq15]) <;> first | exact h13 | exact fun _ => trivial | exact fun h => (by cases h)), (by (try simp only [dq14, dq16]) <;> first | exact h14 | exact fun _ => trivial | exact fun h => (by cases h)), (by (try simp only [dq13, dq14]) <;> first | exact hx | exact fun _ => trivial | exact fun h => (by cases h)), (by (try simp only [dq3, dq8]) <;> first | exact h83 | exact fun _ => trivial | exact fun h => (by cases h)), (by (try simp only [dq5, dq8]) <;> first | exact h85 | exact fun _ => trivial | exact fun h => (by cases h)), (by (try simp only [dq8, dq9]) <;> first | exact h98 | exact fun _ => trivial | exact fun h => (by cases h)), (by (try simp only [dq9, dq10]) <;> first | exact h109 | exact fun _ => trivial | exact fun h => (by cases h)), (by (try simp only [dq9, dq11]) <;> first | exact h119 | exact fun _ => trivial | exact fun h => (by cases h)), (by (try simp only [dq8, dq15]) <;> first | exact h158 | exact fun _ => trivial | exact fun h => (by cases h)), (by (try simp only [dq8, dq16]) <;> first | exact h168 | exact fun _ => trivial | exact fun h => (by cases h)), (by (try simp only [dq13, dq15]) <;> first | exact h1513 | exact fun _ => trivial | exact fun h => (by cases h)), (by (try simp only [dq14, dq16]) <;> first | exact h1614 | exact fun _ => trivial | exact fun h => (by cases h))⟩
          · skip
            have dq0 := dOt 2 0 (l := l)
            have dq1 := dOt 2 1 (l := l)
            have dq3 := dOt 2 3 (l := l)
            have dq4 := dOt 2 4 (l := l)
            have dq5 := dOt 2 5 (l := l)
            have dq6 := dOt 2 6 (l := l)
            have dq7 := dOt 2 7 (l := l)
            have dq8 := dOt 2 8 (l := l)
            have dq9 := dOt 2 9 (l := l)
            have dq10 := dOt 2 10 (l := l)
            have dq11 := dOt 2 11 (l := l)
            have dq12 := dOt 2 12 (l := l)
            have dq13 := dOt 2 13 (l := l)
            have dq14 := dOt 2 14 (l := l)
            have dq15 := dOt 2 15 (l := l)
            have dq16 := dOt 2 16 (l := l)
            have dq17 := dOt 2 17 (l := l)
            exact opJ_move (v := .pointer (some ⟨b, 0, none⟩)) rfl rfl (.tmp 3) rfl (by simp only [pEo 57 3, pEo 58 3, pEo 59 3, pEo 60 3, pEo 61 3, pEo 62 3, pEo 63 3, pEo 64 3, pEo 65 3, pEo 56 3, pEo 66 3, pEo 67 3, pEo 68 3, pEo 14 3, pEo 15 3, pEo 16 3]; rfl) ⟨xa, xb, i1, i2, L, T, Sp, O, pw, st, s2, S2, (by show Act.put _ (some 59) _ = _; simp only [pPu 57 59, pPu 58 59, hz', putIf_here2, done_same hl, dq0, dq1, dq3, dq4, dq5, dq6, dq7, dq8, dq9, dq10, dq11, dq12, dq13, dq14, dq17]), (by (try simp only [dq3, dq5, dq8, dq9, dq10, dq11, dq13, dq14, dq15, dq16]) <;> first | exact hL | exact fun _ => trivial | exact fun h => (by cases h)), (by (try simp only [dq3, dq5, dq8, dq9, dq10, dq11, dq13, dq14, dq15, dq16]) <;> first | exact hzw | exact fun _ => trivial | exact fun h => (by cases h)), (by (try simp only [dq3, dq5, dq8, dq9, dq10, dq11, dq13, dq14, dq15, dq16]) <;> first | exact hxc | exact fun _ => trivial | exact fun h => (by cases h)), (by (try simp only [dq3]) <;> first | exact h3 | exact fun _ => trivial | exact fun h => (by cases h)), (by (try simp only [dq5]) <;> first | exact h5 | exact fun _ => trivial | exact fun h => (by cases h)), (by (try simp only [dq8, dq13, dq14]) <;> first | exact h8 | exact fun _ => trivial | exact fun h => (by cases h)), (by (try simp only [dq13, dq15]) <;> first | exact h13 | exact fun _ => trivial | exact fun h => (by cases h)), (by (try simp only [dq14, dq16]) <;> first | exact h14 | exact fun _ => trivial | exact fun h => (by cases h)), (by (try simp only [dq13, dq14]) <;> first | exact hx | exact fun _ => trivial | exact fun h => (by cases h)), (by (try simp only [dq3, dq8]) <;> first | exact h83 | exact fun _ => trivial | exact fun h => (by cases h)), (by (try simp only [dq5, dq8]) <;> first | exact h85 | exact fun _ => trivial | exact fun h => (by cases h)), (by (try simp only [dq8, dq9]) <;> first | exact h98 | exact fun _ => trivial | exact fun h => (by cases h)), (by (try simp only [dq9, dq10]) <;> first | exact h109 | exact fun _ => trivial | exact fun h => (by cases h)), (by (try simp only [dq9, dq11]) <;> first | exact h119 | exact fun _ => trivial | exact fun h => (by cases h)), (by (try simp only [dq8, dq15]) <;> first | exact h158 | exact fun _ => trivial | exact fun h => (by cases h)), (by (try simp only [dq8, dq16]) <;> first | exact h168 | exact fun _ => trivial | exact fun h => (by cases h)), (by (try simp only [dq13, dq15]) <;> first | exact h1513 | exact fun _ => trivial | exact fun h => (by cases h)), (by (try simp only [dq14, dq16]) <;> first | exact h1614 | exact fun _ => trivial | exact fun h => (by cases h))⟩
          · skip
            have dq0 := dOt 3 0 (l := l)
            have dq1 := dOt 3 1 (l := l)
            have dq2 := dOt 3 2 (l := l)
            have dq4 := dOt 3 4 (l := l)
            have dq5 := dOt 3 5 (l := l)
            have dq6 := dOt 3 6 (l := l)
            have dq7 := dOt 3 7 (l := l)
            have dq8 := dOt 3 8 (l := l)
            have dq9 := dOt 3 9 (l := l)
            have dq10 := dOt 3 10 (l := l)
            have dq11 := dOt 3 11 (l := l)
            have dq12 := dOt 3 12 (l := l)
            have dq13 := dOt 3 13 (l := l)
            have dq14 := dOt 3 14 (l := l)
            have dq15 := dOt 3 15 (l := l)
            have dq16 := dOt 3 16 (l := l)
            have dq17 := dOt 3 17 (l := l)
            have dn2 : done l 2 = true := by simp [Region.binds] at haf; simp [done, haf]
            have hd8 : done l 8 = false := by
              cases hc : done l 8
              · rfl
              · have := h83 hc; rw [hz'] at this; cases this
            have hd9 : done l 9 = false := by
              cases hc : done l 9
              · rfl
              · have := h98 hc; rw [hd8] at this; cases this
            have hd10 : done l 10 = false := by
              cases hc : done l 10
              · rfl
              · have := h109 hc; rw [hd9] at this; cases this
            have hd11 : done l 11 = false := by
              cases hc : done l 11
              · rfl
              · have := h119 hc; rw [hd9] at this; cases this
            have hd15 : done l 15 = false := by
              cases hc : done l 15
              · rfl
              · have := h158 hc; rw [hd8] at this; cases this
            have hd16 : done l 16 = false := by
              cases hc : done l 16
              · rfl
              · have := h168 hc; rw [hd8] at this; cases this
            have e8 : ∀ (v : Value) (a : Act), putIf (done l 8) 65 v a = a := fun v a => by rw [hd8]; rfl
            have e9 : ∀ (v : Value) (a : Act), putIf (done l 9) 56 v a = a := fun v a => by rw [hd9]; rfl
            have e10 : ∀ (v : Value) (a : Act), putIf (done l 10) 66 v a = a := fun v a => by rw [hd10]; rfl
            have e11 : ∀ (v : Value) (a : Act), putIf (done l 11) 67 v a = a := fun v a => by rw [hd11]; rfl
            refine opJ_call rfl rfl 11 #[.tmp 59, .const (.int .i64 60)] _ #[.pointer (some ⟨b, 0, none⟩), .int .i64 60] rfl (map2J (by simp only [pEo 57 59, pEo 58 59]; rw [dn2]; exact putIf_eval_same (by simp [putIf_size])) rfl) cfNext ((next_any b 60 (by omega) w' hL.lb.dk).mono ?_)
            rintro e w'' ⟨v', rfl, hv0, hv1, hD', hg', hsz'⟩
            simp only [hd15, hd16, sel_f] at h13 h14
            exact ⟨_, rfl, xa, xb, v', i2, L, T, Sp, O, pw, st, s2, S2, (by show Act.put _ (some 60) _ = _; simp only [e8, e9, e10, e11, pPu 57 60, pPu 58 60, pPu 59 60, hz', putIf_here2, done_same hl, dq0, dq1, dq2, dq4, dq5, dq6, dq7, dq8, dq9, dq10, dq11, dq12, dq13, dq14, dq17]), (by (try simp only [hd8, hd9, hd10, hd11, hd15, hd16, sel_f, done_same hl, dq5, dq8, dq9, dq10, dq11, dq13, dq14, dq15, dq16]) <;> first | exact hL.deck hg' hD' | exact fun _ => trivial | exact fun h => (by cases h)), (by (try simp only [hd8, hd9, hd10, hd11, hd15, hd16, sel_f, done_same hl, dq5, dq8, dq9, dq10, dq11, dq13, dq14, dq15, dq16]) <;> first | exact (by omega) | exact fun _ => trivial | exact fun h => (by cases h)), (by (try simp only [hd8, hd9, hd10, hd11, hd15, hd16, sel_f, done_same hl, dq5, dq8, dq9, dq10, dq11, dq13, dq14, dq15, dq16]) <;> first | exact hxc.only hg' (by have := hxcf.1.1; omega) | exact fun _ => trivial | exact fun h => (by cases h)), (by (try simp only [done_same hl]) <;> first | exact fun _ => (by omega) | exact fun _ => trivial | exact fun h => (by cases h)), (by (try simp only [dq5]) <;> first | exact h5 | exact fun _ => trivial | exact fun h => (by cases h)), (by (try simp only [hd8, dq8, dq13, dq14]) <;> first | exact fun h => (by cases h) | exact fun _ => trivial | exact fun h => (by cases h)), (by (try simp only [hd15, sel_f, dq13, dq15]) <;> first | exact fun h => ⟨(h13 h).1, (h13 h).2.only hg' (by have := (h13 h).1; have := hL7.lb.blt; omega)⟩ | exact fun _ => trivial | exact fun h => (by cases h)), (by (try simp only [hd16, sel_f, dq14, dq16]) <;> first | exact fun h => ⟨(h14 h).1, (h14 h).2.only hg' (by have := (h14 h).1; have := hL7.lb.blt; omega)⟩ | exact fun _ => trivial | exact fun h => (by cases h)), (by (try simp only [dq13, dq14]) <;> first | exact hx | exact fun _ => trivial | exact fun h => (by cases h)), (by (try simp only [hd8, done_same hl, dq8]) <;> first | exact fun h => (by cases h) | exact fun _ => trivial | exact fun h => (by cases h)), (by (try simp only [hd8, dq5, dq8]) <;> first | exact h85 | exact fun _ => trivial | exact fun h => (by cases h)), (by (try simp only [hd8, hd9, dq8, dq9]) <;> first | exact fun h => (by cases h) | exact fun _ => trivial | exact fun h => (by cases h)), (by (try simp only [hd9, hd10, dq9, dq10]) <;> first | exact h109 | exact fun _ => trivial | exact fun h => (by cases h)), (by (try simp only [hd9, hd11, dq9, dq11]) <;> first | exact h119 | exact fun _ => trivial | exact fun h => (by cases h)), (by (try simp only [hd8, hd15, dq8, dq15]) <;> first | exact h158 | exact fun _ => trivial | exact fun h => (by cases h)), (by (try simp only [hd8, hd16, dq8, dq16]) <;> first | exact h168 | exact fun _ => trivial | exact fun h => (by cases h)), (by (try simp only [hd15, dq13, dq15]) <;> first | exact h1513 | exact fun _ => trivial | exact fun h => (by cases h)), (by (try simp only [hd16, dq14, dq16]) <;> first | exact h1614 | exact fun _ => trivial | exact fun h => (by cases h))⟩
          · skip
            have dq0 := dOt 4 0 (l := l)
            have dq1 := dOt 4 1 (l := l)
            have dq2 := dOt 4 2 (l := l)
            have dq3 := dOt 4 3 (l := l)
            have dq5 := dOt 4 5 (l := l)
            have dq6 := dOt 4 6 (l := l)
            have dq7 := dOt 4 7 (l := l)
            have dq8 := dOt 4 8 (l := l)
            have dq9 := dOt 4 9 (l := l)
            have dq10 := dOt 4 10 (l := l)
            have dq11 := dOt 4 11 (l := l)
            have dq12 := dOt 4 12 (l := l)
            have dq13 := dOt 4 13 (l := l)
            have dq14 := dOt 4 14 (l := l)
            have dq15 := dOt 4 15 (l := l)
            have dq16 := dOt 4 16 (l := l)
            have dq17 := dOt 4 17 (l := l)
            exact opJ_move (v := .pointer (some ⟨b, 0, none⟩)) rfl rfl (.tmp 3) rfl (by simp only [pEo 57 3, pEo 58 3, pEo 59 3, pEo 60 3, pEo 61 3, pEo 62 3, pEo 63 3, pEo 64 3, pEo 65 3, pEo 56 3, pEo 66 3, pEo 67 3, pEo 68 3, pEo 14 3, pEo 15 3, pEo 16 3]; rfl) ⟨xa, xb, i1, i2, L, T, Sp, O, pw, st, s2, S2, (by show Act.put _ (some 61) _ = _; simp only [pPu 57 61, pPu 58 61, pPu 59 61, pPu 60 61, hz', putIf_here2, done_same hl, dq0, dq1, dq2, dq3, dq5, dq6, dq7, dq8, dq9, dq10, dq11, dq12, dq13, dq14, dq17]), (by (try simp only [dq3, dq5, dq8, dq9, dq10, dq11, dq13, dq14, dq15, dq16]) <;> first | exact hL | exact fun _ => trivial | exact fun h => (by cases h)), (by (try simp only [dq3, dq5, dq8, dq9, dq10, dq11, dq13, dq14, dq15, dq16]) <;> first | exact hzw | exact fun _ => trivial | exact fun h => (by cases h)), (by (try simp only [dq3, dq5, dq8, dq9, dq10, dq11, dq13, dq14, dq15, dq16]) <;> first | exact hxc | exact fun _ => trivial | exact fun h => (by cases h)), (by (try simp only [dq3]) <;> first | exact h3 | exact fun _ => trivial | exact fun h => (by cases h)), (by (try simp only [dq5]) <;> first | exact h5 | exact fun _ => trivial | exact fun h => (by cases h)), (by (try simp only [dq8, dq13, dq14]) <;> first | exact h8 | exact fun _ => trivial | exact fun h => (by cases h)), (by (try simp only [dq13, dq15]) <;> first | exact h13 | exact fun _ => trivial | exact fun h => (by cases h)), (by (try simp only [dq14, dq16]) <;> first | exact h14 | exact fun _ => trivial | exact fun h => (by cases h)), (by (try simp only [dq13, dq14]) <;> first | exact hx | exact fun _ => trivial | exact fun h => (by cases h)), (by (try simp only [dq3, dq8]) <;> first | exact h83 | exact fun _ => trivial | exact fun h => (by cases h)), (by (try simp only [dq5, dq8]) <;> first | exact h85 | exact fun _ => trivial | exact fun h => (by cases h)), (by (try simp only [dq8, dq9]) <;> first | exact h98 | exact fun _ => trivial | exact fun h => (by cases h)), (by (try simp only [dq9, dq10]) <;> first | exact h109 | exact fun _ => trivial | exact fun h => (by cases h)), (by (try simp only [dq9, dq11]) <;> first | exact h119 | exact fun _ => trivial | exact fun h => (by cases h)), (by (try simp only [dq8, dq15]) <;> first | exact h158 | exact fun _ => trivial | exact fun h => (by cases h)), (by (try simp only [dq8, dq16]) <;> first | exact h168 | exact fun _ => trivial | exact fun h => (by cases h)), (by (try simp only [dq13, dq15]) <;> first | exact h1513 | exact fun _ => trivial | exact fun h => (by cases h)), (by (try simp only [dq14, dq16]) <;> first | exact h1614 | exact fun _ => trivial | exact fun h => (by cases h))⟩
          · skip
            have dq0 := dOt 5 0 (l := l)
            have dq1 := dOt 5 1 (l := l)
            have dq2 := dOt 5 2 (l := l)
            have dq3 := dOt 5 3 (l := l)
            have dq4 := dOt 5 4 (l := l)
            have dq6 := dOt 5 6 (l := l)
            have dq7 := dOt 5 7 (l := l)
            have dq8 := dOt 5 8 (l := l)
            have dq9 := dOt 5 9 (l := l)
            have dq10 := dOt 5 10 (l := l)
            have dq11 := dOt 5 11 (l := l)
            have dq12 := dOt 5 12 (l := l)
            have dq13 := dOt 5 13 (l := l)
            have dq14 := dOt 5 14 (l := l)
            have dq15 := dOt 5 15 (l := l)
            have dq16 := dOt 5 16 (l := l)
            have dq17 := dOt 5 17 (l := l)
            have dn4 : done l 4 = true := by simp [Region.binds] at haf; simp [done, haf]
            have hd8 : done l 8 = false := by
              cases hc : done l 8
              · rfl
              · have := h85 hc; rw [hz'] at this; cases this
            have hd9 : done l 9 = false := by
              cases hc : done l 9
              · rfl
              · have := h98 hc; rw [hd8] at this; cases this
            have hd10 : done l 10 = false := by
              cases hc : done l 10
              · rfl
              · have := h109 hc; rw [hd9] at this; cases this
            have hd11 : done l 11 = false := by
              cases hc : done l 11
              · rfl
              · have := h119 hc; rw [hd9] at this; cases this
            have hd15 : done l 15 = false := by
              cases hc : done l 15
              · rfl
              · have := h158 hc; rw [hd8] at this; cases this
            have hd16 : done l 16 = false := by
              cases hc : done l 16
              · rfl
              · have := h168 hc; rw [hd8] at this; cases this
            have e8 : ∀ (v : Value) (a : Act), putIf (done l 8) 65 v a = a := fun v a => by rw [hd8]; rfl
            have e9 : ∀ (v : Value) (a : Act), putIf (done l 9) 56 v a = a := fun v a => by rw [hd9]; rfl
            have e10 : ∀ (v : Value) (a : Act), putIf (done l 10) 66 v a = a := fun v a => by rw [hd10]; rfl
            have e11 : ∀ (v : Value) (a : Act), putIf (done l 11) 67 v a = a := fun v a => by rw [hd11]; rfl
            refine opJ_call rfl rfl 11 #[.tmp 61, .const (.int .i64 10)] _ #[.pointer (some ⟨b, 0, none⟩), .int .i64 10] rfl (map2J (by simp only [pEo 57 61, pEo 58 61, pEo 59 61, pEo 60 61]; rw [dn4]; exact putIf_eval_same (by simp [putIf_size])) rfl) cfNext ((next_any b 10 (by omega) w' hL.lb.dk).mono ?_)
            rintro e w'' ⟨v', rfl, hv0, hv1, hD', hg', hsz'⟩
            simp only [hd15, hd16, sel_f] at h13 h14
            exact ⟨_, rfl, xa, xb, i1, v', L, T, Sp, O, pw, st, s2, S2, (by show Act.put _ (some 62) _ = _; simp only [e8, e9, e10, e11, pPu 57 62, pPu 58 62, pPu 59 62, pPu 60 62, pPu 61 62, hz', putIf_here2, done_same hl, dq0, dq1, dq2, dq3, dq4, dq6, dq7, dq8, dq9, dq10, dq11, dq12, dq13, dq14, dq17]), (by (try simp only [hd8, hd9, hd10, hd11, hd15, hd16, sel_f, dq3, done_same hl, dq8, dq9, dq10, dq11, dq13, dq14, dq15, dq16]) <;> first | exact hL.deck hg' hD' | exact fun _ => trivial | exact fun h => (by cases h)), (by (try simp only [hd8, hd9, hd10, hd11, hd15, hd16, sel_f, dq3, done_same hl, dq8, dq9, dq10, dq11, dq13, dq14, dq15, dq16]) <;> first | exact (by omega) | exact fun _ => trivial | exact fun h => (by cases h)), (by (try simp only [hd8, hd9, hd10, hd11, hd15, hd16, sel_f, dq3, done_same hl, dq8, dq9, dq10, dq11, dq13, dq14, dq15, dq16]) <;> first | exact hxc.only hg' (by have := hxcf.1.1; omega) | exact fun _ => trivial | exact fun h => (by cases h)), (by (try simp only [dq3]) <;> first | exact h3 | exact fun _ => trivial | exact fun h => (by cases h)), (by (try simp only [done_same hl]) <;> first | exact fun _ => (by omega) | exact fun _ => trivial | exact fun h => (by cases h)), (by (try simp only [hd8, dq8, dq13, dq14]) <;> first | exact fun h => (by cases h) | exact fun _ => trivial | exact fun h => (by cases h)), (by (try simp only [hd15, sel_f, dq13, dq15]) <;> first | exact fun h => ⟨(h13 h).1, (h13 h).2.only hg' (by have := (h13 h).1; have := hL7.lb.blt; omega)⟩ | exact fun _ => trivial | exact fun h => (by cases h)), (by (try simp only [hd16, sel_f, dq14, dq16]) <;> first | exact fun h => ⟨(h14 h).1, (h14 h).2.only hg' (by have := (h14 h).1; have := hL7.lb.blt; omega)⟩ | exact fun _ => trivial | exact fun h => (by cases h)), (by (try simp only [dq13, dq14]) <;> first | exact hx | exact fun _ => trivial | exact fun h => (by cases h)), (by (try simp only [hd8, dq3, dq8]) <;> first | exact fun h => (by cases h) | exact fun _ => trivial | exact fun h => (by cases h)), (by (try simp only [hd8, done_same hl, dq8]) <;> first | exact h85 | exact fun _ => trivial | exact fun h => (by cases h)), (by (try simp only [hd8, hd9, dq8, dq9]) <;> first | exact fun h => (by cases h) | exact fun _ => trivial | exact fun h => (by cases h)), (by (try simp only [hd9, hd10, dq9, dq10]) <;> first | exact h109 | exact fun _ => trivial | exact fun h => (by cases h)), (by (try simp only [hd9, hd11, dq9, dq11]) <;> first | exact h119 | exact fun _ => trivial | exact fun h => (by cases h)), (by (try simp only [hd8, hd15, dq8, dq15]) <;> first | exact h158 | exact fun _ => trivial | exact fun h => (by cases h)), (by (try simp only [hd8, hd16, dq8, dq16]) <;> first | exact h168 | exact fun _ => trivial | exact fun h => (by cases h)), (by (try simp only [hd15, dq13, dq15]) <;> first | exact h1513 | exact fun _ => trivial | exact fun h => (by cases h)), (by (try simp only [hd16, dq14, dq16]) <;> first | exact h1614 | exact fun _ => trivial | exact fun h => (by cases h))⟩
          · skip
            have dq0 := dOt 6 0 (l := l)
            have dq1 := dOt 6 1 (l := l)
            have dq2 := dOt 6 2 (l := l)
            have dq3 := dOt 6 3 (l := l)
            have dq4 := dOt 6 4 (l := l)
            have dq5 := dOt 6 5 (l := l)
            have dq7 := dOt 6 7 (l := l)
            have dq8 := dOt 6 8 (l := l)
            have dq9 := dOt 6 9 (l := l)
            have dq10 := dOt 6 10 (l := l)
            have dq11 := dOt 6 11 (l := l)
            have dq12 := dOt 6 12 (l := l)
            have dq13 := dOt 6 13 (l := l)
            have dq14 := dOt 6 14 (l := l)
            have dq15 := dOt 6 15 (l := l)
            have dq16 := dOt 6 16 (l := l)
            have dq17 := dOt 6 17 (l := l)
            exact opJ_field (v := .pointer (some ⟨xc, 0, none⟩)) rfl rfl 48 (.tmp 12) 0 (.pointer (some ⟨xc, 0, none⟩)) rfl (by simp only [pEo 57 12, pEo 58 12, pEo 59 12, pEo 60 12, pEo 61 12, pEo 62 12, pEo 63 12, pEo 64 12, pEo 65 12, pEo 56 12, pEo 66 12, pEo 67 12, pEo 68 12, pEo 14 12, pEo 15 12, pEo 16 12]; rfl) (by simp [go_sem]) ⟨xa, xb, i1, i2, L, T, Sp, O, pw, st, s2, S2, (by show Act.put _ (some 63) _ = _; simp only [pPu 57 63, pPu 58 63, pPu 59 63, pPu 60 63, pPu 61 63, pPu 62 63, hz', putIf_here2, done_same hl, dq0, dq1, dq2, dq3, dq4, dq5, dq7, dq8, dq9, dq10, dq11, dq12, dq13, dq14, dq17]), (by (try simp only [dq3, dq5, dq8, dq9, dq10, dq11, dq13, dq14, dq15, dq16]) <;> first | exact hL | exact fun _ => trivial | exact fun h => (by cases h)), (by (try simp only [dq3, dq5, dq8, dq9, dq10, dq11, dq13, dq14, dq15, dq16]) <;> first | exact hzw | exact fun _ => trivial | exact fun h => (by cases h)), (by (try simp only [dq3, dq5, dq8, dq9, dq10, dq11, dq13, dq14, dq15, dq16]) <;> first | exact hxc | exact fun _ => trivial | exact fun h => (by cases h)), (by (try simp only [dq3]) <;> first | exact h3 | exact fun _ => trivial | exact fun h => (by cases h)), (by (try simp only [dq5]) <;> first | exact h5 | exact fun _ => trivial | exact fun h => (by cases h)), (by (try simp only [dq8, dq13, dq14]) <;> first | exact h8 | exact fun _ => trivial | exact fun h => (by cases h)), (by (try simp only [dq13, dq15]) <;> first | exact h13 | exact fun _ => trivial | exact fun h => (by cases h)), (by (try simp only [dq14, dq16]) <;> first | exact h14 | exact fun _ => trivial | exact fun h => (by cases h)), (by (try simp only [dq13, dq14]) <;> first | exact hx | exact fun _ => trivial | exact fun h => (by cases h)), (by (try simp only [dq3, dq8]) <;> first | exact h83 | exact fun _ => trivial | exact fun h => (by cases h)), (by (try simp only [dq5, dq8]) <;> first | exact h85 | exact fun _ => trivial | exact fun h => (by cases h)), (by (try simp only [dq8, dq9]) <;> first | exact h98 | exact fun _ => trivial | exact fun h => (by cases h)), (by (try simp only [dq9, dq10]) <;> first | exact h109 | exact fun _ => trivial | exact fun h => (by cases h)), (by (try simp only [dq9, dq11]) <;> first | exact h119 | exact fun _ => trivial | exact fun h => (by cases h)), (by (try simp only [dq8, dq15]) <;> first | exact h158 | exact fun _ => trivial | exact fun h => (by cases h)), (by (try simp only [dq8, dq16]) <;> first | exact h168 | exact fun _ => trivial | exact fun h => (by cases h)), (by (try simp only [dq13, dq15]) <;> first | exact h1513 | exact fun _ => trivial | exact fun h => (by cases h)), (by (try simp only [dq14, dq16]) <;> first | exact h1614 | exact fun _ => trivial | exact fun h => (by cases h))⟩
          · skip
            have dq0 := dOt 7 0 (l := l)
            have dq1 := dOt 7 1 (l := l)
            have dq2 := dOt 7 2 (l := l)
            have dq3 := dOt 7 3 (l := l)
            have dq4 := dOt 7 4 (l := l)
            have dq5 := dOt 7 5 (l := l)
            have dq6 := dOt 7 6 (l := l)
            have dq8 := dOt 7 8 (l := l)
            have dq9 := dOt 7 9 (l := l)
            have dq10 := dOt 7 10 (l := l)
            have dq11 := dOt 7 11 (l := l)
            have dq12 := dOt 7 12 (l := l)
            have dq13 := dOt 7 13 (l := l)
            have dq14 := dOt 7 14 (l := l)
            have dq15 := dOt 7 15 (l := l)
            have dq16 := dOt 7 16 (l := l)
            have dq17 := dOt 7 17 (l := l)
            have dn6 : done l 6 = true := by simp [Region.binds] at haf; simp [done, haf]
            obtain ⟨c0, c1, c2, c3, cf⟩ := hxc.facts4
            exact opJ_load (v := .int .i64 rl) rfl rfl 3 (.tmp 63) (.pointer (some ⟨xc, 0, none⟩)) rfl (by simp only [pEo 57 63, pEo 58 63, pEo 59 63, pEo 60 63, pEo 61 63, pEo 62 63]; rw [dn6]; exact putIf_eval_same (by simp [putIf_size])) (by simp [go_sem, c0]) ⟨xa, xb, i1, i2, L, T, Sp, O, pw, st, s2, S2, (by show Act.put _ (some 64) _ = _; simp only [pPu 57 64, pPu 58 64, pPu 59 64, pPu 60 64, pPu 61 64, pPu 62 64, pPu 63 64, hz', putIf_here2, done_same hl, dq0, dq1, dq2, dq3, dq4, dq5, dq6, dq8, dq9, dq10, dq11, dq12, dq13, dq14, dq17]), (by (try simp only [dq3, dq5, dq8, dq9, dq10, dq11, dq13, dq14, dq15, dq16]) <;> first | exact hL | exact fun _ => trivial | exact fun h => (by cases h)), (by (try simp only [dq3, dq5, dq8, dq9, dq10, dq11, dq13, dq14, dq15, dq16]) <;> first | exact hzw | exact fun _ => trivial | exact fun h => (by cases h)), (by (try simp only [dq3, dq5, dq8, dq9, dq10, dq11, dq13, dq14, dq15, dq16]) <;> first | exact hxc | exact fun _ => trivial | exact fun h => (by cases h)), (by (try simp only [dq3]) <;> first | exact h3 | exact fun _ => trivial | exact fun h => (by cases h)), (by (try simp only [dq5]) <;> first | exact h5 | exact fun _ => trivial | exact fun h => (by cases h)), (by (try simp only [dq8, dq13, dq14]) <;> first | exact h8 | exact fun _ => trivial | exact fun h => (by cases h)), (by (try simp only [dq13, dq15]) <;> first | exact h13 | exact fun _ => trivial | exact fun h => (by cases h)), (by (try simp only [dq14, dq16]) <;> first | exact h14 | exact fun _ => trivial | exact fun h => (by cases h)), (by (try simp only [dq13, dq14]) <;> first | exact hx | exact fun _ => trivial | exact fun h => (by cases h)), (by (try simp only [dq3, dq8]) <;> first | exact h83 | exact fun _ => trivial | exact fun h => (by cases h)), (by (try simp only [dq5, dq8]) <;> first | exact h85 | exact fun _ => trivial | exact fun h => (by cases h)), (by (try simp only [dq8, dq9]) <;> first | exact h98 | exact fun _ => trivial | exact fun h => (by cases h)), (by (try simp only [dq9, dq10]) <;> first | exact h109 | exact fun _ => trivial | exact fun h => (by cases h)), (by (try simp only [dq9, dq11]) <;> first | exact h119 | exact fun _ => trivial | exact fun h => (by cases h)), (by (try simp only [dq8, dq15]) <;> first | exact h158 | exact fun _ => trivial | exact fun h => (by cases h)), (by (try simp only [dq8, dq16]) <;> first | exact h168 | exact fun _ => trivial | exact fun h => (by cases h)), (by (try simp only [dq13, dq15]) <;> first | exact h1513 | exact fun _ => trivial | exact fun h => (by cases h)), (by (try simp only [dq14, dq16]) <;> first | exact h1614 | exact fun _ => trivial | exact fun h => (by cases h))⟩
          · skip
            have dq0 := dOt 8 0 (l := l)
            have dq1 := dOt 8 1 (l := l)
            have dq2 := dOt 8 2 (l := l)
            have dq3 := dOt 8 3 (l := l)
            have dq4 := dOt 8 4 (l := l)
            have dq5 := dOt 8 5 (l := l)
            have dq6 := dOt 8 6 (l := l)
            have dq7 := dOt 8 7 (l := l)
            have dq9 := dOt 8 9 (l := l)
            have dq10 := dOt 8 10 (l := l)
            have dq11 := dOt 8 11 (l := l)
            have dq12 := dOt 8 12 (l := l)
            have dq13 := dOt 8 13 (l := l)
            have dq14 := dOt 8 14 (l := l)
            have dq15 := dOt 8 15 (l := l)
            have dq16 := dOt 8 16 (l := l)
            have dq17 := dOt 8 17 (l := l)
            have dn0 : done l 0 = true := by simp [Region.binds] at haf; simp [done, haf]
            have dn1 : done l 1 = true := by simp [Region.binds] at haf; simp [done, haf]
            have dn3 : done l 3 = true := by simp [Region.binds] at haf; simp [done, haf]
            have dn5 : done l 5 = true := by simp [Region.binds] at haf; simp [done, haf]
            have dn7 : done l 7 = true := by simp [Region.binds] at haf; simp [done, haf]
            have hd8 := hz'
            have hd9 : done l 9 = false := by
              cases hc : done l 9
              · rfl
              · have := h98 hc; rw [hd8] at this; cases this
            have hd10 : done l 10 = false := by
              cases hc : done l 10
              · rfl
              · have := h109 hc; rw [hd9] at this; cases this
            have hd11 : done l 11 = false := by
              cases hc : done l 11
              · rfl
              · have := h119 hc; rw [hd9] at this; cases this
            have hd15 : done l 15 = false := by
              cases hc : done l 15
              · rfl
              · have := h158 hc; rw [hd8] at this; cases this
            have hd16 : done l 16 = false := by
              cases hc : done l 16
              · rfl
              · have := h168 hc; rw [hd8] at this; cases this
            have e8 : ∀ (v : Value) (a : Act), putIf (done l 8) 65 v a = a := fun v a => by rw [hd8]; rfl
            have e9 : ∀ (v : Value) (a : Act), putIf (done l 9) 56 v a = a := fun v a => by rw [hd9]; rfl
            have e10 : ∀ (v : Value) (a : Act), putIf (done l 10) 66 v a = a := fun v a => by rw [hd10]; rfl
            have e11 : ∀ (v : Value) (a : Act), putIf (done l 11) 67 v a = a := fun v a => by rw [hd11]; rfl
            simp only [hd15, hd16, sel_f] at h13 h14
            refine opJ_call rfl rfl 12 #[.tmp 57, .tmp 58, .tmp 60, .tmp 62, .tmp 64] _ #[.agg #[.slice d.r.st.A d.r.st.n d.r.st.c, .int .i64 d.r.de, .int .i64 d.r.lw, .int .i64 d.r.fu, .int .i64 d.r.su, .int .i64 d.r.cr, .slice d.uA d.un d.uc, .slice d.gA d.gn d.gc, .int .i64 d.gr], .agg #[.int .i64 s.vo, .int .i64 s.re, .slice s.uA s.un s.uc, .slice s.gA s.gn s.gc], .int .i64 i1, .int .i64 i2, .int .i64 rl] rfl (map5J (by rw [dn0]; exact putIf_eval_same (by simp [putIf_size])) (by simp only [pEo 57 58]; rw [dn1]; exact putIf_eval_same (by simp [putIf_size])) (by simp only [pEo 57 60, pEo 58 60, pEo 59 60]; rw [dn3]; exact putIf_eval_same (by simp [putIf_size])) (by simp only [pEo 57 62, pEo 58 62, pEo 59 62, pEo 60 62, pEo 61 62]; rw [dn5]; exact putIf_eval_same (by simp [putIf_size])) (by simp only [pEo 57 64, pEo 58 64, pEo 59 64, pEo 60 64, pEo 61 64, pEo 62 64, pEo 63 64]; rw [dn7]; exact putIf_eval_same (by simp [putIf_size]))) cfStep ((HSP.out i1 i2 rl w' (by have := h3 dn3; omega) (by have := h5 dn5; omega) (by omega) hL.lb.hd.out hL.lb.hs.out).mono ?_)
            rintro e w'' ⟨L', T', Sp', O', pw', st', s2', rfl, hQ', hr1', hr2', hb'⟩
            have hH' := held_two hr1' hr2'
            exact ⟨_, rfl, xa, xb, i1, i2, L', T', Sp', O', pw', st', s2', _, (by show Act.put _ (some 65) _ = _; simp only [e9, e10, e11, pPu 57 65, pPu 58 65, pPu 59 65, pPu 60 65, pPu 61 65, pPu 62 65, pPu 63 65, pPu 64 65, hz', putIf_here2, done_same hl, dq0, dq1, dq2, dq3, dq4, dq5, dq6, dq7, dq9, dq10, dq11, dq12, dq13, dq14, dq17] <;> rfl), (by (try simp only [hd9, hd10, hd11, hd15, hd16, sel_f, dq3, dq5, done_same hl, dq9, dq10, dq11, dq13, dq14, dq15, dq16]) <;> first | exact hL.below hb' | exact fun _ => trivial | exact fun h => (by cases h)), (by (try simp only [hd9, hd10, hd11, hd15, hd16, sel_f, dq3, dq5, done_same hl, dq9, dq10, dq11, dq13, dq14, dq15, dq16]) <;> first | exact Nat.le_trans hzw hb'.size | exact fun _ => trivial | exact fun h => (by cases h)), (by (try simp only [hd9, hd10, hd11, hd15, hd16, sel_f, dq3, dq5, done_same hl, dq9, dq10, dq11, dq13, dq14, dq15, dq16]) <;> first | exact hxc.below hb' hxc.lt | exact fun _ => trivial | exact fun h => (by cases h)), (by (try simp only [dq3]) <;> first | exact h3 | exact fun _ => trivial | exact fun h => (by cases h)), (by (try simp only [dq5]) <;> first | exact h5 | exact fun _ => trivial | exact fun h => (by cases h)), (by (try simp only [done_same hl, dq13, dq14]) <;> first | exact fun _ => ⟨hQ', hH', fun i hi => Nat.le_trans hzw (two_ge hr1' hr2' i hi), fun h hi => (by have := (h13 h).2.lt; have := two_ge hr1' hr2' _ hi; omega), fun h hi => (by have := (h14 h).2.lt; have := two_ge hr1' hr2' _ hi; omega)⟩ | exact fun _ => trivial | exact fun h => (by cases h)), (by (try simp only [hd15, sel_f, dq13, dq15]) <;> first | exact fun h => ⟨(h13 h).1, (h13 h).2.below hb' (h13 h).2.lt⟩ | exact fun _ => trivial | exact fun h => (by cases h)), (by (try simp only [hd16, sel_f, dq14, dq16]) <;> first | exact fun h => ⟨(h14 h).1, (h14 h).2.below hb' (h14 h).2.lt⟩ | exact fun _ => trivial | exact fun h => (by cases h)), (by (try simp only [dq13, dq14]) <;> first | exact hx | exact fun _ => trivial | exact fun h => (by cases h)), (by (try simp only [dq3, done_same hl]) <;> first | exact fun _ => dn3 | exact fun _ => trivial | exact fun h => (by cases h)), (by (try simp only [dq5, done_same hl]) <;> first | exact fun _ => dn5 | exact fun _ => trivial | exact fun h => (by cases h)), (by (try simp only [hd9, done_same hl, dq9]) <;> first | exact fun h => (by cases h) | exact fun _ => trivial | exact fun h => (by cases h)), (by (try simp only [hd9, hd10, dq9, dq10]) <;> first | exact h109 | exact fun _ => trivial | exact fun h => (by cases h)), (by (try simp only [hd9, hd11, dq9, dq11]) <;> first | exact h119 | exact fun _ => trivial | exact fun h => (by cases h)), (by (try simp only [hd15, done_same hl, dq15]) <;> first | exact h158 | exact fun _ => trivial | exact fun h => (by cases h)), (by (try simp only [hd16, done_same hl, dq16]) <;> first | exact h168 | exact fun _ => trivial | exact fun h => (by cases h)), (by (try simp only [hd15, dq13, dq15]) <;> first | exact h1513 | exact fun _ => trivial | exact fun h => (by cases h)), (by (try simp only [hd16, dq14, dq16]) <;> first | exact h1614 | exact fun _ => trivial | exact fun h => (by cases h))⟩
          · skip
            have dq0 := dOt 9 0 (l := l)
            have dq1 := dOt 9 1 (l := l)
            have dq2 := dOt 9 2 (l := l)
            have dq3 := dOt 9 3 (l := l)
            have dq4 := dOt 9 4 (l := l)
            have dq5 := dOt 9 5 (l := l)
            have dq6 := dOt 9 6 (l := l)
            have dq7 := dOt 9 7 (l := l)
            have dq8 := dOt 9 8 (l := l)
            have dq10 := dOt 9 10 (l := l)
            have dq11 := dOt 9 11 (l := l)
            have dq12 := dOt 9 12 (l := l)
            have dq13 := dOt 9 13 (l := l)
            have dq14 := dOt 9 14 (l := l)
            have dq15 := dOt 9 15 (l := l)
            have dq16 := dOt 9 16 (l := l)
            have dq17 := dOt 9 17 (l := l)
            have dn8 : done l 8 = true := by simp [Region.binds] at haf; simp [done, haf]
            exact opJ_move (v := .tuple #[.agg #[.int .i64 s2.vo, .int .i64 s2.re, .slice s2.uA s2.un s2.uc, .slice s2.gA s2.gn s2.gc], .agg #[.int .i64 i1, .int .i64 L, .int .i64 T, .int .i64 Sp, .int .i64 O, .int .i64 pw, .int .i64 st], .int .i64 0]) rfl rfl (.tmp 65) rfl (by simp only [pEo 57 65, pEo 58 65, pEo 59 65, pEo 60 65, pEo 61 65, pEo 62 65, pEo 63 65, pEo 64 65]; rw [dn8]; exact putIf_eval_same (by simp [putIf_size])) ⟨xa, xb, i1, i2, L, T, Sp, O, pw, st, s2, S2, (by show Act.put _ (some 56) _ = _; simp only [pPu 57 56, pPu 58 56, pPu 59 56, pPu 60 56, pPu 61 56, pPu 62 56, pPu 63 56, pPu 64 56, pPu 65 56, hz', putIf_here2, done_same hl, dq0, dq1, dq2, dq3, dq4, dq5, dq6, dq7, dq8, dq10, dq11, dq12, dq13, dq14, dq17]), (by (try simp only [dq3, dq5, dq8, done_same hl, dq10, dq11, dq13, dq14, dq15, dq16]) <;> first | exact hL | exact fun _ => trivial | exact fun h => (by cases h)), (by (try simp only [dq3, dq5, dq8, done_same hl, dq10, dq11, dq13, dq14, dq15, dq16]) <;> first | exact hzw | exact fun _ => trivial | exact fun h => (by cases h)), (by (try simp only [dq3, dq5, dq8, done_same hl, dq10, dq11, dq13, dq14, dq15, dq16]) <;> first | exact hxc | exact fun _ => trivial | exact fun h => (by cases h)), (by (try simp only [dq3]) <;> first | exact h3 | exact fun _ => trivial | exact fun h => (by cases h)), (by (try simp only [dq5]) <;> first | exact h5 | exact fun _ => trivial | exact fun h => (by cases h)), (by (try simp only [dq8, dq13, dq14]) <;> first | exact h8 | exact fun _ => trivial | exact fun h => (by cases h)), (by (try simp only [dq13, dq15]) <;> first | exact h13 | exact fun _ => trivial | exact fun h => (by cases h)), (by (try simp only [dq14, dq16]) <;> first | exact h14 | exact fun _ => trivial | exact fun h => (by cases h)), (by (try simp only [dq13, dq14]) <;> first | exact hx | exact fun _ => trivial | exact fun h => (by cases h)), (by (try simp only [dq3, dq8]) <;> first | exact h83 | exact fun _ => trivial | exact fun h => (by cases h)), (by (try simp only [dq5, dq8]) <;> first | exact h85 | exact fun _ => trivial | exact fun h => (by cases h)), (by (try simp only [dq8, done_same hl]) <;> first | exact fun _ => dn8 | exact fun _ => trivial | exact fun h => (by cases h)), (by (try simp only [done_same hl, dq10]) <;> first | exact h109 | exact fun _ => trivial | exact fun h => (by cases h)), (by (try simp only [done_same hl, dq11]) <;> first | exact h119 | exact fun _ => trivial | exact fun h => (by cases h)), (by (try simp only [dq8, dq15]) <;> first | exact h158 | exact fun _ => trivial | exact fun h => (by cases h)), (by (try simp only [dq8, dq16]) <;> first | exact h168 | exact fun _ => trivial | exact fun h => (by cases h)), (by (try simp only [dq13, dq15]) <;> first | exact h1513 | exact fun _ => trivial | exact fun h => (by cases h)), (by (try simp only [dq14, dq16]) <;> first | exact h1614 | exact fun _ => trivial | exact fun h => (by cases h))⟩
          · skip
            have dq0 := dOt 10 0 (l := l)
            have dq1 := dOt 10 1 (l := l)
            have dq2 := dOt 10 2 (l := l)
            have dq3 := dOt 10 3 (l := l)
            have dq4 := dOt 10 4 (l := l)
            have dq5 := dOt 10 5 (l := l)
            have dq6 := dOt 10 6 (l := l)
            have dq7 := dOt 10 7 (l := l)
            have dq8 := dOt 10 8 (l := l)
            have dq9 := dOt 10 9 (l := l)
            have dq11 := dOt 10 11 (l := l)
            have dq12 := dOt 10 12 (l := l)
            have dq13 := dOt 10 13 (l := l)
            have dq14 := dOt 10 14 (l := l)
            have dq15 := dOt 10 15 (l := l)
            have dq16 := dOt 10 16 (l := l)
            have dq17 := dOt 10 17 (l := l)
            have dn9 : done l 9 = true := by simp [Region.binds] at haf; simp [done, haf]
            exact opJ_extract (v := .agg #[.int .i64 s2.vo, .int .i64 s2.re, .slice s2.uA s2.un s2.uc, .slice s2.gA s2.gn s2.gc]) rfl rfl (.tmp 56) 0 (.tuple #[.agg #[.int .i64 s2.vo, .int .i64 s2.re, .slice s2.uA s2.un s2.uc, .slice s2.gA s2.gn s2.gc], .agg #[.int .i64 i1, .int .i64 L, .int .i64 T, .int .i64 Sp, .int .i64 O, .int .i64 pw, .int .i64 st], .int .i64 0]) rfl (by simp only [pEo 57 56, pEo 58 56, pEo 59 56, pEo 60 56, pEo 61 56, pEo 62 56, pEo 63 56, pEo 64 56, pEo 65 56]; rw [dn9]; exact putIf_eval_same (by simp [putIf_size])) (by simp [go_sem]) ⟨xa, xb, i1, i2, L, T, Sp, O, pw, st, s2, S2, (by show Act.put _ (some 66) _ = _; simp only [pPu 57 66, pPu 58 66, pPu 59 66, pPu 60 66, pPu 61 66, pPu 62 66, pPu 63 66, pPu 64 66, pPu 65 66, pPu 56 66, hz', putIf_here2, done_same hl, dq0, dq1, dq2, dq3, dq4, dq5, dq6, dq7, dq8, dq9, dq11, dq12, dq13, dq14, dq17]), (by (try simp only [dq3, dq5, dq8, dq9, done_same hl, dq11, dq13, dq14, dq15, dq16]) <;> first | exact hL | exact fun _ => trivial | exact fun h => (by cases h)), (by (try simp only [dq3, dq5, dq8, dq9, done_same hl, dq11, dq13, dq14, dq15, dq16]) <;> first | exact hzw | exact fun _ => trivial | exact fun h => (by cases h)), (by (try simp only [dq3, dq5, dq8, dq9, done_same hl, dq11, dq13, dq14, dq15, dq16]) <;> first | exact hxc | exact fun _ => trivial | exact fun h => (by cases h)), (by (try simp only [dq3]) <;> first | exact h3 | exact fun _ => trivial | exact fun h => (by cases h)), (by (try simp only [dq5]) <;> first | exact h5 | exact fun _ => trivial | exact fun h => (by cases h)), (by (try simp only [dq8, dq13, dq14]) <;> first | exact h8 | exact fun _ => trivial | exact fun h => (by cases h)), (by (try simp only [dq13, dq15]) <;> first | exact h13 | exact fun _ => trivial | exact fun h => (by cases h)), (by (try simp only [dq14, dq16]) <;> first | exact h14 | exact fun _ => trivial | exact fun h => (by cases h)), (by (try simp only [dq13, dq14]) <;> first | exact hx | exact fun _ => trivial | exact fun h => (by cases h)), (by (try simp only [dq3, dq8]) <;> first | exact h83 | exact fun _ => trivial | exact fun h => (by cases h)), (by (try simp only [dq5, dq8]) <;> first | exact h85 | exact fun _ => trivial | exact fun h => (by cases h)), (by (try simp only [dq8, dq9]) <;> first | exact h98 | exact fun _ => trivial | exact fun h => (by cases h)), (by (try simp only [dq9, done_same hl]) <;> first | exact fun _ => dn9 | exact fun _ => trivial | exact fun h => (by cases h)), (by (try simp only [dq9, dq11]) <;> first | exact h119 | exact fun _ => trivial | exact fun h => (by cases h)), (by (try simp only [dq8, dq15]) <;> first | exact h158 | exact fun _ => trivial | exact fun h => (by cases h)), (by (try simp only [dq8, dq16]) <;> first | exact h168 | exact fun _ => trivial | exact fun h => (by cases h)), (by (try simp only [dq13, dq15]) <;> first | exact h1513 | exact fun _ => trivial | exact fun h => (by cases h)), (by (try simp only [dq14, dq16]) <;> first | exact h1614 | exact fun _ => trivial | exact fun h => (by cases h))⟩
          · skip
            have dq0 := dOt 11 0 (l := l)
            have dq1 := dOt 11 1 (l := l)
            have dq2 := dOt 11 2 (l := l)
            have dq3 := dOt 11 3 (l := l)
            have dq4 := dOt 11 4 (l := l)
            have dq5 := dOt 11 5 (l := l)
            have dq6 := dOt 11 6 (l := l)
            have dq7 := dOt 11 7 (l := l)
            have dq8 := dOt 11 8 (l := l)
            have dq9 := dOt 11 9 (l := l)
            have dq10 := dOt 11 10 (l := l)
            have dq12 := dOt 11 12 (l := l)
            have dq13 := dOt 11 13 (l := l)
            have dq14 := dOt 11 14 (l := l)
            have dq15 := dOt 11 15 (l := l)
            have dq16 := dOt 11 16 (l := l)
            have dq17 := dOt 11 17 (l := l)
            have dn9 : done l 9 = true := by simp [Region.binds] at haf; simp [done, haf]
            exact opJ_extract (v := .agg #[.int .i64 i1, .int .i64 L, .int .i64 T, .int .i64 Sp, .int .i64 O, .int .i64 pw, .int .i64 st]) rfl rfl (.tmp 56) 1 (.tuple #[.agg #[.int .i64 s2.vo, .int .i64 s2.re, .slice s2.uA s2.un s2.uc, .slice s2.gA s2.gn s2.gc], .agg #[.int .i64 i1, .int .i64 L, .int .i64 T, .int .i64 Sp, .int .i64 O, .int .i64 pw, .int .i64 st], .int .i64 0]) rfl (by simp only [pEo 57 56, pEo 58 56, pEo 59 56, pEo 60 56, pEo 61 56, pEo 62 56, pEo 63 56, pEo 64 56, pEo 65 56]; rw [dn9]; exact putIf_eval_same (by simp [putIf_size])) (by simp [go_sem]) ⟨xa, xb, i1, i2, L, T, Sp, O, pw, st, s2, S2, (by show Act.put _ (some 67) _ = _; simp only [pPu 57 67, pPu 58 67, pPu 59 67, pPu 60 67, pPu 61 67, pPu 62 67, pPu 63 67, pPu 64 67, pPu 65 67, pPu 56 67, pPu 66 67, hz', putIf_here2, done_same hl, dq0, dq1, dq2, dq3, dq4, dq5, dq6, dq7, dq8, dq9, dq10, dq12, dq13, dq14, dq17]), (by (try simp only [dq3, dq5, dq8, dq9, dq10, done_same hl, dq13, dq14, dq15, dq16]) <;> first | exact hL | exact fun _ => trivial | exact fun h => (by cases h)), (by (try simp only [dq3, dq5, dq8, dq9, dq10, done_same hl, dq13, dq14, dq15, dq16]) <;> first | exact hzw | exact fun _ => trivial | exact fun h => (by cases h)), (by (try simp only [dq3, dq5, dq8, dq9, dq10, done_same hl, dq13, dq14, dq15, dq16]) <;> first | exact hxc | exact fun _ => trivial | exact fun h => (by cases h)), (by (try simp only [dq3]) <;> first | exact h3 | exact fun _ => trivial | exact fun h => (by cases h)), (by (try simp only [dq5]) <;> first | exact h5 | exact fun _ => trivial | exact fun h => (by cases h)), (by (try simp only [dq8, dq13, dq14]) <;> first | exact h8 | exact fun _ => trivial | exact fun h => (by cases h)), (by (try simp only [dq13, dq15]) <;> first | exact h13 | exact fun _ => trivial | exact fun h => (by cases h)), (by (try simp only [dq14, dq16]) <;> first | exact h14 | exact fun _ => trivial | exact fun h => (by cases h)), (by (try simp only [dq13, dq14]) <;> first | exact hx | exact fun _ => trivial | exact fun h => (by cases h)), (by (try simp only [dq3, dq8]) <;> first | exact h83 | exact fun _ => trivial | exact fun h => (by cases h)), (by (try simp only [dq5, dq8]) <;> first | exact h85 | exact fun _ => trivial | exact fun h => (by cases h)), (by (try simp only [dq8, dq9]) <;> first | exact h98 | exact fun _ => trivial | exact fun h => (by cases h)), (by (try simp only [dq9, dq10]) <;> first | exact h109 | exact fun _ => trivial | exact fun h => (by cases h)), (by (try simp only [dq9, done_same hl]) <;> first | exact fun _ => dn9 | exact fun _ => trivial | exact fun h => (by cases h)), (by (try simp only [dq8, dq15]) <;> first | exact h158 | exact fun _ => trivial | exact fun h => (by cases h)), (by (try simp only [dq8, dq16]) <;> first | exact h168 | exact fun _ => trivial | exact fun h => (by cases h)), (by (try simp only [dq13, dq15]) <;> first | exact h1513 | exact fun _ => trivial | exact fun h => (by cases h)), (by (try simp only [dq14, dq16]) <;> first | exact h1614 | exact fun _ => trivial | exact fun h => (by cases h))⟩
          · skip
            have dq0 := dOt 12 0 (l := l)
            have dq1 := dOt 12 1 (l := l)
            have dq2 := dOt 12 2 (l := l)
            have dq3 := dOt 12 3 (l := l)
            have dq4 := dOt 12 4 (l := l)
            have dq5 := dOt 12 5 (l := l)
            have dq6 := dOt 12 6 (l := l)
            have dq7 := dOt 12 7 (l := l)
            have dq8 := dOt 12 8 (l := l)
            have dq9 := dOt 12 9 (l := l)
            have dq10 := dOt 12 10 (l := l)
            have dq11 := dOt 12 11 (l := l)
            have dq13 := dOt 12 13 (l := l)
            have dq14 := dOt 12 14 (l := l)
            have dq15 := dOt 12 15 (l := l)
            have dq16 := dOt 12 16 (l := l)
            have dq17 := dOt 12 17 (l := l)
            have dn9 : done l 9 = true := by simp [Region.binds] at haf; simp [done, haf]
            exact opJ_extract (v := .int .i64 0) rfl rfl (.tmp 56) 2 (.tuple #[.agg #[.int .i64 s2.vo, .int .i64 s2.re, .slice s2.uA s2.un s2.uc, .slice s2.gA s2.gn s2.gc], .agg #[.int .i64 i1, .int .i64 L, .int .i64 T, .int .i64 Sp, .int .i64 O, .int .i64 pw, .int .i64 st], .int .i64 0]) rfl (by simp only [pEo 57 56, pEo 58 56, pEo 59 56, pEo 60 56, pEo 61 56, pEo 62 56, pEo 63 56, pEo 64 56, pEo 65 56]; rw [dn9]; exact putIf_eval_same (by simp [putIf_size])) (by simp [go_sem]) ⟨xa, xb, i1, i2, L, T, Sp, O, pw, st, s2, S2, (by show Act.put _ (some 68) _ = _; simp only [pPu 57 68, pPu 58 68, pPu 59 68, pPu 60 68, pPu 61 68, pPu 62 68, pPu 63 68, pPu 64 68, pPu 65 68, pPu 56 68, pPu 66 68, pPu 67 68, hz', putIf_here2, done_same hl, dq0, dq1, dq2, dq3, dq4, dq5, dq6, dq7, dq8, dq9, dq10, dq11, dq13, dq14, dq17]), (by (try simp only [dq3, dq5, dq8, dq9, dq10, dq11, dq13, dq14, dq15, dq16]) <;> first | exact hL | exact fun _ => trivial | exact fun h => (by cases h)), (by (try simp only [dq3, dq5, dq8, dq9, dq10, dq11, dq13, dq14, dq15, dq16]) <;> first | exact hzw | exact fun _ => trivial | exact fun h => (by cases h)), (by (try simp only [dq3, dq5, dq8, dq9, dq10, dq11, dq13, dq14, dq15, dq16]) <;> first | exact hxc | exact fun _ => trivial | exact fun h => (by cases h)), (by (try simp only [dq3]) <;> first | exact h3 | exact fun _ => trivial | exact fun h => (by cases h)), (by (try simp only [dq5]) <;> first | exact h5 | exact fun _ => trivial | exact fun h => (by cases h)), (by (try simp only [dq8, dq13, dq14]) <;> first | exact h8 | exact fun _ => trivial | exact fun h => (by cases h)), (by (try simp only [dq13, dq15]) <;> first | exact h13 | exact fun _ => trivial | exact fun h => (by cases h)), (by (try simp only [dq14, dq16]) <;> first | exact h14 | exact fun _ => trivial | exact fun h => (by cases h)), (by (try simp only [dq13, dq14]) <;> first | exact hx | exact fun _ => trivial | exact fun h => (by cases h)), (by (try simp only [dq3, dq8]) <;> first | exact h83 | exact fun _ => trivial | exact fun h => (by cases h)), (by (try simp only [dq5, dq8]) <;> first | exact h85 | exact fun _ => trivial | exact fun h => (by cases h)), (by (try simp only [dq8, dq9]) <;> first | exact h98 | exact fun _ => trivial | exact fun h => (by cases h)), (by (try simp only [dq9, dq10]) <;> first | exact h109 | exact fun _ => trivial | exact fun h => (by cases h)), (by (try simp only [dq9, dq11]) <;> first | exact h119 | exact fun _ => trivial | exact fun h => (by cases h)), (by (try simp only [dq8, dq15]) <;> first | exact h158 | exact fun _ => trivial | exact fun h => (by cases h)), (by (try simp only [dq8, dq16]) <;> first | exact h168 | exact fun _ => trivial | exact fun h => (by cases h)), (by (try simp only [dq13, dq15]) <;> first | exact h1513 | exact fun _ => trivial | exact fun h => (by cases h)), (by (try simp only [dq14, dq16]) <;> first | exact h1614 | exact fun _ => trivial | exact fun h => (by cases h))⟩
          · skip
            have dq0 := dOt 13 0 (l := l)
            have dq1 := dOt 13 1 (l := l)
            have dq2 := dOt 13 2 (l := l)
            have dq3 := dOt 13 3 (l := l)
            have dq4 := dOt 13 4 (l := l)
            have dq5 := dOt 13 5 (l := l)
            have dq6 := dOt 13 6 (l := l)
            have dq7 := dOt 13 7 (l := l)
            have dq8 := dOt 13 8 (l := l)
            have dq9 := dOt 13 9 (l := l)
            have dq10 := dOt 13 10 (l := l)
            have dq11 := dOt 13 11 (l := l)
            have dq12 := dOt 13 12 (l := l)
            have dq14 := dOt 13 14 (l := l)
            have dq15 := dOt 13 15 (l := l)
            have dq16 := dOt 13 16 (l := l)
            have dq17 := dOt 13 17 (l := l)
            have hd15 : done l 15 = false := by
              cases hc : done l 15
              · rfl
              · have := h1513 hc; rw [hz'] at this; cases this
            exact opJ_alloc (v := .pointer (some ⟨w'.heap.size, 0, none⟩)) (w' := w'.alloc (.cells #[.int .i64 0, .int .i64 0, .slice none 0 0, .slice none 0 0] 35)) rfl rfl 35 rfl (by simp [go_sem]) ⟨w'.heap.size, xb, i1, i2, L, T, Sp, O, pw, st, s2, S2, (by show Act.put _ (some 14) _ = _; simp only [pPu 57 14, pPu 58 14, pPu 59 14, pPu 60 14, pPu 61 14, pPu 62 14, pPu 63 14, pPu 64 14, pPu 65 14, pPu 56 14, pPu 66 14, pPu 67 14, pPu 68 14, hz', putIf_here2, done_same hl, dq0, dq1, dq2, dq3, dq4, dq5, dq6, dq7, dq8, dq9, dq10, dq11, dq12, dq14, dq17]), (by (try simp only [hd15, sel_f, dq3, dq5, dq8, dq9, dq10, dq11, done_same hl, dq14, dq15, dq16]) <;> first | exact hL.below bel1 | exact fun _ => trivial | exact fun h => (by cases h)), (by (try simp only [hd15, sel_f, dq3, dq5, dq8, dq9, dq10, dq11, done_same hl, dq14, dq15, dq16]) <;> first | exact (by simp only [World.size_alloc]; omega) | exact fun _ => trivial | exact fun h => (by cases h)), (by (try simp only [hd15, sel_f, dq3, dq5, dq8, dq9, dq10, dq11, done_same hl, dq14, dq15, dq16]) <;> first | exact hxc.alloc _ | exact fun _ => trivial | exact fun h => (by cases h)), (by (try simp only [dq3]) <;> first | exact h3 | exact fun _ => trivial | exact fun h => (by cases h)), (by (try simp only [dq5]) <;> first | exact h5 | exact fun _ => trivial | exact fun h => (by cases h)), (by (try simp only [dq8, done_same hl, dq14]) <;> first | exact fun h => ⟨(h8 h).1, (h8 h).2.1.alloc _, (h8 h).2.2.1, fun _ hi => Nat.lt_irrefl _ ((h8 h).2.1.lt hi), (h8 h).2.2.2.2⟩ | exact fun _ => trivial | exact fun h => (by cases h)), (by (try simp only [hd15, sel_f, done_same hl, dq15]) <;> first | exact fun _ => ⟨hzw, Blk.new _ _ _⟩ | exact fun _ => trivial | exact fun h => (by cases h)), (by (try simp only [dq14, dq16]) <;> first | exact fun h => ⟨(h14 h).1, (h14 h).2.alloc _⟩ | exact fun _ => trivial | exact fun h => (by cases h)), (by (try simp only [done_same hl, dq14]) <;> first | exact fun _ h => (by have h9 := (h14 h).2.lt; omega) | exact fun _ => trivial | exact fun h => (by cases h)), (by (try simp only [dq3, dq8]) <;> first | exact h83 | exact fun _ => trivial | exact fun h => (by cases h)), (by (try simp only [dq5, dq8]) <;> first | exact h85 | exact fun _ => trivial | exact fun h => (by cases h)), (by (try simp only [dq8, dq9]) <;> first | exact h98 | exact fun _ => trivial | exact fun h => (by cases h)), (by (try simp only [dq9, dq10]) <;> first | exact h109 | exact fun _ => trivial | exact fun h => (by cases h)), (by (try simp only [dq9, dq11]) <;> first | exact h119 | exact fun _ => trivial | exact fun h => (by cases h)), (by (try simp only [hd15, dq8, dq15]) <;> first | exact h158 | exact fun _ => trivial | exact fun h => (by cases h)), (by (try simp only [dq8, dq16]) <;> first | exact h168 | exact fun _ => trivial | exact fun h => (by cases h)), (by (try simp only [hd15, done_same hl, dq15]) <;> first | exact h1513 | exact fun _ => trivial | exact fun h => (by cases h)), (by (try simp only [dq14, dq16]) <;> first | exact h1614 | exact fun _ => trivial | exact fun h => (by cases h))⟩
          · skip
            have dq0 := dOt 14 0 (l := l)
            have dq1 := dOt 14 1 (l := l)
            have dq2 := dOt 14 2 (l := l)
            have dq3 := dOt 14 3 (l := l)
            have dq4 := dOt 14 4 (l := l)
            have dq5 := dOt 14 5 (l := l)
            have dq6 := dOt 14 6 (l := l)
            have dq7 := dOt 14 7 (l := l)
            have dq8 := dOt 14 8 (l := l)
            have dq9 := dOt 14 9 (l := l)
            have dq10 := dOt 14 10 (l := l)
            have dq11 := dOt 14 11 (l := l)
            have dq12 := dOt 14 12 (l := l)
            have dq13 := dOt 14 13 (l := l)
            have dq15 := dOt 14 15 (l := l)
            have dq16 := dOt 14 16 (l := l)
            have dq17 := dOt 14 17 (l := l)
            have hd16 : done l 16 = false := by
              cases hc : done l 16
              · rfl
              · have := h1614 hc; rw [hz'] at this; cases this
            exact opJ_alloc (v := .pointer (some ⟨w'.heap.size, 0, none⟩)) (w' := w'.alloc (.cells #[.int .i64 0, .int .i64 0, .int .i64 0, .int .i64 0, .int .i64 0, .int .i64 0, .int .i64 0] 53)) rfl rfl 53 rfl (by simp [go_sem]) ⟨xa, w'.heap.size, i1, i2, L, T, Sp, O, pw, st, s2, S2, (by show Act.put _ (some 15) _ = _; simp only [pPu 57 15, pPu 58 15, pPu 59 15, pPu 60 15, pPu 61 15, pPu 62 15, pPu 63 15, pPu 64 15, pPu 65 15, pPu 56 15, pPu 66 15, pPu 67 15, pPu 68 15, pPu 14 15, hz', putIf_here2, done_same hl, dq0, dq1, dq2, dq3, dq4, dq5, dq6, dq7, dq8, dq9, dq10, dq11, dq12, dq13, dq17]), (by (try simp only [hd16, sel_f, dq3, dq5, dq8, dq9, dq10, dq11, dq13, done_same hl, dq15, dq16]) <;> first | exact hL.below bel1 | exact fun _ => trivial | exact fun h => (by cases h)), (by (try simp only [hd16, sel_f, dq3, dq5, dq8, dq9, dq10, dq11, dq13, done_same hl, dq15, dq16]) <;> first | exact (by simp only [World.size_alloc]; omega) | exact fun _ => trivial | exact fun h => (by cases h)), (by (try simp only [hd16, sel_f, dq3, dq5, dq8, dq9, dq10, dq11, dq13, done_same hl, dq15, dq16]) <;> first | exact hxc.alloc _ | exact fun _ => trivial | exact fun h => (by cases h)), (by (try simp only [dq3]) <;> first | exact h3 | exact fun _ => trivial | exact fun h => (by cases h)), (by (try simp only [dq5]) <;> first | exact h5 | exact fun _ => trivial | exact fun h => (by cases h)), (by (try simp only [dq8, dq13, done_same hl]) <;> first | exact fun h => ⟨(h8 h).1, (h8 h).2.1.alloc _, (h8 h).2.2.1, (h8 h).2.2.2.1, fun _ hi => Nat.lt_irrefl _ ((h8 h).2.1.lt hi)⟩ | exact fun _ => trivial | exact fun h => (by cases h)), (by (try simp only [dq13, dq15]) <;> first | exact fun h => ⟨(h13 h).1, (h13 h).2.alloc _⟩ | exact fun _ => trivial | exact fun h => (by cases h)), (by (try simp only [hd16, sel_f, done_same hl, dq16]) <;> first | exact fun _ => ⟨hzw, Blk.new _ _ _⟩ | exact fun _ => trivial | exact fun h => (by cases h)), (by (try simp only [dq13, done_same hl]) <;> first | exact fun h => (by have h9 := (h13 h).2.lt; omega) | exact fun _ => trivial | exact fun h => (by cases h)), (by (try simp only [dq3, dq8]) <;> first | exact h83 | exact fun _ => trivial | exact fun h => (by cases h)), (by (try simp only [dq5, dq8]) <;> first | exact h85 | exact fun _ => trivial | exact fun h => (by cases h)), (by (try simp only [dq8, dq9]) <;> first | exact h98 | exact fun _ => trivial | exact fun h => (by cases h)), (by (try simp only [dq9, dq10]) <;> first | exact h109 | exact fun _ => trivial | exact fun h => (by cases h)), (by (try simp only [dq9, dq11]) <;> first | exact h119 | exact fun _ => trivial | exact fun h => (by cases h)), (by (try simp only [dq8, dq15]) <;> first | exact h158 | exact fun _ => trivial | exact fun h => (by cases h)), (by (try simp only [hd16, dq8, dq16]) <;> first | exact h168 | exact fun _ => trivial | exact fun h => (by cases h)), (by (try simp only [dq13, dq15]) <;> first | exact h1513 | exact fun _ => trivial | exact fun h => (by cases h)), (by (try simp only [hd16, done_same hl, dq16]) <;> first | exact h1614 | exact fun _ => trivial | exact fun h => (by cases h))⟩
          · skip
            have dq0 := dOt 15 0 (l := l)
            have dq1 := dOt 15 1 (l := l)
            have dq2 := dOt 15 2 (l := l)
            have dq3 := dOt 15 3 (l := l)
            have dq4 := dOt 15 4 (l := l)
            have dq5 := dOt 15 5 (l := l)
            have dq6 := dOt 15 6 (l := l)
            have dq7 := dOt 15 7 (l := l)
            have dq8 := dOt 15 8 (l := l)
            have dq9 := dOt 15 9 (l := l)
            have dq10 := dOt 15 10 (l := l)
            have dq11 := dOt 15 11 (l := l)
            have dq12 := dOt 15 12 (l := l)
            have dq13 := dOt 15 13 (l := l)
            have dq14 := dOt 15 14 (l := l)
            have dq16 := dOt 15 16 (l := l)
            have dq17 := dOt 15 17 (l := l)
            have dn13 : done l 13 = true := by simp [Region.binds] at haf; simp [done, haf]
            have dn10 : done l 10 = true := by simp [Region.binds] at haf; simp [done, haf]
            have dn9 := h109 dn10
            have dn8 := h98 dn9
            obtain ⟨hx0, hx1⟩ := h13 dn13
            rw [hz', sel_f] at hx1
            have hv2 := ((((hx1.set_ 0 (.int .i64 s2.vo)).set_ 1 (.int .i64 s2.re)).set_ 2 (.slice s2.uA s2.un s2.uc)).set_ 3 (.slice s2.gA s2.gn s2.gc))
            simp only [List.setIfInBounds_toArray, List.set_cons_zero, List.set_cons_succ] at hv2
            obtain ⟨t0, t1, t2, t3, tf⟩ := hx1.facts4
            obtain ⟨hfr, hf1, hf2, hf3⟩ := hL7.fresh hx0
            have hLn := ((((hL.setx (x := xa) hfr hf1 hf2 hf3 0 (.int .i64 s2.vo)).setx (x := xa) hfr hf1 hf2 hf3 1 (.int .i64 s2.re)).setx (x := xa) hfr hf1 hf2 hf3 2 (.slice s2.uA s2.un s2.uc)).setx (x := xa) hfr hf1 hf2 hf3 3 (.slice s2.gA s2.gn s2.gc))
            have h8a := h8 dn8
            have hnS : ¬ S2 xa := h8a.2.2.2.1 dn13
            have h8n := ((((h8a.2.1.set (p := ⟨xa, 0, none⟩) hnS (.int .i64 s2.vo)).set (p := ⟨xa, 1, none⟩) hnS (.int .i64 s2.re)).set (p := ⟨xa, 2, none⟩) hnS (.slice s2.uA s2.un s2.uc)).set (p := ⟨xa, 3, none⟩) hnS (.slice s2.gA s2.gn s2.gc))
            have hcx : xc ≠ xa := by omega
            have hxcn := ((((hxc.far (p := ⟨xa, 0, none⟩) hcx (.int .i64 s2.vo)).far (p := ⟨xa, 1, none⟩) hcx (.int .i64 s2.re)).far (p := ⟨xa, 2, none⟩) hcx (.slice s2.uA s2.un s2.uc)).far (p := ⟨xa, 3, none⟩) hcx (.slice s2.gA s2.gn s2.gc))
            exact opJ_store (w' := ((((w'.setCell ⟨xa, 0, none⟩ (.int .i64 s2.vo)).setCell ⟨xa, 1, none⟩ (.int .i64 s2.re)).setCell ⟨xa, 2, none⟩ (.slice s2.uA s2.un s2.uc)).setCell ⟨xa, 3, none⟩ (.slice s2.gA s2.gn s2.gc))) rfl rfl 35 (.tmp 14) (.tmp 66) (.pointer (some ⟨xa, 0, none⟩)) (.agg #[.int .i64 s2.vo, .int .i64 s2.re, .slice s2.uA s2.un s2.uc, .slice s2.gA s2.gn s2.gc]) rfl (by simp only [pEo 57 14, pEo 58 14, pEo 59 14, pEo 60 14, pEo 61 14, pEo 62 14, pEo 63 14, pEo 64 14, pEo 65 14, pEo 56 14, pEo 66 14, pEo 67 14, pEo 68 14]; rw [dn13]; exact putIf_eval_same (by simp [putIf_size])) (by simp only [pEo 57 66, pEo 58 66, pEo 59 66, pEo 60 66, pEo 61 66, pEo 62 66, pEo 63 66, pEo 64 66, pEo 65 66, pEo 56 66]; rw [dn10]; exact putIf_eval_same (by simp [putIf_size])) (by simp [go_sem, t0, t1, t2, t3, tf]) ⟨xa, xb, i1, i2, L, T, Sp, O, pw, st, s2, S2, (by show Act.put _ none _ = _; simp only [dq0, dq1, dq2, dq3, dq4, dq5, dq6, dq7, dq8, dq9, dq10, dq11, dq12, dq13, dq14, dq17]; rfl), (by (try simp only [sel_t, dq3, dq5, dq8, dq9, dq10, dq11, dq13, dq14, done_same hl, dq16]) <;> first | exact hLn | exact fun _ => trivial | exact fun h => (by cases h)), (by (try simp only [sel_t, dq3, dq5, dq8, dq9, dq10, dq11, dq13, dq14, done_same hl, dq16]) <;> first | exact (by simpa [World.setCell] using hzw) | exact fun _ => trivial | exact fun h => (by cases h)), (by (try simp only [sel_t, dq3, dq5, dq8, dq9, dq10, dq11, dq13, dq14, done_same hl, dq16]) <;> first | exact hxcn | exact fun _ => trivial | exact fun h => (by cases h)), (by (try simp only [dq3]) <;> first | exact h3 | exact fun _ => trivial | exact fun h => (by cases h)), (by (try simp only [dq5]) <;> first | exact h5 | exact fun _ => trivial | exact fun h => (by cases h)), (by (try simp only [dq8, dq13, dq14]) <;> first | exact fun _ => ⟨h8a.1, h8n, h8a.2.2⟩ | exact fun _ => trivial | exact fun h => (by cases h)), (by (try simp only [sel_t, dq13, done_same hl]) <;> first | exact fun _ => ⟨hx0, hv2⟩ | exact fun _ => trivial | exact fun h => (by cases h)), (by (try simp only [dq14, dq16]) <;> first | exact fun h => ⟨(h14 h).1, (((((h14 h).2.far (p := ⟨xa, 0, none⟩) ((hx dn13 h).symm) (.int .i64 s2.vo)).far (p := ⟨xa, 1, none⟩) ((hx dn13 h).symm) (.int .i64 s2.re)).far (p := ⟨xa, 2, none⟩) ((hx dn13 h).symm) (.slice s2.uA s2.un s2.uc)).far (p := ⟨xa, 3, none⟩) ((hx dn13 h).symm) (.slice s2.gA s2.gn s2.gc))⟩ | exact fun _ => trivial | exact fun h => (by cases h)), (by (try simp only [dq13, dq14]) <;> first | exact hx | exact fun _ => trivial | exact fun h => (by cases h)), (by (try simp only [dq3, dq8]) <;> first | exact h83 | exact fun _ => trivial | exact fun h => (by cases h)), (by (try simp only [dq5, dq8]) <;> first | exact h85 | exact fun _ => trivial | exact fun h => (by cases h)), (by (try simp only [dq8, dq9]) <;> first | exact h98 | exact fun _ => trivial | exact fun h => (by cases h)), (by (try simp only [dq9, dq10]) <;> first | exact h109 | exact fun _ => trivial | exact fun h => (by cases h)), (by (try simp only [dq9, dq11]) <;> first | exact h119 | exact fun _ => trivial | exact fun h => (by cases h)), (by (try simp only [dq8, done_same hl]) <;> first | exact fun _ => dn8 | exact fun _ => trivial | exact fun h => (by cases h)), (by (try simp only [dq8, dq16]) <;> first | exact h168 | exact fun _ => trivial | exact fun h => (by cases h)), (by (try simp only [dq13, done_same hl]) <;> first | exact fun _ => dn13 | exact fun _ => trivial | exact fun h => (by cases h)), (by (try simp only [dq14, dq16]) <;> first | exact h1614 | exact fun _ => trivial | exact fun h => (by cases h))⟩
          · skip
            have dq0 := dOt 16 0 (l := l)
            have dq1 := dOt 16 1 (l := l)
            have dq2 := dOt 16 2 (l := l)
            have dq3 := dOt 16 3 (l := l)
            have dq4 := dOt 16 4 (l := l)
            have dq5 := dOt 16 5 (l := l)
            have dq6 := dOt 16 6 (l := l)
            have dq7 := dOt 16 7 (l := l)
            have dq8 := dOt 16 8 (l := l)
            have dq9 := dOt 16 9 (l := l)
            have dq10 := dOt 16 10 (l := l)
            have dq11 := dOt 16 11 (l := l)
            have dq12 := dOt 16 12 (l := l)
            have dq13 := dOt 16 13 (l := l)
            have dq14 := dOt 16 14 (l := l)
            have dq15 := dOt 16 15 (l := l)
            have dq17 := dOt 16 17 (l := l)
            have dn14 : done l 14 = true := by simp [Region.binds] at haf; simp [done, haf]
            have dn11 : done l 11 = true := by simp [Region.binds] at haf; simp [done, haf]
            have dn9 := h119 dn11
            have dn8 := h98 dn9
            obtain ⟨hx0, hx1⟩ := h14 dn14
            rw [hz', sel_f] at hx1
            have hv2 := (((((((hx1.set_ 0 (.int .i64 i1)).set_ 1 (.int .i64 L)).set_ 2 (.int .i64 T)).set_ 3 (.int .i64 Sp)).set_ 4 (.int .i64 O)).set_ 5 (.int .i64 pw)).set_ 6 (.int .i64 st))
            simp only [List.setIfInBounds_toArray, List.set_cons_zero, List.set_cons_succ] at hv2
            obtain ⟨t0, t1, t2, t3, t4, t5, t6, tf⟩ := facts7 hx1
            obtain ⟨hfr, hf1, hf2, hf3⟩ := hL7.fresh hx0
            have hLn := (((((((hL.setx (x := xb) hfr hf1 hf2 hf3 0 (.int .i64 i1)).setx (x := xb) hfr hf1 hf2 hf3 1 (.int .i64 L)).setx (x := xb) hfr hf1 hf2 hf3 2 (.int .i64 T)).setx (x := xb) hfr hf1 hf2 hf3 3 (.int .i64 Sp)).setx (x := xb) hfr hf1 hf2 hf3 4 (.int .i64 O)).setx (x := xb) hfr hf1 hf2 hf3 5 (.int .i64 pw)).setx (x := xb) hfr hf1 hf2 hf3 6 (.int .i64 st))
            have h8a := h8 dn8
            have hnS : ¬ S2 xb := h8a.2.2.2.2 dn14
            have h8n := (((((((h8a.2.1.set (p := ⟨xb, 0, none⟩) hnS (.int .i64 i1)).set (p := ⟨xb, 1, none⟩) hnS (.int .i64 L)).set (p := ⟨xb, 2, none⟩) hnS (.int .i64 T)).set (p := ⟨xb, 3, none⟩) hnS (.int .i64 Sp)).set (p := ⟨xb, 4, none⟩) hnS (.int .i64 O)).set (p := ⟨xb, 5, none⟩) hnS (.int .i64 pw)).set (p := ⟨xb, 6, none⟩) hnS (.int .i64 st))
            have hcx : xc ≠ xb := by omega
            have hxcn := (((((((hxc.far (p := ⟨xb, 0, none⟩) hcx (.int .i64 i1)).far (p := ⟨xb, 1, none⟩) hcx (.int .i64 L)).far (p := ⟨xb, 2, none⟩) hcx (.int .i64 T)).far (p := ⟨xb, 3, none⟩) hcx (.int .i64 Sp)).far (p := ⟨xb, 4, none⟩) hcx (.int .i64 O)).far (p := ⟨xb, 5, none⟩) hcx (.int .i64 pw)).far (p := ⟨xb, 6, none⟩) hcx (.int .i64 st))
            exact opJ_store (w' := (((((((w'.setCell ⟨xb, 0, none⟩ (.int .i64 i1)).setCell ⟨xb, 1, none⟩ (.int .i64 L)).setCell ⟨xb, 2, none⟩ (.int .i64 T)).setCell ⟨xb, 3, none⟩ (.int .i64 Sp)).setCell ⟨xb, 4, none⟩ (.int .i64 O)).setCell ⟨xb, 5, none⟩ (.int .i64 pw)).setCell ⟨xb, 6, none⟩ (.int .i64 st))) rfl rfl 53 (.tmp 15) (.tmp 67) (.pointer (some ⟨xb, 0, none⟩)) (.agg #[.int .i64 i1, .int .i64 L, .int .i64 T, .int .i64 Sp, .int .i64 O, .int .i64 pw, .int .i64 st]) rfl (by simp only [pEo 57 15, pEo 58 15, pEo 59 15, pEo 60 15, pEo 61 15, pEo 62 15, pEo 63 15, pEo 64 15, pEo 65 15, pEo 56 15, pEo 66 15, pEo 67 15, pEo 68 15, pEo 14 15]; rw [dn14]; exact putIf_eval_same (by simp [putIf_size])) (by simp only [pEo 57 67, pEo 58 67, pEo 59 67, pEo 60 67, pEo 61 67, pEo 62 67, pEo 63 67, pEo 64 67, pEo 65 67, pEo 56 67, pEo 66 67]; rw [dn11]; exact putIf_eval_same (by simp [putIf_size])) (by simp [go_sem, t0, t1, t2, t3, t4, t5, t6, tf]) ⟨xa, xb, i1, i2, L, T, Sp, O, pw, st, s2, S2, (by show Act.put _ none _ = _; simp only [dq0, dq1, dq2, dq3, dq4, dq5, dq6, dq7, dq8, dq9, dq10, dq11, dq12, dq13, dq14, dq17]; rfl), (by (try simp only [sel_t, dq3, dq5, dq8, dq9, dq10, dq11, dq13, dq14, dq15, done_same hl]) <;> first | exact hLn | exact fun _ => trivial | exact fun h => (by cases h)), (by (try simp only [sel_t, dq3, dq5, dq8, dq9, dq10, dq11, dq13, dq14, dq15, done_same hl]) <;> first | exact (by simpa [World.setCell] using hzw) | exact fun _ => trivial | exact fun h => (by cases h)), (by (try simp only [sel_t, dq3, dq5, dq8, dq9, dq10, dq11, dq13, dq14, dq15, done_same hl]) <;> first | exact hxcn | exact fun _ => trivial | exact fun h => (by cases h)), (by (try simp only [dq3]) <;> first | exact h3 | exact fun _ => trivial | exact fun h => (by cases h)), (by (try simp only [dq5]) <;> first | exact h5 | exact fun _ => trivial | exact fun h => (by cases h)), (by (try simp only [dq8, dq13, dq14]) <;> first | exact fun _ => ⟨h8a.1, h8n, h8a.2.2⟩ | exact fun _ => trivial | exact fun h => (by cases h)), (by (try simp only [dq13, dq15]) <;> first | exact fun h => ⟨(h13 h).1, ((((((((h13 h).2.far (p := ⟨xb, 0, none⟩) (hx h dn14) (.int .i64 i1)).far (p := ⟨xb, 1, none⟩) (hx h dn14) (.int .i64 L)).far (p := ⟨xb, 2, none⟩) (hx h dn14) (.int .i64 T)).far (p := ⟨xb, 3, none⟩) (hx h dn14) (.int .i64 Sp)).far (p := ⟨xb, 4, none⟩) (hx h dn14) (.int .i64 O)).far (p := ⟨xb, 5, none⟩) (hx h dn14) (.int .i64 pw)).far (p := ⟨xb, 6, none⟩) (hx h dn14) (.int .i64 st))⟩ | exact fun _ => trivial | exact fun h => (by cases h)), (by (try simp only [sel_t, dq14, done_same hl]) <;> first | exact fun _ => ⟨hx0, hv2⟩ | exact fun _ => trivial | exact fun h => (by cases h)), (by (try simp only [dq13, dq14]) <;> first | exact hx | exact fun _ => trivial | exact fun h => (by cases h)), (by (try simp only [dq3, dq8]) <;> first | exact h83 | exact fun _ => trivial | exact fun h => (by cases h)), (by (try simp only [dq5, dq8]) <;> first | exact h85 | exact fun _ => trivial | exact fun h => (by cases h)), (by (try simp only [dq8, dq9]) <;> first | exact h98 | exact fun _ => trivial | exact fun h => (by cases h)), (by (try simp only [dq9, dq10]) <;> first | exact h109 | exact fun _ => trivial | exact fun h => (by cases h)), (by (try simp only [dq9, dq11]) <;> first | exact h119 | exact fun _ => trivial | exact fun h => (by cases h)), (by (try simp only [dq8, dq15]) <;> first | exact h158 | exact fun _ => trivial | exact fun h => (by cases h)), (by (try simp only [dq8, done_same hl]) <;> first | exact fun _ => dn8 | exact fun _ => trivial | exact fun h => (by cases h)), (by (try simp only [dq13, dq15]) <;> first | exact h1513 | exact fun _ => trivial | exact fun h => (by cases h)), (by (try simp only [dq14, done_same hl]) <;> first | exact fun _ => dn14 | exact fun _ => trivial | exact fun h => (by cases h))⟩
          · skip
            have dq0 := dOt 17 0 (l := l)
            have dq1 := dOt 17 1 (l := l)
            have dq2 := dOt 17 2 (l := l)
            have dq3 := dOt 17 3 (l := l)
            have dq4 := dOt 17 4 (l := l)
            have dq5 := dOt 17 5 (l := l)
            have dq6 := dOt 17 6 (l := l)
            have dq7 := dOt 17 7 (l := l)
            have dq8 := dOt 17 8 (l := l)
            have dq9 := dOt 17 9 (l := l)
            have dq10 := dOt 17 10 (l := l)
            have dq11 := dOt 17 11 (l := l)
            have dq12 := dOt 17 12 (l := l)
            have dq13 := dOt 17 13 (l := l)
            have dq14 := dOt 17 14 (l := l)
            have dq15 := dOt 17 15 (l := l)
            have dq16 := dOt 17 16 (l := l)
            have dn12 : done l 12 = true := by simp [Region.binds] at haf; simp [done, haf]
            exact opJ_assign (v := .int .i64 0) rfl rfl (.tmp 68) rfl (by simp only [pEo 57 68, pEo 58 68, pEo 59 68, pEo 60 68, pEo 61 68, pEo 62 68, pEo 63 68, pEo 64 68, pEo 65 68, pEo 56 68, pEo 66 68, pEo 67 68]; rw [dn12]; exact putIf_eval_same (by simp [putIf_size])) ⟨xa, xb, i1, i2, L, T, Sp, O, pw, st, s2, S2, (by show Act.put _ (some 16) _ = _; simp only [pPu 57 16, pPu 58 16, pPu 59 16, pPu 60 16, pPu 61 16, pPu 62 16, pPu 63 16, pPu 64 16, pPu 65 16, pPu 56 16, pPu 66 16, pPu 67 16, pPu 68 16, pPu 14 16, pPu 15 16, hz', putIf_here2, done_same hl, dq0, dq1, dq2, dq3, dq4, dq5, dq6, dq7, dq8, dq9, dq10, dq11, dq12, dq13, dq14]), (by (try simp only [dq3, dq5, dq8, dq9, dq10, dq11, dq13, dq14, dq15, dq16]) <;> first | exact hL | exact fun _ => trivial | exact fun h => (by cases h)), (by (try simp only [dq3, dq5, dq8, dq9, dq10, dq11, dq13, dq14, dq15, dq16]) <;> first | exact hzw | exact fun _ => trivial | exact fun h => (by cases h)), (by (try simp only [dq3, dq5, dq8, dq9, dq10, dq11, dq13, dq14, dq15, dq16]) <;> first | exact hxc | exact fun _ => trivial | exact fun h => (by cases h)), (by (try simp only [dq3]) <;> first | exact h3 | exact fun _ => trivial | exact fun h => (by cases h)), (by (try simp only [dq5]) <;> first | exact h5 | exact fun _ => trivial | exact fun h => (by cases h)), (by (try simp only [dq8, dq13, dq14]) <;> first | exact h8 | exact fun _ => trivial | exact fun h => (by cases h)), (by (try simp only [dq13, dq15]) <;> first | exact h13 | exact fun _ => trivial | exact fun h => (by cases h)), (by (try simp only [dq14, dq16]) <;> first | exact h14 | exact fun _ => trivial | exact fun h => (by cases h)), (by (try simp only [dq13, dq14]) <;> first | exact hx | exact fun _ => trivial | exact fun h => (by cases h)), (by (try simp only [dq3, dq8]) <;> first | exact h83 | exact fun _ => trivial | exact fun h => (by cases h)), (by (try simp only [dq5, dq8]) <;> first | exact h85 | exact fun _ => trivial | exact fun h => (by cases h)), (by (try simp only [dq8, dq9]) <;> first | exact h98 | exact fun _ => trivial | exact fun h => (by cases h)), (by (try simp only [dq9, dq10]) <;> first | exact h109 | exact fun _ => trivial | exact fun h => (by cases h)), (by (try simp only [dq9, dq11]) <;> first | exact h119 | exact fun _ => trivial | exact fun h => (by cases h)), (by (try simp only [dq8, dq15]) <;> first | exact h158 | exact fun _ => trivial | exact fun h => (by cases h)), (by (try simp only [dq8, dq16]) <;> first | exact h168 | exact fun _ => trivial | exact fun h => (by cases h)), (by (try simp only [dq13, dq15]) <;> first | exact h1513 | exact fun _ => trivial | exact fun h => (by cases h)), (by (try simp only [dq14, dq16]) <;> first | exact h1614 | exact fun _ => trivial | exact fun h => (by cases h))⟩
        · intro l a' w' hJ hall
          obtain ⟨xa, xb, i1, i2, L, T, Sp, O, pw, st, s2, S2, rfl, hL, hzw, hxc, h3, h5, h8, h13, h14, hx, h83, h85, h98, h109, h119, h158, h168, h1513, h1614⟩ := hJ
          have hd : ∀ i, i < 18 → done l i = true := hall
          obtain ⟨hQ8, hH8, hS28, hxa8, hxb8⟩ := h8 (hd 8 (by decide))
          obtain ⟨ha0, hxa⟩ := h13 (hd 13 (by decide))
          obtain ⟨hb0x, hxb⟩ := h14 (hd 14 (by decide))
          have hi1 := h3 (hd 3 (by decide))
          have hi2 := h5 (hd 5 (by decide))
          rw [hd 15 (by decide), sel_t] at hxa
          rw [hd 16 (by decide), sel_t] at hxb
          simp only [hd 0 (by decide), hd 1 (by decide), hd 2 (by decide), hd 3 (by decide), hd 4 (by decide), hd 5 (by decide), hd 6 (by decide), hd 7 (by decide), hd 8 (by decide), hd 9 (by decide), hd 10 (by decide), hd 11 (by decide), hd 12 (by decide), hd 13 (by decide), hd 14 (by decide), hd 17 (by decide), putIf, if_true, Act.put]
          simp only [List.setIfInBounds_toArray, List.set_cons_zero, List.set_cons_succ]
          clear hd hall h3 h5 h8 h13 h14 hx h83 h85 h98 h109 h119 h158 h168 h1513 h1614
          have hL8 := hL
          clear hL
          have hge8 : ∀ i, S2 i → b < i ∧ i ≠ T4 ∧ i ≠ T5 := fun i hi => by have := hS28 i hi; have := hL7.lb.xl; omega
          have HG2 := hide hQ8.g
          have hfin : (0 ≤ T ∧ T ≤ rl) ∧ (0 ≤ T + Sp ∧ T + Sp ≤ 10000) ∧ s2.re = T + Sp := by
            have e1 := hQ8.l
            have e2 := hQ8.t
            have e3 := hQ8.sp
            have e4 := hQ8.re
            have e5 := HSG.out.vo
            have e6 := crestV_in HDG.out
            have e7 := freeV_in HDG.out (l := s.vo + i1 - L) (by omega)
            omega
          obtain ⟨⟨hT0, hT1⟩, ⟨hTS0, hTS1⟩, hre⟩ := hfin
          obtain ⟨bs, os, hAs, hbs, hcs⟩ := hL8.lb.hd.out.1.block hne
          obtain ⟨y0, y1⟩ := hcs 0 hne
          have hlen := hL8.lb.hd.out.1.len
          have HRE := hide hre
          have hrn : (s2.re != T + Sp) = false := by simp [hre]
          have hwts : IntKind.i64.wrap (T + Sp) = T + Sp := by rw [IntKind.wrap_i64]; omega
          have hni : (0 : Int) < (d.r.st.n : Int) := by omega
          have hnn : 0 < d.r.st.n := by omega
          generalize (d.r.st.ps[0]'hne).y = yy at *
          obtain ⟨c0, c1, c2, c3, c4, c5, c6, c7, c8, cf⟩ := facts9 hL8.lb.t4
          obtain ⟨f0, f1, f2, f3, ff⟩ := hL8.lb.t5.facts4
          obtain ⟨a0, a1, a2, a3, af⟩ := hxa.facts4
          obtain ⟨b0, b1, b2, b3, b4, b5, b6, bf⟩ := facts7 hxb
          obtain ⟨x0, x1, x2, x3, xf⟩ := hxc.facts4
          rw [hAs] at c0
          have HAS := hide hAs
          clear hAs
          simp only [Nat.zero_mul, Nat.add_zero] at y0 y1
          have hd1 : decide (max s.vo yy < V) = false := by simp; omega
          have hd2 : decide (rl < T) = false := by simp; omega
          have hd3 : decide (hi < rl) = false := by simp; omega
          clear hlen hre hcs hQ8 hS28
          have HRVW := hide (fun (q : Nat) => HRV.out s2 HG2.out (w'.drewN q) (hL8.lb.hd.drewN q).out (hH8.drewN q).out)
          by_cases hTp : 0 < T
          · have hd4 : decide (0 < T) = true := by simpa using hTp
            go_wp2_with fail
            go_quiet (fail)
            rw [← HAS.out] at c0
            go_wp2_with fail
            (with_reducible refine (HRVW.out _).mono ?_)
            rintro e w9 ⟨rfl, hb9⟩
            have hb9' : Below w'.heap.size w' w9 := ⟨hb9.os, hb9.tape, hb9.output, hb9.size, hb9.block⟩
            have hL9 := hL8.below hb9'
            have hH9 := hH8.below hb9'
            have HNX := hide (hL9.next hH9 hge8)
            have hxa9 := hxa.below hb9' hxa.lt
            have hxb9 := hxb.below hb9' hxb.lt
            clear c0 c1 c2 c3 c4 c5 c6 c7 c8 cf f0 f1 f2 f3 ff a0 a1 a2 a3 af b0 b1 b2 b3 b4 b5 b6 bf x0 x1 x2 x3 xf y0 y1 hb9 hb9' hL8 hH8 hxa hxb hxc
            obtain ⟨f0, f1, f2, f3, ff⟩ := hL9.lb.t5.facts4
            obtain ⟨a0, a1, a2, a3, af⟩ := hxa9.facts4
            obtain ⟨b0, b1, b2, b3, b4, b5, b6, bf⟩ := facts7 hxb9
            clear hL9 hH9 hxa9 hxb9
            go_wp2
            go_roundw
            case rel => exact ⟨k + 1, s2, S2, by omega, by go_num, HG2, by have := HNX.out; rw [HSD.out] at this; exact this⟩
            case measure => simp [intOf]; omega
          · have hd4 : decide (0 < T) = false := by simpa using hTp
            go_wp2_with fail
            go_quiet (fail)
            rw [← HAS.out] at c0
            go_wp2_with fail
            (with_reducible refine (HRVW.out _).mono ?_)
            rintro e w9 ⟨rfl, hb9⟩
            have hb9' : Below w'.heap.size w' w9 := ⟨hb9.os, hb9.tape, hb9.output, hb9.size, hb9.block⟩
            have hL9 := hL8.below hb9'
            have hH9 := hH8.below hb9'
            have HNX := hide (hL9.next hH9 hge8)
            have hxa9 := hxa.below hb9' hxa.lt
            have hxb9 := hxb.below hb9' hxb.lt
            clear c0 c1 c2 c3 c4 c5 c6 c7 c8 cf f0 f1 f2 f3 ff a0 a1 a2 a3 af b0 b1 b2 b3 b4 b5 b6 bf x0 x1 x2 x3 xf y0 y1 hb9 hb9' hL8 hH8 hxa hxb hxc
            obtain ⟨f0, f1, f2, f3, ff⟩ := hL9.lb.t5.facts4
            obtain ⟨a0, a1, a2, a3, af⟩ := hxa9.facts4
            obtain ⟨b0, b1, b2, b3, b4, b5, b6, bf⟩ := facts7 hxb9
            clear hL9 hH9 hxa9 hxb9
            go_wp2
            go_roundw
            case rel => exact ⟨k + 1, s2, S2, by omega, by go_num, HG2, by have := HNX.out; rw [HSD.out] at this; exact this⟩
            case measure => simp [intOf]; omega
        · kernel_rfl
      · kernel_rfl
      -- R>
    · have hki : ¬ ((k : Int) < 6) := by omega
      go_wp2_with fail
      refine (HAW.out wr (by rw [← hbb]; exact hL.lb.gr)).mono ?_
      rintro e w9 ⟨rfl, hb9⟩
      have HE := hide (bthr hL.lb.gr hb9 hL.lb.gr.size)
      clear hL hb9
      go_wp2
      go_ret
      exact ⟨rfl, HE.out⟩
end Go.Proofs.YtodamjjlnagpjaaGreatDoor
