/-
  The walk of RightsAll: it answers true (printed by mk_rlw.py). Conditions: its two lists can be read.
-/
import Derived.Test.YtfcmgmcidngjeaaProg
import Derived.Test.YtfcmgmcidngjeaaRbt
import Derived.Test.YtfcmgmcidngjeaaRgj
import Derived.Test.YtfcmgmcidngjeaaExt
import Derived.Deep.DeepCutAuto
namespace Go.Proofs.Ytfcmgmcidngjeaa
open Go.RowKit

theorem rt_one : ∀ (rs : List Rt) (u : Value), u ∈ rtCells rs → u.oneCell' = true := by
  intro rs u hu
  simp only [rtCells, List.mem_flatMap] at hu
  obtain ⟨c, _, h⟩ := hu
  simp [Rt.arr] at h
  rcases h with rfl | rfl | rfl | rfl <;> rfl
theorem sl_boxR {W : World} {g : Nat} {t : TypeId} {c : Rt} (h : Blk W g t c.arr) : Sl W W.heap.size 4 (some ⟨g, 0, none⟩) 1 1 (rtCells [c]) := by
  refine ⟨rfl, Nat.le_refl _, by unfold maxLen; omega, fun _ => ⟨g, 0, rfl, h.lt, fun j u hu => ?_⟩⟩
  rw [h.facts.1, Nat.zero_add]
  rw [← hu]
  simp [rtCells]
/-- the runs of 'append(append(nil, list...), r)', in both orders -/
def RRun (w4 : World) (A4 : Option Addr) (m c4 : Nat) (rs : List Rt) (r : Rt) : Prop :=
  ∃ vA wA vB wB vC wC vD wD,
    (Builtin.append_ #[22, 22] 22 #[.slice none 0 0, .slice A4 m c4]).run Try.prog w4.drew = .ok vA wA ∧
    (Builtin.append_ #[22, 22] 22 #[vA, .slice (some ⟨wA.heap.size, 0, none⟩) 1 1]).run Try.prog (wA.alloc (.cells r.arr 26)) = .ok vB wB ∧
    (Builtin.append_ #[22, 22] 22 #[.slice none 0 0, .slice A4 m c4]).run Try.prog (w4.alloc (.cells r.arr 26)).drew = .ok vC wC ∧
    (Builtin.append_ #[22, 22] 22 #[vC, .slice (some ⟨w4.heap.size, 0, none⟩) 1 1]).run Try.prog wC = .ok vD wD ∧
    Below w4.heap.size w4 wA ∧ Below w4.heap.size w4 wB ∧ Below w4.heap.size w4 wD ∧ wB.ownsRow w4.heap.size 26 4 vB (m + 1) (rtCells (rs ++ [r])) ∧ wD.ownsRow w4.heap.size 26 4 vD (m + 1) (rtCells (rs ++ [r]))
theorem rrun {w4 : World} {A4 : Option Addr} {m c4 : Nat} {rs : List Rt} (r : Rt) (hm : m ≤ 40) (hs : Sl w4 w4.heap.size 4 A4 m c4 (rtCells rs)) : RRun w4 A4 m c4 rs r := by
  obtain ⟨vA, wA, rA, oA, gA, nA⟩ := run_ext (P := Try.prog) w4.drew w4.heap.size 22 22 26 4 slRt (.slice none 0 0) 0 [] (World.ownsRow_nil _ _ _ _) A4 m c4 w4.heap.size (rtCells rs) hs (rt_one rs) (by omega) (Nat.le_refl _)
  have bA : Below w4.heap.size w4 wA := ((Below.refl w4.heap.size w4).drew).grown gA (Nat.le_refl _) (fun k hk => by cases hk)
  have nA1 : ∀ k, vA.ownBlock = some k → w4.heap.size ≤ k := fun k hk => (oA.lt k hk).1
  obtain ⟨vB, wB, rB, oB, gB, _⟩ := run_ext (P := Try.prog) (wA.alloc (.cells r.arr 26)) w4.heap.size 22 22 26 4 slRt vA (0 + m) _ (oA.alloc _) (some ⟨wA.heap.size, 0, none⟩) 1 1 _ (rtCells [r]) (sl_boxR (Blk.new _ _ _)) (rt_one _) (by omega) (by have := bA.size; simp; omega)
  have bB := (bA.alloc bA.size (.cells r.arr 26)).grown gB (by have := bA.size; simp; omega) nA1
  have hb0 := (bel1 (w := w4) (o := .cells r.arr 26)).drew
  obtain ⟨vC, wC, rC, oC, gC, nC⟩ := run_ext (P := Try.prog) (w4.alloc (.cells r.arr 26)).drew w4.heap.size 22 22 26 4 slRt (.slice none 0 0) 0 [] (World.ownsRow_nil _ _ _ _) A4 m c4 _ (rtCells rs) (hs.thr hb0) (rt_one rs) (by omega) (by simp only [World.drew, World.size_alloc]; omega)
  have bC := hb0.grown gC hb0.size (fun k hk => by cases hk)
  have kC : Blk wC w4.heap.size 26 r.arr := by
    have h0 : Blk (w4.alloc (.cells r.arr 26)).drew w4.heap.size 26 r.arr := Blk.new w4 _ _
    exact (gC.block _ h0.lt (fun e => by cases e)).trans h0
  obtain ⟨vD, wD, rD, oD, gD, _⟩ := run_ext (P := Try.prog) wC w4.heap.size 22 22 26 4 slRt vC (0 + m) _ oC (some ⟨w4.heap.size, 0, none⟩) 1 1 _ (rtCells [r]) (sl_boxR kC) (rt_one _) (by omega) bC.size
  have bD := bC.grown gD bC.size (fun k hk => (oC.lt k hk).1)
  rw [Nat.zero_add, List.nil_append, ← rtCells_append] at oB oD
  exact ⟨vA, wA, vB, wB, vC, wC, vD, wD, rA, rB, rC, rD, bA, bB, bD, oB, oD⟩
/-- the three lists of the law and its deck -/
structure RaP (w : World) (base b : Nat) (A1 : Option Addr) (n1 c1 : Nat) (rs1 : List Rt) (A0 : Option Addr) (n0 c0 : Nat) (A2 : Option Addr) (n2 c2 : Nat) (rs2 : List Rt) (g : Nat) (W : World) : Prop where
  row : Blk W g 22 #[.slice A1 n1 c1, .slice A0 n0 c0, .slice A2 n2 c2]
  own1 : W.ownsRow base 26 4 (.slice A1 n1 c1) n1 (rtCells rs1)
  own2 : W.ownsRow base 26 4 (.slice A2 n2 c2) n2 (rtCells rs2)
  deck : Dk W b
  bel : Below w.heap.size w W
  ne : g ≠ b
section
variable {w : World} {base b : Nat} {A1 : Option Addr} {n1 c1 : Nat} {rs1 : List Rt} {A0 : Option Addr} {n0 c0 : Nat} {A2 : Option Addr} {n2 c2 : Nat} {rs2 : List Rt} {g : Nat} {W W' : World}
theorem RaP.below (h : RaP w base b A1 n1 c1 rs1 A0 n0 c0 A2 n2 c2 rs2 g W) (hb : Below W.heap.size W W') : RaP w base b A1 n1 c1 rs1 A0 n0 c0 A2 n2 c2 rs2 g W' :=
  ⟨h.row.below hb h.row.lt, ownsRow_below h.own1 hb, ownsRow_below h.own2 hb, h.deck.below hb, bthr h.bel hb h.bel.size, h.ne⟩
theorem RaP.next (h : RaP w base b A1 n1 c1 rs1 A0 n0 c0 A2 n2 c2 rs2 g W) (hg : W.grownBy W' (some b)) (hD : Dk W' b) (h1 : b < base) (h2 : w.heap.size ≤ b) : RaP w base b A1 n1 c1 rs1 A0 n0 c0 A2 n2 c2 rs2 g W' :=
  ⟨h.row.only hg h.ne, own_deckF h.own1 hg h1, own_deckF h.own2 hg h1, hD, below_grown h.bel hg h.bel.size h2, h.ne⟩
/-- the k-th list, in every such world -/
def RaL (w : World) (base b : Nat) (A1 : Option Addr) (n1 c1 : Nat) (rs1 : List Rt) (A0 : Option Addr) (n0 c0 : Nat) (A2 : Option Addr) (n2 c2 : Nat) (rs2 : List Rt) (g : Nat) (B : Option Addr) (m e : Nat) (xs : List Rt) : Prop :=
  ∀ W : World, RaP w base b A1 n1 c1 rs1 A0 n0 c0 A2 n2 c2 rs2 g W → Sl W W.heap.size 4 B m e (rtCells xs)
theorem rap_at {rs0 : List Rt} (hr : Sl w w.heap.size 4 A0 n0 c0 (rtCells rs0)) (h : RaP w base b A1 n1 c1 rs1 A0 n0 c0 A2 n2 c2 rs2 g W) {k : Nat} (hk : k < 3) : ∃ (B : Option Addr) (m e : Nat) (xs : List Rt), W.cell? ⟨g, k, none⟩ = some (.slice B m e) ∧ RaL w base b A1 n1 c1 rs1 A0 n0 c0 A2 n2 c2 rs2 g B m e xs := by
  have hf := h.row.facts.1
  match k, hk with
  | 0, _ => exact ⟨A1, n1, c1, rs1, hf 0, fun W hW => sl_ownv hW.own1⟩
  | 1, _ => exact ⟨A0, n0, c0, rs0, hf 1, fun W hW => hr.thr hW.bel⟩
  | 2, _ => exact ⟨A2, n2, c2, rs2, hf 2, fun W hW => sl_ownv hW.own2⟩
end
theorem rap_of {w w4 W : World} {base b : Nat} {A1 : Option Addr} {n1 c1 : Nat} {rs1 : List Rt} {A0 : Option Addr} {n0 c0 : Nat} {v2 : Value} {n2 : Nat} {rs2 : List Rt} (hw4 : Below w.heap.size w w4) (hb4 : Below w4.heap.size w4 W) (h1 : w4.ownsRow base 26 4 (.slice A1 n1 c1) n1 (rtCells rs1)) (h2 : W.ownsRow w4.heap.size 26 4 v2 n2 (rtCells rs2)) (hbs : base ≤ w4.heap.size) (hD : Dk w4 b) {c' : Nat} :
    ∀ {A2 : Option Addr} {c2 : Nat}, v2 = .slice A2 n2 c2 → ∃ g, Value.slice (some ⟨W.heap.size, 0, none⟩) 3 c' = .slice (some ⟨g, 0, none⟩) 3 c' ∧ RaP w base b A1 n1 c1 rs1 A0 n0 c0 A2 n2 c2 rs2 g (W.alloc (.cells #[.slice A1 n1 c1, .slice A0 n0 c0, .slice A2 n2 c2] 22)) := by
  intro A2 c2 hv
  subst hv
  have hb5 := hb4.alloc hb4.size (.cells #[.slice A1 n1 c1, .slice A0 n0 c0, .slice A2 n2 c2] 22)
  refine ⟨_, rfl, Blk.new _ _ _, ownsRow_below h1 hb5, (ownsRow_base h2 hbs).alloc _, hD.below hb5, bthr hw4 hb5 hw4.size, fun e => ?_⟩
  have h3 := hD.lt
  have h4 := hb4.size
  omega
theorem trip_at {W : World} {g j : Nat} {t : TypeId} {a b c d e f x y z : Int} (h : Blk W g t #[.int .i64 a, .int .i64 b, .int .i64 c, .int .i64 d, .int .i64 e, .int .i64 f, .int .i64 x, .int .i64 y, .int .i64 z]) (hj : j < 3) : ∃ p q r : Int, W.cell? ⟨g, j * 3, none⟩ = some (.int .i64 p) ∧ W.cell? ⟨g, j * 3 + 1, none⟩ = some (.int .i64 q) ∧ W.cell? ⟨g, j * 3 + 2, none⟩ = some (.int .i64 r) := by
  have hf := h.facts.1
  match j, hj with
  | 0, _ => exact ⟨a, b, c, hf 0, hf 1, hf 2⟩
  | 1, _ => exact ⟨d, e, f, hf 3, hf 4, hf 5⟩
  | 2, _ => exact ⟨x, y, z, hf 6, hf 7, hf 8⟩
set_option maxHeartbeats 6400000 in
set_option maxRecDepth 20000 in
theorem rall_walk {A0 : Option Addr} {n0 c0 : Nat} {rs0 : List Rt} {A : Option Addr} {n c : Nat} {zs : List Int} {w : World} (hr : Sl w w.heap.size 4 A0 n0 c0 (rtCells rs0)) (rr : Rt) (hs : Sl w w.heap.size 1 A n c (ints zs)) (av dy dt : Int) :
    Calls Try.prog 3 #[.slice A0 n0 c0, .agg rr.arr, .slice A n c, .int .i64 av, .int .i64 dy, .int .i64 dt] w fun e w' => e = .returned (.bool true) ∧ Below w.heap.size w w' := by
  have q0 := Blk.new w 26 rr.arr
  have hB0 := bel1 (w := w) (o := .cells rr.arr 26)
  have hz0 : (w.alloc (.cells rr.arr 26)).heap.size = w.heap.size + 1 := by simp
  have hs0 := hs.thr hB0
  have hn63 : n0 ≤ 9223372036854775807 := by have a1 := hr.2.1; have a2 := hr.2.2.1; unfold maxLen at a2; omega
  obtain ⟨rd, rq, rf, rt⟩ := rr
  unfold Rt.arr at q0 hB0 hz0 hs0 ⊢
  simp only at q0 hB0 hz0 hs0 ⊢
  clear hs
  by_cases hn : 210 < n0
  · have hni : (210 : Int) < (n0 : Int) := by omega
    have HB0 := hide hB0
    clear q0 hB0 hz0 hs0 hr
    go_enter Try.func3, Try.ntmps3
    go_wp2_with fail
    generalize w.alloc _ = w0 at *
    refine (awake_any w0).mono ?_
    rintro e w1 ⟨rfl, hb1⟩
    have HB1 := hide (bthr HB0.out hb1 HB0.out.size)
    clear hb1
    go_wp2
    go_ret
    exact ⟨rfl, HB1.out⟩
  · have hni : ¬ ((210 : Int) < (n0 : Int)) := by omega
    have HR := hide hr
    clear hr
    go_enter Try.func3, Try.ntmps3
    go_wp2_with fail
    generalize w.alloc _ = w0 at *
    refine (new_any _ _ _ _ _ hs0).mono ?_
    rintro e w1 ⟨rfl, hD1, hb1⟩
    rw [hz0] at hD1
    simp only [hz0]
    have hw1 := hD1.lt
    have q1 := q0.below hb1 q0.lt
    have hB1 := bthr hB0 hb1 hB0.size
    clear hs0 hb1 hB0 q0
    go_wp2_with fail
    refine (rights_any _ _ hD1).mono ?_
    rintro e w4 ⟨A1, c1, rs1, rfl, hl6, -, hv, hD4, hg4⟩
    have q4 := q1.only hg4 (by omega)
    have hB4 := below_grown hB1 hg4 hB1.size (by omega)
    have hw4 : w1.heap.size ≤ w4.heap.size := hg4.size
    have hsl := sl_ownv hv
    obtain ⟨m, hm⟩ : ∃ m, rs1.length = m := ⟨_, rfl⟩
    rw [hm] at hl6 hv hsl ⊢
    clear hD1 hB1 q1 hg4 hm
    go_upto_region 5 with fail
    go_cut [15] (fun v15 wx => ∃ (A2 : Option Addr) (c2 : Nat), v15 = .slice A2 (m + 1) c2 ∧ wx.ownsRow w4.heap.size 26 4 (.slice A2 (m + 1) c2) (m + 1) (rtCells (rs1 ++ [⟨rd, rq, rf, rt⟩])) ∧ Below w4.heap.size w4 wx)
    case first =>
      obtain ⟨vA, wA, vB, wB, vC, wC, vD, wD, rA, rB, rC, rD, bA, bB, bD, oB, oD⟩ := rrun ⟨rd, rq, rf, rt⟩ (show m ≤ 40 by omega) hsl
      unfold Rt.arr at rB rC
      obtain ⟨gB, cB, rfl, _, _⟩ := oB.form (by omega)
      obtain ⟨gD, cD, rfl, _, _⟩ := oD.form (by omega)
      have RA := hide rA
      have RB := hide rB
      have RC := hide rC
      have RD := hide rD
      obtain ⟨a0, a1, a2, a3, _⟩ := q4.facts4
      obtain ⟨b0, b1, b2, b3, _⟩ := (q4.below bA q4.lt).facts4
      clear rA rB rC rD
      go_region_law (first | ((refine step_run rfl (.const (.slice none 0 0)) (.tmp 50) 22 rfl _ _ _ _ (by first | rfl | simp [Act.eval, Act.put]) (by first | rfl | simp [Act.eval, Act.put]) RA.out ?_)) | ((refine step_run rfl (.tmp 51) (.tmp 53) 22 rfl _ _ _ _ (by first | rfl | simp [Act.eval, Act.put]) (by first | rfl | simp [Act.eval, Act.put]) RB.out ?_)) | ((refine step_run rfl (.const (.slice none 0 0)) (.tmp 50) 22 rfl _ _ _ _ (by first | rfl | simp [Act.eval, Act.put]) (by first | rfl | simp [Act.eval, Act.put]) RC.out ?_)) | ((refine step_run rfl (.tmp 51) (.tmp 53) 22 rfl _ _ _ _ (by first | rfl | simp [Act.eval, Act.put]) (by first | rfl | simp [Act.eval, Act.put]) RD.out ?_)))
      all_goals
        clear RA RB RC RD a0 a1 a2 a3 b0 b1 b2 b3
        go_wp2_with fail
        go_meet
        first | exact ⟨_, _, rfl, oD, bD⟩ | exact ⟨_, _, rfl, oB, bB⟩
    case rest =>
      obtain ⟨A2, c2, rfl, ho2, hb2⟩ := hcut
      rename World => wc
      obtain ⟨g, hge, hP⟩ := rap_of (A0 := A0) (n0 := n0) (c0 := c0) (c' := 3) hB4 hb2 hv ho2 hw4 hD4 rfl
      obtain rfl : wc.heap.size = g := by injection hge with h1; injection h1 with h1; injection h1
      have HP := hide hP
      have hbb : w.heap.size + 1 < w1.heap.size := hw1
      clear hP q4 hv hD4 hB4 hw4 hsl hw1 hl6 hge ho2 hb2
      generalize rs1 ++ [(⟨rd, rq, rf, rt⟩ : Rt)] = rs2 at *
      go_upto_region 7 with fail
      generalize wc.alloc _ = w5 at *
      generalize wc.heap.size = g at *
      go_loopw [60] (fun v wr => ∃ k : Nat, k ≤ 3 ∧ v = .int .i64 k ∧ RaP w w1.heap.size (w.heap.size + 1) A1 m c1 rs1 A0 n0 c0 A2 (m + 1) c2 rs2 g wr) (fun v _ => 3 - (intOf v).toNat)
      case atStart => exact ⟨0, by omega, rfl, HP.out⟩
      case round =>
        obtain ⟨k, hk, rfl, hP⟩ := hrel
        rename World => wr
        by_cases hlt : k < 3
        · obtain ⟨B, q, e, xs, l0, hL⟩ := rap_at HR.out hP hlt
          have HL := hide hL
          have HPr := hide hP
          have hki : (k : Int) < 3 := by omega
          have hki0 : (0 : Int) ≤ (k : Int) := by omega
          have HC1 := hide (fun W h => ckr_any B q e xs W h)
          have HC2 := hide (fun W h => rckr_any B q e xs W h)
          generalize ckR xs = ce at *
          have hee : (ce != ce) = false := by simp
          clear hL hP
          go_upto_region 9 with fail
          clear l0
          go_wp2_with fail
          refine (HC1.out _ (HL.out _ HPr.out)).mono ?_
          rintro e' w5 ⟨rfl, hb5⟩
          have HP5 := hide (HPr.out.below hb5)
          clear hb5 HPr
          go_wp2_with fail
          refine (HC2.out _ (HL.out _ HP5.out)).mono ?_
          rintro e' w6 ⟨rfl, hb6⟩
          have HP6 := hide (HP5.out.below hb6)
          clear hb6 HP5 HC1 HC2
          go_wp2_with fail
          refine (mod_any av 40 (by omega) (by omega) _).mono ?_
          rintro e' w' ⟨rfl, rfl⟩
          generalize av % 40 = a40
          go_wp2_with fail
          refine (mod_any dy 367 (by omega) (by omega) _).mono ?_
          rintro e' w' ⟨rfl, rfl⟩
          obtain ⟨d7, hd7, hd70, hd71⟩ : ∃ d7 : Int, dy % 367 = d7 ∧ 0 ≤ d7 ∧ d7 < 367 := ⟨_, rfl, Int.emod_nonneg _ (by omega), Int.emod_lt_of_pos _ (by omega)⟩
          rw [hd7]
          clear hd7
          go_wp2_with fail
          refine (mod_any dt 500 (by omega) (by omega) _).mono ?_
          rintro e' w' ⟨rfl, rfl⟩
          generalize dt % 500 = d5
          go_wp2_with fail
          refine (next_any (w.heap.size + 1) 40 (by omega) _ HP6.out.deck).mono ?_
          rintro e' w7 ⟨x4, rfl, -, -, hD7, hg7, -⟩
          have HP7 := hide (HP6.out.next hg7 hD7 hbb (by omega))
          clear hD7 hg7 HP6
          go_wp2_with fail
          refine (next_any (w.heap.size + 1) 10 (by omega) _ HP7.out.deck).mono ?_
          rintro e' w8 ⟨x1, rfl, -, -, hD8, hg8, -⟩
          have HP8 := hide (HP7.out.next hg8 hD8 hbb (by omega))
          clear hD8 hg8 HP7
          have p9 := Blk.new w8 35 #[.int .i64 av, .int .i64 dy, .int .i64 dt, .int .i64 a40, .int .i64 (d7 - 1), .int .i64 d5, .int .i64 x4, .int .i64 x1, .int .i64 100]
          have HP9 := hide (HP8.out.below (bel1 (o := .cells #[.int .i64 av, .int .i64 dy, .int .i64 dt, .int .i64 a40, .int .i64 (d7 - 1), .int .i64 d5, .int .i64 x4, .int .i64 x1, .int .i64 100] 35)))
          clear HP8
          go_upto_region 12 with fail
          generalize w8.alloc _ = w9 at *
          generalize w8.heap.size = g9 at *
          have P9 := hide p9
          clear p9
          go_loopw [88] (fun v wx => ∃ j : Nat, j ≤ 3 ∧ v = .int .i64 j ∧ Below w9.heap.size w9 wx) (fun v _ => 3 - (intOf v).toNat)
          case atStart => exact ⟨0, by omega, rfl, Below.refl _ _⟩
          case round =>
            obtain ⟨j, hj, rfl, hb⟩ := hrel
            rename World => wx
            by_cases hj3 : j < 3
            · obtain ⟨p0, p1, p2, z0, z1, z2⟩ := trip_at (P9.out.below hb P9.out.lt) hj3
              have hji : (j : Int) < 3 := by omega
              have hji0 : (0 : Int) ≤ (j : Int) := by omega
              have q9 := Blk.new wx 35 #[.int .i64 p0, .int .i64 p1, .int .i64 p2]
              have K := hide (bthr hb (bel1 (w := wx) (o := .cells #[.int .i64 p0, .int .i64 p1, .int .i64 p2] 35)) hb.size)
              have S := hide (HL.out _ (HP9.out.below K.out))
              clear hb
              go_upto_region 14 with fail
              clear z0 z1 z2
              generalize wx.alloc _ = u0 at *
              generalize wx.heap.size = g19 at *
              obtain ⟨t0, t1, t2, _⟩ := q9.facts3
              obtain ⟨ya, ea, F1, G1⟩ := active_both xs p1
              obtain ⟨yb, eb, F2, G2⟩ := allot_both xs p0 p1
              obtain ⟨ci, cb, ec, F3, G3⟩ := call_both xs p0 p1
              obtain ⟨sb, ed, F4, G4⟩ := before_both xs p2 p1
              obtain ⟨sn, en, F5, G5⟩ := needs_both xs p1
              have H1 := hide F1
              have H2 := hide G1
              have H3 := hide F2
              have H4 := hide G2
              have H5 := hide F3
              have H6 := hide G3
              have H7 := hide F4
              have H8 := hide G4
              have H9 := hide F5
              have H10 := hide G5
              clear F1 F2 F3 F4 F5 G1 G2 G3 G4 G5
              go_wp2_with fail
              refine (H1.out u0 B q e S.out).mono ?_
              rintro e' u1 ⟨Y1, k1, rfl, hy, hb⟩
              replace S := hide (S.out.thr hb)
              replace q9 := q9.below hb q9.lt
              replace K := hide (bthr K.out hb K.out.size)
              have R1 := hide hy
              clear hy hb t0 t1 t2 H1
              obtain ⟨t0, t1, t2, _⟩ := q9.facts3
              go_wp2_with fail
              refine (H2.out u1 B q e S.out).mono ?_
              rintro e' u2 ⟨Y2, k2, rfl, hy, hb⟩
              replace S := hide (S.out.thr hb)
              replace q9 := q9.below hb q9.lt
              replace K := hide (bthr K.out hb K.out.size)
              replace R1 := hide (R1.out.thr hb)
              have R2 := hide hy
              clear hy hb t0 t1 t2 H2
              obtain ⟨t0, t1, t2, _⟩ := q9.facts3
              go_wp2_with fail
              refine (H3.out u2 B q e S.out).mono ?_
              rintro e' u3 ⟨Y3, k3, rfl, hy, hb⟩
              replace S := hide (S.out.thr hb)
              replace q9 := q9.below hb q9.lt
              replace K := hide (bthr K.out hb K.out.size)
              replace R1 := hide (R1.out.thr hb)
              replace R2 := hide (R2.out.thr hb)
              have R3 := hide hy
              clear hy hb t0 t1 t2 H3
              obtain ⟨t0, t1, t2, _⟩ := q9.facts3
              go_wp2_with fail
              refine (H4.out u3 B q e S.out).mono ?_
              rintro e' u4 ⟨Y4, k4, rfl, hy, hb⟩
              replace S := hide (S.out.thr hb)
              replace q9 := q9.below hb q9.lt
              replace K := hide (bthr K.out hb K.out.size)
              replace R1 := hide (R1.out.thr hb)
              replace R2 := hide (R2.out.thr hb)
              replace R3 := hide (R3.out.thr hb)
              have R4 := hide hy
              clear hy hb t0 t1 t2 H4
              obtain ⟨t0, t1, t2, _⟩ := q9.facts3
              go_wp2_with fail
              refine (H5.out u4 B q e S.out).mono ?_
              rintro e' u5 ⟨rfl, hb⟩
              replace S := hide (S.out.thr hb)
              replace q9 := q9.below hb q9.lt
              replace K := hide (bthr K.out hb K.out.size)
              replace R1 := hide (R1.out.thr hb)
              replace R2 := hide (R2.out.thr hb)
              replace R3 := hide (R3.out.thr hb)
              replace R4 := hide (R4.out.thr hb)
              clear hb t0 t1 t2 H5
              obtain ⟨t0, t1, t2, _⟩ := q9.facts3
              go_wp2_with fail
              refine (H6.out u5 B q e S.out).mono ?_
              rintro e' u6 ⟨rfl, hb⟩
              replace S := hide (S.out.thr hb)
              replace q9 := q9.below hb q9.lt
              replace K := hide (bthr K.out hb K.out.size)
              replace R1 := hide (R1.out.thr hb)
              replace R2 := hide (R2.out.thr hb)
              replace R3 := hide (R3.out.thr hb)
              replace R4 := hide (R4.out.thr hb)
              clear hb t0 t1 t2 H6
              obtain ⟨t0, t1, t2, _⟩ := q9.facts3
              go_wp2_with fail
              refine (H7.out u6 B q e S.out).mono ?_
              rintro e' u7 ⟨rfl, hb⟩
              replace S := hide (S.out.thr hb)
              replace q9 := q9.below hb q9.lt
              replace K := hide (bthr K.out hb K.out.size)
              replace R1 := hide (R1.out.thr hb)
              replace R2 := hide (R2.out.thr hb)
              replace R3 := hide (R3.out.thr hb)
              replace R4 := hide (R4.out.thr hb)
              clear hb t0 t1 t2 H7
              obtain ⟨t0, t1, t2, _⟩ := q9.facts3
              go_wp2_with fail
              refine (H8.out u7 B q e S.out).mono ?_
              rintro e' u8 ⟨rfl, hb⟩
              replace S := hide (S.out.thr hb)
              replace q9 := q9.below hb q9.lt
              replace K := hide (bthr K.out hb K.out.size)
              replace R1 := hide (R1.out.thr hb)
              replace R2 := hide (R2.out.thr hb)
              replace R3 := hide (R3.out.thr hb)
              replace R4 := hide (R4.out.thr hb)
              clear hb t0 t1 t2 H8
              obtain ⟨t0, t1, t2, _⟩ := q9.facts3
              go_wp2_with fail
              refine (H9.out u8 B q e S.out).mono ?_
              rintro e' u9 ⟨rfl, hb⟩
              replace S := hide (S.out.thr hb)
              replace q9 := q9.below hb q9.lt
              replace K := hide (bthr K.out hb K.out.size)
              replace R1 := hide (R1.out.thr hb)
              replace R2 := hide (R2.out.thr hb)
              replace R3 := hide (R3.out.thr hb)
              replace R4 := hide (R4.out.thr hb)
              clear hb t0 t1 t2 H9
              obtain ⟨t0, t1, t2, _⟩ := q9.facts3
              go_wp2_with fail
              refine (H10.out u9 B q e S.out).mono ?_
              rintro e' u10 ⟨rfl, hb⟩
              replace K := hide (bthr K.out hb K.out.size)
              replace R1 := hide (R1.out.thr hb)
              replace R2 := hide (R2.out.thr hb)
              replace R3 := hide (R3.out.thr hb)
              replace R4 := hide (R4.out.thr hb)
              clear hb t0 t1 t2 H10
              clear S q9
              have m1 : (ea != ea) = false := by simp
              have m2 : (eb != eb) = false := by simp
              have m3 : (ec != ec) = false := by simp
              have m4 : (ed != ed) = false := by simp
              have m5 : (en != en) = false := by simp
              have m6 : (ci != ci) = false := by simp
              have m7 : (cb != cb) = false := by simp
              have m8 : (sb != sb) = false := by simp
              have m9 : (sn != sn) = false := by simp
              have HS1 := hide (same_self R1.out R2.out)
              generalize ya.length = la at *
              go_wp2_with fail
              refine HS1.out.mono ?_
              rintro e' ua ⟨rfl, hb⟩
              have HS2 := hide (same_self (R3.out.thr hb) (R4.out.thr hb))
              replace K := hide (bthr K.out hb K.out.size)
              clear hb HS1 R1 R2 R3 R4
              generalize yb.length = lb at *
              go_wp2_with fail
              refine HS2.out.mono ?_
              rintro e' ub ⟨rfl, hb⟩
              replace K := hide (bthr K.out hb K.out.size)
              clear hb HS2
              go_wp2
              go_roundw
              case rel => exact ⟨j + 1, by omega, by go_num, K.out⟩
              case measure => simp [intOf]; omega
            · have hji : ¬ ((j : Int) < 3) := by omega
              have HPz := hide (HP9.out.below hb)
              clear hb
              go_wp2
              go_roundw
              case rel => exact ⟨k + 1, by omega, by go_num, HPz.out⟩
              case measure => simp [intOf]; omega
        · have hki : ¬ ((k : Int) < 3) := by omega
          have HBZ := hide hP.bel
          clear hP
          go_wp2_with fail
          refine (awake_any _).mono ?_
          rintro e' wz ⟨rfl, hbz⟩
          have HBY := hide (bthr HBZ.out hbz HBZ.out.size)
          clear hbz
          go_wp2
          go_ret
          exact ⟨rfl, HBY.out⟩
end Go.Proofs.Ytfcmgmcidngjeaa
