/-
  ResolveChecks answers true for every input, and leaves its arguments as they were, where the table of kinds holds what the program's text lays: the row, and its card.
-/
import Derived.Test.YtphgddanbgdemaaDoorCards
import Derived.Test.YtphgddanbgdemaaDoorTie
import Derived.Test.YtphgddanbgdemaaDoorRck
import Derived.WalkKit
import Derived.ProofKit
import Derived.OpenShut
import Derived.ShutString
import Derived.ChangeOld
import Derived.Below
import Derived.Lib.SmallJoins
import Derived.Deep.DeepHandedRow
import Derived.Lib.LaidTab
namespace Go.Proofs.YtphgddanbgdemaaDoor.resolveChecks
open Go.ChangeShapes Go.WideShapes Go.ChangeAt Go.RowKit Go.Joins
set_option linter.unusedVariables false

theorem own : ownKnob Tryd.prog.godebug = none := by kernel_rfl
theorem laidOut : laidOutB Tryd.prog = true := by kernel_rfl
theorem gTab : Tryd.prog.globalNamed "hydrocascade/licence.kinds" = some 0 := by kernel_rfl
theorem gTabType : (Tryd.prog.globals[0]?).map (·.type) = some 92 := by kernel_rfl
theorem cellsTab : Tryd.prog.cellsOf 92 = 10 := by kernel_rfl
theorem cellsKind : Tryd.prog.cellsOf 91 = 2 := by kernel_rfl
theorem cellsBool : Tryd.prog.cellsOf 4 = 1 := by kernel_rfl

set_option maxRecDepth 20000 in
/-- One entry of the table: two bools. -/
theorem kind_cells {H : Type} {enc : TypeId × Value → H} {w : World} {base : Nat} {sp : Nat → Bool} {held : Bool} {fuel : Nat} {cs : List Value} {x y : Bool} {p : List MemPlace}
    (h : DataW.trod enc Tryd.prog w base sp held fuel 91 cs = some (.agg [.lit (.bool x), .lit (.bool y)], p)) : cs = [.bool x, .bool y] := by
  obtain ⟨xs, n, _, hx, hl, hxl, hf⟩ := DataW.trod_struct Tryd.underlying91 h
  rw [cellsKind] at hl
  match cs, hl with
  | [c0, c1], _ =>
    match xs, hxl with
    | [y0, y1], _ =>
      have h0 := hf 0 _ rfl
      have h1 := hf 1 _ rfl
      simp only [Prod.mk.injEq, List.map_cons, List.map_nil, DataW.agg.injEq, List.cons.injEq, and_true] at hx
      have e0 : DataW.trod enc Tryd.prog w base sp held n 4 ((([c0, c1] : List Value).drop 0).take (Tryd.prog.cellsOf 4)) = some y0 := h0
      have e1 : DataW.trod enc Tryd.prog w base sp held n 4 ((([c0, c1] : List Value).drop 1).take (Tryd.prog.cellsOf 4)) = some y1 := h1
      rw [cellsBool] at e0 e1
      replace e0 : DataW.trod enc Tryd.prog w base sp held n 4 [c0] = some y0 := e0
      replace e1 : DataW.trod enc Tryd.prog w base sp held n 4 [c1] = some y1 := e1
      obtain ⟨b0, hb0, rfl⟩ := DataW.trod_bool Tryd.underlying4 e0
      obtain ⟨b1, hb1, rfl⟩ := DataW.trod_bool Tryd.underlying4 e1
      obtain ⟨⟨g0, g1⟩, _⟩ := hx
      simp at hb0 hb1 g0 g1
      rw [hb0, hb1, g0, g1]
set_option maxRecDepth 20000 in
/-- WHAT THE ROW's LIST GIVES: the table's cells hold its ten bools. -/
theorem table {W : World} (h : laidMetH Tryd.prog Rows.resolveChecksRow.laid W) : KT W := by
  obtain ⟨ps, ⟨g', t', cs, fuel, p, q, hg', ht', hvar, hd, _, _⟩, _⟩ := (show laidMet Tryd.prog [("hydrocascade/licence.kinds", Rows.laid_hydrocascade_licence_kinds)] W from h)
  obtain rfl := Option.some.inj (gTab.symm.trans hg')
  obtain rfl := Option.some.inj (gTabType.symm.trans ht')
  have hc := fun i => World.var?_cell gTab hvar i
  unfold Rows.laid_hydrocascade_licence_kinds at hd
  cases fuel with
  | zero => simp [DataW.trod] at hd
  | succ fuel =>
    simp only [DataW.trod, Tryd.underlying92, cellsKind, cellsTab] at hd
    split at hd
    · rename_i hl
      obtain ⟨xs, hm, hx⟩ := Option.map_eq_some_iff.1 hd
      have hxs := congrArg Prod.fst hx
      simp only [DataW.agg.injEq] at hxs
      have key : ∀ (i : Nat) (x y : Bool), i < 5 → (xs.map (·.1))[i]? = some (DataW.agg [.lit (.bool x), .lit (.bool y)]) → (cs.toList.drop (i * 2)).take 2 = [.bool x, .bool y] := by
        intro i x y hi hxi
        obtain ⟨b, hb, hf⟩ := Lib.mapM_at hm i i (by simp [hi])
        rw [List.getElem?_map, hb] at hxi
        obtain ⟨b1, b2⟩ := b
        simp only [Option.map_some, Option.some.injEq] at hxi
        subst hxi
        exact kind_cells hf
      rw [hxs] at key
      have k0 := key 0 false false (by omega) rfl
      have k1 := key 1 true false (by omega) rfl
      have k2 := key 2 false false (by omega) rfl
      have k3 := key 3 false true (by omega) rfl
      have k4 := key 4 true true (by omega) rfl
      have hall : cs.toList = kindCells := by
        have hl2 : cs.toList.length = 10 := by simpa using hl
        clear hc hvar hd hm key hxs hx hl
        generalize cs.toList = l at *
        match l, hl2, k0, k1, k2, k3, k4 with
        | [c0, c1, c2, c3, c4, c5, c6, c7, c8, c9], _, k0, k1, k2, k3, k4 =>
          simp at k0 k1 k2 k3 k4
          simp [kindCells, k0, k1, k2, k3, k4]
      intro j v hj
      rw [hc j, ← hj, ← hall]
      simp
    · cases hd

set_option maxRecDepth 20000 in
/-- WHAT THE WALK GIVES, FOR EVERY ARGUMENT AND EVERY WORLD THAT HOLDS THE TABLE. -/
theorem contract (H : Type) (enc : TypeId × Value → H) (W : World) (base : Nat) (args : Array Value) (ds gs : List (DataW H)) (before : List MemPlace)
    (hval0 : ∀ (j : Nat) t v, Tryd.f3.params[j]? = some t → args[j]? = some v → Value.okWide Tryd.prog W .any base t v)
    (hW : DataW.Whole enc Tryd.prog Tryd.f3.params.toList Rows.resolveChecksSpec.vars false W args.toList ds gs before) (hL : laidMetH Tryd.prog Rows.resolveChecksRow.laid W) :
    Calls Tryd.prog 3 args W fun e W' => ∃ v, e = .returned v ∧ Rows.resolveChecksSpec.post enc Tryd.prog Tryd.f3 false true false false W args v W' := by
  have hT := table hL
  have hval : ∀ (j : Nat) t v, Tryd.f3.params[j]? = some t → args[j]? = some v → Value.okWide Tryd.prog W .any base t v := hval0
  have hW' := hW
  obtain ⟨p, q, hA0, hV, rfl, hfz, hnd⟩ := hW
  have hA : DataW.TrodAll enc Tryd.prog W 0 (fun _ => true) true Tryd.f3.params.toList args.toList ds p := hA0
  rw [Tryd.params3] at hA hval
  obtain ⟨v0, vs0, d0, ds0, p0, q0, hargs, rfl, rfl, h0, r0⟩ := trodAll_cons hA
  obtain ⟨v1, vs1, d1, ds1, p1, q1, rfl, rfl, rfl, h1, r1⟩ := trodAll_cons r0
  obtain ⟨v2, vs2, d2, ds2, p2, q2, rfl, rfl, rfl, h2, r2⟩ := trodAll_cons r1
  obtain ⟨rfl, rfl, rfl⟩ := trodAll_nil r2
  obtain rfl : args = #[v0, v1, v2] := by cases args; simp_all
  obtain ⟨rfl, rfl⟩ := trodVars_none hV
  have k0 := h0
  have lt0 : ∀ x ∈ p0, x.block < W.heap.size := by obtain ⟨m, hm⟩ := k0; exact DataW.trod_lt m _ _ _ hm
  obtain ⟨rl0, lo0, hi0, A0, len0, cap0, z0, rfl, s0⟩ := choice_of (hval 0 26 v0 rfl rfl) h0
  have k1 := h1
  have lt1 : ∀ x ∈ p1, x.block < W.heap.size := by obtain ⟨m, hm⟩ := k1; exact DataW.trod_lt m _ _ _ hm
  obtain ⟨A1, len1, cap1, rfl⟩ := okWide_slice Tryd.underlying27 (hval 1 27 v1 rfl rfl)
  obtain ⟨z1, s1⟩ : ∃ zs : List Int, Sl W W.heap.size 1 A1 len1 cap1 (ints zs) := by
    obtain ⟨fuel, hf⟩ := h1
    rcases open_ints Tryd.underlying27 Tryd.underlying3 (by kernel_rfl) hf with ⟨hcs, _⟩ | ⟨x, l, c, zs, hcs, _, hl, hm, hz, _, hcell, hwz⟩
    · simp [Value.cells] at hcs
      obtain ⟨rfl, rfl, rfl⟩ := hcs
      exact ⟨[], Sl.none_ _ _ _⟩
    · simp [Value.cells] at hcs
      obtain ⟨rfl, rfl, rfl⟩ := hcs
      exact ⟨_, sl_of_ints hl hm (by simpa using hz) hcell⟩
  have k2 := h2
  have lt2 : ∀ x ∈ p2, x.block < W.heap.size := by obtain ⟨m, hm⟩ := k2; exact DataW.trod_lt m _ _ _ hm
  obtain ⟨a2, rfl, _, _, w2⟩ := open_int Tryd.underlying3 (hval 2 3 v2 rfl rfl) h2
  clear hA0 hval0
  refine (checks_walk hT s0 s1 a2).mono fun e W' ⟨he, bel⟩ => ?_
  subst he
  exact ⟨_, rfl, _, _, _, [], _, [], hW', trodAll_mk1 (shut_bool Tryd.underlying4 _), (trodAll_cons_mk (Below.trod laidOut (by kernel_rfl) (of_decide_eq_true (by kernel_rfl)) k0 bel lt0) (trodAll_cons_mk (Below.trod laidOut (by kernel_rfl) (of_decide_eq_true (by kernel_rfl)) k1 bel lt1) (trodAll_cons_mk (Below.trod laidOut (by kernel_rfl) (of_decide_eq_true (by kernel_rfl)) k2 bel lt2) trodAll_mk0))), rfl, bel.frame _, fun h => by cases h⟩

/-- A WORLD FOR THE WITNESS: the settled one, the table (block 0) holding what its initialiser lays. -/
noncomputable def laidWorld (os : Os) : World :=
  { World.holding Tryd.prog os ⟨#[], #[], []⟩ with heap := (World.holding Tryd.prog os ⟨#[], #[], []⟩).heap.modify 0 fun
      | .cells _ t frozen => .cells #[.bool false, .bool false, .bool true, .bool false, .bool false, .bool false, .bool false, .bool true, .bool true, .bool true] t frozen
      | o => o }
theorem laid_met (os : Os) : laidMet Tryd.prog Rows.resolveChecksRow.laid ((laidWorld os).forCall (fun _ _ => 0) ⟨#[], #[.agg #[.int .i64 0, .int .i64 0, .int .i64 0, .slice none 0 0], .slice none 0 0, .int .i64 0], []⟩).memory :=
  laidMet_of_run' 8 (by kernel_rfl) (by kernel_rfl)
theorem reads (os : Os) {H : Type} (enc : TypeId × Value → H) : ∃ places, DataW.whole enc Tryd.prog ((laidWorld os).forCall (fun _ _ => 0) ⟨#[], #[.agg #[.int .i64 0, .int .i64 0, .int .i64 0, .slice none 0 0], .slice none 0 0, .int .i64 0], []⟩).memory Tryd.f3.params.toList Rows.resolveChecksSpec.vars false (#[.agg #[.int .i64 0, .int .i64 0, .int .i64 0, .slice none 0 0], .slice none 0 0, .int .i64 0] : Array Value).toList 8 = some ([.agg [.lit (.int .i64 0), .agg [.lit (.int .i64 0), .lit (.int .i64 0)], .nil], .nil, .lit (.int .i64 0)], [], places) :=
  ⟨[], by kernel_rfl⟩

set_option maxRecDepth 100000 in
theorem lifted (os : Os) (started : os.Started) (H : Type) (enc : TypeId × Value → H) (F : Stop.Interp) :
    ReturnsInHanded {} Tryd.checked os 3 .any ((OpenSpec.ofChange Rows.resolveChecksSpec).preRow enc Tryd.prog Tryd.f3 Rows.resolveChecksRow.domain false Rows.resolveChecksRow.laid) (((OpenSpec.ofChange Rows.resolveChecksSpec).at F).post enc Tryd.prog Tryd.f3 false true false false) := by
  obtain ⟨places, hx⟩ := reads os enc
  refine returnsInHanded_of_row (C := Tryd.checked) (s := OpenSpec.ofChange Rows.resolveChecksSpec) own started (by kernel_rfl) Tryd.func3
    (witness_row_at (enc := enc) (C := Tryd.checked) false (laidWorld os) #[.agg #[.int .i64 0, .int .i64 0, .int .i64 0, .slice none 0 0], .slice none 0 0, .int .i64 0] rfl (by kernel_rfl) (by kernel_rfl) (by kernel_rfl)
      (OpenSpec.preRow_of_cond 8 hx (by kernel_rfl) (fun k hk => by cases hk) (by kernel_rfl) (laid_met os))) ?_
  intro W base args ds gs before hval hW _ _ _ hL _ _
  exact contract H enc W base args ds gs before hval hW hL

theorem said : Rows.ResolveChecksSaid :=
  OpenClaim.holds_of_cond 3 Tryd.f3 rfl rfl rfl rfl rfl rfl rfl ⟨rfl, rfl, rfl, rfl, rfl⟩ rfl rfl rfl rfl rfl (by kernel_rfl) Tryd.func3 (by kernel_rfl)
    (of_decide_eq_true (by kernel_rfl)) (by unfold Func.isWrapper; first | (rw [if_pos (by decide +kernel)]; kernel_rfl) | (rw [if_neg (by decide +kernel)]; exact ⟨rfl, rfl⟩))
    (fun os started H enc _ F => by rw [OpenClaim.pre_eq_preRow]; exact lifted os started H enc F)

/-- No parameter wants a stand-in; the program's own looks are off: what the card asks. -/
theorem plain (f : FuncId) (fn : Func) (hf : Tryd.pinned.checked.prog.funcNamed "hydrocascade/hydrocascadelaw14.ResolveChecks" = some f) (hfn : Tryd.pinned.checked.prog.funcs[f]? = some fn) :
    false = Tryd.pinned.checked.prog.looks [] ∧ ∀ (j : Nat) t, fn.params[j]? = some t → Tryd.pinned.checked.prog.wantsStandIn t = false := by
  obtain rfl : f = 3 := Option.some.inj ((show Tryd.prog.funcNamed "hydrocascade/hydrocascadelaw14.ResolveChecks" = some 3 by kernel_rfl).symm.trans hf) |>.symm
  obtain rfl : fn = Tryd.f3 := (Option.some.inj (Tryd.func3.symm.trans hfn)).symm
  refine ⟨by kernel_rfl, fun j t ht => ?_⟩
  rw [Tryd.params3] at ht
  obtain rfl | rfl | rfl : t = 26 ∨ t = 27 ∨ t = 3 := by have := Array.mem_of_getElem? ht; simp at this; omega
  all_goals kernel_rfl

/-- ████ THE CARD ████ -/
theorem proved : Rows.ResolveChecksCardSaid :=
  Claim7.holds_tied_plain_at .later [] _ _ _ _ said (fun _ h => by cases h) (by kernel_rfl) (fun _ h => by cases h) resolveChecks_row_tie rfl ⟨rfl, rfl⟩ (by kernel_rfl) rfl plain (by kernel_rfl)
#print axioms proved
end Go.Proofs.YtphgddanbgdemaaDoor.resolveChecks
