/-
  TopOperated answers true for every input, and leaves its arguments as they were, where nine tables hold what the program's text lays: the row, and its card.
-/
import Derived.Test.YtodamjjlnagpjaaGreatDoorCards
import Derived.Test.YtodamjjlnagpjaaGreatDoorTie
import Derived.Test.YtodamjjlnagpjaaGreatDoorTlo
import Derived.WalkKit
import Derived.ProofKit
import Derived.OpenShut
import Derived.ShutString
import Derived.ChangeOld
import Derived.Below
import Derived.Lib.SmallJoins
import Derived.Deep.DeepHandedRow
import Derived.Lib.LaidTab
import Derived.LaidSub
import Derived.Lay
import Derived.Shelf.Vars
namespace Go.Proofs.YtodamjjlnagpjaaGreatDoor.topOperated
open Go.ChangeShapes Go.WideShapes Go.ChangeAt Go.RowKit Go.Joins
set_option linter.unusedVariables false

theorem own : ownKnob Tryz.prog.godebug = none := by kernel_rfl
theorem laidOut : laidOutB Tryz.prog = true := by kernel_rfl
theorem gTab : Tryz.prog.globalNamed "hydrocascade/licence.kinds" = some 1 := by kernel_rfl
theorem gTabType : (Tryz.prog.globals[1]?).map (·.type) = some 181 := by kernel_rfl
theorem cellsTab : Tryz.prog.cellsOf 181 = 10 := by kernel_rfl
theorem cellsKind : Tryz.prog.cellsOf 180 = 2 := by kernel_rfl
theorem cellsBool : Tryz.prog.cellsOf 4 = 1 := by kernel_rfl
theorem gWords : Tryz.prog.globalNamed "hydrocascade/rules.words" = some 0 := by kernel_rfl
theorem gWordsType : (Tryz.prog.globals[0]?).map (·.type) = some 171 := by kernel_rfl
theorem cellsWords : Tryz.prog.cellsOf 171 = 5 := by kernel_rfl
theorem cellsStr : Tryz.prog.cellsOf 9 = 1 := by kernel_rfl

set_option maxRecDepth 20000 in
/-- One entry of the table: two bools. -/
theorem kind_cells {H : Type} {enc : TypeId × Value → H} {w : World} {base : Nat} {sp : Nat → Bool} {held : Bool} {fuel : Nat} {cs : List Value} {x y : Bool} {p : List MemPlace}
    (h : DataW.trod enc Tryz.prog w base sp held fuel 180 cs = some (.agg [.lit (.bool x), .lit (.bool y)], p)) : cs = [.bool x, .bool y] := by
  obtain ⟨xs, n, _, hx, hl, hxl, hf⟩ := DataW.trod_struct Tryz.underlying180 h
  rw [cellsKind] at hl
  match cs, hl with
  | [c0, c1], _ =>
    match xs, hxl with
    | [y0, y1], _ =>
      have h0 := hf 0 _ rfl
      have h1 := hf 1 _ rfl
      simp only [Prod.mk.injEq, List.map_cons, List.map_nil, DataW.agg.injEq, List.cons.injEq, and_true] at hx
      have e0 : DataW.trod enc Tryz.prog w base sp held n 4 ((([c0, c1] : List Value).drop 0).take (Tryz.prog.cellsOf 4)) = some y0 := h0
      have e1 : DataW.trod enc Tryz.prog w base sp held n 4 ((([c0, c1] : List Value).drop 1).take (Tryz.prog.cellsOf 4)) = some y1 := h1
      rw [cellsBool] at e0 e1
      replace e0 : DataW.trod enc Tryz.prog w base sp held n 4 [c0] = some y0 := e0
      replace e1 : DataW.trod enc Tryz.prog w base sp held n 4 [c1] = some y1 := e1
      obtain ⟨b0, hb0, rfl⟩ := DataW.trod_bool Tryz.underlying4 e0
      obtain ⟨b1, hb1, rfl⟩ := DataW.trod_bool Tryz.underlying4 e1
      obtain ⟨⟨g0, g1⟩, _⟩ := hx
      simp at hb0 hb1 g0 g1
      rw [hb0, hb1, g0, g1]
theorem keep_kinds : Rows.topOperatedRow.laid.filter (fun x => x.1 == "hydrocascade/licence.kinds") = [("hydrocascade/licence.kinds", Rows.laid_hydrocascade_licence_kinds)] := by kernel_rfl
theorem keep_words : Rows.topOperatedRow.laid.filter (fun x => x.1 == "hydrocascade/rules.words") = [("hydrocascade/rules.words", Rows.laid_hydrocascade_rules_words)] := by kernel_rfl
set_option maxRecDepth 20000 in
/-- WHAT THE ROW's LIST GIVES: the table of kinds holds its ten bools. -/
theorem table {W : World} (h0 : laidMetH Tryz.prog Rows.topOperatedRow.laid W) : KT W := by
  have h := h0.filter (fun x => x.1 == "hydrocascade/licence.kinds")
  rw [keep_kinds] at h
  obtain ⟨ps, ⟨g', t', cs, fuel, p, q, hg', ht', hvar, hd, _, _⟩, _⟩ := (show laidMet Tryz.prog [("hydrocascade/licence.kinds", Rows.laid_hydrocascade_licence_kinds)] W from h)
  obtain rfl := Option.some.inj (gTab.symm.trans hg')
  obtain rfl := Option.some.inj (gTabType.symm.trans ht')
  have hc := fun i => World.var?_cell gTab hvar i
  unfold Rows.laid_hydrocascade_licence_kinds at hd
  cases fuel with
  | zero => simp [DataW.trod] at hd
  | succ fuel =>
    simp only [DataW.trod, Tryz.underlying181, cellsKind, cellsTab] at hd
    split at hd
    · rename_i hl
      obtain ⟨xs, hm, hx⟩ := Option.map_eq_some_iff.1 hd
      have hxs := congrArg Prod.fst hx
      simp only [DataW.agg.injEq] at hxs
      have key : ∀ (i : Nat) (x y : Bool), i < 5 → (xs.map (·.1))[i]? = some (DataW.agg [.lit (.bool x), .lit (.bool y)]) → (cs.toList.drop (i * 2)).take 2 = [.bool x, .bool y] := by
        intro i x y hi hxi
        obtain ⟨b, hb, hf⟩ := Lib.mapM_at hm i i (by simp [hi])
        rw [List.getElem?_map, hb] at hxi
        obtain ⟨b1, b2⟩ := b
        simp only [Option.map_some, Option.some.injEq] at hxi
        subst hxi
        exact kind_cells hf
      rw [hxs] at key
      have k0 := key 0 false false (by omega) rfl
      have k1 := key 1 true false (by omega) rfl
      have k2 := key 2 false false (by omega) rfl
      have k3 := key 3 false true (by omega) rfl
      have k4 := key 4 true true (by omega) rfl
      have hall : cs.toList = kindCells := by
        have hl2 : cs.toList.length = 10 := by simpa using hl
        clear hc hvar hd hm key hxs hx hl
        generalize cs.toList = l at *
        match l, hl2, k0, k1, k2, k3, k4 with
        | [c0, c1, c2, c3, c4, c5, c6, c7, c8, c9], _, k0, k1, k2, k3, k4 =>
          simp at k0 k1 k2 k3 k4
          simp [kindCells, k0, k1, k2, k3, k4]
      intro j v hj
      rw [hc j, ← hj, ← hall]
      simp
    · cases hd
theorem str_cell {H : Type} {enc : TypeId × Value → H} {w : World} {base : Nat} {sp : Nat → Bool} {held : Bool} {fuel : Nat} {cs : List Value} {bs : List UInt8} {p : List MemPlace}
    (h : DataW.trod enc Tryz.prog w base sp held fuel 9 cs = some (.lit (.string bs), p)) : cs = [.string ⟨bs.toArray⟩] := by
  obtain ⟨s, hs, hx, _⟩ := DataW.trod_string Tryz.underlying9 h
  simp at hx
  rw [hs, hx.1]
set_option maxRecDepth 20000 in
/-- .. and the table of words its five words. -/
theorem words {W : World} (h0 : laidMetH Tryz.prog Rows.topOperatedRow.laid W) : WT W := by
  have h := h0.filter (fun x => x.1 == "hydrocascade/rules.words")
  rw [keep_words] at h
  obtain ⟨ps, ⟨g', t', cs, fuel, p, q, hg', ht', hvar, hd, _, _⟩, _⟩ := (show laidMet Tryz.prog [("hydrocascade/rules.words", Rows.laid_hydrocascade_rules_words)] W from h)
  obtain rfl := Option.some.inj (gWords.symm.trans hg')
  obtain rfl := Option.some.inj (gWordsType.symm.trans ht')
  have hc := fun i => World.var?_cell gWords hvar i
  unfold Rows.laid_hydrocascade_rules_words at hd
  cases fuel with
  | zero => simp [DataW.trod] at hd
  | succ fuel =>
    simp only [DataW.trod, Tryz.underlying171, cellsStr, cellsWords] at hd
    split at hd
    · rename_i hl
      obtain ⟨xs, hm, hx⟩ := Option.map_eq_some_iff.1 hd
      have hxs := congrArg Prod.fst hx
      simp only [DataW.agg.injEq] at hxs
      have key : ∀ (i : Nat) (bs : List UInt8), i < 5 → (xs.map (·.1))[i]? = some (DataW.lit (.string bs)) → (cs.toList.drop (i * 1)).take 1 = [.string ⟨bs.toArray⟩] := by
        intro i bs hi hxi
        obtain ⟨b, hb, hf⟩ := Lib.mapM_at hm i i (by simp [hi])
        rw [List.getElem?_map, hb] at hxi
        obtain ⟨b1, b2⟩ := b
        simp only [Option.map_some, Option.some.injEq] at hxi
        subst hxi
        exact str_cell hf
      rw [hxs] at key
      have k0 := key 0 _ (by omega) rfl
      have k1 := key 1 _ (by omega) rfl
      have k2 := key 2 _ (by omega) rfl
      have k3 := key 3 _ (by omega) rfl
      have k4 := key 4 _ (by omega) rfl
      have hall : cs.toList = wordCells := by
        have hl2 : cs.toList.length = 5 := by simpa using hl
        clear hc hvar hd hm key hxs hx hl
        generalize cs.toList = l at *
        match l, hl2, k0, k1, k2, k3, k4 with
        | [c0, c1, c2, c3, c4], _, k0, k1, k2, k3, k4 =>
          simp at k0 k1 k2 k3 k4
          simp [wordCells, k0, k1, k2, k3, k4]
      intro j v hj
      rw [hc j, ← hj, ← hall]
      simp
    · cases hd
theorem maxLen_cell {W : World} (h : W.ShapedOpen Tryz.prog) : ∃ m, W.cell? ⟨2, 0, none⟩ = some (.int .i64 m) :=
  cell_of_shapedOpen_int (t := 3) (zero := #[.int .i64 0]) h (of_decide_eq_true (by kernel_rfl)) (by kernel_rfl) (by kernel_rfl) (by kernel_rfl) (by kernel_rfl) Tryz.underlying3
set_option maxRecDepth 20000 in
/-- WHAT THE WALK GIVES, FOR EVERY ARGUMENT AND EVERY WORLD THAT HOLDS THE TABLES. -/
theorem contract (H : Type) (enc : TypeId × Value → H) (W : World) (base : Nat) (args : Array Value) (ds gs : List (DataW H)) (before : List MemPlace)
    (hval0 : ∀ (j : Nat) t v, Tryz.f3.params[j]? = some t → args[j]? = some v → Value.okWide Tryz.prog W .any base t v)
    (hW : DataW.Whole enc Tryz.prog Tryz.f3.params.toList Rows.topOperatedSpec.vars false W args.toList ds gs before) (hL : laidMetH Tryz.prog Rows.topOperatedRow.laid W) (hS : W.ShapedOpen Tryz.prog) :
    Calls Tryz.prog 3 args W fun e W' => ∃ v, e = .returned v ∧ Rows.topOperatedSpec.post enc Tryz.prog Tryz.f3 false true false false W args v W' := by
  have hT := table hL
  have hWT := words hL
  obtain ⟨m, hm⟩ := maxLen_cell hS
  have hval : ∀ (j : Nat) t v, Tryz.f3.params[j]? = some t → args[j]? = some v → Value.okWide Tryz.prog W .any base t v := hval0
  have hW' := hW
  obtain ⟨p, q, hA0, hV, rfl, hfz, hnd⟩ := hW
  have hA : DataW.TrodAll enc Tryz.prog W 0 (fun _ => true) true Tryz.f3.params.toList args.toList ds p := hA0
  rw [Tryz.params3] at hA hval
  obtain ⟨v0, vs0, d0, ds0, p0, q0, hargs, rfl, rfl, h0, r0⟩ := trodAll_cons hA
  obtain ⟨rfl, rfl, rfl⟩ := trodAll_nil r0
  obtain rfl : args = #[v0] := by cases args; simp_all
  obtain ⟨rfl, rfl⟩ := trodVars_none hV
  have k0 := h0
  have lt0 : ∀ x ∈ p0, x.block < W.heap.size := by obtain ⟨m, hm⟩ := k0; exact DataW.trod_lt m _ _ _ hm
  obtain ⟨A0, len0, cap0, rfl⟩ := okWide_slice Tryz.underlying22 (hval 0 22 v0 rfl rfl)
  obtain ⟨z0, s0⟩ : ∃ zs : List Int, Sl W W.heap.size 1 A0 len0 cap0 (ints zs) := by
    obtain ⟨fuel, hf⟩ := h0
    rcases open_ints Tryz.underlying22 Tryz.underlying3 (by kernel_rfl) hf with ⟨hcs, _⟩ | ⟨x, l, c, zs, hcs, _, hl, hm, hz, _, hcell, hwz⟩
    · simp [Value.cells] at hcs
      obtain ⟨rfl, rfl, rfl⟩ := hcs
      exact ⟨[], Sl.none_ _ _ _⟩
    · simp [Value.cells] at hcs
      obtain ⟨rfl, rfl, rfl⟩ := hcs
      exact ⟨_, sl_of_ints hl hm (by simpa using hz) hcell⟩
  clear hA0 hval0
  refine (operated_any m hWT hT hm s0).mono fun e W' ⟨he, bel⟩ => ?_
  subst he
  exact ⟨_, rfl, _, _, _, [], _, [], hW', trodAll_mk1 (shut_bool Tryz.underlying4 _), (trodAll_cons_mk (Below.trod laidOut (by kernel_rfl) (of_decide_eq_true (by kernel_rfl)) k0 bel lt0) trodAll_mk0), rfl, bel.frame _, fun h => by cases h⟩

theorem laid_met (os : Os) : laidMet Tryz.prog Rows.topOperatedRow.laid ((World.laidAll Tryz.prog os Rows.topOperatedRow.laid).forCall (fun _ _ => 0) ⟨#[], #[.slice none 0 0], []⟩).memory :=
  laidMet_laidAll _ (by kernel_rfl) (by kernel_rfl)
theorem reads (os : Os) {H : Type} (enc : TypeId × Value → H) : ∃ places, DataW.whole enc Tryz.prog ((World.laidAll Tryz.prog os Rows.topOperatedRow.laid).forCall (fun _ _ => 0) ⟨#[], #[.slice none 0 0], []⟩).memory Tryz.f3.params.toList Rows.topOperatedSpec.vars false (#[.slice none 0 0] : Array Value).toList 8 = some ([.nil], [], places) :=
  ⟨[], by kernel_rfl⟩

set_option maxRecDepth 100000 in
theorem lifted (os : Os) (started : os.Started) (H : Type) (enc : TypeId × Value → H) (F : Stop.Interp) :
    ReturnsInHanded {} Tryz.checked os 3 .any ((OpenSpec.ofChange Rows.topOperatedSpec).preRow enc Tryz.prog Tryz.f3 Rows.topOperatedRow.domain false Rows.topOperatedRow.laid) (((OpenSpec.ofChange Rows.topOperatedSpec).at F).post enc Tryz.prog Tryz.f3 false true false false) := by
  obtain ⟨places, hx⟩ := reads os enc
  refine returnsInHanded_of_row (C := Tryz.checked) (s := OpenSpec.ofChange Rows.topOperatedSpec) own started (by kernel_rfl) Tryz.func3
    (witness_row_at (enc := enc) (C := Tryz.checked) false (World.laidAll Tryz.prog os Rows.topOperatedRow.laid) #[.slice none 0 0] (World.laidAll_os _ _ _) (by kernel_rfl) (by kernel_rfl) (by kernel_rfl)
      (OpenSpec.preRow_of_cond 8 hx (by kernel_rfl) (fun k hk => by cases hk) (by kernel_rfl) (laid_met os))) ?_
  intro W base args ds gs before hval hW _ _ _ hL hS _
  exact contract H enc W base args ds gs before hval hW hL hS

theorem said : Rows.TopOperatedSaid :=
  OpenClaim.holds_of_cond 3 Tryz.f3 rfl rfl rfl rfl rfl rfl rfl ⟨rfl, rfl, rfl, rfl, rfl⟩ rfl rfl rfl rfl rfl (by kernel_rfl) Tryz.func3 (by kernel_rfl)
    (of_decide_eq_true (by kernel_rfl)) (by unfold Func.isWrapper; first | (rw [if_pos (by decide +kernel)]; kernel_rfl) | (rw [if_neg (by decide +kernel)]; exact ⟨rfl, rfl⟩))
    (fun os started H enc _ F => by rw [OpenClaim.pre_eq_preRow]; exact lifted os started H enc F)

/-- No parameter wants a stand-in; the program's own looks are off: what the card asks. -/
theorem plain (f : FuncId) (fn : Func) (hf : Tryz.pinned.checked.prog.funcNamed "hydrocascade/hydrocascadetop.TopOperated" = some f) (hfn : Tryz.pinned.checked.prog.funcs[f]? = some fn) :
    true = Tryz.pinned.checked.prog.looks [] ∧ ∀ (j : Nat) t, fn.params[j]? = some t → Tryz.pinned.checked.prog.wantsStandIn t = false := by
  obtain rfl : f = 3 := Option.some.inj ((show Tryz.prog.funcNamed "hydrocascade/hydrocascadetop.TopOperated" = some 3 by kernel_rfl).symm.trans hf) |>.symm
  obtain rfl : fn = Tryz.f3 := (Option.some.inj (Tryz.func3.symm.trans hfn)).symm
  refine ⟨by kernel_rfl, fun j t ht => ?_⟩
  rw [Tryz.params3] at ht
  obtain rfl : t = 22 := by have := Array.mem_of_getElem? ht; simp at this; omega
  all_goals kernel_rfl

/-- ████ THE CARD ████ -/
theorem proved : Rows.TopOperatedCardSaid :=
  Claim7.holds_tied_plain_at .later [] _ _ _ _ said (fun _ h => by cases h) (by kernel_rfl) (fun _ h => by cases h) topOperated_row_tie rfl ⟨rfl, rfl⟩ (by kernel_rfl) rfl plain (by kernel_rfl)
#print axioms proved
end Go.Proofs.YtodamjjlnagpjaaGreatDoor.topOperated
