/-
  Contracts of slices.Clone and of sorted over scenarios: a row of the call's own with the same scenarios, by a number of each, ascending. Conditions: there are 1 to 20 of them, they can be read, and the number is told by a function that writes nothing that was there.
-/
import Derived.Test.YtmlpimidbgeacaaProg
import Derived.Test.YtmlpimidbgeacaaSrt
import Derived.Test.YtmlpimidbgeacaaFwt
import Derived.Test.YtmlpimidbgeacaaFmk
import Derived.Laws.OwnMore
import Derived.Lib.BufferMore
namespace Go.Proofs.Ytmlpimidbgeacaa
open Go.RowKit

theorem isnan_any (x : Int) (w : World) : Calls Try.prog 60 #[.int .i64 x] w fun e w' => e = .returned (.bool false) ∧ w = w' := by
  go_enter Try.func60, Try.ntmps60
  go_wp2
  go_ret
  exact ⟨rfl, rfl⟩
def cmp3 (x y : Int) : Int := if x < y then -1 else if y < x then 1 else 0
theorem compare_any (x y : Int) (w : World) : Calls Try.prog 53 #[.int .i64 x, .int .i64 y] w fun e w' => e = .returned (.int .i64 (cmp3 x y)) ∧ w = w' := by
  have HC := hide (show (x < y → cmp3 x y = -1) ∧ (¬ x < y → y < x → cmp3 x y = 1) ∧ (¬ x < y → ¬ y < x → cmp3 x y = 0) by
    unfold cmp3; refine ⟨fun h => if_pos h, fun h h2 => by rw [if_neg h, if_pos h2], fun h h2 => by rw [if_neg h, if_neg h2]⟩)
  by_cases h1 : x < y
  · have HE := hide (HC.out.1 h1)
    go_enter Try.func53, Try.ntmps53
    go_wp2_with (go_at_call 60; refine (isnan_any _ _).mono ?_; rintro e w' ⟨rfl, rfl⟩)
    go_ret
    exact ⟨ret_int HE.out.symm, rfl⟩
  · by_cases h2 : y < x
    · have HE := hide (HC.out.2.1 h1 h2)
      go_enter Try.func53, Try.ntmps53
      go_wp2_with (go_at_call 60; refine (isnan_any _ _).mono ?_; rintro e w' ⟨rfl, rfl⟩)
      go_ret
      exact ⟨ret_int HE.out.symm, rfl⟩
    · have HE := hide (HC.out.2.2 h1 h2)
      go_enter Try.func53, Try.ntmps53
      go_wp2_with (go_at_call 60; refine (isnan_any _ _).mono ?_; rintro e w' ⟨rfl, rfl⟩)
      go_ret
      exact ⟨ret_int HE.out.symm, rfl⟩
theorem scCells_one (ss : List Sc) : ∀ u ∈ scCells ss, u.oneCell' = true := by
  intro u hu
  unfold scCells at hu
  obtain ⟨s, _, hs⟩ := List.mem_flatMap.1 hu
  simp only [Sc.arr, List.mem_cons, List.not_mem_nil, or_false] at hs
  rcases hs with rfl | rfl <;> rfl
set_option maxHeartbeats 800000 in
set_option maxRecDepth 20000 in
theorem clone_scs (a : Addr) (n c : Nat) (ss : List Sc) (hn : n ≤ 1048576) (w : World) (hs : Sl w w.heap.size 2 (some a) n c (scCells ss)) :
    Calls Try.prog 50 #[.slice (some a) n c] w fun e w' => ∃ v, e = .returned v ∧ w'.ownsRow w.heap.size 32 2 v n (scCells ss) ∧ Below w.heap.size w w' := by
  have HS := hide hs
  clear hs
  have ho := World.ownsRow_made (base := w.heap.size) (e := 32) (size := 2) w #[] 0 (Nat.le_refl _) (by unfold maxLen; omega) (by simp)
  have hB := bel1 (w := w) (o := .cells #[] 32)
  have hs2 := HS.out.thr hB
  have hnil := fun (W : World) => Lib.run_eql_slice_some_nil (P := Try.prog) W a n c Try.underlying25
  go_enter Try.func50, Try.ntmps50
  go_wp2_with (at_builtin; refine wpList_ext rfl _ _ _ rfl w.heap.size _ _ slScen _ 0 [] rfl ho _ _ _ _ _ rfl hs2 (scCells_one ss) (by omega) (by simp) ?_)
  intro v' w2 hv2 hg2 _
  have HB2 := hide (below_push ho hg2 (by simp))
  have HV := hide hv2
  clear hv2 hg2 ho hs2 HS
  go_wp2
  go_ret
  exact ⟨_, rfl, HV.out, hB.trans HB2.out⟩
/-- A number of each scenario, told by a function that writes nothing that was there. -/
def TellsS (w0 : World) (ss : List Sc) (kf : FuncId) (cap : Array Value) (f : Sc → Int) : Prop :=
  (∀ (a : Array Value) (W : World), (callFunc kf a).run Try.prog W = .ok (.enter kf a) W) ∧
  ∀ s ∈ ss, ∀ W : World, Below w0.heap.size w0 W → Calls Try.prog kf (#[.agg s.arr] ++ cap) W fun e w' => e = .returned (.int .i64 (f s)) ∧ Below W.heap.size W w'
theorem cfS : ∀ (a : Array Value) (W : World), (callFunc 52 a).run Try.prog W = .ok (.enter 52 a) W := fun _ _ => by kernel_rfl
set_option maxHeartbeats 1600000 in
set_option maxRecDepth 20000 in
theorem scmp_any (w0 : World) (ss : List Sc) (kf : FuncId) (cap : Array Value) (f : Sc → Int) (hf : TellsS w0 ss kf cap f) (gb : Nat) (x y : Sc) (hx : x ∈ ss) (hy : y ∈ ss) (W : World) (hB : Below w0.heap.size w0 W) (cb : W.cell? ⟨gb, 0, none⟩ = some (.func (.func kf) #[] cap)) :
    Calls Try.prog 52 #[.agg x.arr, .agg y.arr, .pointer (some ⟨gb, 0, none⟩)] W fun e w' => e = .returned (.int .i64 (cmp3 (f x) (f y))) ∧ Below W.heap.size W w' := by
  have HX := hide (fun W2 h2 => hf.2 x hx W2 h2)
  have HY := hide (fun W2 h2 => hf.2 y hy W2 h2)
  have hcf := hf.1
  generalize f x = fx at *
  generalize f y = fy at *
  obtain ⟨wx, Ax, nx, cx, lx⟩ := x
  obtain ⟨wy, Ay, ny, cy, ly⟩ := y
  unfold Sc.arr at HX HY ⊢
  simp only at HX HY ⊢
  have q0 := (Blk.new W 32 #[.int .i64 wx, .slice Ax nx cx]).alloc (.cells #[.int .i64 wy, .slice Ay ny cy] 32)
  have q1 := Blk.new (W.alloc (.cells #[.int .i64 wx, .slice Ax nx cx] 32)) 32 #[.int .i64 wy, .slice Ay ny cy]
  rw [World.size_alloc] at q1
  have hB1 := (bel1 (w := W) (o := .cells #[.int .i64 wx, .slice Ax nx cx] 32)).alloc (by simp) (.cells #[.int .i64 wy, .slice Ay ny cy] 32)
  have hB2 := bthr hB hB1 hB.size
  obtain ⟨y0, y1, _⟩ := q0.facts2
  obtain ⟨z0, z1, _⟩ := q1.facts2
  replace cb := cell_thr hB1 cb
  have HB1 := hide hB1
  have HB2 := hide hB2
  clear hf hx hy hB q0 q1 hB1 hB2
  go_enter Try.func52, Try.ntmps52
  go_upto_region 1 with fail
  generalize ((W.alloc _).alloc _) = w2 at *
  have hne : Nonempty (InW fun w => Below w2.heap.size w2 w) := ⟨⟨w2, Below.refl _ _⟩⟩
  replace y0 := inv_cell y0
  replace y1 := inv_cell y1
  replace z0 := inv_cell z0
  replace z1 := inv_cell z1
  replace cb := inv_cell cb
  have HX2 := hide (fun W2 (h2 : Below w2.heap.size w2 W2) => HX.out W2 (bthr HB2.out h2 HB2.out.size))
  have HY2 := hide (fun W2 (h2 : Below w2.heap.size w2 W2) => HY.out W2 (bthr HB2.out h2 HB2.out.size))
  clear HX HY
  refine wp_region_inv (I := fun w => Below w2.heap.size w2 w) (by kernel_rfl) (by kernel_rfl) (Below.refl _ _).drew ?_
  repeat (go_big_quiet_step (first | (go_at_call 53; refine inv_same (compare_any _ _ _)) | (with_reducible refine inv_call (inv_closed w2) (HX2.out _ (InW.ok _))) | (with_reducible refine inv_call (inv_closed w2) (HY2.out _ (InW.ok _)))))
  refine wpQuiet_nil ?_
  rintro _ ⟨⟨w9, h9⟩, rfl⟩
  go_wp2
  go_ret
  exact ⟨rfl, HB1.out.trans (h9.mono HB1.out.size)⟩
set_option maxRecDepth 20000 in
/-- SortStableFunc at no more than 20 scenarios. -/
theorem sortS_any (enc : Int → Sc) (w0 : World) (g : Nat) (kc : FuncId) (cap : Array Value) (f : Int → Int → Int) (ok : Int → Prop) (hf : CmpSays enc w0 g kc cap f ok) (R : Int → Int → Prop) (hT : ∀ x y z, R x y → R y z → R x z) (n c : Nat) (hn : n ≤ 20) (xs : List Int) (hl : xs.length = n) (hok : ∀ x ∈ xs, ok x) (hp : xs.Pairwise (fun x z => (f z x < 0 → R z x) ∧ (¬ f z x < 0 → R x z))) (w : World) (hw : w0.grownBy w (some g)) (hx : IRow enc w g xs) :
    Calls Try.prog 51 #[.slice (some ⟨g, 0, none⟩) n c, .func (.func kc) #[] cap] w fun e w' => ∃ zs : List Int, e = .returned (.tuple #[]) ∧ zs.Perm xs ∧ zs.Pairwise R ∧ IRow enc w' g zs ∧ w.grownBy w' (some g) := by
  have H := hide (stb_any enc w0 g kc cap f ok hf n c hn xs hl hok w hw hx)
  obtain ⟨hs1, hs2⟩ := sortK_sorted (fun x y z _ _ _ => hT x y z) hp
  have H1 := hide hs1
  have H2 := hide hs2
  clear hf hl hok hx hp hs1 hs2
  go_enter Try.func51, Try.ntmps51
  go_wp2_with fail
  refine H.out.mono ?_
  rintro e w1 ⟨rfl, hx1, hg1⟩
  go_wp2
  go_end0
  exact ⟨_, rfl, H2.out, H1.out, hx1, hg1⟩
def idxs (n : Nat) : List Int := (List.range n).map fun k : Nat => (k : Int)
theorem idxs_len (n : Nat) : (idxs n).length = n := by simp [idxs]
theorem idxs_mem {n : Nat} {i : Int} : i ∈ idxs n ↔ 0 ≤ i ∧ i < n := by
  unfold idxs
  rw [List.mem_map]
  constructor
  · rintro ⟨k, hk, rfl⟩
    have := List.mem_range.1 hk
    omega
  · intro h
    exact ⟨i.toNat, List.mem_range.2 (by omega), by omega⟩
def scz : Sc := ⟨0, none, 0, 0, []⟩
def encS (ss : List Sc) (i : Int) : Sc := ss.getD i.toNat scz
theorem encS_all (ss : List Sc) : (idxs ss.length).map (encS ss) = ss := by
  unfold idxs encS
  rw [List.map_map]
  refine List.ext_getElem (by simp) fun i h1 h2 => ?_
  simp [List.getD_eq_getElem?_getD, h2]
theorem encS_mem {ss : List Sc} {i : Int} (h : 0 ≤ i ∧ i < ss.length) : encS ss i ∈ ss := by
  unfold encS
  rw [List.getD_eq_getElem?_getD, List.getElem?_eq_getElem (by omega)]
  exact List.getElem_mem _
def SortedPost (w : World) (n : Nat) (ss : List Sc) (f : Sc → Int) (e : Ending) (w' : World) : Prop := ∃ (g c : Nat) (zs : List Sc), e = .returned (.slice (some ⟨g, 0, none⟩) n c) ∧ zs.Perm ss ∧ zs.Pairwise (fun a b => f a ≤ f b) ∧ ScsOk w' w'.heap.size (some ⟨g, 0, none⟩) n c zs ∧ Below w.heap.size w w'
theorem sl_of_row {enc : Int → Sc} {w : World} {g n c : Nat} {xs : List Int} (h : IRow enc w g xs) (hl : xs.length = n) (h1 : n ≤ c) (h2 : c ≤ maxLen) : Sl w w.heap.size 2 (some ⟨g, 0, none⟩) n c (scCells (xs.map enc)) := by
  have hlt := h.lt
  refine ⟨by rw [scCells_len, List.length_map, hl], h1, h2, fun _ => ⟨g, 0, rfl, hlt, fun j u hu => ?_⟩⟩
  obtain ⟨cur, hh, ht⟩ := h
  rw [← ht, List.getElem?_take] at hu
  split at hu
  · simp only [World.cell?, hh, Nat.zero_add]
    simpa using hu
  · cases hu
theorem own_cap {w : World} {base n c : Nat} {e : TypeId} {size : Nat} {A : Option Addr} {xs : List Value} (h : w.ownsRow base e size (.slice A n c) n xs) : n ≤ c ∧ c ≤ maxLen := by
  obtain ⟨A', c', he, hs⟩ := own_sl h
  injection he with _ _ h3
  subst h3
  exact ⟨hs.2.1, hs.2.2.1⟩
theorem hp_ok {zs ss : List Sc} {p : Sc → Prop} (h : zs.Perm ss) (hs : ∀ s ∈ ss, p s) : ∀ s ∈ zs, p s := fun s hz => hs s (h.mem_iff.1 hz)
set_option maxHeartbeats 1600000 in
set_option maxRecDepth 20000 in
theorem sorted_ok (a : Addr) (n c : Nat) (ss : List Sc) (h0 : 0 < n) (hn : n ≤ 20) (kf : FuncId) (cap : Array Value) (f : Sc → Int) (w : World) (hs : ScsOk w w.heap.size (some a) n c ss) (hf : TellsS w ss kf cap f) :
    Calls Try.prog 37 #[.slice (some a) n c, .func (.func kf) #[] cap] w (SortedPost w n ss f) := by
  have HL := hide hs.len
  have HS := hide hs
  have HF := hide hf
  have q0 := Blk.new w 65 #[.func (.func kf) #[] cap]
  have hB := bel1 (w := w) (o := .cells #[.func (.func kf) #[] cap] 65)
  clear hs hf
  go_enter Try.func37, Try.ntmps37
  go_wp2_with fail
  generalize w.alloc _ = w1 at *
  refine (clone_scs a n c ss (by omega) w1 (HS.out.thr hB).1).mono ?_
  rintro e w2 ⟨v, rfl, hv, hb2⟩
  obtain ⟨g, cv, rfl, hcv, hcm⟩ := hv.form h0
  have hB2 := bthr hB hb2 hB.size
  have hg := hv.lt g rfl
  have hcap := own_cap hv
  have hx : IRow (encS ss) w2 g (idxs ss.length) := IRow.of_own (by rw [encS_all]; exact hv)
  have hc0 : w2.cell? ⟨w.heap.size, 0, none⟩ = some (.func (.func kf) #[] cap) := (q0.below hb2 q0.lt).facts.1 0
  have hgw : w.heap.size < g := by have := hB.size; have := q0.lt; omega
  have hCS : CmpSays (encS ss) w2 g 52 #[.pointer (some ⟨w.heap.size, 0, none⟩)] (fun x y => cmp3 (f (encS ss x)) (f (encS ss y))) (fun i => 0 ≤ i ∧ i < n) := by
    refine ⟨cfS, fun x y W hx hy hW => ?_⟩
    have hBW : Below w.heap.size w W := ⟨hW.os.trans hB2.os, hW.tape.trans hB2.tape, hW.output.trans hB2.output, Nat.le_trans hB2.size hW.size, fun i hi => (hW.block i (Nat.lt_of_lt_of_le hi hB2.size) (fun e => by injection e with e; omega)).trans (hB2.block i hi)⟩
    refine scmp_any w ss kf cap f HF.out w.heap.size _ _ (encS_mem (by have := HL.out; omega)) (encS_mem (by have := HL.out; omega)) W hBW ?_
    exact hW.cell hc0 (fun e => by injection e with e; simp only at e; omega)
  have HSO := hide (sortS_any (encS ss) w2 g _ _ _ _ hCS (fun x y => f (encS ss x) ≤ f (encS ss y)) (fun x y z h1 h2 => Int.le_trans h1 h2) n cv hn (idxs ss.length) (by rw [idxs_len, HL.out]) (fun x hx => by have := idxs_mem.1 hx; have := HL.out; omega) (List.pairwise_of_forall fun x y => by unfold cmp3; constructor <;> intro h <;> (split at h <;> (try split at h) <;> omega)) w2 (grown_refl _ _) hx)
  have HHB := hide hB2
  have hFF : ∀ s ∈ ss, s.ok w2 w2.heap.size := fun s hs => ((HS.out.2 s hs).thr hB2)
  have HFF := hide hFF
  clear hCS hx hc0 hv hb2 hB hB2 hFF
  go_wp2_with fail
  refine HSO.out.mono ?_
  rintro e w3 ⟨zs, rfl, hp, ho, hx3, hg3⟩
  have hzl : zs.length = n := by rw [hp.length_eq, idxs_len, HL.out]
  have hB3 : Below w.heap.size w w3 := below_grown HHB.out hg3 HHB.out.size (by omega)
  have hperm : (zs.map (encS ss)).Perm ss := by
    have := hp.map (encS ss)
    rwa [encS_all] at this
  have HR := hide (show SortedPost w n ss f (.returned (.slice (some ⟨g, 0, none⟩) n cv)) w3 from ⟨g, cv, zs.map (encS ss), rfl, hperm, List.pairwise_map.2 ho, ⟨sl_of_row hx3 hzl (by omega) (by omega), fun s hs => (hp_ok hperm (fun s hs => (HS.out.2 s hs).below hB3) s hs).more hB3.size⟩, hB3⟩)
  clear hp ho hx3 hg3 hperm hB3 HSO
  go_wp2
  go_ret
  exact HR.out
end Go.Proofs.Ytmlpimidbgeacaa
