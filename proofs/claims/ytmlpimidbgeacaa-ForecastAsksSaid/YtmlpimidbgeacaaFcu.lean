/-
  The contracts of slices.Clone over integers, and of cut: a bundle without the flows of its first steps, in memory of the call's own. Conditions: the bundle is valid and can be read, and has more steps than are cut.
-/
import Derived.Test.YtmlpimidbgeacaaProg
import Derived.Test.YtmlpimidbgeacaaFqu
namespace Go.Proofs.Ytmlpimidbgeacaa
open Go.RowKit

theorem ints_one (xs : List Int) : ∀ u ∈ ints xs, u.oneCell' = true := by
  intro u hu
  unfold ints at hu
  obtain ⟨s, _, rfl⟩ := List.mem_map.1 hu
  rfl
set_option maxHeartbeats 800000 in
set_option maxRecDepth 20000 in
theorem clone_ints (a : Addr) (n c : Nat) (xs : List Int) (hn : n ≤ 1048576) (w : World) (hs : Sl w w.heap.size 1 (some a) n c (ints xs)) :
    Calls Try.prog 58 #[.slice (some a) n c] w fun e w' => ∃ v, e = .returned v ∧ w'.ownsRow w.heap.size 3 1 v n (ints xs) ∧ Below w.heap.size w w' := by
  have HS := hide hs
  clear hs
  have ho := World.ownsRow_made (base := w.heap.size) (e := 3) (size := 1) w #[] 0 (Nat.le_refl _) (by unfold maxLen; omega) (by simp)
  have hB := bel1 (w := w) (o := .cells #[] 3)
  have hs2 := HS.out.thr hB
  have hnil := fun (W : World) => Lib.run_eql_slice_some_nil (P := Try.prog) W a n c Try.underlying22
  go_enter Try.func58, Try.ntmps58
  go_wp2_with (at_builtin; refine wpList_ext rfl _ _ _ rfl w.heap.size _ _ slInt _ 0 [] rfl ho _ _ _ _ _ rfl hs2 (ints_one xs) (by omega) (by simp) ?_)
  intro v' w2 hv2 hg2 _
  have HB2 := hide (below_push ho hg2 (by simp))
  have HV := hide hv2
  clear hv2 hg2 ho hs2 HS
  go_wp2
  go_ret
  exact ⟨_, rfl, HV.out, hB.trans HB2.out⟩
/-- the same data, without the first flows -/
def datD (st : Nat) (s : Sc) : Int × List Int := (s.wt, s.fl.drop st)
def dat (s : Sc) : Int × List Int := (s.wt, s.fl)
/-- a bundle that is cut, under way -/
def CutP (w1 : World) (g4 g5 st : Nat) (fr' : Int) (wd : Bool) (ss : List Sc) (k : Nat) (wx : World) : Prop := ∃ (A : Option Addr) (c : Nat) (ts : List Sc), ts.length = k ∧ ts.map dat = (ss.take k).map (datD st) ∧ Blk wx g5 27 #[.int .i64 fr', .slice A k c, .bool wd] ∧ wx.ownsRow (g5 + 1) 32 2 (.slice A k c) k (scCells ts) ∧ (∀ t ∈ ts, ScOwn wx (g5 + 1) t ∧ ∀ g, (Value.slice t.A t.n t.c).ownBlock = some g → (Value.slice A k c).ownBlock ≠ some g) ∧ Blk wx g4 27 #[.int .i64 0, .slice none 0 0, .bool false] ∧ Below w1.heap.size w1 wx
theorem sl_scen {W : World} {g : Nat} {x y : Value} (h : Blk W g 32 #[x, y]) : Sl W W.heap.size 2 (some ⟨g, 0, none⟩) 1 1 [x, y] := by
  refine ⟨rfl, Nat.le_refl _, by unfold maxLen; omega, fun _ => ⟨g, 0, rfl, h.lt, fun j u hu => ?_⟩⟩
  rw [h.facts.1, Nat.zero_add, ← hu]
  simp
theorem cutp_step {w1 wr w9 w3 : World} {g4 g5 st k : Nat} {A : Option Addr} {c : Nat} {ts ss : List Sc} {Af : Option Addr} {nf cf : Nat} {fl : List Int} {fr' wt : Int} {wd : Bool} {A' : Option Addr} {c' : Nat} {A1 : Option Addr} {n1 c1 : Nat} (h4 : w1.heap.size ≤ g4) (h45 : g5 = g4 + 1) (hk : k < ss.length) (es : ss[k] = ⟨wt, A1, n1, c1, fl⟩) (hl : ts.length = k) (hd : ts.map dat = (ss.take k).map (datD st))
    (hq : Blk w9 g5 27 #[.int .i64 fr', .slice A k c, .bool wd]) (ho : w9.ownsRow (g5 + 1) 32 2 (.slice A k c) k (scCells ts)) (hroom : ∀ g, (Value.slice A k c).ownBlock = some g → g < wr.heap.size)
    (hsc : ∀ t ∈ ts, ScOwn w9 (g5 + 1) t ∧ ∀ g, (Value.slice t.A t.n t.c).ownBlock = some g → (Value.slice A k c).ownBlock ≠ some g) (hb4 : Blk w9 g4 27 #[.int .i64 0, .slice none 0 0, .bool false]) (hB : Below w1.heap.size w1 w9)
    (hwr : g5 < wr.heap.size) (hfo : w9.ownsRow wr.heap.size 3 1 (.slice Af nf cf) nf (ints (fl.drop st)))
    (hv : w3.ownsRow (g5 + 1) 32 2 (.slice A' (k + 1) c') (k + 1) (scCells ts ++ [.int .i64 wt, .slice Af nf cf])) (hgr : w9.grownBy w3 (Value.slice A k c).ownBlock) (hor : (Value.slice A' (k + 1) c').ownBlock = (Value.slice A k c).ownBlock ∨ ∃ g, (Value.slice A' (k + 1) c').ownBlock = some g ∧ w9.heap.size ≤ g) : CutP w1 g4 g5 st fr' wd ss (k + 1) (w3.setCell ⟨g5, 1, none⟩ (.slice A' (k + 1) c')) := by
  subst h45
  have hrow : ∀ g, (Value.slice A k c).ownBlock = some g → g4 + 2 ≤ g := fun g hg => (ho.lt g hg).1
  have q3 : Blk w3 (g4 + 1) 27 #[.int .i64 fr', .slice A k c, .bool wd] := (hgr.block _ hq.lt (fun e => by have := hrow _ e.symm; omega)).trans hq
  have z3 : Blk w3 g4 27 #[.int .i64 0, .slice none 0 0, .bool false] := (hgr.block _ hb4.lt (fun e => by have := hrow _ e.symm; omega)).trans hb4
  have hB3 : Below w1.heap.size w1 w3 := hB.grown hgr (by have := hb4.lt; omega) (fun g hg => by have := hrow _ hg; omega)
  have hnew : ScOwn w9 (g4 + 1 + 1) ⟨wt, Af, nf, cf, fl.drop st⟩ := ownsRow_base (show w9.ownsRow wr.heap.size 3 1 (.slice Af nf cf) nf (ints (fl.drop st)) from hfo) (by omega)
  have hne : ∀ g, (Value.slice Af nf cf).ownBlock = some g → (Value.slice A k c).ownBlock ≠ some g := fun g hg e => by
    have h1 := (hfo.lt g hg).1
    have h2 := hroom g e
    omega
  have hall : ∀ t ∈ ts ++ [⟨wt, Af, nf, cf, fl.drop st⟩], ScOwn w9 (g4 + 1 + 1) t ∧ ∀ g, (Value.slice t.A t.n t.c).ownBlock = some g → (Value.slice A k c).ownBlock ≠ some g := fun t ht => by
    rcases List.mem_append.1 ht with h | h
    · exact hsc t h
    · rw [List.mem_singleton] at h; subst h
      exact ⟨hnew, hne⟩
  refine ⟨A', c', ts ++ [⟨wt, Af, nf, cf, fl.drop st⟩], by simp [hl], ?_, ?_, ?_, fun t ht => ⟨?_, ?_⟩, ?_, ?_⟩
  · rw [List.map_append, hd, List.take_succ_eq_append_getElem hk, List.map_append, es]; rfl
  · have := q3.set_ 1 (.slice A' (k + 1) c')
    simpa using this
  · have := own_setF hv (p := ⟨g4 + 1, 1, none⟩) (fun e => by have h5 := (hv.lt (g4 + 1) e).1; omega) (.slice A' (k + 1) c')
    simpa [scCells_append, scCells, Sc.arr] using this
  · obtain ⟨h1, h2⟩ := hall t ht
    have h3 : ScOwn w3 (g4 + 1 + 1) t := by
      refine World.ownsRow.kept h1 hgr ?_
      cases e : (Value.slice t.A t.n t.c).ownBlock with
      | none => exact .inl rfl
      | some g => exact .inr (fun e' => h2 g e e'.symm)
    exact own_setF h3 (fun e => by have h4 := (World.ownsRow.lt h3 _ e).1; simp only at h4; omega) _
  · obtain ⟨h1, h2⟩ := hall t ht
    intro g hg
    have hlt := (World.ownsRow.lt h1 g hg).2
    rcases hor with h | ⟨g', h, hg'⟩
    · rw [h]; exact h2 g hg
    · rw [h]; intro e; injection e with e; omega
  · exact (Below.heap_setCell w3 _ _ _ (by simp)).trans z3
  · exact hB3.setCell (p := ⟨g4 + 1, 1, none⟩) (by simp only; omega) _
theorem sl_dropI {w : World} {B m c k b o : Nat} {xs : List Int} (h : Sl w B 1 (some ⟨b, o, none⟩) m c (ints xs)) (hk : k < m) : Sl w B 1 (some ⟨b, o + k, none⟩) (m - k) (c - k) (ints (xs.drop k)) := by
  obtain ⟨b', o', hA, hlt, hc⟩ := h.at_ hk
  injection hA with hA
  injection hA with e1 e2 _
  subst e1 e2
  have h1 := h.1
  have h2 := h.2.1
  have h3 := h.2.2.1
  rw [ints_length] at h1
  refine ⟨by rw [ints_length, List.length_drop]; omega, by omega, by omega, fun _ => ⟨b, o + k, rfl, hlt, fun j u hu => ?_⟩⟩
  rw [Nat.add_assoc]
  refine hc (k + j) u ?_
  rw [← hu]
  simp [ints]
theorem sl_ownv {w : World} {base size n c : Nat} {e : TypeId} {A : Option Addr} {xs : List Value} (h : w.ownsRow base e size (.slice A n c) n xs) : Sl w w.heap.size size A n c xs := by
  obtain ⟨A', c', e', h'⟩ := own_sl h
  injection e' with e1 _ e3
  subst e1 e3
  exact h'
/-- A bundle whose rows are the call's own. -/
def BdOwn (w : World) (base : Nat) (x : Bd) : Prop := w.ownsRow base 32 2 (.slice x.A x.n x.c) x.n (scCells x.ss) ∧ ∀ s ∈ x.ss, ScOwn w base s
section
variable {w w' : World} {base base' : Nat} {x : Bd}
theorem BdOwn.ok (h : BdOwn w base x) : x.ok w w.heap.size := ⟨sl_ownv h.1, fun s hs => sl_ownv (show w.ownsRow base 3 1 (.slice s.A s.n s.c) s.n (ints s.fl) from h.2 s hs)⟩
theorem BdOwn.alloc (h : BdOwn w base x) (o : Obj) : BdOwn (w.alloc o) base x := ⟨h.1.alloc o, fun s hs => World.ownsRow.alloc (h.2 s hs) o⟩
theorem BdOwn.below (h : BdOwn w base x) (hb : Below w.heap.size w w') : BdOwn w' base x := ⟨ownsRow_below h.1 hb, fun s hs => ownsRow_below (h.2 s hs) hb⟩
theorem BdOwn.lower (h : BdOwn w base x) (hb : base' ≤ base) : BdOwn w base' x := ⟨ownsRow_base h.1 hb, fun s hs => ownsRow_base (h.2 s hs) hb⟩
theorem BdOwn.set (h : BdOwn w base x) {p : Addr} (hp : p.block < base) (u : Value) : BdOwn (w.setCell p u) base x :=
  ⟨own_setF h.1 (fun e => by have := (h.1.lt _ e).1; omega) u, fun s hs => own_setF (h.2 s hs) (fun e => by have := (World.ownsRow.lt (h.2 s hs) _ e).1; omega) u⟩
/-- a cell of the newest block -/
theorem BdOwn.setNew (h : BdOwn w base x) {o : Obj} {p : Addr} (hp : p.block = w.heap.size) (u : Value) : BdOwn ((w.alloc o).setCell p u) base x :=
  ⟨own_setF (h.1.alloc o) (fun e => by have := (h.1.lt _ e).2; omega) u, fun s hs => own_setF (World.ownsRow.alloc (h.2 s hs) o) (fun e => by have := (World.ownsRow.lt (h.2 s hs) _ e).2; omega) u⟩
end
/-- What a cut bundle is. -/
def CutBd (w : World) (b : Bd) (st : Nat) (wd : Bool) (x : Bd) (w' : World) : Prop := x.fr = b.fr + st ∧ x.wd = wd ∧ x.n = x.ss.length ∧ x.ss.map dat = b.ss.map (datD st) ∧ BdOwn w' w.heap.size x ∧ Below w.heap.size w w'
end Go.Proofs.Ytmlpimidbgeacaa
