/-
  The contract of odd: a bundle with something changed, in memory of the call's own. Conditions: the deck lies in memory; the bundle's rows are the call's own, it has one to four scenarios, each of one to six flows.
-/
import Derived.Test.YtmlpimidbgeacaaProg
import Derived.Test.YtmlpimidbgeacaaFbs
namespace Go.Proofs.Ytmlpimidbgeacaa
open Go.RowKit

theorem scCells_setO {ss : List Sc} {i : Nat} {x : Sc} (h : i < ss.length) : ((scCells ss).set (i * 2) (.int .i64 x.wt)).set (i * 2 + 1) (.slice x.A x.n x.c) = scCells (ss.set i x) := by
  induction ss generalizing i with
  | nil => simp at h
  | cons a t ih =>
    have e : ∀ (a : Sc) t, scCells (a :: t) = [.int .i64 a.wt, .slice a.A a.n a.c] ++ scCells t := fun a t => by simp [scCells, Sc.arr]
    cases i with
    | zero => simp [e]
    | succ i =>
      have ih := ih (i := i) (by simpa using h)
      rw [List.set_cons_succ, e, e, ← ih]
      have e3 : (i + 1) * 2 = i * 2 + 2 := by omega
      rw [e3]
      simp
/-- a row that keeps clear of the blocks from B to g -/
def Clear (B g : Nat) (s : Sc) : Prop := ∀ k, (Value.slice s.A s.n s.c).ownBlock = some k → k < B ∨ g < k
/-- odd under way: the bundle at B, the result at B + 1, the scenario at gs, the row at gr -/
structure OddS (w : World) (b base gs gr m cr : Nat) (ss : List Sc) (fr : Int) (wd : Bool) (s : Sc) (wx : World) : Prop where
  q3 : Blk wx w.heap.size 27 #[.int .i64 fr, .slice (some ⟨gr, 0, none⟩) m cr, .bool wd]
  q4 : Blk wx (w.heap.size + 1) 27 #[.int .i64 0, .slice none 0 0, .bool false]
  qs : Blk wx gs 32 #[.int .i64 s.wt, .slice s.A s.n s.c]
  row : wx.ownsRow (w.heap.size + 2) 32 2 (.slice (some ⟨gr, 0, none⟩) m cr) m (scCells ss)
  lt : gr < gs
  all : ∀ t ∈ ss, ScOwn wx base t ∧ Clear w.heap.size gs t
  one : ScOwn wx base s ∧ Clear w.heap.size gs s
  deck : Dk wx b
  grown : w.grownBy wx (some b)
section
variable {w wx wy : World} {b base gs gr m cr : Nat} {ss : List Sc} {fr : Int} {wd : Bool} {s : Sc}
theorem OddS.ge (h : OddS w b base gs gr m cr ss fr wd s wx) : w.heap.size + 2 ≤ gr := (h.row.lt gr rfl).1
theorem sc_set {s : Sc} {B g : Nat} (h : ScOwn wx base s) (hc : Clear B g s) {p : Addr} (h1 : B ≤ p.block) (h2 : p.block ≤ g) (u : Value) : ScOwn (wx.setCell p u) base s :=
  own_setF (show wx.ownsRow base 3 1 (.slice s.A s.n s.c) s.n (ints s.fl) from h) (fun e => by rcases hc _ e with h | h <;> omega) u
/-- the deck has moved on -/
theorem OddS.next (h : OddS w b base gs gr m cr ss fr wd s wx) (hg : wx.grownBy wy (some b)) (hD : Dk wy b) (hb : b < base) (hbB : b < w.heap.size) : OddS w b base gs gr m cr ss fr wd s wy :=
  ⟨h.q3.only hg (by omega), h.q4.only hg (by omega), h.qs.only hg (by have := h.ge; have := h.lt; omega), own_deckF h.row hg (by omega), h.lt, fun t ht => ⟨own_deckF (h.all t ht).1 hg hb, (h.all t ht).2⟩, ⟨own_deckF h.one.1 hg hb, h.one.2⟩, hD, grown_trans h.grown hg⟩
theorem OddS.alloc (h : OddS w b base gs gr m cr ss fr wd s wx) (o : Obj) : OddS w b base gs gr m cr ss fr wd s (wx.alloc o) :=
  ⟨h.q3.alloc o, h.q4.alloc o, h.qs.alloc o, h.row.alloc o, h.lt, fun t ht => ⟨World.ownsRow.alloc (h.all t ht).1 o, (h.all t ht).2⟩, ⟨World.ownsRow.alloc h.one.1 o, h.one.2⟩, h.deck.alloc o, grown_alloc h.grown o⟩
theorem OddS.below (h : OddS w b base gs gr m cr ss fr wd s wx) (hb : Below wx.heap.size wx wy) : OddS w b base gs gr m cr ss fr wd s wy :=
  ⟨h.q3.below hb h.q3.lt, h.q4.below hb h.q4.lt, h.qs.below hb h.qs.lt, ownsRow_below h.row hb, h.lt, fun t ht => ⟨ownsRow_below (h.all t ht).1 hb, (h.all t ht).2⟩, ⟨ownsRow_below h.one.1 hb, h.one.2⟩, h.deck.below hb, grown_trans h.grown (grown_below hb _)⟩
theorem OddS.drew (h : OddS w b base gs gr m cr ss fr wd s wx) : OddS w b base gs gr m cr ss fr wd s wx.drew :=
  ⟨h.q3, h.q4, h.qs, h.row, h.lt, fun t ht => ⟨(h.all t ht).1, (h.all t ht).2⟩, ⟨h.one.1, h.one.2⟩, h.deck.keep (fun _ _ => rfl), ⟨h.grown.os, h.grown.tape, h.grown.output, h.grown.size, h.grown.block⟩⟩
/-- another beginning -/
theorem OddS.setFrom (h : OddS w b base gs gr m cr ss fr wd s wx) (hbB : b < w.heap.size) (z : Int) : OddS w b base gs gr m cr ss z wd s (wx.setCell ⟨w.heap.size, 0, none⟩ (.int .i64 z)) :=
  ⟨by simpa using h.q3.set_ 0 (.int .i64 z), h.q4.far (by simp) _, h.qs.far (p := ⟨w.heap.size, 0, none⟩) (by have := h.ge; have := h.lt; simp only; omega) _, own_setF h.row (by have := h.ge; simp only [Value.ownBlock, ne_eq, Option.some.injEq]; omega) _, h.lt,
    fun t ht => ⟨sc_set (h.all t ht).1 (h.all t ht).2 (p := ⟨w.heap.size, 0, none⟩) (Nat.le_refl _) (by have := h.ge; have := h.lt; simp only; omega) _, (h.all t ht).2⟩, ⟨sc_set h.one.1 h.one.2 (p := ⟨w.heap.size, 0, none⟩) (Nat.le_refl _) (by have := h.ge; have := h.lt; simp only; omega) _, h.one.2⟩, h.deck.set hbB _, grown_set h.grown (.inr (Nat.le_refl _)) _⟩
/-- another weight -/
theorem OddS.setWt (h : OddS w b base gs gr m cr ss fr wd s wx) (hbB : b < w.heap.size) (z : Int) : OddS w b base gs gr m cr ss fr wd { s with wt := z } (wx.setCell ⟨gs, 0, none⟩ (.int .i64 z)) := by
  have h1 := h.ge
  have h2 := h.lt
  exact ⟨h.q3.far (p := ⟨gs, 0, none⟩) (by simp only; omega) _, h.q4.far (p := ⟨gs, 0, none⟩) (by simp only; omega) _, by simpa using h.qs.set_ 0 (.int .i64 z), own_setF h.row (by simp only [Value.ownBlock, ne_eq, Option.some.injEq]; omega) _, h.lt,
    fun t ht => ⟨sc_set (h.all t ht).1 (h.all t ht).2 (p := ⟨gs, 0, none⟩) (by simp only; omega) (Nat.le_refl _) _, (h.all t ht).2⟩, ⟨sc_set h.one.1 h.one.2 (p := ⟨gs, 0, none⟩) (by simp only; omega) (Nat.le_refl _) _, h.one.2⟩, h.deck.set (p := ⟨gs, 0, none⟩) (by simp only; omega) _, grown_set h.grown (.inr (by simp only; omega)) _⟩
/-- other flows -/
theorem OddS.setFl (h : OddS w b base gs gr m cr ss fr wd s wx) (hbB : b < w.heap.size) (A' : Option Addr) (n' c' : Nat) (fl' : List Int) (hn : wx.ownsRow base 3 1 (.slice A' n' c') n' (ints fl')) (hc : Clear w.heap.size gs ⟨s.wt, A', n', c', fl'⟩) :
    OddS w b base gs gr m cr ss fr wd ⟨s.wt, A', n', c', fl'⟩ (wx.setCell ⟨gs, 1, none⟩ (.slice A' n' c')) := by
  have h1 := h.ge
  have h2 := h.lt
  exact ⟨h.q3.far (p := ⟨gs, 1, none⟩) (by simp only; omega) _, h.q4.far (p := ⟨gs, 1, none⟩) (by simp only; omega) _, by simpa using h.qs.set_ 1 (.slice A' n' c'), own_setF h.row (by simp only [Value.ownBlock, ne_eq, Option.some.injEq]; omega) _, h.lt,
    fun t ht => ⟨sc_set (h.all t ht).1 (h.all t ht).2 (p := ⟨gs, 1, none⟩) (by simp only; omega) (Nat.le_refl _) _, (h.all t ht).2⟩, ⟨sc_set (s := ⟨s.wt, A', n', c', fl'⟩) hn hc (p := ⟨gs, 1, none⟩) (by simp only; omega) (Nat.le_refl _) _, hc⟩, h.deck.set (p := ⟨gs, 1, none⟩) (by simp only; omega) _, grown_set h.grown (.inr (by simp only; omega)) _⟩
/-- the scenario is laid back -/
theorem OddS.mid (h : OddS w b base gs gr m cr ss fr wd s wx) (hbB : b < w.heap.size) {i : Nat} (hi : i < ss.length) :
    OddS w b base gs gr m cr (ss.set i s) fr wd s ((wx.setCell ⟨gr, i * 2, none⟩ (.int .i64 s.wt)).setCell ⟨gr, i * 2 + 1, none⟩ (.slice s.A s.n s.c)) := by
  have h1 := h.ge
  have h2 := h.lt
  have k := ((h.row.stored (i * 2) (.int .i64 s.wt)).1.stored (i * 2 + 1) (.slice s.A s.n s.c)).1
  rw [scCells_setO hi] at k
  refine ⟨(h.q3.far (p := ⟨gr, i * 2, none⟩) (by simp only; omega) _).far (p := ⟨gr, i * 2 + 1, none⟩) (by simp only; omega) _, (h.q4.far (p := ⟨gr, i * 2, none⟩) (by simp only; omega) _).far (p := ⟨gr, i * 2 + 1, none⟩) (by simp only; omega) _, (h.qs.far (p := ⟨gr, i * 2, none⟩) (by simp only; omega) _).far (p := ⟨gr, i * 2 + 1, none⟩) (by simp only; omega) _,
    k, h.lt, fun t ht => ?_, ?_, (h.deck.set (p := ⟨gr, i * 2, none⟩) (by simp only; omega) _).set (p := ⟨gr, i * 2 + 1, none⟩) (by simp only; omega) _, grown_set (grown_set h.grown (p := ⟨gr, i * 2, none⟩) (.inr (by simp only; omega)) _) (p := ⟨gr, i * 2 + 1, none⟩) (.inr (by simp only; omega)) _⟩
  · have ha : ScOwn wx base t ∧ Clear w.heap.size gs t := by
      rcases List.mem_or_eq_of_mem_set ht with h3 | h3
      · exact h.all t h3
      · rw [h3]; exact h.one
    exact ⟨sc_set (sc_set ha.1 ha.2 (p := ⟨gr, i * 2, none⟩) (by simp only; omega) (by simp only; omega) _) ha.2 (p := ⟨gr, i * 2 + 1, none⟩) (by simp only; omega) (by simp only; omega) _, ha.2⟩
  · exact ⟨sc_set (sc_set h.one.1 h.one.2 (p := ⟨gr, i * 2, none⟩) (by simp only; omega) (by simp only; omega) _) h.one.2 (p := ⟨gr, i * 2 + 1, none⟩) (by simp only; omega) (by simp only; omega) _, h.one.2⟩
/-- what odd gives -/
def OddR (w : World) (b base : Nat) (y : Bd) (w' : World) : Prop := BdOwn w' base y ∧ Dk w' b ∧ w.grownBy w' (some b) ∧ Blk w' (w.heap.size + 1) 27 #[.int .i64 y.fr, .slice y.A y.n y.c, .bool y.wd]
theorem OddS.fin (h : OddS w b base gs gr m cr ss fr wd s wx) (hbB : b < w.heap.size) (hbase : base ≤ w.heap.size) (A' : Option Addr) (m' c' : Nat) (ts : List Sc) (hr : (wx.ownsRow (w.heap.size + 2) 32 2 (.slice A' m' c') m' (scCells ts))) (hts : ∀ t ∈ ts, t ∈ ss) :
    OddR w b base ⟨fr, A', m', c', ts, wd⟩ (((wx.setCell ⟨w.heap.size + 1, 0, none⟩ (.int .i64 fr)).setCell ⟨w.heap.size + 1, 1, none⟩ (.slice A' m' c')).setCell ⟨w.heap.size + 1, 2, none⟩ (.bool wd)) := by
  have h1 := h.ge
  have h2 := h.lt
  have hne : (Value.slice A' m' c').ownBlock ≠ some (w.heap.size + 1) := fun e => by have := (hr.lt _ e).1; omega
  refine ⟨⟨?_, fun t ht => ?_⟩, ((h.deck.set (p := ⟨w.heap.size + 1, 0, none⟩) (by simp only; omega) _).set (p := ⟨w.heap.size + 1, 1, none⟩) (by simp only; omega) _).set (p := ⟨w.heap.size + 1, 2, none⟩) (by simp only; omega) _, grown_set (grown_set (grown_set h.grown (p := ⟨w.heap.size + 1, 0, none⟩) (.inr (by simp only; omega)) _) (p := ⟨w.heap.size + 1, 1, none⟩) (.inr (by simp only; omega)) _) (p := ⟨w.heap.size + 1, 2, none⟩) (.inr (by simp only; omega)) _, h.q4.set3 _ _ _⟩
  · exact ownsRow_base (own_setF (p := ⟨w.heap.size + 1, 2, none⟩) (own_setF (p := ⟨w.heap.size + 1, 1, none⟩) (own_setF (p := ⟨w.heap.size + 1, 0, none⟩) hr hne _) hne _) hne _) (by omega)
  · have ha := h.all t (hts t ht)
    exact sc_set (sc_set (sc_set ha.1 ha.2 (p := ⟨w.heap.size + 1, 0, none⟩) (by simp only; omega) (by simp only; omega) _) ha.2 (p := ⟨w.heap.size + 1, 1, none⟩) (by simp only; omega) (by simp only; omega) _) ha.2 (p := ⟨w.heap.size + 1, 2, none⟩) (by simp only; omega) (by simp only; omega) _
end
theorem sl_tail0 {w : World} {B m c b o : Nat} {xs : List Int} (h : Sl w B 1 (some ⟨b, o, none⟩) m c (ints xs)) (hm : 1 ≤ m) (hc : c = 1) : Sl w B 1 (some ⟨b, o, none⟩) (m - 1) 0 (ints (xs.drop 1)) := by
  have hl := h.1
  have h2 := h.2.1
  rw [ints_length] at hl
  exact ⟨by rw [ints_length, List.length_drop]; omega, by omega, by unfold maxLen; omega, fun hx => by omega⟩
theorem sl_tail {w : World} {B m c b o : Nat} {xs : List Int} (h : Sl w B 1 (some ⟨b, o, none⟩) m c (ints xs)) (hm : 1 ≤ m) : Sl w B 1 (some ⟨b, o + 1, none⟩) (m - 1) (c - 1) (ints (xs.drop 1)) := by
  by_cases h1 : 1 < m
  · exact sl_dropI h h1
  · have hl := h.1
    have h2 := h.2.1
    have h3 := h.2.2.1
    rw [ints_length] at hl
    exact ⟨by rw [ints_length, List.length_drop]; omega, by omega, by omega, fun hx => by omega⟩
theorem arr3_at {w : World} {g j : Nat} {t : TypeId} {x y z : Int} (h : Blk w g t #[.int .i64 x, .int .i64 y, .int .i64 z]) (hj : j < 3) : ∃ u : Int, w.cell? ⟨g, j, none⟩ = some (.int .i64 u) := by
  obtain ⟨a, b, c, _⟩ := h.facts3
  match j, hj with
  | 0, _ => exact ⟨_, a⟩
  | 1, _ => exact ⟨_, b⟩
  | 2, _ => exact ⟨_, c⟩
theorem OddS.none_ {w wx : World} {b base gs gr m cr : Nat} {ss : List Sc} {fr : Int} {wd : Bool} {s : Sc} (h : OddS w b base gs gr m cr ss fr wd s wx) (hbB : b < w.heap.size) :
    OddR w b base ⟨fr, none, 0, 0, [], wd⟩ ((((wx.setCell ⟨w.heap.size, 1, none⟩ (.slice none 0 0)).setCell ⟨w.heap.size + 1, 0, none⟩ (.int .i64 fr)).setCell ⟨w.heap.size + 1, 1, none⟩ (.slice none 0 0)).setCell ⟨w.heap.size + 1, 2, none⟩ (.bool wd)) :=
  ⟨⟨World.ownsRow_nil _ _ _ _, fun t ht => by simp at ht⟩, (((h.deck.set (p := ⟨w.heap.size, 1, none⟩) hbB _).set (p := ⟨w.heap.size + 1, 0, none⟩) (by simp only; omega) _).set (p := ⟨w.heap.size + 1, 1, none⟩) (by simp only; omega) _).set (p := ⟨w.heap.size + 1, 2, none⟩) (by simp only; omega) _,
    grown_set (grown_set (grown_set (grown_set h.grown (p := ⟨w.heap.size, 1, none⟩) (.inr (Nat.le_refl _)) _) (p := ⟨w.heap.size + 1, 0, none⟩) (.inr (by simp only; omega)) _) (p := ⟨w.heap.size + 1, 1, none⟩) (.inr (by simp only; omega)) _) (p := ⟨w.heap.size + 1, 2, none⟩) (.inr (by simp only; omega)) _, (h.q4.far (p := ⟨w.heap.size, 1, none⟩) (by simp) _).set3 _ _ _⟩
set_option maxHeartbeats 1600000 in
set_option maxRecDepth 20000 in
theorem odd_any (b base : Nat) (x : Bd) (w : World) (hD : Dk w b) (hb : b < base) (hbase : base ≤ w.heap.size) (hx : BdOwn w base x) (hn : 1 ≤ x.n) (hm : x.n ≤ 4) (hf : ∀ s ∈ x.ss, 1 ≤ s.n ∧ s.n ≤ 6) :
    Calls Try.prog 17 #[.pointer (some ⟨b, 0, none⟩), .agg x.arr] w fun e w' => ∃ y : Bd, e = .returned (.agg y.arr) ∧ BdOwn w' base y ∧ Dk w' b ∧ w.grownBy w' (some b) := by
  have hbB : b < w.heap.size := by omega
  have hlen := ScsOk.len hx.ok
  have HOK := hide hx.ok
  obtain ⟨fr, A, m, c, ss, wd⟩ := x
  unfold Bd.arr
  simp only at hlen hn hm hf ⊢
  have q3 := (Blk.new w 27 #[.int .i64 fr, .slice A m c, .bool wd]).alloc (.cells #[.int .i64 0, .slice none 0 0, .bool false] 27)
  have q4 := Blk.new (w.alloc (.cells #[.int .i64 fr, .slice A m c, .bool wd] 27)) 27 #[.int .i64 0, .slice none 0 0, .bool false]
  rw [World.size_alloc] at q4
  have hB := (bel1 (w := w) (o := .cells #[.int .i64 fr, .slice A m c, .bool wd] 27)).alloc (by simp) (.cells #[.int .i64 0, .slice none 0 0, .bool false] 27)
  have hz1 : ((w.alloc (.cells #[.int .i64 fr, .slice A m c, .bool wd] 27)).alloc (.cells #[.int .i64 0, .slice none 0 0, .bool false] 27)).heap.size = w.heap.size + 2 := by simp
  obtain ⟨c0, c1, c2, cf⟩ := q3.facts3
  have HX := hide hx
  have HF := hide hf
  have HL := hide hlen
  have HD := hide hD
  clear hx hf hlen hD
  go_enter Try.func17, Try.ntmps17
  go_upto_region 1 with fail
  generalize (w.alloc _).alloc _ = w1 at *
  have hs1 := (Bd.ok.thr HOK.out hB).1
  have HB := hide hB
  simp only at hs1
  have h1c : ∀ u ∈ scCells ss, u.oneCell' = true := fun u hu => by
    obtain ⟨s, _, h⟩ := List.mem_flatMap.1 hu
    have h3 : u = .int .i64 s.wt ∨ u = .slice s.A s.n s.c := by simpa [Sc.arr] using h
    rcases h3 with rfl | rfl <;> rfl
  clear hB
  go_wp2_with (at_builtin; refine wpList_ext rfl _ _ _ rfl w1.heap.size _ _ slScen _ 0 [] rfl (World.ownsRow_nil _ _ _ _) _ _ _ _ _ rfl hs1 h1c (by omega) (Nat.le_refl _) ?_)
  intro v' w2 hv2 hg2 _
  have hv2 : w2.ownsRow (w.heap.size + 2) 32 2 v' m (scCells ss) := by simpa [hz1] using hv2
  have hb2 : Below w1.heap.size w1 w2 := (Below.refl _ _).grown hg2 (Nat.le_refl _) (fun k hk => by simp [Value.ownBlock] at hk)
  obtain ⟨gr, cr, rfl, hgr, hgr2⟩ := hv2.form (by omega)
  have r3 := (q3.below hb2 q3.lt).set_ 1 (.slice (some ⟨gr, 0, none⟩) m cr)
  simp only [List.setIfInBounds_toArray, List.set_cons_zero, List.set_cons_succ] at r3
  have r4 := (q4.below hb2 q4.lt).far (p := ⟨w.heap.size, 1, none⟩) (by simp) (.slice (some ⟨gr, 0, none⟩) m cr)
  have ho := own_setF hv2 (p := ⟨w.heap.size, 1, none⟩) (by simp only [Value.ownBlock, ne_eq, Option.some.injEq]; omega) (.slice (some ⟨gr, 0, none⟩) m cr)
  have hB2 := bthr HB.out hb2 HB.out.size
  have HB3 := hide (hB2.setCell (p := ⟨w.heap.size, 1, none⟩) (Nat.le_refl _) (.slice (some ⟨gr, 0, none⟩) m cr))
  have hrl : gr < (w2.setCell ⟨w.heap.size, 1, none⟩ (.slice (some ⟨gr, 0, none⟩) m cr)).heap.size := by rw [World.size_setCell]; exact hgr2
  clear c0 c1 c2 cf
  obtain ⟨c0, c1, c2, cf⟩ := (q3.below hb2 q3.lt).facts3
  clear hv2 hg2 hb2 hB2 q3 q4 hs1 h1c
  go_upto_region 2 with fail
  clear c0 c1 c2 cf
  generalize World.setCell _ _ _ = w3 at *
  obtain ⟨c0, c1, c2, cf⟩ := r3.facts3
  have HD3 := hide (HD.out.below HB3.out)
  go_wp2_with fail
  refine (next_any b m (by omega) _ HD3.out).mono ?_
  rintro e w4 ⟨v, rfl, hv0, hv1, hD4, hg4, hz4⟩
  obtain ⟨gs, hgs⟩ : ∃ gs, w4.heap.size = gs := ⟨_, rfl⟩
  have hgr4 : gr < gs := by omega
  clear hz4
  obtain ⟨i, rfl⟩ : ∃ i : Nat, v = (i : Int) := ⟨v.toNat, by omega⟩
  have him : i < m := by omega
  have r34 := r3.only hg4 (by omega)
  have r44 := r4.only hg4 (by omega)
  have o4 := own_deckF ho hg4 (by omega)
  have HX4 := hide (show ∀ t ∈ ss, ScOwn w4 base t from fun t ht => own_deckF (ownsRow_below (HX.out.2 t ht) HB3.out) hg4 hb)
  have HG4 := hide (grown_trans (grown_below HB3.out (some b)) hg4)
  have hil : i < ss.length := by have := HL.out; omega
  obtain ⟨s, es⟩ : ∃ s, ss[i] = s := ⟨_, rfl⟩
  have hmem : s ∈ ss := by rw [← es]; exact List.getElem_mem _
  have HCL := hide (show ∀ t ∈ ss, Clear w.heap.size gs t from fun t ht k hk => .inl ((World.ownsRow.lt (HX.out.2 t ht) k hk).2))
  have hsn := HF.out s hmem
  have e0 : w4.cell? ⟨gr, i * 2, none⟩ = some (.int .i64 s.wt) := (o4.cellAt (i * 2) (by omega)).trans (by have := (scCells_get ss i hil).1; rw [es] at this; exact this)
  have e1 : w4.cell? ⟨gr, i * 2 + 1, none⟩ = some (.slice s.A s.n s.c) := (o4.cellAt (i * 2 + 1) (by omega)).trans (by have := (scCells_get ss i hil).2; rw [es] at this; exact this)
  obtain ⟨wt, As, ns, cs, fl⟩ := s
  simp only at e0 e1 hsn
  have qs := Blk.new w4 32 #[.int .i64 wt, .slice As ns cs]
  rw [hgs] at qs
  have HS := hide (show OddS w b base gs gr m cr ss fr wd ⟨wt, As, ns, cs, fl⟩ (w4.alloc (.cells #[.int .i64 wt, .slice As ns cs] 32)) from
    ⟨r34.alloc _, r44.alloc _, qs, o4.alloc _, hgr4, fun t ht => ⟨World.ownsRow.alloc (HX4.out t ht) _, HCL.out t ht⟩, ⟨World.ownsRow.alloc (HX4.out _ hmem) _, HCL.out _ hmem⟩, hD4.alloc _, grown_alloc HG4.out _⟩)
  have hii : (i : Int) < (m : Int) := by omega
  have hi0 : (0 : Int) ≤ (i : Int) := by omega
  clear c0 c1 c2 cf
  obtain ⟨c0, c1, c2, cf⟩ := r34.facts3
  clear r3 r4 ho HB3 HD3 hD4 hg4 r34 r44 o4 HX4 HG4 HCL hmem es qs HB HX HF HOK HD hv0 hv1
  go_upto_region 4 with fail
  clear c0 c1 c2 cf e0 e1
  generalize w4.alloc _ = w5 at *
  clear hgs hgr4
  go_wp2_with fail
  refine (next_any b 7 (by omega) _ HS.out.deck).mono ?_
  rintro e w6 ⟨y, rfl, hy0, hy1, hD6, hg6, hz6⟩
  have HS6 := hide (HS.out.next hg6 hD6 hb hbB)
  have hy7 : y = 0 ∨ y = 1 ∨ y = 2 ∨ y = 3 ∨ y = 4 ∨ y = 5 ∨ y = 6 := by omega
  clear hD6 hg6 hz6 HS hy0 hy1 hrl hgr hgr2
  rcases hy7 with rfl | rfl | rfl | rfl | rfl | rfl | rfl
  · -- another beginning
    have HS7 := hide (HS6.out.alloc (.cells #[.int .i64 (-1), .int .i64 16777216, .int .i64 16777217] 3))
    have q7 := Blk.new w6 3 #[.int .i64 (-1), .int .i64 16777216, .int .i64 16777217]
    have hb6 : b < w6.heap.size := by have := HS6.out.q3.lt; omega
    clear HS6
    go_wp2_with fail
    generalize w6.alloc _ = w7 at *
    generalize w6.heap.size = g7 at *
    refine (next_any b 3 (by omega) _ HS7.out.deck).mono ?_
    rintro e w8 ⟨v, rfl, hv0, hv1, hD8, hg8, hz8⟩
    obtain ⟨j, rfl⟩ : ∃ j : Nat, v = (j : Int) := ⟨v.toNat, by omega⟩
    have hj3 : j < 3 := by omega
    have hj3i : (j : Int) < 3 := by omega
    have hj0i : (0 : Int) ≤ (j : Int) := by omega
    obtain ⟨z, lz⟩ := arr3_at (q7.only hg8 (by omega)) hj3
    have HS8 := hide (HS7.out.next hg8 hD8 hb hbB)
    obtain ⟨c0, c1, c2, cf⟩ := HS8.out.q3.facts3
    have HSE := hide (HS8.out.setFrom hbB z)
    clear HS7 q7 hv0 hv1 hD8 hg8 hz8 HS8
    go_upto_region 18 with fail
    clear c0 c1 c2 cf lz
    generalize World.setCell _ _ _ = wz at *
    obtain ⟨c0, c1, c2, cf⟩ := HSE.out.q3.facts3
    obtain ⟨e0, e1, ef⟩ := HSE.out.qs.facts2
    simp only at e0 e1
    have hlr := HSE.out.row.1
    obtain ⟨z0, l0⟩ : ∃ u, wz.cell? ⟨gr, i * 2, none⟩ = some u := ⟨_, (HSE.out.row.cellAt (i * 2) (by omega)).trans (List.getElem?_eq_getElem (by omega))⟩
    obtain ⟨z1, l1⟩ : ∃ u, wz.cell? ⟨gr, i * 2 + 1, none⟩ = some u := ⟨_, (HSE.out.row.cellAt (i * 2 + 1) (by omega)).trans (List.getElem?_eq_getElem (by omega))⟩
    have lf0 := HSE.out.row.frozenAt (i * 2)
    have lf1 := HSE.out.row.frozenAt (i * 2 + 1)
    have HSM := hide (HSE.out.mid hbB hil)
    clear hlr HSE
    go_upto_region 19 with fail
    clear c0 c1 c2 cf e0 e1 ef l0 l1 lf0 lf1
    try simp only at HSM
    generalize World.setCell _ _ _ = wq at *
    obtain ⟨c0, c1, c2, cf⟩ := HSM.out.q3.facts3
    obtain ⟨d0, d1, d2, df⟩ := HSM.out.q4.facts3
    obtain ⟨hr1, hr2, hr3, hr4⟩ := HSM.out.fin hbB hbase (some ⟨gr, 0, none⟩) m cr _ HSM.out.row (fun t ht => ht)
    obtain ⟨u0, u1, u2, uf⟩ := hr4.facts3
    simp only at u0 u1 u2
    clear hr4
    go_wp2
    refine bodyPost_ret (v := .agg #[.int .i64 z, .slice (some ⟨gr, 0, none⟩) m cr, .bool wd]) ?_ rfl ?_
    · simp [results, Try.results17, go_sem, u0, u1, u2]
    · exact ⟨⟨z, some ⟨gr, 0, none⟩, m, cr, _, wd⟩, rfl, hr1, hr2, hr3⟩
  · -- another weight
    have HS7 := hide (HS6.out.alloc (.cells #[.int .i64 0, .int .i64 10000, .int .i64 10001] 3))
    have q7 := Blk.new w6 3 #[.int .i64 0, .int .i64 10000, .int .i64 10001]
    have hb6 : b < w6.heap.size := by have := HS6.out.q3.lt; omega
    clear HS6
    go_wp2_with fail
    generalize w6.alloc _ = w7 at *
    generalize w6.heap.size = g7 at *
    refine (next_any b 3 (by omega) _ HS7.out.deck).mono ?_
    rintro e w8 ⟨v, rfl, hv0, hv1, hD8, hg8, hz8⟩
    obtain ⟨j, rfl⟩ : ∃ j : Nat, v = (j : Int) := ⟨v.toNat, by omega⟩
    have hj3 : j < 3 := by omega
    have hj3i : (j : Int) < 3 := by omega
    have hj0i : (0 : Int) ≤ (j : Int) := by omega
    obtain ⟨z, lz⟩ := arr3_at (q7.only hg8 (by omega)) hj3
    have HS8 := hide (HS7.out.next hg8 hD8 hb hbB)
    obtain ⟨e0, e1, ef⟩ := HS8.out.qs.facts2
    have HSE := hide (HS8.out.setWt hbB z)
    clear HS7 q7 hv0 hv1 hD8 hg8 hz8 HS8
    go_upto_region 18 with fail
    clear e0 e1 ef lz
    generalize World.setCell _ _ _ = wz at *
    obtain ⟨c0, c1, c2, cf⟩ := HSE.out.q3.facts3
    obtain ⟨e0, e1, ef⟩ := HSE.out.qs.facts2
    simp only at e0 e1
    have hlr := HSE.out.row.1
    obtain ⟨z0, l0⟩ : ∃ u, wz.cell? ⟨gr, i * 2, none⟩ = some u := ⟨_, (HSE.out.row.cellAt (i * 2) (by omega)).trans (List.getElem?_eq_getElem (by omega))⟩
    obtain ⟨z1, l1⟩ : ∃ u, wz.cell? ⟨gr, i * 2 + 1, none⟩ = some u := ⟨_, (HSE.out.row.cellAt (i * 2 + 1) (by omega)).trans (List.getElem?_eq_getElem (by omega))⟩
    have lf0 := HSE.out.row.frozenAt (i * 2)
    have lf1 := HSE.out.row.frozenAt (i * 2 + 1)
    have HSM := hide (HSE.out.mid hbB hil)
    clear hlr HSE
    go_upto_region 19 with fail
    clear c0 c1 c2 cf e0 e1 ef l0 l1 lf0 lf1
    try simp only at HSM
    generalize World.setCell _ _ _ = wq at *
    obtain ⟨c0, c1, c2, cf⟩ := HSM.out.q3.facts3
    obtain ⟨d0, d1, d2, df⟩ := HSM.out.q4.facts3
    obtain ⟨hr1, hr2, hr3, hr4⟩ := HSM.out.fin hbB hbase (some ⟨gr, 0, none⟩) m cr _ HSM.out.row (fun t ht => ht)
    obtain ⟨u0, u1, u2, uf⟩ := hr4.facts3
    simp only at u0 u1 u2
    clear hr4
    go_wp2
    refine bodyPost_ret (v := .agg #[.int .i64 fr, .slice (some ⟨gr, 0, none⟩) m cr, .bool wd]) ?_ rfl ?_
    · simp [results, Try.results17, go_sem, u0, u1, u2]
    · exact ⟨⟨fr, some ⟨gr, 0, none⟩, m, cr, _, wd⟩, rfl, hr1, hr2, hr3⟩
  · -- one flow more
    obtain ⟨e0, e1, ef⟩ := HS6.out.qs.facts2
    have hsl := sl_ownv (show w6.ownsRow base 3 1 (.slice As ns cs) ns (ints fl) from HS6.out.one.1)
    have hgs6 := HS6.out.qs.lt
    simp only at e0 e1
    go_wp2_with (at_builtin; refine wpList_ext rfl _ _ _ rfl w6.heap.size _ _ slInt _ 0 [] rfl (World.ownsRow_nil _ _ _ _) _ _ _ _ _ rfl hsl (ints_one fl) (by omega) (Nat.le_refl _) ?_)
    intro v7 w7 hv7 hg7 _
    have hv7 : w7.ownsRow w6.heap.size 3 1 v7 ns (ints fl) := by simpa using hv7
    have hb7 : Below w6.heap.size w6 w7 := (Below.refl _ _).grown hg7 (Nat.le_refl _) (fun k hk => by simp [Value.ownBlock] at hk)
    clear hsl e0 e1 ef hg7
    go_wp2_with (at_builtin; refine wpList_push rfl _ _ _ rfl w6.heap.size _ _ slInt _ _ _ rfl hv7 _ _ rfl rfl rfl (by omega) hb7.size ?_)
    intro v9 w9 hv9 hg9 _
    obtain ⟨g9, c9, rfl, hg9l, _⟩ := hv9.form (by omega)
    have hb9 : Below w6.heap.size w6 w9 := hb7.grown hg9 hb7.size (fun k hk => (hv7.lt k hk).1)
    have HS9 := hide (HS6.out.below hb9)
    have HSE := hide (HS9.out.setFl hbB (some ⟨g9, 0, none⟩) (ns + 1) c9 (fl ++ [1]) (ownsRow_base (by rw [ints_append]; exact hv9) (by have := HS6.out.grown.size; omega)) (fun k hk => by simp only [Value.ownBlock, Option.some.injEq] at hk; exact .inr (by omega)))
    obtain ⟨e0, e1, ef⟩ := HS9.out.qs.facts2
    simp only at e0 e1
    clear HS6 HS9 hv7 hb7 hv9 hg9 hb9 hg9l hgs6
    go_upto_region 18 with fail
    clear e0 e1 ef
    generalize World.setCell _ _ _ = wz at *
    obtain ⟨c0, c1, c2, cf⟩ := HSE.out.q3.facts3
    obtain ⟨e0, e1, ef⟩ := HSE.out.qs.facts2
    simp only at e0 e1
    have hlr := HSE.out.row.1
    obtain ⟨z0, l0⟩ : ∃ u, wz.cell? ⟨gr, i * 2, none⟩ = some u := ⟨_, (HSE.out.row.cellAt (i * 2) (by omega)).trans (List.getElem?_eq_getElem (by omega))⟩
    obtain ⟨z1, l1⟩ : ∃ u, wz.cell? ⟨gr, i * 2 + 1, none⟩ = some u := ⟨_, (HSE.out.row.cellAt (i * 2 + 1) (by omega)).trans (List.getElem?_eq_getElem (by omega))⟩
    have lf0 := HSE.out.row.frozenAt (i * 2)
    have lf1 := HSE.out.row.frozenAt (i * 2 + 1)
    have HSM := hide (HSE.out.mid hbB hil)
    clear hlr HSE
    go_upto_region 19 with fail
    clear c0 c1 c2 cf e0 e1 ef l0 l1 lf0 lf1
    try simp only at HSM
    generalize World.setCell _ _ _ = wq at *
    obtain ⟨c0, c1, c2, cf⟩ := HSM.out.q3.facts3
    obtain ⟨d0, d1, d2, df⟩ := HSM.out.q4.facts3
    obtain ⟨hr1, hr2, hr3, hr4⟩ := HSM.out.fin hbB hbase (some ⟨gr, 0, none⟩) m cr _ HSM.out.row (fun t ht => ht)
    obtain ⟨u0, u1, u2, uf⟩ := hr4.facts3
    simp only at u0 u1 u2
    clear hr4
    go_wp2
    refine bodyPost_ret (v := .agg #[.int .i64 fr, .slice (some ⟨gr, 0, none⟩) m cr, .bool wd]) ?_ rfl ?_
    · simp [results, Try.results17, go_sem, u0, u1, u2]
    · exact ⟨⟨fr, some ⟨gr, 0, none⟩, m, cr, _, wd⟩, rfl, hr1, hr2, hr3⟩
  · -- no flows
    obtain ⟨e0, e1, ef⟩ := HS6.out.qs.facts2
    have HSE := hide (HS6.out.setFl hbB none 0 0 [] (World.ownsRow_nil _ _ _ _) (fun k hk => by simp [Value.ownBlock] at hk))
    clear HS6
    go_upto_region 18 with fail
    clear e0 e1 ef
    generalize World.setCell _ _ _ = wz at *
    obtain ⟨c0, c1, c2, cf⟩ := HSE.out.q3.facts3
    obtain ⟨e0, e1, ef⟩ := HSE.out.qs.facts2
    simp only at e0 e1
    have hlr := HSE.out.row.1
    obtain ⟨z0, l0⟩ : ∃ u, wz.cell? ⟨gr, i * 2, none⟩ = some u := ⟨_, (HSE.out.row.cellAt (i * 2) (by omega)).trans (List.getElem?_eq_getElem (by omega))⟩
    obtain ⟨z1, l1⟩ : ∃ u, wz.cell? ⟨gr, i * 2 + 1, none⟩ = some u := ⟨_, (HSE.out.row.cellAt (i * 2 + 1) (by omega)).trans (List.getElem?_eq_getElem (by omega))⟩
    have lf0 := HSE.out.row.frozenAt (i * 2)
    have lf1 := HSE.out.row.frozenAt (i * 2 + 1)
    have HSM := hide (HSE.out.mid hbB hil)
    clear hlr HSE
    go_upto_region 19 with fail
    clear c0 c1 c2 cf e0 e1 ef l0 l1 lf0 lf1
    try simp only at HSM
    generalize World.setCell _ _ _ = wq at *
    obtain ⟨c0, c1, c2, cf⟩ := HSM.out.q3.facts3
    obtain ⟨d0, d1, d2, df⟩ := HSM.out.q4.facts3
    obtain ⟨hr1, hr2, hr3, hr4⟩ := HSM.out.fin hbB hbase (some ⟨gr, 0, none⟩) m cr _ HSM.out.row (fun t ht => ht)
    obtain ⟨u0, u1, u2, uf⟩ := hr4.facts3
    simp only at u0 u1 u2
    clear hr4
    go_wp2
    refine bodyPost_ret (v := .agg #[.int .i64 fr, .slice (some ⟨gr, 0, none⟩) m cr, .bool wd]) ?_ rfl ?_
    · simp [results, Try.results17, go_sem, u0, u1, u2]
    · exact ⟨⟨fr, some ⟨gr, 0, none⟩, m, cr, _, wd⟩, rfl, hr1, hr2, hr3⟩
  · -- another first flow
    have hsl := sl_ownv (show w6.ownsRow base 3 1 (.slice As ns cs) ns (ints fl) from HS6.out.one.1)
    have hnc : ns ≤ cs := hsl.2.1
    have hcm : cs ≤ 9223372036854775807 := by have := hsl.2.2.1; unfold maxLen at this; omega
    obtain ⟨bf, of_, rfl, _, _⟩ := hsl.at_ (k := 0) (by omega)
    have hgs6 := HS6.out.qs.lt
    have HS9 := hide HS6.out.drew
    obtain ⟨e0, e1, ef⟩ := HS6.out.qs.facts2
    simp only at e0 e1
    have hi1 : (1 : Int) ≤ (ns : Int) := by omega
    have hi2 : (ns : Int) ≤ (cs : Int) := by omega
    have hi3 : (1 : Int) ≤ (cs : Int) := by omega
    have hN1 : 1 ≤ ns := by omega
    go_upto_region 14 with fail
    by_cases hc1 : cs = 1
    · skip
      go_region_law (first | (refine step_ext rfl (.tmp 55) (.tmp 58) 22 rfl w10.heap.size _ _ slInt _ 1 _ (by simp [Act.eval, Act.put]) (World.ownsRow_lit w10 #[.int .i64 (1073741824 + v)] 1 (Nat.le_refl _) (by unfold maxLen; omega) rfl) _ _ _ _ _ (by simp [Act.eval, Act.put]) (sl_tail0 (sl_ownv (show (w10.alloc (.cells #[.int .i64 (1073741824 + v)] 3)).ownsRow base 3 1 (.slice (some ⟨bf, of_, none⟩) ns cs) ns (ints fl) from HS11.out.one.1)) hN1 hc1) (ints_one (fl.drop 1)) (by omega) (by simp) ?_; intro v' w11 hv11 hg11 _; have hb11 : Below w10.heap.size w10 w11 := (bel1.grown hg11 (by simp) (fun k hk => by simp only [Value.ownBlock, Option.some.injEq] at hk; omega)); obtain ⟨gv, cv, rfl, hgv, _⟩ := hv11.form (by omega); have HS12 := hide (HS10.out.below hb11); obtain ⟨y0, y1, yf⟩ := HS12.out.qs.facts2; simp only at y0 y1) | (go_simp; go_at_call 12; refine (next_any b 2 (by omega) _ HS9.out.deck).mono ?_; rintro e w10 ⟨v, rfl, hv0, hv1, hD10, hg10, hz10⟩; have hgs10 : gs < w10.heap.size := (by rw [hz10]; exact hgs6); clear hz10; have hv2 : v ≤ 1 := (by omega); have hwr : IntKind.i64.wrap (1073741824 + v) = 1073741824 + v := (by rw [IntKind.wrap_i64]; omega); have HS10 := hide (HS9.out.next hg10 hD10 hb hbB); obtain ⟨t0, t1, tf⟩ := HS10.out.qs.facts2; have HS11 := hide (HS10.out.alloc (.cells #[.int .i64 (1073741824 + v)] 3)); obtain ⟨a0, a1, af⟩ := HS11.out.qs.facts2; simp only at t0 t1 a0 a1))
      all_goals
        have hv11 : w11.ownsRow w10.heap.size 3 1 (.slice (some ⟨gv, 0, none⟩) ns cv) ns (ints ((1073741824 + v) :: fl.drop 1)) := by have e : 1 + (ns - 1) = ns := (by omega); rw [e] at hv11; exact hv11
        have HSE := hide (HS12.out.setFl hbB (some ⟨gv, 0, none⟩) _ cv ((1073741824 + v) :: fl.drop 1) (ownsRow_base hv11 (by have := HS10.out.grown.size; omega)) (fun k hk => by simp only [Value.ownBlock, Option.some.injEq] at hk; exact .inr (by omega)))
        clear HS9 HS10 HS11 HS12 hv11 hg11 hb11 hgv t0 t1 tf a0 a1 af e0 e1 ef hsl hnc hcm hgs6 hgs10 hD10 hg10 hv0 hv1 hv2 hwr
        go_upto_region 18 with fail
        clear y0 y1 yf
        generalize World.setCell _ _ _ = wz at *
        obtain ⟨c0, c1, c2, cf⟩ := HSE.out.q3.facts3
        obtain ⟨e0, e1, ef⟩ := HSE.out.qs.facts2
        simp only at e0 e1
        have hlr := HSE.out.row.1
        obtain ⟨z0, l0⟩ : ∃ u, wz.cell? ⟨gr, i * 2, none⟩ = some u := ⟨_, (HSE.out.row.cellAt (i * 2) (by omega)).trans (List.getElem?_eq_getElem (by omega))⟩
        obtain ⟨z1, l1⟩ : ∃ u, wz.cell? ⟨gr, i * 2 + 1, none⟩ = some u := ⟨_, (HSE.out.row.cellAt (i * 2 + 1) (by omega)).trans (List.getElem?_eq_getElem (by omega))⟩
        have lf0 := HSE.out.row.frozenAt (i * 2)
        have lf1 := HSE.out.row.frozenAt (i * 2 + 1)
        have HSM := hide (HSE.out.mid hbB hil)
        clear hlr HSE
        go_upto_region 19 with fail
        clear c0 c1 c2 cf e0 e1 ef l0 l1 lf0 lf1
        try simp only at HSM
        generalize World.setCell _ _ _ = wq at *
        obtain ⟨c0, c1, c2, cf⟩ := HSM.out.q3.facts3
        obtain ⟨d0, d1, d2, df⟩ := HSM.out.q4.facts3
        obtain ⟨hr1, hr2, hr3, hr4⟩ := HSM.out.fin hbB hbase (some ⟨gr, 0, none⟩) m cr _ HSM.out.row (fun t ht => ht)
        obtain ⟨u0, u1, u2, uf⟩ := hr4.facts3
        simp only at u0 u1 u2
        clear hr4
        go_wp2
        refine bodyPost_ret (v := .agg #[.int .i64 fr, .slice (some ⟨gr, 0, none⟩) m cr, .bool wd]) ?_ rfl ?_
        · simp [results, Try.results17, go_sem, u0, u1, u2]
        · exact ⟨⟨fr, some ⟨gr, 0, none⟩, m, cr, _, wd⟩, rfl, hr1, hr2, hr3⟩
    · have hc2 : ¬ cs ≤ 1 := by omega
      go_region_law (first | (refine step_ext rfl (.tmp 55) (.tmp 58) 22 rfl w10.heap.size _ _ slInt _ 1 _ (by simp [Act.eval, Act.put]) (World.ownsRow_lit w10 #[.int .i64 (1073741824 + v)] 1 (Nat.le_refl _) (by unfold maxLen; omega) rfl) _ _ _ _ _ (by simp [Act.eval, Act.put]) (sl_tail (sl_ownv (show (w10.alloc (.cells #[.int .i64 (1073741824 + v)] 3)).ownsRow base 3 1 (.slice (some ⟨bf, of_, none⟩) ns cs) ns (ints fl) from HS11.out.one.1)) hN1) (ints_one (fl.drop 1)) (by omega) (by simp) ?_; intro v' w11 hv11 hg11 _; have hb11 : Below w10.heap.size w10 w11 := (bel1.grown hg11 (by simp) (fun k hk => by simp only [Value.ownBlock, Option.some.injEq] at hk; omega)); obtain ⟨gv, cv, rfl, hgv, _⟩ := hv11.form (by omega); have HS12 := hide (HS10.out.below hb11); obtain ⟨y0, y1, yf⟩ := HS12.out.qs.facts2; simp only at y0 y1) | (go_simp; go_at_call 12; refine (next_any b 2 (by omega) _ HS9.out.deck).mono ?_; rintro e w10 ⟨v, rfl, hv0, hv1, hD10, hg10, hz10⟩; have hgs10 : gs < w10.heap.size := (by rw [hz10]; exact hgs6); clear hz10; have hv2 : v ≤ 1 := (by omega); have hwr : IntKind.i64.wrap (1073741824 + v) = 1073741824 + v := (by rw [IntKind.wrap_i64]; omega); have HS10 := hide (HS9.out.next hg10 hD10 hb hbB); obtain ⟨t0, t1, tf⟩ := HS10.out.qs.facts2; have HS11 := hide (HS10.out.alloc (.cells #[.int .i64 (1073741824 + v)] 3)); obtain ⟨a0, a1, af⟩ := HS11.out.qs.facts2; simp only at t0 t1 a0 a1))
      all_goals
        have hv11 : w11.ownsRow w10.heap.size 3 1 (.slice (some ⟨gv, 0, none⟩) ns cv) ns (ints ((1073741824 + v) :: fl.drop 1)) := by have e : 1 + (ns - 1) = ns := (by omega); rw [e] at hv11; exact hv11
        have HSE := hide (HS12.out.setFl hbB (some ⟨gv, 0, none⟩) _ cv ((1073741824 + v) :: fl.drop 1) (ownsRow_base hv11 (by have := HS10.out.grown.size; omega)) (fun k hk => by simp only [Value.ownBlock, Option.some.injEq] at hk; exact .inr (by omega)))
        clear HS9 HS10 HS11 HS12 hv11 hg11 hb11 hgv t0 t1 tf a0 a1 af e0 e1 ef hsl hnc hcm hgs6 hgs10 hD10 hg10 hv0 hv1 hv2 hwr
        go_upto_region 18 with fail
        clear y0 y1 yf
        generalize World.setCell _ _ _ = wz at *
        obtain ⟨c0, c1, c2, cf⟩ := HSE.out.q3.facts3
        obtain ⟨e0, e1, ef⟩ := HSE.out.qs.facts2
        simp only at e0 e1
        have hlr := HSE.out.row.1
        obtain ⟨z0, l0⟩ : ∃ u, wz.cell? ⟨gr, i * 2, none⟩ = some u := ⟨_, (HSE.out.row.cellAt (i * 2) (by omega)).trans (List.getElem?_eq_getElem (by omega))⟩
        obtain ⟨z1, l1⟩ : ∃ u, wz.cell? ⟨gr, i * 2 + 1, none⟩ = some u := ⟨_, (HSE.out.row.cellAt (i * 2 + 1) (by omega)).trans (List.getElem?_eq_getElem (by omega))⟩
        have lf0 := HSE.out.row.frozenAt (i * 2)
        have lf1 := HSE.out.row.frozenAt (i * 2 + 1)
        have HSM := hide (HSE.out.mid hbB hil)
        clear hlr HSE
        go_upto_region 19 with fail
        clear c0 c1 c2 cf e0 e1 ef l0 l1 lf0 lf1
        try simp only at HSM
        generalize World.setCell _ _ _ = wq at *
        obtain ⟨c0, c1, c2, cf⟩ := HSM.out.q3.facts3
        obtain ⟨d0, d1, d2, df⟩ := HSM.out.q4.facts3
        obtain ⟨hr1, hr2, hr3, hr4⟩ := HSM.out.fin hbB hbase (some ⟨gr, 0, none⟩) m cr _ HSM.out.row (fun t ht => ht)
        obtain ⟨u0, u1, u2, uf⟩ := hr4.facts3
        simp only at u0 u1 u2
        clear hr4
        go_wp2
        refine bodyPost_ret (v := .agg #[.int .i64 fr, .slice (some ⟨gr, 0, none⟩) m cr, .bool wd]) ?_ rfl ?_
        · simp [results, Try.results17, go_sem, u0, u1, u2]
        · exact ⟨⟨fr, some ⟨gr, 0, none⟩, m, cr, _, wd⟩, rfl, hr1, hr2, hr3⟩
  · -- no scenarios
    obtain ⟨c0, c1, c2, cf⟩ := HS6.out.q3.facts3
    have r3 := HS6.out.q3.set_ 1 (.slice none 0 0)
    simp only [List.setIfInBounds_toArray, List.set_cons_zero, List.set_cons_succ] at r3
    have HR := hide (HS6.out.none_ hbB)
    go_upto_region 17 with fail
    clear c0 c1 c2 cf
    have r4 := HS6.out.q4.far (p := ⟨w.heap.size, 1, none⟩) (by simp) (.slice none 0 0)
    generalize World.setCell _ _ _ = wq at *
    obtain ⟨c0, c1, c2, cf⟩ := r3.facts3
    obtain ⟨d0, d1, d2, df⟩ := r4.facts3
    obtain ⟨hr1, hr2, hr3, hr4⟩ := HR.out
    obtain ⟨u0, u1, u2, uf⟩ := hr4.facts3
    simp only at u0 u1 u2
    clear hr4 r3 r4 HS6
    go_wp2
    refine bodyPost_ret (v := .agg #[.int .i64 fr, .slice none 0 0, .bool wd]) ?_ rfl ?_
    · simp [results, Try.results17, go_sem, u0, u1, u2]
    · exact ⟨⟨fr, none, 0, 0, [], wd⟩, rfl, hr1, hr2, hr3⟩
  · -- as it was
    have HSE := HS6
    clear HS6
    go_upto_region 18 with fail
    rename World => wz
    obtain ⟨c0, c1, c2, cf⟩ := HSE.out.q3.facts3
    obtain ⟨e0, e1, ef⟩ := HSE.out.qs.facts2
    simp only at e0 e1
    have hlr := HSE.out.row.1
    obtain ⟨z0, l0⟩ : ∃ u, wz.cell? ⟨gr, i * 2, none⟩ = some u := ⟨_, (HSE.out.row.cellAt (i * 2) (by omega)).trans (List.getElem?_eq_getElem (by omega))⟩
    obtain ⟨z1, l1⟩ : ∃ u, wz.cell? ⟨gr, i * 2 + 1, none⟩ = some u := ⟨_, (HSE.out.row.cellAt (i * 2 + 1) (by omega)).trans (List.getElem?_eq_getElem (by omega))⟩
    have lf0 := HSE.out.row.frozenAt (i * 2)
    have lf1 := HSE.out.row.frozenAt (i * 2 + 1)
    have HSM := hide (HSE.out.mid hbB hil)
    clear hlr HSE
    go_upto_region 19 with fail
    clear c0 c1 c2 cf e0 e1 ef l0 l1 lf0 lf1
    try simp only at HSM
    generalize World.setCell _ _ _ = wq at *
    obtain ⟨c0, c1, c2, cf⟩ := HSM.out.q3.facts3
    obtain ⟨d0, d1, d2, df⟩ := HSM.out.q4.facts3
    obtain ⟨hr1, hr2, hr3, hr4⟩ := HSM.out.fin hbB hbase (some ⟨gr, 0, none⟩) m cr _ HSM.out.row (fun t ht => ht)
    obtain ⟨u0, u1, u2, uf⟩ := hr4.facts3
    simp only at u0 u1 u2
    clear hr4
    go_wp2
    refine bodyPost_ret (v := .agg #[.int .i64 fr, .slice (some ⟨gr, 0, none⟩) m cr, .bool wd]) ?_ rfl ?_
    · simp [results, Try.results17, go_sem, u0, u1, u2]
    · exact ⟨⟨fr, some ⟨gr, 0, none⟩, m, cr, _, wd⟩, rfl, hr1, hr2, hr3⟩
end Go.Proofs.Ytmlpimidbgeacaa
