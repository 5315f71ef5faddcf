/-
  The contract of mk.Bundle: a valid bundle of one to four scenarios, in memory of the call's own. Condition: the deck lies in memory.
-/
import Derived.Test.YtmlpimidbgeacaaProg
import Derived.Test.YtmlpimidbgeacaaDeck0
import Derived.Test.YtmlpimidbgeacaaFlv
import Derived.Test.YtmlpimidbgeacaaPushN
namespace Go.Proofs.Ytmlpimidbgeacaa
open Go.RowKit

theorem slScen : SlT Try.prog 25 32 2 := slT_of (z := .agg #[.int .i64 0, .slice none 0 0]) (bytes := 32) Try.underlying25 (by kernel_rfl) rfl (by decide) (by decide)
theorem Dk.otherF {w w' : World} {b : Nat} {row : Option Nat} (h : Dk w b) (hg : w.grownBy w' row) (hr : ∀ k, row = some k → b < k) : Dk w' b := by
  have hlt := h.lt
  obtain ⟨A, n, c, a, zs, h, ha, hs⟩ := h
  have hk : ∀ i, i ≤ b → w'.heap[i]? = w.heap[i]? := fun i hi => hg.block i (by omega) (fun e => by have := hr i e.symm; omega)
  exact ⟨A, n, c, a, zs, (hk b (Nat.le_refl _)).trans h, ha, hs.keep fun p o hp => World.cell?_of_block (hk p (by omega))⟩
theorem grown_pushF {w w2 w3 : World} {b : Nat} {row : Option Nat} (h : w.grownBy w2 (some b)) (hg : w2.grownBy w3 row) (hr : ∀ k, row = some k → w.heap.size ≤ k) : w.grownBy w3 (some b) :=
  ⟨hg.os.trans h.os, hg.tape.trans h.tape, hg.output.trans h.output, Nat.le_trans h.size hg.size, fun i hi hn => (hg.block i (Nat.lt_of_lt_of_le hi h.size) (fun e => by have := hr i e.symm; omega)).trans (h.block i hi hn)⟩
theorem own_deckF {w w' : World} {base b : Nat} {e : TypeId} {size n : Nat} {v : Value} {xs : List Value} (h : w.ownsRow base e size v n xs) (hg : w.grownBy w' (some b)) (hb : b < base) : w'.ownsRow base e size v n xs := h.kept hg (by
  cases hv : v.ownBlock with
  | none => exact .inl rfl
  | some g => exact .inr (fun e => by injection e with e; have := (h.lt g hv).1; omega))
theorem own_cellsF {w : World} {base : Nat} {e : TypeId} {size n : Nat} {v : Value} {xs ys : List Value} (h : w.ownsRow base e size v n xs) (he : xs = ys) : w.ownsRow base e size v n ys := he ▸ h
theorem own_setF {w : World} {base n : Nat} {e : TypeId} {size : Nat} {v : Value} {xs : List Value} (h : w.ownsRow base e size v n xs) {p : Addr} (hp : v.ownBlock ≠ some p.block) (u : Value) : (w.setCell p u).ownsRow base e size v n xs :=
  h.kept (row := some p.block) ⟨rfl, rfl, rfl, by simp [World.setCell], fun i _ hne => Below.heap_setCell w p u i (fun e => hne (by rw [e]))⟩ (.inr hp)
/-- A scenario whose flows lie in a row of the call's own, apart from some blocks. -/
def ScOwn (w : World) (base : Nat) (s : Sc) : Prop := w.ownsRow base 3 1 (.slice s.A s.n s.c) s.n (ints s.fl)
def ScGood (n : Nat) (s : Sc) : Prop := (1 ≤ s.wt ∧ s.wt ≤ 5) ∧ s.n = n ∧ ∀ v ∈ s.fl, 0 ≤ v ∧ v < 12
/-- What mk.Bundle makes. -/
def BdMade (b : Nat) (w : World) (e : Ending) (w' : World) : Prop := ∃ x : Bd, e = .returned (.agg x.arr) ∧ (0 ≤ x.fr ∧ x.fr < 20) ∧ (1 ≤ x.ss.length ∧ x.ss.length ≤ 4) ∧ x.n = x.ss.length ∧ (∃ n : Nat, 1 ≤ n ∧ n ≤ 6 ∧ ∀ s ∈ x.ss, ScGood n s) ∧
  w'.ownsRow w.heap.size 32 2 (.slice x.A x.n x.c) x.n (scCells x.ss) ∧ (∀ s ∈ x.ss, ScOwn w' w.heap.size s) ∧ Dk w' b ∧ w.grownBy w' (some b)
/-- a scenario under way: its flows so far -/
def FlP (wr : World) (b gs : Nat) (wt : Int) (j : Nat) (wx : World) : Prop := ∃ (Af : Option Addr) (cf : Nat) (fl : List Int), fl.length = j ∧ (∀ v ∈ fl, 0 ≤ v ∧ v < 12) ∧ Blk wx gs 32 #[.int .i64 wt, .slice Af j cf] ∧ wx.ownsRow (gs + 1) 3 1 (.slice Af j cf) j (ints fl) ∧ Dk wx b ∧ wr.grownBy wx (some b)
/-- a bundle under way -/
def BdP (w : World) (b gb nn k0 : Nat) (fr : Int) (wd : Bool) (q : Nat) (wx : World) : Prop := ∃ (A : Option Addr) (c : Nat) (ss : List Sc), q + ss.length = k0 ∧ (∀ s ∈ ss, ScGood nn s) ∧ Blk wx gb 27 #[.int .i64 fr, .slice A ss.length c, .bool wd] ∧ wx.ownsRow (gb + 1) 32 2 (.slice A ss.length c) ss.length (scCells ss) ∧ (∀ s ∈ ss, ScOwn wx (gb + 1) s ∧ ∀ g, (Value.slice s.A s.n s.c).ownBlock = some g → (Value.slice A ss.length c).ownBlock ≠ some g) ∧ (∃ z, Blk wx w.heap.size 27 z ∧ z.size = 3) ∧ Dk wx b ∧ w.grownBy wx (some b)
theorem sl_int1 {W : World} {g : Nat} {t : TypeId} {x : Int} (h : Blk W g t #[.int .i64 x]) : Sl W W.heap.size 1 (some ⟨g, 0, none⟩) 1 1 (ints [x]) := by
  refine ⟨rfl, Nat.le_refl _, by unfold maxLen; omega, fun _ => ⟨g, 0, rfl, h.lt, fun j u hu => ?_⟩⟩
  rw [h.facts.1, Nat.zero_add, ← hu]
  simp [ints]
theorem flp_step {wr w2 w3 : World} {b gs : Nat} {wt : Int} {j : Nat} {Af : Option Addr} {cf : Nat} {fl : List Int} {x : Int} {A' : Option Addr} {c' : Nat} (hl : fl.length = j) (hf : ∀ v ∈ fl, 0 ≤ v ∧ v < 12) (hx : 0 ≤ x ∧ x < 12) (hb : b < wr.heap.size) (hgs : wr.heap.size ≤ gs) (hq : Blk w2 gs 32 #[.int .i64 wt, .slice Af j cf]) (ho : w2.ownsRow (gs + 1) 3 1 (.slice Af j cf) j (ints fl)) (hD : Dk w2 b) (hg : wr.grownBy w2 (some b))
    (hv : w3.ownsRow (gs + 1) 3 1 (.slice A' (j + 1) c') (j + 1) (ints fl ++ ints [x])) (hgr : (w2.alloc (.cells #[.int .i64 x] 3)).grownBy w3 (Value.slice Af j cf).ownBlock) : FlP wr b gs wt (j + 1) (w3.setCell ⟨gs, 1, none⟩ (.slice A' (j + 1) c')) := by
  have hrow : ∀ k, (Value.slice Af j cf).ownBlock = some k → gs + 1 ≤ k := fun k hk => (ho.lt k hk).1
  have q2 := hq.alloc (.cells #[.int .i64 x] 3)
  have q3 : Blk w3 gs 32 #[.int .i64 wt, .slice Af j cf] := (hgr.block gs q2.lt (fun e => by have := hrow gs e.symm; omega)).trans q2
  have D2 := hD.alloc (.cells #[.int .i64 x] 3)
  have D3 := D2.otherF hgr (fun k hk => by have := hrow k hk; omega)
  have G2 := grown_alloc hg (.cells #[.int .i64 x] 3)
  have G3 := grown_pushF G2 hgr (fun k hk => by have := hrow k hk; omega)
  refine ⟨A', c', fl ++ [x], by simp [hl], fun v hv => ?_, q3.set_ 1 _, ?_, D3.set (by simp; omega) _, grown_set G3 (.inr (by simp; omega)) _⟩
  · rcases List.mem_append.1 hv with h | h
    · exact hf v h
    · rw [List.mem_singleton] at h; subst h; exact hx
  · rw [ints_append]
    exact own_setF hv (fun e => by have := (hv.lt gs e).1; omega) _
theorem bdp_step {w wr wx w3 : World} {b gb nn k0 q gs A c ss Af cf} {fl : List Int} {fr wt : Int} {wd : Bool} {A' : Option Addr} {c' : Nat} (hb : b < w.heap.size) (hgb : gb = w.heap.size + 1) (hgs : wr.heap.size ≤ gs) (hk : q + 1 + ss.length = k0) (hgd : ∀ s ∈ ss, ScGood nn s) (hwt : 1 ≤ wt ∧ wt ≤ 5)
    (hq : Blk wx gb 27 #[.int .i64 fr, .slice A ss.length c, .bool wd]) (ho : wx.ownsRow (gb + 1) 32 2 (.slice A ss.length c) ss.length (scCells ss)) (hroom : ∀ g, (Value.slice A ss.length c).ownBlock = some g → g < wr.heap.size)
    (hsc : ∀ s ∈ ss, ScOwn wx (gb + 1) s ∧ ∀ g, (Value.slice s.A s.n s.c).ownBlock = some g → (Value.slice A ss.length c).ownBlock ≠ some g) (hbx : ∃ z, Blk wx w.heap.size 27 z ∧ z.size = 3) (hD : Dk wx b) (hG : w.grownBy wx (some b))
    (hwr : gb < wr.heap.size) (_ : fl.length = nn) (hfv : ∀ v ∈ fl, 0 ≤ v ∧ v < 12) (hfo : wx.ownsRow (gs + 1) 3 1 (.slice Af nn cf) nn (ints fl))
    (hv : w3.ownsRow (gb + 1) 32 2 (.slice A' (ss.length + 1) c') (ss.length + 1) (scCells ss ++ [.int .i64 wt, .slice Af nn cf])) (hgr : wx.grownBy w3 (Value.slice A ss.length c).ownBlock) (hor : (Value.slice A' (ss.length + 1) c').ownBlock = (Value.slice A ss.length c).ownBlock ∨ ∃ g, (Value.slice A' (ss.length + 1) c').ownBlock = some g ∧ wx.heap.size ≤ g) : BdP w b gb nn k0 fr wd q (w3.setCell ⟨gb, 1, none⟩ (.slice A' (ss.length + 1) c')) := by
  subst hgb
  have hrow : ∀ k, (Value.slice A ss.length c).ownBlock = some k → w.heap.size + 2 ≤ k := fun k hk => (ho.lt k hk).1
  have q3 : Blk w3 (w.heap.size + 1) 27 #[.int .i64 fr, .slice A ss.length c, .bool wd] := (hgr.block _ hq.lt (fun e => by have := hrow _ e.symm; omega)).trans hq
  obtain ⟨z, hz, hz3⟩ := hbx
  have z3 : Blk w3 w.heap.size 27 z := (hgr.block _ hz.lt (fun e => by have := hrow _ e.symm; omega)).trans hz
  have D3 := hD.otherF hgr (fun k hk => by have := hrow k hk; omega)
  have G3 := grown_pushF hG hgr (fun k hk => by have := hrow k hk; omega)
  have hnew : ScOwn wx (w.heap.size + 1 + 1) ⟨wt, Af, nn, cf, fl⟩ := ownsRow_base (show wx.ownsRow (gs + 1) 3 1 (.slice Af nn cf) nn (ints fl) from hfo) (by omega)
  have hne : ∀ g, (Value.slice Af nn cf).ownBlock = some g → (Value.slice A ss.length c).ownBlock ≠ some g := fun g hg e => by
    have h1 := (hfo.lt g hg).1
    have h2 := hroom g e
    omega
  have hall : ∀ s ∈ ss ++ [⟨wt, Af, nn, cf, fl⟩], ScGood nn s ∧ ScOwn wx (w.heap.size + 1 + 1) s ∧ ∀ g, (Value.slice s.A s.n s.c).ownBlock = some g → (Value.slice A ss.length c).ownBlock ≠ some g := fun s hs => by
    rcases List.mem_append.1 hs with h | h
    · exact ⟨hgd s h, hsc s h⟩
    · rw [List.mem_singleton] at h; subst h
      exact ⟨⟨hwt, rfl, hfv⟩, hnew, hne⟩
  have hqk : q + (ss ++ [(⟨wt, Af, nn, cf, fl⟩ : Sc)]).length = k0 := by rw [List.length_append, List.length_singleton]; omega
  have D4 : Dk (w3.setCell ⟨w.heap.size + 1, 1, none⟩ (.slice A' (ss.length + 1) c')) b := D3.set (show b < w.heap.size + 1 by omega) _
  refine ⟨A', c', ss ++ [⟨wt, Af, nn, cf, fl⟩], hqk, fun s hs => (hall s hs).1, ?_, ?_, fun s hs => ⟨?_, ?_⟩, ⟨z, ?_, hz3⟩, D4, grown_set G3 (.inr (by simp)) _⟩
  · have := q3.set_ 1 (.slice A' (ss.length + 1) c')
    simpa using this
  · have := own_setF hv (p := ⟨w.heap.size + 1, 1, none⟩) (fun e => by have h5 := (hv.lt (w.heap.size + 1) e).1; omega) (.slice A' (ss.length + 1) c')
    simpa [scCells_append, scCells, Sc.arr] using this
  · obtain ⟨_, h1, h2⟩ := hall s hs
    have h3 : ScOwn w3 (w.heap.size + 1 + 1) s := by
      refine World.ownsRow.kept h1 hgr ?_
      cases e : (Value.slice s.A s.n s.c).ownBlock with
      | none => exact .inl rfl
      | some g => exact .inr (fun e' => h2 g e e'.symm)
    exact own_setF h3 (fun e => by have h4 := (World.ownsRow.lt h3 _ e).1; simp only at h4; omega) _
  · obtain ⟨_, h1, h2⟩ := hall s hs
    intro g hg
    have hlt := (World.ownsRow.lt h1 g hg).2
    simp only [List.length_append, List.length_singleton]
    rcases hor with h | ⟨g', h, hg'⟩
    · rw [h]; exact h2 g hg
    · rw [h]; intro e; injection e with e; omega
  · exact (Below.heap_setCell w3 _ _ _ (by simp)).trans z3
set_option maxHeartbeats 3200000 in
set_option maxRecDepth 20000 in
theorem bundle_any (b : Nat) (w : World) (hD : Dk w b) : Calls Try.prog 10 #[.pointer (some ⟨b, 0, none⟩)] w (BdMade b w) := by
  have hbl := hD.lt
  have r0 := Blk.new w 27 #[.int .i64 0, .slice none 0 0, .bool false]
  have hD0 := hD.alloc (.cells #[.int .i64 0, .slice none 0 0, .bool false] 27)
  have hG0 := grown_alloc (grown_refl w (some b)) (.cells #[.int .i64 0, .slice none 0 0, .bool false] 27)
  have hz0 : (w.alloc (.cells #[.int .i64 0, .slice none 0 0, .bool false] 27)).heap.size = w.heap.size + 1 := by simp
  go_enter Try.func10, Try.ntmps10
  go_wp2_with fail
  generalize w.alloc _ = w1 at *
  refine (next_any b 20 (by omega) _ hD0).mono ?_
  rintro e w2 ⟨fr, rfl, hf0, hf1, hD2, hg2, hz2⟩
  have r2 := r0.only hg2 (by omega)
  have hG2 := grown_trans hG0 hg2
  have hfr : 0 ≤ fr ∧ fr < 20 := by omega
  have hz2' : w2.heap.size = w.heap.size + 1 := by omega
  clear hD hD0 hG0 r0 hg2 hz2 hz0 hf0 hf1
  go_wp2_with fail
  refine (next_any b 8 (by omega) _ hD2).mono ?_
  rintro e w3 ⟨x, rfl, hx0, hx1, hD3, hg3, hz3⟩
  have r3 := r2.only hg3 (by omega)
  have hG3 := grown_trans hG2 hg3
  have hz3' : w3.heap.size = w.heap.size + 1 := by omega
  obtain ⟨wd, hwd⟩ : ∃ wd, (x == 7) = wd := ⟨_, rfl⟩
  clear hD2 hG2 r2 hg3 hz3 hx0 hx1 hz2'
  have q4 := Blk.new w3 27 #[.int .i64 fr, .slice none 0 0, .bool wd]
  have r4 := r3.alloc (.cells #[.int .i64 fr, .slice none 0 0, .bool wd] 27)
  have hD4 := hD3.alloc (.cells #[.int .i64 fr, .slice none 0 0, .bool wd] 27)
  have hG4 := grown_alloc hG3 (.cells #[.int .i64 fr, .slice none 0 0, .bool wd] 27)
  have hz4 : (w3.alloc (.cells #[.int .i64 fr, .slice none 0 0, .bool wd] 27)).heap.size = w.heap.size + 2 := by simp; omega
  clear hD3 hG3 r3
  go_wp2_with fail
  generalize w3.alloc _ = w4 at *
  obtain ⟨gb, hgb⟩ : ∃ gb, w3.heap.size = gb := ⟨_, rfl⟩
  simp only [hgb] at *
  obtain rfl : gb = w.heap.size + 1 := by omega
  refine (next_any b 6 (by omega) _ hD4).mono ?_
  rintro e w5 ⟨nx, rfl, hn0, hn1, hD5, hg5, hz5⟩
  have r5 := r4.only hg5 (by omega)
  have q5 := q4.only hg5 (by omega)
  have hG5 := grown_trans hG4 hg5
  clear hD4 hG4 r4 q4 hg5 hz3'
  go_wp2_with fail
  refine (next_any b 4 (by omega) _ hD5).mono ?_
  rintro e w6 ⟨kx, rfl, hk0, hk1, hD6, hg6, hz6⟩
  have r6 := r5.only hg6 (by omega)
  have q6 := q5.only hg6 (by omega)
  have hG6 := grown_trans hG5 hg6
  clear hD5 hG5 r5 q5 hg6
  obtain ⟨nn, hnn⟩ : ∃ nn : Nat, 1 + nx = (nn : Int) := ⟨(1 + nx).toNat, by omega⟩
  obtain ⟨k0, hkk⟩ : ∃ k0 : Nat, 1 + kx = (k0 : Int) := ⟨(1 + kx).toNat, by omega⟩
  go_wp2_with fail
  have hnn6 : 1 ≤ nn ∧ nn ≤ 6 := by omega
  have hkk4 : 1 ≤ k0 ∧ k0 ≤ 4 := by omega
  clear hn0 hn1 hk0 hk1 hgb hz4 hz5 hz6 hkk hnn
  go_loopw [5] (fun v wr => ∃ q : Nat, q ≤ k0 ∧ v = .int .i64 q ∧ BdP w b (w.heap.size + 1) nn k0 fr wd q wr) (fun v _ => (intOf v).toNat)
  case atStart =>
    refine ⟨k0, Nat.le_refl _, rfl, none, 0, [], by simp, by simp, q6, World.ownsRow_nil _ _ _ _, by simp, ⟨_, r6, rfl⟩, hD6, hG6⟩
  case round =>
    obtain ⟨q, hq, rfl, A, c, ss, hss, hgd, hQ, hO, hS, hB, hD, hG⟩ := hrel
    obtain ⟨wa, rfl⟩ : ∃ wa, wa = wr := ⟨wr, rfl⟩
    by_cases hlt : 0 < q
    · have hqi : (0 : Int) < (q : Int) := by omega
      have HS := hide hS
      have HB := hide hB
      have HGD := hide hgd
      have HO := hide hO
      have HQ := hide hQ
      have HG := hide hG
      have hwrz : w.heap.size + 2 ≤ wa.heap.size := by have := hQ.lt; omega
      clear hS hB hgd hO hQ hG
      go_wp2_with fail
      refine (next_any b 5 (by omega) _ hD).mono ?_
      rintro e w7 ⟨y, rfl, hy0, hy1, hD7, hg7, hz7⟩
      obtain ⟨wt, hwt⟩ : ∃ wt, 1 + y = wt := ⟨_, rfl⟩
      have hwt1 : 1 ≤ wt ∧ wt ≤ 5 := by omega
      clear hy0 hy1 hD
      have s8 := Blk.new w7 32 #[.int .i64 wt, .slice none 0 0]
      have hD8 := hD7.alloc (.cells #[.int .i64 wt, .slice none 0 0] 32)
      have hg8 := grown_alloc hg7 (.cells #[.int .i64 wt, .slice none 0 0] 32)
      try simp only [hz7] at s8
      clear hD7 hg7
      go_wp2_with fail
      generalize w7.alloc _ = w8 at *
      try simp only [hz7]
      clear hz7
      go_loopw [28] (fun i wx => ∃ j : Nat, j ≤ nn ∧ i = .int .i64 j ∧ FlP wa b wa.heap.size wt j wx) (fun i _ => nn - (intOf i).toNat)
      case atStart => exact ⟨0, by omega, rfl, none, 0, [], rfl, by simp, s8, World.ownsRow_nil _ _ _ _, hD8, hg8⟩
      case round =>
        obtain ⟨j, hj, rfl, Af, cf, fl, hfl, hfv, hs, hfo, hfD, hfG⟩ := hrel
        by_cases hlj : j < nn
        · have hji : (j : Int) < (nn : Int) := by omega
          obtain ⟨s0, s1, sf⟩ := hs.facts2
          have HFO := hide hfo
          have HFG := hide hfG
          have HFS := hide hs
          clear hfo hfG hs
          go_upto_region 9 with fail
          have HD9 := hide (hfD.keep (w' := wr.drew) (fun i _ => rfl))
          have HGD9 := hide (show wa.grownBy wr.drew (some b) from ⟨HFG.out.os, HFG.out.tape, HFG.out.output, HFG.out.size, HFG.out.block⟩)
          have HS9 := hide (show Blk wr.drew wa.heap.size 32 #[.int .i64 wt, .slice Af j cf] from HFS.out)
          have HO9 := hide (show wr.drew.ownsRow (wa.heap.size + 1) 3 1 (.slice Af j cf) j (ints fl) from HFO.out)
          go_region_law (first | (refine step_ext rfl (.tmp 31) (.tmp 34) 22 rfl (wa.heap.size + 1) _ _ slInt _ _ _ (by simp [Act.eval]) O10.out _ _ _ _ _ (by simp [Act.eval]) (sl_int1 (Blk.new w10 3 #[.int .i64 v])) (by simp [ints, Value.oneCell']) (by omega) hb10 ?_; intro v' w11 hv11 hg11 _; obtain ⟨gv, cv, rfl, _, _⟩ := hv11.form (by omega); have hrow : ∀ k, (Value.slice Af j cf).ownBlock = some k → wa.heap.size + 1 ≤ k := fun k hk => (O10.out.lt k hk).1; have S11 : Blk w11 wa.heap.size 32 #[.int .i64 wt, .slice Af j cf] := (hg11.block wa.heap.size (S10.alloc (.cells #[.int .i64 v] 3)).lt (fun e => by have := hrow _ e.symm; omega)).trans (S10.alloc (.cells #[.int .i64 v] 3)); obtain ⟨y0, y1, yf⟩ := S11.facts2) | (go_simp; go_at_call 12; refine (next_any b 12 (by omega) _ HD9.out).mono ?_; rintro e w10 ⟨v, rfl, hv0, hv1, hD10, hg10, hz10⟩; clear hz10; have S10 := HS9.out.only hg10 (by omega); obtain ⟨t0, t1, tf⟩ := S10.facts2; obtain ⟨a0, a1, af⟩ := (S10.alloc (.cells #[.int .i64 v] 3)).facts2; have hb10 : wa.heap.size + 1 ≤ (w10.alloc (.cells #[.int .i64 v] 3)).heap.size := (by simp; have := S10.lt; omega); have o10 := hide (own_deckF HO9.out hg10 (by omega)); have O10 := hide (o10.out.alloc (.cells #[.int .i64 v] 3))))
          all_goals
            have HR := hide (flp_step (b := b) (wr := wa) (x := v) hfl hfv (by omega) (by omega) (Nat.le_refl _) S10 o10.out hD10 (grown_trans HGD9.out hg10) hv11 hg11)
            clear y0 y1 yf t0 t1 tf a0 a1 af S11
            go_wp2
            go_roundw
            case rel => exact ⟨j + 1, by omega, by go_num, HR.out⟩
            case measure => simp [intOf]; omega
        · have hji : ¬ ((j : Int) < (nn : Int)) := by omega
          have hjn : j = nn := by omega
          rw [hjn] at hfl hfo hs
          have HF := hide hfo
          have HFL := hide hfl
          have HV := hide hfv
          have HD9 := hide hfD
          have HG9 := hide hfG
          have HQ9 := hide (HQ.out.only hfG (by omega))
          have HO9 := hide (own_deckF HO.out hfG (by omega))
          have HS9 := hide (fun s hs => And.intro (own_deckF (HS.out s hs).1 hfG (by omega)) (HS.out s hs).2)
          have HB9 := hide (show ∃ z, Blk wr w.heap.size 27 z ∧ z.size = 3 from HB.out.elim fun z h => ⟨z, h.1.only hfG (by omega), h.2⟩)
          obtain ⟨p0, p1, p2, pf⟩ := HQ9.out.facts3
          obtain ⟨s0, s1, sf⟩ := hs.facts2
          clear hfo hfl hfv hfD hfG hs hjn hlj
          have hzr : w.heap.size + 1 + 1 ≤ wr.heap.size := by have := HQ9.out.lt; omega
          have hsl4 : ss.length ≤ 4 := by omega
          go_wp2_with (at_builtin; refine wpList_push rfl _ _ _ rfl (w.heap.size + 1 + 1) _ _ slScen _ _ _ rfl HO9.out _ _ rfl rfl rfl (by omega) hzr ?_)
          intro v' w11 hv11 hg11 hn11
          obtain ⟨gv, cv, rfl, _, _⟩ := hv11.form (by omega)
          have hrow : ∀ k, (Value.slice A ss.length c).ownBlock = some k → w.heap.size + 2 ≤ k := fun k hk => (HO9.out.lt k hk).1
          have S11 : Blk w11 (w.heap.size + 1) 27 #[.int .i64 fr, .slice A ss.length c, .bool wd] := (hg11.block (w.heap.size + 1) HQ9.out.lt (fun e => by have := hrow _ e.symm; omega)).trans HQ9.out
          obtain ⟨y0, y1, y2, yf⟩ := S11.facts3
          have HR := hide (bdp_step (k0 := k0) (q := q - 1) (gs := wa.heap.size) hbl rfl (Nat.le_refl _) (by omega) HGD.out hwt1 HQ9.out HO9.out (fun g hg => (HO.out.lt g hg).2) HS9.out HB9.out HD9.out (grown_trans HG.out HG9.out) (by omega) HFL.out HV.out HF.out hv11 hg11 hn11)
          clear p0 p1 p2 pf s0 s1 sf hn11 hg11 hv11 S11 hrow
          go_wp2
          go_roundw
          case rel => exact ⟨q - 1, by omega, by congr 1; omega, HR.out⟩
          case measure => simp [intOf]; omega
    · obtain ⟨z, hz⟩ : ∃ z : Int, (q : Int) = z := ⟨_, rfl⟩
      obtain rfl : z = 0 := by omega
      simp only [hz]
      obtain ⟨zz, hzz, hz3⟩ := hB
      obtain ⟨z0, z1, z2, rfl⟩ : ∃ z0 z1 z2, zz = #[z0, z1, z2] := by
        obtain ⟨l⟩ := zz
        match l, hz3 with
        | [a, b, c], _ => exact ⟨a, b, c, rfl⟩
      obtain ⟨p0, p1, p2, pf⟩ := hQ.facts3
      obtain ⟨o0, o1, o2, of⟩ := hzz.facts3
      have HS := hide hS
      have HGD := hide hgd
      have HO := hide hO
      have HG := hide hG
      have HD := hide hD
      clear hS hgd hO hG hD
      go_wp2
      have k3 := ((hzz.set_ 0 (.int .i64 fr)).set_ 1 (.slice A ss.length c)).set_ 2 (.bool wd)
      simp only [List.setIfInBounds_toArray, List.set_cons_zero, List.set_cons_succ] at k3
      obtain ⟨u0, u1, u2, uf⟩ := k3.facts3
      have kp : ∀ g, (Value.slice A ss.length c).ownBlock = some g → g ≠ w.heap.size := fun g hg => by have := (HO.out.lt g hg).1; omega
      refine bodyPost_ret (v := .agg #[.int .i64 fr, .slice A ss.length c, .bool wd]) (by simp [results, Try.results10, go_sem, u0, u1, u2]) rfl ⟨⟨fr, A, ss.length, c, ss, wd⟩, rfl, hfr, ⟨by show 1 ≤ ss.length; omega, by show ss.length ≤ 4; omega⟩, rfl, ⟨nn, hnn6.1, hnn6.2, HGD.out⟩, ?_, ?_, ?_, ?_⟩
      · have ho := ownsRow_base HO.out (show w.heap.size ≤ w.heap.size + 1 + 1 by omega)
        exact own_setF (p := ⟨w.heap.size, 2, none⟩) (own_setF (p := ⟨w.heap.size, 1, none⟩) (own_setF (p := ⟨w.heap.size, 0, none⟩) ho (fun e => kp _ e rfl) _) (fun e => kp _ e rfl) _) (fun e => kp _ e rfl) _
      · intro s hs
        have h1 := (HS.out s hs).1
        have kq : (Value.slice s.A s.n s.c).ownBlock ≠ some w.heap.size := fun e => by have := (World.ownsRow.lt h1 _ e).1; omega
        have ho := ownsRow_base (show wa.ownsRow (w.heap.size + 1 + 1) 3 1 (.slice s.A s.n s.c) s.n (ints s.fl) from h1) (show w.heap.size ≤ w.heap.size + 1 + 1 by omega)
        exact own_setF (p := ⟨w.heap.size, 2, none⟩) (own_setF (p := ⟨w.heap.size, 1, none⟩) (own_setF (p := ⟨w.heap.size, 0, none⟩) ho kq _) kq _) kq _
      · exact ((HD.out.set (p := ⟨w.heap.size, 0, none⟩) hbl _).set (p := ⟨w.heap.size, 1, none⟩) hbl _).set (p := ⟨w.heap.size, 2, none⟩) hbl _
      · exact grown_set (p := ⟨w.heap.size, 2, none⟩) (grown_set (p := ⟨w.heap.size, 1, none⟩) (grown_set (p := ⟨w.heap.size, 0, none⟩) HG.out (.inr (Nat.le_refl _)) _) (.inr (Nat.le_refl _)) _) (.inr (Nat.le_refl _)) _
end Go.Proofs.Ytmlpimidbgeacaa
