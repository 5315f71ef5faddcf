/-
  The map of parts of a plan, in memory: every part that it holds and that is ok takes no more than what is left at its key; looking up and storing. No condition.
  The contract of dispatch.Better without flows: it answers. No condition.
  The contract of the function that dispatch.Best calls: a part of a plan takes no more than what is left. Condition: the lists of flows lie in memory, none is negative, and the map holds such parts.
  The contract of dispatch.Best at valid units and states: flows, none negative, that add up to at most the release, or an error. Condition: units and states lie in memory and are valid.
-/
import Derived.Test.YtodamjjlnagpjaaGreatDoorProg
import Derived.Test.YtodamjjlnagpjaaGreatDoorTsn
import Derived.Maps.OwnSet
import Derived.WideKeyPair
import Derived.DeepKeys4
import Derived.Laws.EntriesVeiled
namespace Go.Proofs.YtodamjjlnagpjaaGreatDoor
open Go.RowKit Go.Maps

theorem laidOutM : laidOutB Tryz.prog = true := by kernel_rfl
theorem arrM : Go.WideMaps.ArrKey Tryz.prog 195 3 2 := ⟨Tryz.underlying195, by kernel_rfl, by kernel_rfl, by kernel_rfl⟩
theorem rowM : (195 : TypeId) < Tryz.prog.types.size := of_decide_eq_true (by kernel_rfl)
theorem keyM : Keyed Tryz.prog 195 := Keyed.of_law (deep_law_laid laidOutM (m := 2) (by omega) rowM (by kernel_rfl) (by rw [Tryz.underlying195]))
theorem sizeM : ∃ m, Tryz.prog.types.size = m + 1 := Nat.exists_eq_succ_of_ne_zero (fun h => by have := rowM; rw [h] at this; exact absurd this (Nat.not_lt_zero _))
theorem zeroM (w : World) : (zeroValue 197).run Tryz.prog w = .ok (.agg #[.bool false, .int .i64 0, .int .i64 0, .int .i64 0]) w := by kernel_rfl
def klM (a b : Int) : Lit := .string (keyBytes [.int .i64 a, .int .i64 b])
theorem klM_key {a b : Int} (wa : (Lit.int .i64 a).wf = true) (wb : (Lit.int .i64 b).wf = true) : keyOf Tryz.prog 195 (.agg #[.int .i64 a, .int .i64 b]) = some (klM a b) := Go.WideMaps.keyOf_pair arrM Tryz.underlying3 sizeM wa wb
theorem klM_inj {a b c d : Int} (wa : (Lit.int .i64 a).wf = true) (wb : (Lit.int .i64 b).wf = true) (wc : (Lit.int .i64 c).wf = true) (wd : (Lit.int .i64 d).wf = true) (h : klM a b = klM c d) : a = c ∧ b = d := by
  have h1 := klM_key wa wb
  rw [h] at h1
  have := keyM.inj h1 (klM_key wc wd)
  simpa using this
/-- How a part reads: whether it is ok, and its flow. -/
def partE : Value → Option (DataW Unit × List MemPlace)
  | .agg cs => match cs.toList with
    | [.bool ok, .int .i64 _, .int .i64 _, .int .i64 f] => some (.agg [.lit (.bool ok), .lit (.int .i64 f)], [])
    | _ => none
  | _ => none
theorem partE_mk (ok : Bool) (a b f : Int) : partE (.agg #[.bool ok, .int .i64 a, .int .i64 b, .int .i64 f]) = some (.agg [.lit (.bool ok), .lit (.int .i64 f)], []) := rfl
theorem partE_inv {v : Value} {z : DataW Unit × List MemPlace} (h : partE v = some z) : ∃ ok a b f, v = .agg #[.bool ok, .int .i64 a, .int .i64 b, .int .i64 f] ∧ z = (.agg [.lit (.bool ok), .lit (.int .i64 f)], []) := by
  unfold partE at h
  split at h
  · rename_i cs
    split at h
    · rename_i ok a b f he
      obtain ⟨cs⟩ := cs
      simp only at he
      subst he
      cases h
      exact ⟨ok, a, b, f, rfl, rfl⟩
    · cases h
  · cases h
/-- What the map holds. -/
def Within (D : DataW Unit) : Prop := ∀ (a b : Int) (z : DataW Unit), (Lit.int .i64 a).wf = true → (Lit.int .i64 b).wf = true → has D (klM a b) = true → ∃ ok f, D.atKey (klM a b) z = .agg [.lit (.bool ok), .lit (.int .i64 f)] ∧ (ok = true → 0 ≤ f ∧ f ≤ b)
def MapOk (w : World) (g n : Nat) : Prop := ∃ D, w.ownsMap Tryz.prog 195 partE g n D ∧ Within D
theorem MapOk.mono {w : World} {g n n' : Nat} (h : MapOk w g n) (hn : n ≤ n') : MapOk w g n' := by obtain ⟨D, h1, h2⟩ := h; exact ⟨D, h1.mono hn, h2⟩
theorem MapOk.lt {w : World} {g n : Nat} (h : MapOk w g n) : g < w.heap.size := by obtain ⟨D, h1, _⟩ := h; exact h1.lt
theorem MapOk.kept {w w' : World} {g n : Nat} {row : Option Nat} (h : MapOk w g n) (hg : w.grownBy w' row) (hne : row ≠ some g) : MapOk w' g n := by obtain ⟨D, h1, h2⟩ := h; exact ⟨D, h1.kept hg (fun e => hne e.symm), h2⟩
theorem MapOk.alloc {w : World} {g n : Nat} (h : MapOk w g n) (o : Obj) : MapOk (w.alloc o) g n := by obtain ⟨D, h1, h2⟩ := h; exact ⟨D, h1.alloc o, h2⟩
theorem MapOk.below {w w' : World} {g n : Nat} (h : MapOk w g n) (hb : Below w.heap.size w w') : MapOk w' g n := h.kept (grown_below hb none) (by simp)
theorem MapOk.set {w : World} {g n : Nat} (h : MapOk w g n) {p : Addr} (hp : g ≠ p.block) (u : Value) : MapOk (w.setCell p u) g n := by obtain ⟨D, h1, h2⟩ := h; exact ⟨D, h1.setCell hp u, h2⟩
theorem MapOk.made (w : World) : MapOk (w.alloc (.map #[] 0)) w.heap.size 0 := ⟨_, World.ownsMap_made _ _ _ _, fun a b z _ _ h => by simp [has] at h⟩
/-- 'p, ok := known[{i, left}]'. -/
theorem wpList_part {ops : Array Oper} {rest : List Oper} {o : Oper} {a : Act} {Q : Exit → Act → World → Prop} {w : World} (hg : o.guard = none) (m x : Operand) (hop : o.op = Op.lookup 193 m x true)
    (g n : Nat) (h : MapOk w g n) (hm : a.eval m = .map (some g)) (i l : Int) (hx : a.eval x = .agg #[.int .i64 i, .int .i64 l]) (wi : (Lit.int .i64 i).wf = true) (wl : (Lit.int .i64 l).wf = true)
    (hK : ∀ (ok : Bool) (p q f : Int) (there : Bool), (there = true → ok = true → 0 ≤ f ∧ f ≤ l) → wpList Tryz.prog ops Q rest (a.put o.dst (.tuple #[.agg #[.bool ok, .int .i64 p, .int .i64 q, .int .i64 f], .bool there])) w) :
    wpList Tryz.prog ops Q (o :: rest) a w := by
  obtain ⟨D, h1, h2⟩ := h
  refine wpList_lookup_own_ok w hg m x _ hop 195 197 keyM Tryz.underlying193 partE (zeroM w) _ _ (partE_mk false 0 0 0) g n D hm h1 _ (klM i l) hx (klM_key wi wl) ?_
  intro v ps hv
  obtain ⟨ok, p, q, f, rfl, hz⟩ := partE_inv hv
  refine hK ok p q f _ fun ht hok => ?_
  obtain ⟨ok', f', he, hb⟩ := h2 i l _ wi wl ht
  have e1 := congrArg Prod.fst hz
  simp only at e1
  rw [he] at e1
  simp at e1
  obtain ⟨rfl, rfl⟩ := e1
  exact hb hok
/-- 'known[{i, left}] = out'. -/
theorem wpList_partPut {ops : Array Oper} {rest : List Oper} {o : Oper} {a : Act} {Q : Exit → Act → World → Prop} {w : World} (hg : o.guard = none) (m x y : Operand) (hop : o.op = Op.mapUpdate 193 m x y)
    (g n : Nat) (hn : n < 1000000000000000) (h : MapOk w g n) (hm : a.eval m = .map (some g)) (i l : Int) (hx : a.eval x = .agg #[.int .i64 i, .int .i64 l]) (wi : (Lit.int .i64 i).wf = true) (wl : (Lit.int .i64 l).wf = true)
    (ok : Bool) (p q f : Int) (hy : a.eval y = .agg #[.bool ok, .int .i64 p, .int .i64 q, .int .i64 f]) (hf : ok = true → 0 ≤ f ∧ f ≤ l)
    (hK : ∀ w', MapOk w' g (n + 1) → w.grownBy w' (some g) → wpList Tryz.prog ops Q rest (a.put o.dst undef) w') :
    wpList Tryz.prog ops Q (o :: rest) a w := by
  obtain ⟨D, h1, h2⟩ := h
  refine wpList_mapUpdate_own w hg m x y _ hop 195 197 keyM Tryz.underlying193 partE g n D hm h1 (by unfold maxLen; omega) _ _ (klM i l) hx hy (klM_key wi wl) _ _ (partE_mk ok p q f) ?_
  intro w' h3 h4
  refine hK w' ⟨_, h3, fun a b z wa wb hh => ?_⟩ h4
  have hD := h1.isMap
  by_cases he : klM a b = klM i l
  · obtain ⟨rfl, rfl⟩ := klM_inj wa wb wi wl he
    exact ⟨ok, f, atKey_put_same hD (keyM.key (klM_key wi wl)) _ _, hf⟩
  · rw [has_put_other he] at hh
    obtain ⟨ok', f', h5, h6⟩ := h2 a b z wa wb hh
    exact ⟨ok', f', by rw [atKey_put_other he]; exact h5, h6⟩
end Go.Proofs.YtodamjjlnagpjaaGreatDoor
namespace Go.Proofs.YtodamjjlnagpjaaGreatDoor
open Go.RowKit

theorem compare_nil (w : World) : Calls Tryz.prog 127 #[.slice none 0 0, .slice none 0 0] w fun e w' => e = .returned (.int .i64 0) ∧ w' = w := by
  go_enter Tryz.func127, Tryz.ntmps127
  go_wp2
  go_loopw [11] (fun i wr => i = .int .i64 0 ∧ wr = w) (fun i _ => 0)
  case atStart => exact ⟨rfl, rfl⟩
  case round =>
    obtain ⟨rfl, rfl⟩ := hrel
    go_wp2
    go_ret
    exact ⟨rfl, rfl⟩
def BetP (w : World) (e : Ending) (w' : World) : Prop := ∃ b : Bool, e = .returned (.bool b) ∧ Below w.heap.size w w'
set_option maxRecDepth 20000 in
theorem better_any (a b c d : Int) (w : World) : Calls Tryz.prog 113 #[.agg #[.int .i64 a, .int .i64 b], .agg #[.int .i64 c, .int .i64 d], .slice none 0 0, .slice none 0 0] w (BetP w) := by
  obtain ⟨q0, p0, hb0⟩ := blk_two w 195 195 #[.int .i64 a, .int .i64 b] #[.int .i64 c, .int .i64 d]
  obtain ⟨c0, c1, cf⟩ := q0.facts2
  obtain ⟨d0, d1, df⟩ := p0.facts2
  have HB := hide hb0
  go_enter Tryz.func113, Tryz.ntmps113
  by_cases h1 : a = c
  · have h1d : (a != c) = false := by simp [h1]
    have h1e : (a == c) = true := by simp [h1]
    by_cases h2 : b = d
    · have h2d : (b != d) = false := by simp [h2]
      have h2e : (b == d) = true := by simp [h2]
      clear h1 h2
      go_wp2_with fail
      refine (compare_nil _).mono ?_
      rintro e w' ⟨rfl, rfl⟩
      go_wp2
      go_ret
      exact ⟨_, rfl, HB.out⟩
    · have h2d : (b != d) = true := by simp [h2]
      have h2e : (b == d) = false := by simp [h2]
      clear h1
      go_wp2
      go_ret
      exact ⟨_, rfl, HB.out⟩
  · have h1d : (a != c) = true := by simp [h1]
    have h1e : (a == c) = false := by simp [h1]
    go_wp2
    go_ret
    exact ⟨_, rfl, HB.out⟩
end Go.Proofs.YtodamjjlnagpjaaGreatDoor
namespace Go.Proofs.YtodamjjlnagpjaaGreatDoor
open Go.RowKit

theorem cfB1 : ∀ (a : Array Value) (W : World), (callFunc 112 a).run Tryz.prog W = .ok (.enter 112 a) W := fun _ _ => by kernel_rfl
/-- How many entries a call makes at most. -/
def cnt : Nat → Nat
  | 0 => 0
  | d + 1 => 210 * cnt d + 1
structure BW (w : World) (gl gk gb gm m lc : Nat) (lA : Option Addr) (ls : List Cl) : Prop where
  cl : w.cell? ⟨gl, 0, none⟩ = some (.slice lA m lc)
  ck : w.cell? ⟨gk, 0, none⟩ = some (.map (some gm))
  cb : w.cell? ⟨gb, 0, none⟩ = some (.func (.func 112) #[] #[.pointer (some ⟨gl, 0, none⟩), .pointer (some ⟨gk, 0, none⟩), .pointer (some ⟨gb, 0, none⟩)])
  nl : gl ≠ gm
  nk : gk ≠ gm
  nb : gb ≠ gm
  sl : Sl w gm 1 lA m lc (clCells ls)
  ok : ∀ l ∈ ls, Sl w gm 3 l.A l.n l.c (chCells l.cs)
  mt : gm < w.heap.size
section
variable {w w' : World} {gl gk gb gm m lc : Nat} {lA : Option Addr} {ls : List Cl}
theorem cell_grown {w w' : World} {gm g : Nat} {v : Value} (h : w.cell? ⟨g, 0, none⟩ = some v) (hg : w.grownBy w' (some gm)) (hn : g ≠ gm) : w'.cell? ⟨g, 0, none⟩ = some v :=
  (World.cell?_of_block (hg.block g (World.block_lt_of_cell? w _ h) (fun e => hn (by injection e)))).trans h
theorem sl_grown {w w' : World} {gm size n c : Nat} {A : Option Addr} {xs : List Value} (h : Sl w gm size A n c xs) (hg : w.grownBy w' (some gm)) (hm : gm < w.heap.size) : Sl w' gm size A n c xs :=
  h.keep fun b o hb => World.cell?_of_block (hg.block b (by omega) (fun e => by injection e; omega))
theorem BW.step (h : BW w gl gk gb gm m lc lA ls) (hg : w.grownBy w' (some gm)) : BW w' gl gk gb gm m lc lA ls where
  cl := cell_grown h.cl hg h.nl
  ck := cell_grown h.ck hg h.nk
  cb := cell_grown h.cb hg h.nb
  nl := h.nl
  nk := h.nk
  nb := h.nb
  sl := sl_grown h.sl hg h.mt
  ok := fun l hl => sl_grown (h.ok l hl) hg h.mt
  mt := Nat.lt_of_lt_of_le h.mt hg.size
end
def BstP (left : Int) (gm n : Nat) (w : World) (e : Ending) (w' : World) : Prop := ∃ (ok : Bool) (a b f : Int), e = .returned (.agg #[.bool ok, .int .i64 a, .int .i64 b, .int .i64 f]) ∧ (ok = true → 0 ≤ f ∧ f ≤ left) ∧ w.grownBy w' (some gm) ∧ MapOk w' gm n
theorem Blk.grown {w w' : World} {g gm : Nat} {t : TypeId} {cs : Array Value} (h : Blk w g t cs) (hg : w.grownBy w' (some gm)) (hn : g ≠ gm) : Blk w' g t cs := (hg.block g h.lt (fun e => hn (by injection e))).trans h
theorem cl_cell {w : World} {b o : Nat} {ls : List Cl} (hc : ∀ j u, (clCells ls)[j]? = some u → w.cell? ⟨b, o + j, none⟩ = some u) {k : Nat} (hk : k < ls.length) : w.cell? ⟨b, o + k, none⟩ = some (.slice ls[k].A ls[k].n ls[k].c) := by
  have h := cellsOf_get Cl.arr 1 (fun _ => rfl) ls k hk 0 (by omega)
  rw [Nat.mul_one, Nat.add_zero] at h
  exact hc _ _ h
theorem ch_cells {w : World} {b o : Nat} {cs : List Ch} (hc : ∀ j u, (chCells cs)[j]? = some u → w.cell? ⟨b, o + j, none⟩ = some u) {k : Nat} (hk : k < cs.length) :
    w.cell? ⟨b, o + k * 3, none⟩ = some (.int .i64 cs[k].fl) ∧ w.cell? ⟨b, o + k * 3 + 1, none⟩ = some (.int .i64 cs[k].po) ∧ w.cell? ⟨b, o + k * 3 + 2, none⟩ = some (.int .i64 cs[k].st) := by
  have h := fun j hj => cellsOf_get Ch.arr 3 (fun _ => rfl) cs k hk j hj
  exact ⟨hc _ _ (h 0 (by omega)), by rw [Nat.add_assoc]; exact hc _ _ (h 1 (by omega)), by rw [Nat.add_assoc]; exact hc _ _ (h 2 (by omega))⟩
theorem Blk.set4 {w : World} {g : Nat} {t : TypeId} {a0 a1 a2 a3 : Value} (h : Blk w g t #[a0, a1, a2, a3]) (b0 b1 b2 b3 : Value) : Blk ((((w.setCell ⟨g, 0, none⟩ b0).setCell ⟨g, 1, none⟩ b1).setCell ⟨g, 2, none⟩ b2).setCell ⟨g, 3, none⟩ b3) g t #[b0, b1, b2, b3] := by
  have R := (((h.set_ 0 b0).set_ 1 b1).set_ 2 b2).set_ 3 b3
  simpa only [List.setIfInBounds_toArray, List.set_cons_zero, List.set_cons_succ] using R
theorem grown_set4 {a w : World} {gm g : Nat} (h : a.grownBy w (some gm)) (hg : a.heap.size ≤ g) (b0 b1 b2 b3 : Value) : a.grownBy ((((w.setCell ⟨g, 0, none⟩ b0).setCell ⟨g, 1, none⟩ b1).setCell ⟨g, 2, none⟩ b2).setCell ⟨g, 3, none⟩ b3) (some gm) :=
  grown_set (grown_set (grown_set (grown_set h (.inr hg) _) (.inr hg) _) (.inr hg) _) (.inr hg) _
theorem MapOk.set4 {w : World} {gm n g : Nat} (h : MapOk w gm n) (hg : gm ≠ g) (b0 b1 b2 b3 : Value) : MapOk ((((w.setCell ⟨g, 0, none⟩ b0).setCell ⟨g, 1, none⟩ b1).setCell ⟨g, 2, none⟩ b2).setCell ⟨g, 3, none⟩ b3) gm n :=
  (((h.set (p := ⟨g, 0, none⟩) hg b0).set (p := ⟨g, 1, none⟩) hg b1).set (p := ⟨g, 2, none⟩) hg b2).set (p := ⟨g, 3, none⟩) hg b3
theorem wf_in {a : Int} (h0 : -9223372036854775808 ≤ a) (h1 : a ≤ 9223372036854775807) : (Lit.int .i64 a).wf = true := WalkArith.wf_i64 ⟨h0, h1⟩
set_option maxHeartbeats 3200000 in
set_option maxRecDepth 20000 in
theorem best1_any (gl gk gb gm m lc : Nat) (lA : Option Addr) (ls : List Cl) (hm : m ≤ 6) (hls : ls.length = m) (hG : ∀ l ∈ ls, ClG l) : ∀ (d i : Nat) (left : Int) (n : Nat) (w : World), i + d = m → 0 ≤ left → left ≤ 1073741824 → n + cnt d < 1000000000000000 → BW w gl gk gb gm m lc lA ls → MapOk w gm n →
    Calls Tryz.prog 112 #[.int .i64 i, .int .i64 left, .pointer (some ⟨gl, 0, none⟩), .pointer (some ⟨gk, 0, none⟩), .pointer (some ⟨gb, 0, none⟩)] w (BstP left gm (n + cnt d) w) := by
  intro d
  induction d with
  | zero =>
    intro i left n w hi h0 h1 hn hB hM
    obtain rfl : i = m := by omega
    have c0 := cell_thr (bel1 (w := w) (o := .cells #[.bool false, .int .i64 0, .int .i64 0, .int .i64 0] 197)) hB.cl
    have q0 := Blk.new w 197 #[.bool false, .int .i64 0, .int .i64 0, .int .i64 0]
    have hmt := hB.mt
    have z0 := Blk.new w 197 #[.bool true, .int .i64 0, .int .i64 0, .int .i64 0]
    have HG1 := hide (grown_alloc (grown_refl w (some gm)) (.cells #[.bool true, .int .i64 0, .int .i64 0, .int .i64 0] 197))
    have HM1 := hide (MapOk.mono (hM.alloc (.cells #[.bool true, .int .i64 0, .int .i64 0, .int .i64 0] 197)) (show n ≤ n + cnt 0 by omega))
    obtain ⟨x0, x1, x2, x3, xf⟩ := q0.facts4
    obtain ⟨y0, y1, y2, y3, yf⟩ := z0.facts4
    have hee : ((i : Int) == (i : Int)) = true := by simp
    clear hB hM q0 z0
    go_enter Tryz.func112, Tryz.ntmps112
    go_wp2
    refine bodyPost_ret (v := .agg #[.bool true, .int .i64 0, .int .i64 0, .int .i64 0]) (by simp [results, Tryz.results112, go_sem, y0, y1, y2, y3]) rfl ⟨true, 0, 0, 0, rfl, fun _ => ⟨by omega, h0⟩, HG1.out, HM1.out⟩
  | succ d ih =>
    intro i left n w hi h0 h1 hn hB hM
    have hmt := hB.mt
    obtain ⟨i1, hi1⟩ : ∃ i1 : Nat, i1 = i + 1 := ⟨_, rfl⟩
    have HIH := hide (fun (left' : Int) (n' : Nat) (W : World) a b c h1 h2 => ih i1 left' n' W (by omega) a b c h1 h2)
    have hii : (i : Int) + 1 = (i1 : Int) := by omega
    have HI1 := hide hi1
    clear hi1
    have hcn : cnt (d + 1) = 210 * cnt d + 1 := rfl
    rw [hcn] at hn ⊢
    generalize cnt d = cd at *
    have hG1 := grown_alloc (grown_refl w (some gm)) (.cells #[.bool false, .int .i64 0, .int .i64 0, .int .i64 0] 197)
    have hB1 := hB.step hG1
    have hM1 := hM.alloc (.cells #[.bool false, .int .i64 0, .int .i64 0, .int .i64 0] 197)
    have q1 := Blk.new w 197 #[.bool false, .int .i64 0, .int .i64 0, .int .i64 0]
    have c1 := hB1.cl
    have k1 := hB1.ck
    have him : i < m := by omega
    have himi : (i : Int) < (m : Int) := by omega
    have hee : ((i : Int) == (m : Int)) = false := by simp; omega
    have wi : (Lit.int .i64 (i : Int)).wf = true := wf_in (by omega) (by omega)
    have wl : (Lit.int .i64 left).wf = true := wf_in (by omega) (by omega)
    have HLS := hide hls
    have HI := hide hi
    clear hB hM hi hls ih hcn
    go_enter Tryz.func112, Tryz.ntmps112
    go_upto_region 3 with fail
    generalize hw1 : w.alloc _ = w1 at *
    have hz1 : w.heap.size < w1.heap.size := q1.lt
    clear hw1
    have HB1 := hide hB1
    have HM1 := hide hM1
    have HG1 := hide hG1
    have Q1 := hide q1
    clear hB1 hM1 hG1 q1
    go_upto_region 4 with (at_lookup; refine wpList_part rfl _ _ rfl gm n HM1.out rfl i left rfl wi wl ?_; intro ok p q f there hth)
    have n2 := Blk.new w1 197 #[.bool ok, .int .i64 p, .int .i64 q, .int .i64 f]
    have q2 := Q1.out.alloc (.cells #[.bool ok, .int .i64 p, .int .i64 q, .int .i64 f] 197)
    have HB2 := hide (HB1.out.step (grown_alloc (grown_refl w1 (some gm)) (.cells #[.bool ok, .int .i64 p, .int .i64 q, .int .i64 f] 197)))
    have HM2 := hide (HM1.out.alloc (.cells #[.bool ok, .int .i64 p, .int .i64 q, .int .i64 f] 197))
    have HG2 := hide (grown_alloc HG1.out (.cells #[.bool ok, .int .i64 p, .int .i64 q, .int .i64 f] 197))
    have HTH := hide hth
    clear HB1 HM1 HG1 Q1 c1 k1 hth
    have hg8 : w.heap.size < w1.heap.size := by omega
    generalize w1.alloc _ = w2 at *
    have hg7m : gm ≠ w.heap.size := by omega
    cases there
    · clear n2 HTH
      have n3 := Blk.new w2 197 #[.bool false, .int .i64 0, .int .i64 0, .int .i64 0]
      have HG3 := hide (grown_alloc (grown_refl w2 (some gm)) (.cells #[.bool false, .int .i64 0, .int .i64 0, .int .i64 0] 197))
      have c3 := (HB2.out.step HG3.out).cl
      have HM3 := hide (HM2.out.alloc (.cells #[.bool false, .int .i64 0, .int .i64 0, .int .i64 0] 197))
      have hz2 := HG2.out.size
      have hg10 : w.heap.size < w2.heap.size := q2.lt
      have hm2 := HB2.out.mt
      have hsl := (HB2.out.step HG3.out).sl
      have hrow := HB2.out.ok
      have HQ2 := hide q2
      clear q2
      go_upto_region 7 with fail
      generalize w2.alloc _ = w3 at *
      obtain ⟨b, o, hA, hbm, hc⟩ := hsl.at_ him
      have e0 := cl_cell hc (k := i) (by rw [HLS.out]; exact him)
      have hmem := List.getElem_mem (show i < ls.length by rw [HLS.out]; exact him)
      have hgl := hG _ hmem
      have hrw := hrow _ hmem
      generalize ls[i]'_ = l at *
      obtain ⟨A, nn, cc, cs⟩ := l
      unfold ClG at hgl
      simp only at e0 hgl hrw
      obtain ⟨hnn, hn210, hpos⟩ := hgl
      have HNN := hide hnn
      have HPOS := hide hpos
      have HRW := hide hrw
      subst hA
      clear hsl hrow hc hmem hnn hpos hrw hG
      go_wp2_with fail
      clear c3 e0
      go_loopw [35] (fun v wr => ∃ (k : Nat) (ok' : Bool) (p' q' f' : Int), k ≤ nn ∧ v = .int .i64 k ∧ Blk wr w2.heap.size 197 #[.bool ok', .int .i64 p', .int .i64 q', .int .i64 f'] ∧ (ok' = true → 0 ≤ f' ∧ f' ≤ left) ∧ w2.grownBy wr (some gm) ∧ MapOk wr gm (n + k * cd)) (fun v _ => nn - (intOf v).toNat)
      case atStart => exact ⟨0, false, 0, 0, 0, by omega, rfl, n3, (fun h => by cases h), HG3.out, MapOk.mono HM3.out (by omega)⟩
      case round =>
        obtain ⟨k, ok', p', q', f', hk, rfl, hO, hof, hgr, hMr⟩ := hrel
        have HBr := hide (HB2.out.step hgr)
        have hQr := HQ2.out.grown hgr hg7m.symm
        have HOF := hide hof
        have HMr := hide hMr
        have HGr := hide hgr
        have hzr := hgr.size
        by_cases hlt : k < nn
        · have hki : (k : Int) < (nn : Int) := by omega
          have hkc : k < cs.length := by have := HNN.out; omega
          obtain ⟨b', o', hA', hb', hc'⟩ := (sl_grown HRW.out hgr hm2).at_ hlt
          subst hA'
          obtain ⟨e0, e1, e2⟩ := ch_cells hc' hkc
          have hfp := HPOS.out _ (List.getElem_mem hkc)
          generalize cs[k]'hkc = ch at *
          obtain ⟨fl, po, st⟩ := ch
          simp only at e0 e1 e2 hfp
          have n5 := Blk.new wr 201 #[.int .i64 fl, .int .i64 po, .int .i64 st]
          have hg5 := grown_alloc (grown_refl wr (some gm)) (.cells #[.int .i64 fl, .int .i64 po, .int .i64 st] 201)
          have HB5 := hide (HBr.out.step hg5)
          have O5 := hO.alloc (.cells #[.int .i64 fl, .int .i64 po, .int .i64 st] 201)
          have Q5 := hQr.alloc (.cells #[.int .i64 fl, .int .i64 po, .int .i64 st] 201)
          have HM5 := hide (HMr.out.alloc (.cells #[.int .i64 fl, .int .i64 po, .int .i64 st] 201))
          have HG5 := hide (grown_trans HGr.out hg5)
          clear hc' hO hof hgr hMr hQr hg5
          go_upto_region 10 with fail
          clear e0 e1 e2
          generalize wr.alloc _ = w5 at *
          have hr5 : wr.heap.size < w5.heap.size := n5.lt
          obtain ⟨x0, x1, x2, xf⟩ := n5.facts3
          by_cases hfl : left < fl
          · have hfld : decide (left < fl) = true := by simpa using hfl
            have hkd : k * cd ≤ 210 * cd := Nat.mul_le_mul_right cd (by omega)
            have ck := HB5.out.ck
            obtain ⟨y0, y1, y2, y3, yf⟩ := O5.facts4
            obtain ⟨z0, z1, z2, z3, zf⟩ := Q5.facts4
            have HOE := hide O5
            have HQE := hide Q5
            go_wp2_with (at_mapUpdate; refine wpList_partPut rfl _ _ _ rfl gm (n + k * cd) (by omega) HM5.out rfl i left rfl wi wl ok' p' q' f' rfl HOF.out ?_)
            intro wm hMm hgm
            have hOm := HOE.out.grown hgm (by omega)
            have hQm := HQE.out.grown hgm (by omega)
            have hQ7 := hQm.set4 (.bool ok') (.int .i64 p') (.int .i64 q') (.int .i64 f')
            have HGE := hide (grown_set4 (grown_trans (grown_trans HG2.out HG5.out) hgm) (Nat.le_refl _) (.bool ok') (.int .i64 p') (.int .i64 q') (.int .i64 f'))
            have HME := hide (MapOk.mono (hMm.set4 hg7m (.bool ok') (.int .i64 p') (.int .i64 q') (.int .i64 f')) (show n + k * cd + 1 ≤ n + (210 * cd + 1) by omega))
            clear ck y0 y1 y2 y3 yf z0 z1 z2 z3 zf
            obtain ⟨y0, y1, y2, y3, yf⟩ := hOm.facts4
            obtain ⟨z0, z1, z2, z3, zf⟩ := hQm.facts4
            obtain ⟨r0, r1, r2, r3, rf⟩ := hQ7.facts4
            clear hOm hQm hQ7 hMm hgm
            go_wp2
            refine bodyPost_ret (v := .agg #[.bool ok', .int .i64 p', .int .i64 q', .int .i64 f']) (by simp [results, Tryz.results112, go_sem, r0, r1, r2, r3]) rfl ⟨ok', p', q', f', rfl, HOF.out, HGE.out, HME.out⟩
          · have hfld : decide (left < fl) = false := by simpa using hfl
            have c5 := HB5.out.cb
            have hne5 : gm ≠ wr.heap.size := by omega
            have hkd : k * cd + cd ≤ 210 * cd := by
              have := Nat.mul_le_mul_right cd (show k + 1 ≤ 210 by omega)
              rw [Nat.add_mul, Nat.one_mul] at this
              exact this
            have HC := hide (HIH.out (left - fl) (n + k * cd) w5 (by omega) (by omega) (by omega) HB5.out HM5.out)
            have hcf := cfB1
            go_wp2_with fail
            refine HC.out.mono ?_
            rintro e w6 ⟨ok6, a6, b6, f6, rfl, hf6, hg6, hM6⟩
            have O6 := O5.grown hg6 (by omega)
            have n6 := n5.grown hg6 (by omega)
            have Q6 := Q5.grown hg6 (by omega)
            have HB6 := hide (HB5.out.step hg6)
            have HG6 := hide (grown_trans HG5.out hg6)
            have HM6 := hide hM6
            have HF6 := hide hf6
            have hz6 := hg6.size
            clear O5 n5 Q5 HB5 HG5 HM5 HC c5 hg6 hM6 hf6 x0 x1 x2 xf
            have n7 := n6.alloc (.cells #[.bool ok6, .int .i64 a6, .int .i64 b6, .int .i64 f6] 197)
            have p7 := Blk.new w6 197 #[.bool ok6, .int .i64 a6, .int .i64 b6, .int .i64 f6]
            have hg7 := grown_alloc (grown_refl w6 (some gm)) (.cells #[.bool ok6, .int .i64 a6, .int .i64 b6, .int .i64 f6] 197)
            have O7 := O6.alloc (.cells #[.bool ok6, .int .i64 a6, .int .i64 b6, .int .i64 f6] 197)
            have Q7 := Q6.alloc (.cells #[.bool ok6, .int .i64 a6, .int .i64 b6, .int .i64 f6] 197)
            have HM7 := hide (HM6.out.alloc (.cells #[.bool ok6, .int .i64 a6, .int .i64 b6, .int .i64 f6] 197))
            have HB7 := hide (HB6.out.step hg7)
            have HG7 := hide (grown_trans HG6.out hg7)
            clear n6 O6 Q6 HM6 HB6 HG6 hg7
            go_upto_region 12 with fail
            generalize w6.alloc _ = w7 at *
            have hz7 : w6.heap.size < w7.heap.size := p7.lt
            obtain ⟨x0, x1, x2, xf⟩ := n7.facts3
            obtain ⟨y0, y1, y2, y3, yf⟩ := p7.facts4
            go_upto_region 13 with fail
            generalize hX : wrap64 (a6 + po) = X at *
            generalize hY : wrap64 (b6 + st) = Y at *
            have v8 := Blk.new w7 195 #[.int .i64 X, .int .i64 Y]
            have n8 := n7.alloc (.cells #[.int .i64 X, .int .i64 Y] 195)
            have p8 := p7.alloc (.cells #[.int .i64 X, .int .i64 Y] 195)
            have O8 := O7.alloc (.cells #[.int .i64 X, .int .i64 Y] 195)
            have HM8 := hide (HM7.out.alloc (.cells #[.int .i64 X, .int .i64 Y] 195))
            have HG8 := hide (grown_alloc HG7.out (.cells #[.int .i64 X, .int .i64 Y] 195))
            clear x0 x1 x2 xf y0 y1 y2 y3 yf n7 p7 O7 HM7 HB7 HG7 Q7 hX hY
            generalize w7.alloc _ = w8 at *
            obtain ⟨x0, x1, x2, xf⟩ := n8.facts3
            obtain ⟨y0, y1, y2, y3, yf⟩ := p8.facts4
            obtain ⟨z0, z1, z2, z3, zf⟩ := O8.facts4
            obtain ⟨v0, v1, vf⟩ := v8.facts2
            have hkk : n + (k * cd + cd) = n + k * cd + cd := by omega
            cases ok6
            · have HO8 := hide O8
              clear O8 n8 p8 v8
              go_wp2
              go_roundw
              case rel => exact ⟨k + 1, ok', p', q', f', by omega, by go_num, HO8.out, HOF.out, HG8.out, MapOk.mono HM8.out (by rw [Nat.add_mul, Nat.one_mul]; omega)⟩
              case measure => simp [intOf]; omega
            · cases ok'
              · clear n8 p8 v8
                have O9 := O8.set4 (.bool true) (.int .i64 X) (.int .i64 Y) (.int .i64 fl)
                have HG9 := hide (grown_set4 HG8.out (Nat.le_refl _) (.bool true) (.int .i64 X) (.int .i64 Y) (.int .i64 fl))
                have HM9 := hide (HM8.out.set4 (show gm ≠ w2.heap.size by omega) (.bool true) (.int .i64 X) (.int .i64 Y) (.int .i64 fl))
                have HO9 := hide O9
                clear O9
                go_wp2
                go_roundw
                case rel => exact ⟨k + 1, true, X, Y, fl, by omega, by go_num, HO9.out, fun _ => ⟨by omega, by omega⟩, HG9.out, MapOk.mono HM9.out (by rw [Nat.add_mul, Nat.one_mul]; omega)⟩
                case measure => simp [intOf]; omega
              · go_wp2_with fail
                refine (better_any X Y p' q' w8).mono ?_
                rintro e w9 ⟨bt, rfl, hb9⟩
                have n9 := n8.below hb9 n8.lt
                have v9 := v8.below hb9 v8.lt
                have O9 := O8.below hb9 O8.lt
                have HM9 := hide (HM8.out.below hb9)
                have HG9 := hide (grown_trans HG8.out (grown_below hb9 (some gm)))
                clear x0 x1 x2 xf y0 y1 y2 y3 yf z0 z1 z2 z3 zf v0 v1 vf n8 p8 v8 O8 HM8 HG8 hb9
                obtain ⟨x0, x1, x2, xf⟩ := n9.facts3
                obtain ⟨z0, z1, z2, z3, zf⟩ := O9.facts4
                obtain ⟨v0, v1, vf⟩ := v9.facts2
                cases bt
                · have HO9 := hide O9
                  clear O9 n9 v9
                  go_wp2
                  go_roundw
                  case rel => exact ⟨k + 1, true, p', q', f', by omega, by go_num, HO9.out, fun _ => HOF.out trivial, HG9.out, MapOk.mono HM9.out (by rw [Nat.add_mul, Nat.one_mul]; omega)⟩
                  case measure => simp [intOf]; omega
                · have O8 := O9
                  have HG8 := HG9
                  have HM8 := HM9
                  clear n9 v9 O9 HG9 HM9
                  have O9 := O8.set4 (.bool true) (.int .i64 X) (.int .i64 Y) (.int .i64 fl)
                  have HG9 := hide (grown_set4 HG8.out (Nat.le_refl _) (.bool true) (.int .i64 X) (.int .i64 Y) (.int .i64 fl))
                  have HM9 := hide (HM8.out.set4 (show gm ≠ w2.heap.size by omega) (.bool true) (.int .i64 X) (.int .i64 Y) (.int .i64 fl))
                  have HO9 := hide O9
                  clear O9
                  go_wp2
                  go_roundw
                  case rel => exact ⟨k + 1, true, X, Y, fl, by omega, by go_num, HO9.out, fun _ => ⟨by omega, by omega⟩, HG9.out, MapOk.mono HM9.out (by rw [Nat.add_mul, Nat.one_mul]; omega)⟩
                  case measure => simp [intOf]; omega
        · have hki : ¬ ((k : Int) < (nn : Int)) := by omega
          have hkd : k * cd ≤ 210 * cd := Nat.mul_le_mul_right cd (by omega)
          clear hof hMr
          have ck := HBr.out.ck
          obtain ⟨y0, y1, y2, y3, yf⟩ := hO.facts4
          obtain ⟨z0, z1, z2, z3, zf⟩ := hQr.facts4
          have HOE := hide hO
          have HQE := hide hQr
          go_wp2_with (at_mapUpdate; refine wpList_partPut rfl _ _ _ rfl gm (n + k * cd) (by omega) HMr.out rfl i left rfl wi wl ok' p' q' f' rfl HOF.out ?_)
          intro wm hMm hgm
          have hOm := HOE.out.grown hgm (by omega)
          have hQm := HQE.out.grown hgm (by omega)
          have hQ7 := hQm.set4 (.bool ok') (.int .i64 p') (.int .i64 q') (.int .i64 f')
          have HGE := hide (grown_set4 (grown_trans (grown_trans HG2.out hgr) hgm) (Nat.le_refl _) (.bool ok') (.int .i64 p') (.int .i64 q') (.int .i64 f'))
          have HME := hide (MapOk.mono (hMm.set4 hg7m (.bool ok') (.int .i64 p') (.int .i64 q') (.int .i64 f')) (show n + k * cd + 1 ≤ n + (210 * cd + 1) by omega))
          clear ck y0 y1 y2 y3 yf z0 z1 z2 z3 zf
          obtain ⟨y0, y1, y2, y3, yf⟩ := hOm.facts4
          obtain ⟨z0, z1, z2, z3, zf⟩ := hQm.facts4
          obtain ⟨r0, r1, r2, r3, rf⟩ := hQ7.facts4
          clear hOm hQm hQ7 hMm hgm
          go_wp2
          refine bodyPost_ret (v := .agg #[.bool ok', .int .i64 p', .int .i64 q', .int .i64 f']) (by simp [results, Tryz.results112, go_sem, r0, r1, r2, r3]) rfl ⟨ok', p', q', f', rfl, HOF.out, HGE.out, HME.out⟩
    · have hth := HTH.out rfl
      have q3 := q2.set4 (.bool ok) (.int .i64 p) (.int .i64 q) (.int .i64 f)
      have HG3 := hide (grown_set4 HG2.out (Nat.le_refl _) (.bool ok) (.int .i64 p) (.int .i64 q) (.int .i64 f))
      have HM3 := hide (MapOk.mono (HM2.out.set4 hg7m (.bool ok) (.int .i64 p) (.int .i64 q) (.int .i64 f)) (show n ≤ n + (210 * cd + 1) by omega))
      have HTT := hide hth
      obtain ⟨x0, x1, x2, x3, xf⟩ := q2.facts4
      obtain ⟨y0, y1, y2, y3, yf⟩ := q3.facts4
      obtain ⟨s0, s1, s2, s3, sf⟩ := n2.facts4
      clear HB2 HM2 HG2 HTH hth q2 q3 n2 hG HIH
      go_wp2
      refine bodyPost_ret (v := .agg #[.bool ok, .int .i64 p, .int .i64 q, .int .i64 f]) (by simp [results, Tryz.results112, go_sem, y0, y1, y2, y3]) rfl ⟨ok, p, q, f, rfl, HTT.out, HG3.out, HM3.out⟩
end Go.Proofs.YtodamjjlnagpjaaGreatDoor
namespace Go.Proofs.YtodamjjlnagpjaaGreatDoor
open Go.RowKit

theorem cnt_le : ∀ d, d ≤ 6 → cnt d ≤ 1000000000000 := by
  intro d hd
  have : d = 0 ∨ d = 1 ∨ d = 2 ∨ d = 3 ∨ d = 4 ∨ d = 5 ∨ d = 6 := by omega
  rcases this with rfl | rfl | rfl | rfl | rfl | rfl | rfl <;> simp [cnt]
theorem best_set (w2 : World) (fv : Value) : Blk (((w2.alloc (.map #[] 0)).alloc (.cells #[.map (some w2.heap.size)] 193)).alloc (.cells #[fv] 194)) (w2.heap.size + 1 + 1) 194 #[fv] ∧
    Blk (((w2.alloc (.map #[] 0)).alloc (.cells #[.map (some w2.heap.size)] 193)).alloc (.cells #[fv] 194)) (w2.heap.size + 1) 193 #[.map (some w2.heap.size)] ∧
    MapOk (((w2.alloc (.map #[] 0)).alloc (.cells #[.map (some w2.heap.size)] 193)).alloc (.cells #[fv] 194)) w2.heap.size 0 ∧
    Below w2.heap.size w2 (((w2.alloc (.map #[] 0)).alloc (.cells #[.map (some w2.heap.size)] 193)).alloc (.cells #[fv] 194)) := by
  obtain ⟨h1, h2, h3⟩ := blk_two (w2.alloc (.map #[] 0)) 193 194 #[.map (some w2.heap.size)] #[fv]
  rw [World.size_alloc] at h1 h2 h3
  refine ⟨h2, h1, ((MapOk.made w2).alloc _).alloc _, ?_⟩
  exact (((Below.refl _ _).alloc (Nat.le_refl _) _).alloc (by simp) _).alloc (by simp; omega) _
theorem Blk.facts1 {w : World} {g : Nat} {t : TypeId} {a0 : Value} (h : Blk w g t #[a0]) : w.cell? ⟨g, 0, none⟩ = some a0 ∧ (∀ o, w.frozen? ⟨g, o, none⟩ = false) := by
  unfold Blk at h
  exact ⟨by simp [World.cell?, h], fun o => by simp [World.frozen?, h]⟩
theorem sum_pos : ∀ {fs : List Int}, (∀ f ∈ fs, 0 ≤ f) → 0 ≤ fs.sum
  | [], _ => by simp
  | a :: t, h => by
    have h2 := sum_pos (fs := t) (fun f hf => h f (List.mem_cons_of_mem _ hf))
    have h3 := h a (by simp)
    simp only [List.sum_cons]
    omega
def BesP (m : Nat) (rl : Int) (w : World) (e : Ending) (w' : World) : Prop := ∃ (v : Value) (er : Int) (fs : List Int), e = .returned (.tuple #[v, .int .i64 er]) ∧ (er = 0 → fs.length = m ∧ w'.ownsRow w.heap.size 3 1 v m (ints fs) ∧ (∀ f ∈ fs, 0 ≤ f) ∧ fs.sum ≤ rl) ∧ Below w.heap.size w w'
set_option maxHeartbeats 600000 in
set_option maxRecDepth 20000 in
theorem best_any (x : Stn) (gr rl : Int) (hgr : 1 ≤ gr ∧ gr ≤ 1000) (hrl : 0 ≤ rl ∧ rl ≤ 1073741824) (hg : StnG x) (w : World) (hs : x.ok w) :
    Calls Tryz.prog 85 #[.slice x.uA x.un x.uc, .slice x.sA x.sn x.sc, .int .i64 gr, .int .i64 rl] w (BesP x.un rl w) := by
  have HST := hide (station_any x gr rl hgr hrl hg w hs)
  obtain ⟨hl1, hl2, hl3⟩ := Stn.lens hs hg
  obtain ⟨uA, un, uc, us, sA, sn, sc, ss⟩ := x
  simp only at HST hl1 hl2 hl3 ⊢
  obtain rfl : sn = un := hl2
  obtain ⟨r0, r1⟩ := hrl
  clear hs hg hl1
  go_enter Tryz.func85, Tryz.ntmps85
  go_wp2_with fail
  refine HST.out.mono ?_
  rintro e w1 ⟨lA, ln, lc, er, ls, rfl, hst, hb1⟩
  have HS1 := hide hst
  have HB1 := hide hb1
  clear hst hb1 HST
  by_cases her : er = 0
  · subst her
    obtain ⟨hll, hln, hrow, hcl, hcg⟩ := HS1.out rfl
    obtain rfl : ln = sn := hln
    have hsl := sl_ownv hrow
    have HLL := hide hll
    have HCG := hide hcg
    have b2 := Blk.new w1 190 #[.slice lA ln lc]
    have h2 := bel1 (w := w1) (o := .cells #[.slice lA ln lc] 190)
    clear HS1 hll hrow hcg
    go_upto_region 4 with fail
    generalize w1.alloc _ = w2 at *
    have hz2 : w1.heap.size < w2.heap.size := b2.lt
    have hmm := @run_makeMap Tryz.prog
    have hmf : ∀ (fn : Fn) (first cap : Array Value) (w : World), (Instr.makeFunc fn first cap).run Tryz.prog w = .ok (.func fn first cap) w := fun _ _ _ _ => rfl
    have k4 := (best_set w2 .nilFunc).1
    obtain ⟨k5, m5, M5, h5⟩ := best_set w2 (.func (.func 112) #[] #[.pointer (some ⟨w1.heap.size, 0, none⟩), .pointer (some ⟨w2.heap.size + 1, 0, none⟩), .pointer (some ⟨w2.heap.size + 1 + 1, 0, none⟩)])
    obtain ⟨x0, xf⟩ := k4.facts1
    go_upto_region 7 with fail
    clear k4 x0 xf
    generalize ((w2.alloc _).alloc _).alloc _ = w3 at *
    have hB3 : BW w3 w1.heap.size (w2.heap.size + 1) (w2.heap.size + 1 + 1) w2.heap.size ln lc lA ls :=
      ⟨(b2.below h5 (by omega)).facts1.1, m5.facts1.1, k5.facts1.1, by omega, by omega, by omega, (hsl.thr h2).below h5, fun l hl => ((hcl l hl).thr h2).below h5, by have := m5.lt; omega⟩
    have HB3 := hide hB3
    have HM3 := hide M5
    have HW3 := hide (HB1.out.trans ((h2.trans (h5.mono h2.size)).mono HB1.out.size))
    have hg3 : w2.heap.size < w3.heap.size := M5.lt
    clear k5 m5 M5 h5 h2 b2 hcl hsl hB3 hmm hmf
    have HC6 := hide (cnt_le)
    go_wp2
    go_loopw [14, 15] (fun v lv wr => ∃ (fs : List Int) (lf : Int), fs.length ≤ ln ∧ lv = .int .i64 lf ∧ (0 ≤ lf ∧ lf + fs.sum = rl) ∧ (∀ f ∈ fs, 0 ≤ f) ∧ wr.ownsRow w3.heap.size 3 1 v fs.length (ints fs) ∧ w3.grownBy wr (some w2.heap.size) ∧ MapOk wr w2.heap.size (fs.length * 1000000000000)) (fun v lv wr => ln - (match v with | .slice _ n _ => n | _ => 0))
    case atStart => exact ⟨[], rl, by simp, rfl, ⟨r0, by simp⟩, by simp, World.ownsRow_nil _ _ _ _, grown_refl _ _, MapOk.mono HM3.out (by simp)⟩
    case round =>
      obtain ⟨fs, lf, hfl, rfl, ⟨hlf, hsum⟩, hpos, hv, hg, hM⟩ := hrel
      have HBr := hide (HB3.out.step hg)
      have HGr := hide hg
      have HMr := hide hM
      have HPOS := hide hpos
      have HSUM := hide hsum
      obtain ⟨k, hk⟩ : ∃ k, fs.length = k := ⟨_, rfl⟩
      have HK := hide hk
      rw [hk] at hfl hv hM
      rw [hk] at HMr
      obtain ⟨Av, cv, rfl, _⟩ := own_sl hv
      have HV := hide hv
      have hzr := hg.size
      have cl := HBr.out.cl
      clear hpos hv hg hM hsum hk
      have hlf1 : lf ≤ 1073741824 := by
        have h1 : 0 ≤ fs.sum := by
          exact sum_pos HPOS.out
        have := HSUM.out
        omega
      by_cases hlt : k < ln
      · have hki : (k : Int) < (ln : Int) := by omega
        have cb := HBr.out.cb
        have hc6 := HC6.out (ln - k) (by omega)
        have HC := hide (best1_any w1.heap.size (w2.heap.size + 1) (w2.heap.size + 1 + 1) w2.heap.size ln lc lA ls hl3 HLL.out HCG.out (ln - k) k lf (k * 1000000000000) wr (by omega) hlf hlf1 (by omega) HBr.out HMr.out)
        have hcf := cfB1
        go_wp2_with fail
        refine HC.out.mono ?_
        rintro e w6 ⟨ok6, a6, b6, f6, rfl, hf6, hg6, hM6⟩
        have HM6 := hide (hM6.mono (show k * 1000000000000 + cnt (ln - k) ≤ (k + 1) * 1000000000000 by omega))
        have HG6 := hide (grown_trans HGr.out hg6)
        have HV6 := hide (own_deck HV.out hg6 (by omega))
        have HF6 := hide hf6
        have hvl := fun g h => HV6.out.lt g h
        have p7 := Blk.new w6 197 #[.bool ok6, .int .i64 a6, .int .i64 b6, .int .i64 f6]
        have HM7 := hide (HM6.out.alloc (.cells #[.bool ok6, .int .i64 a6, .int .i64 b6, .int .i64 f6] 197))
        have HG7 := hide (grown_alloc HG6.out (.cells #[.bool ok6, .int .i64 a6, .int .i64 b6, .int .i64 f6] 197))
        have HV7 := hide (HV6.out.alloc (.cells #[.bool ok6, .int .i64 a6, .int .i64 b6, .int .i64 f6] 197))
        clear HC hcf cb cl hg6 hM6 hf6 HM6 HG6 HV6 hc6
        go_upto_region 11 with fail
        generalize w6.alloc _ = w7 at *
        obtain ⟨y0, y1, y2, y3, yf⟩ := p7.facts4
        cases ok6
        · have HBE := hide (below_grown HW3.out HG7.out HW3.out.size (by have := HB1.out.size; omega))
          go_wp2
          go_ret2
          exact ⟨_, 9, [], rfl, (fun h => by cases h), HBE.out⟩
        · obtain ⟨f0, f1⟩ := HF6.out rfl
          have hsz7 : w3.heap.size ≤ w7.heap.size := HG7.out.size
          go_wp2_with (at_builtin; refine wpList_push rfl _ _ _ rfl w3.heap.size _ _ slInt _ _ _ rfl HV7.out _ _ rfl rfl rfl (by omega) hsz7 ?_)
          intro v8 w8 hv8 hg8 hor8
          have p8 := p7.push hg8 (fun g h e => by have := (hvl g h).2; omega)
          have HM8 := hide (HM7.out.kept hg8 (fun e => by have := (hvl _ e).1; omega))
          have HG8 := hide (grown_push HG7.out hg8 (fun g h => (hvl g h).1))
          have HL8 := hide (show (fs ++ [f6]).length = k + 1 by rw [List.length_append, HK.out]; rfl)
          have hv8' := own_cells hv8 (show ints fs ++ [.int .i64 f6] = ints (fs ++ [f6]) by rw [ints_append]; rfl)
          have HV8 := hide hv8'
          have HP8 := hide (show ∀ f ∈ fs ++ [f6], 0 ≤ f from fun f hf => by
            rcases List.mem_append.1 hf with h | h
            · exact HPOS.out f h
            · rw [List.mem_singleton] at h; subst h; exact f0)
          have HS8 := hide (show lf - f6 + (fs ++ [f6]).sum = rl by have := HSUM.out; simp [List.sum_append]; omega)
          obtain ⟨A8, c8, rfl, _⟩ := own_sl hv8'
          clear y0 y1 y2 y3 yf p7 hv8 hv8' hg8 hor8 hvl
          obtain ⟨y0, y1, y2, y3, yf⟩ := p8.facts4
          go_wp2
          go_roundw
          case rel => exact ⟨fs ++ [f6], lf - f6, by rw [HL8.out]; omega, rfl, ⟨by omega, HS8.out⟩, HP8.out, by rw [HL8.out]; exact HV8.out, HG8.out, by rw [HL8.out]; exact HM8.out⟩
          case measure => simp only; omega
      · have hki : ¬ ((k : Int) < (ln : Int)) := by omega
        obtain rfl : k = ln := by omega
        have HBE := hide (below_grown HW3.out HGr.out HW3.out.size (by have := HB1.out.size; omega))
        have HVE := hide (ownsRow_base HV.out HW3.out.size)
        have HSE := hide (show fs.sum ≤ rl by have := HSUM.out; omega)
        go_wp2
        go_ret2
        exact ⟨_, 0, fs, rfl, fun _ => ⟨HK.out, HVE.out, HPOS.out, HSE.out⟩, HBE.out⟩
  · have herd : (er != 0) = true := by simpa using her
    go_wp2
    go_ret2
    exact ⟨_, er, [], rfl, fun h => absurd h her, HB1.out.alloc HB1.out.size _⟩
end Go.Proofs.YtodamjjlnagpjaaGreatDoor
