/-
  The contract of the reference's Order of conditions: the numbers by rank, and of one rank ascending. Condition: the list can be read, and is not longer than 1,000.
-/
import Derived.Test.YtphgddanbgdemaaDoorProg
import Derived.Test.YtphgddanbgdemaaDoorApp
import Derived.Test.YtphgddanbgdemaaDoorCds
import Derived.Deep.RegionLaw
import Derived.Deep.DrawnRows
namespace Go.Proofs.YtphgddanbgdemaaDoor
open Go.RowKit

def cdz : Cd := ⟨0, 0, 0, 0, 0, 0, 0⟩
def rkC (cs : List Cd) (x : Int) : Int := (cs.getD x.toNat cdz).rank
def ixs (n : Nat) : List Int := (List.range n).map fun k : Nat => (k : Int)
def RkR (cs : List Cd) (x y : Int) : Prop := rkC cs x < rkC cs y ∨ rkC cs x = rkC cs y ∧ x < y
/-- The first i numbers by rank, and of one rank ascending. -/
def OrdOf (cs : List Cd) (i : Nat) (os : List Int) : Prop := os.Pairwise (RkR cs) ∧ os.Perm (ixs i)
theorem ixs_succ (n : Nat) : ixs (n + 1) = ixs n ++ [(n : Int)] := by simp [ixs, List.range_succ]
theorem ixs_mem {n : Nat} {x : Int} : x ∈ ixs n ↔ 0 ≤ x ∧ x < n := by
  unfold ixs
  simp only [List.mem_map, List.mem_range]
  constructor
  · rintro ⟨k, hk, rfl⟩; omega
  · rintro ⟨h0, h1⟩; exact ⟨x.toNat, by omega, by omega⟩
theorem ixs_len (n : Nat) : (ixs n).length = n := by simp [ixs]
theorem OrdOf.len {cs : List Cd} {i : Nat} {os : List Int} (h : OrdOf cs i os) : os.length = i := by rw [h.2.length_eq, ixs_len]
theorem OrdOf.in_ {cs : List Cd} {i : Nat} {os : List Int} (h : OrdOf cs i os) {x : Int} (hx : x ∈ os) : 0 ≤ x ∧ x < i := ixs_mem.1 (h.2.mem_iff.1 hx)
theorem gd_mem {l : List Int} {i : Nat} (h : i < l.length) : l.getD i 0 ∈ l := by
  rw [List.getD_eq_getElem?_getD, List.getElem?_eq_getElem h]; exact List.getElem_mem h
theorem ord_ins {cs : List Cd} {i k : Nat} {os : List Int} (h : OrdOf cs i os) (hk : k ≤ i) (hlo : 0 < k → rkC cs (os.getD (k - 1) 0) ≤ rkC cs i) (hhi : ∀ j, k ≤ j → j < i → rkC cs i < rkC cs (os.getD j 0)) : OrdOf cs (i + 1) (os.take k ++ ((i : Int) :: os.drop k)) := by
  have hl := h.len
  have hsp : (os.take k ++ os.drop k).Pairwise (RkR cs) := by rw [List.take_append_drop]; exact h.1
  rw [List.pairwise_append] at hsp
  refine ⟨List.pairwise_append.2 ⟨hsp.1, List.pairwise_cons.2 ⟨fun y hy => ?_, hsp.2.1⟩, fun x hx y hy => ?_⟩, ?_⟩
  · obtain ⟨j, hj, rfl⟩ := List.mem_iff_getElem.1 hy
    rw [List.length_drop] at hj
    have h2 := hhi (k + j) (by omega) (by omega)
    left
    simpa [List.getD_eq_getElem?_getD, show k + j < os.length by omega] using h2
  · rcases List.mem_cons.1 hy with rfl | hy
    · obtain ⟨j, hj, rfl⟩ := List.mem_iff_getElem.1 hx
      rw [List.length_take] at hj
      have h2 := hlo (by omega)
      have hin := h.in_ (List.getElem_mem (show j < os.length by omega))
      have h3 : rkC cs (os[j]'(by omega)) ≤ rkC cs (os.getD (k - 1) 0) := by
        by_cases e : j = k - 1
        · subst e; simp [List.getD_eq_getElem?_getD, show k - 1 < os.length by omega]
        · have := List.pairwise_iff_getElem.1 h.1 j (k - 1) (by omega) (by omega) (by omega)
          have h4 : rkC cs (os[j]'(by omega)) ≤ rkC cs (os[k - 1]'(by omega)) := by rcases this with h | h <;> omega
          simpa [List.getD_eq_getElem?_getD, show k - 1 < os.length by omega] using h4
      rw [List.getElem_take]
      simp only [RkR]
      omega
    · exact hsp.2.2 x hx y hy
  · rw [ixs_succ]
    refine List.perm_middle.trans ?_
    rw [List.take_append_drop]
    exact (List.Perm.cons _ h.2).trans (List.perm_append_comm (l₁ := [(i : Int)]) (l₂ := ixs i))
theorem slIntO : SlT Tryd.prog 27 3 1 := slT_of (z := .int .i64 0) (bytes := 8) Tryd.underlying27 (by kernel_rfl) rfl (by decide) (by decide)
theorem own_capR {w : World} {base n c : Nat} {e : TypeId} {size : Nat} {A : Option Addr} {xs : List Value} (h : w.ownsRow base e size (.slice A n c) n xs) : n ≤ c ∧ c ≤ maxLen := by
  obtain ⟨A', c', he, hs⟩ := own_sl h
  injection he with _ _ h3
  subst h3
  exact ⟨hs.2.1, hs.2.2.1⟩
theorem own_cellI {w : World} {base n c g j : Nat} {xs : List Int} (h : w.ownsRow base 3 1 (.slice (some ⟨g, 0, none⟩) n c) n (ints xs)) (hj : j < n) : w.cell? ⟨g, j, none⟩ = some (.int .i64 (xs.getD j 0)) := by
  have hl : n = xs.length := by have := h.1; rw [ints_length] at this; omega
  have hc := h.cells (g := g) rfl j _ (ints_get xs j (by omega))
  rwa [show (⟨g, 0, none⟩ : Addr).add j = ⟨g, 0 + j, none⟩ from by unfold Addr.add; split <;> simp_all, Nat.zero_add] at hc
/-- A row of one integer, just built. -/
theorem own_new1 (w : World) {base : Nat} (hb : base ≤ w.heap.size) (x : Int) : (w.alloc (.cells #[.int .i64 x] 3)).ownsRow base 3 1 (.slice (some ⟨w.heap.size, 0, none⟩) 1 1) 1 (ints [x]) :=
  ⟨rfl, .inr ⟨w.heap.size, 1, #[.int .i64 x], rfl, hb, heap_alloc_new _ _, Nat.le_refl _, by unfold maxLen; omega, rfl, rfl⟩⟩
theorem own_prefix {w : World} {base n c g k : Nat} {xs : List Int} (h : w.ownsRow base 3 1 (.slice (some ⟨g, 0, none⟩) n c) n (ints xs)) (hk : k ≤ n) : w.ownsRow base 3 1 (.slice (some ⟨g, 0, none⟩) k c) k (ints (xs.take k)) := by
  have hl : n = xs.length := by have := h.1; rw [ints_length] at this; omega
  refine ⟨by rw [ints_length, List.length_take]; omega, ?_⟩
  rcases h.2 with ⟨h2, _⟩ | ⟨g', cap, cur, hv, hg, hh, h3, h4, h5, h6⟩
  · simp at h2
  · injection hv with e1 e2 e3
    refine .inr ⟨g', cap, cur, by rw [← e1, e3], hg, hh, by omega, h4, h5, ?_⟩
    rw [Nat.mul_one] at h6 ⊢
    have : cur.toList.take k = (cur.toList.take n).take k := by rw [List.take_take, Nat.min_eq_left hk]
    rw [this, h6]
    simp [ints, List.map_take]
/-- An append at a step of a region that draws, out of its run. -/
theorem step_append_run {P : Program} {ops : Array Oper} {o : Oper} {a : Act} {w : World} {K : Act → World → Prop} {Q : Exit → Act → World → Prop} {E : Prop} (hgd : o.guard = none) (s x : Operand) (t : TypeId)
    (ho : o.op = .call { callee := .builtin .append, args := #[s, x], argTypes := #[t, t] }) (vs vx v1 : Value) (w1 : World) (hs : a.eval s = vs) (hx : a.eval x = vx)
    (hr : (Builtin.append_ #[t, t] o.type #[vs, vx]).run P w = .ok v1 w1) (h : K (a.put o.dst v1) w1) :
    if Region.wanted o (yielded ops a.tmps) = true then Oper.wp P o a w K Q else E := by
  have hw : Region.wanted o (yielded ops a.tmps) = true := by simp [Region.wanted, hgd]
  rw [if_pos hw]
  unfold Oper.wp execOp
  simp only [ho, resolve, invoke, builtin, Sem.run_bind, Sem.run_pure, Result.andThen_ok, List.map_toArray, List.map_cons, List.map_nil, hs, hx, hr]
  exact h
theorem own_drew {w : World} {base : Nat} {e : TypeId} {size n : Nat} {v : Value} {xs : List Value} (h : w.ownsRow base e size v n xs) : w.drew.ownsRow base e size v n xs := h
/-- What 'append(out[:k], append([]int{x}, out[k:]...)...)' leaves. -/
def InsRun (w : World) (base g n c k off c' : Nat) (x : Int) (os : List Int) : Prop := ∃ v1 w1 v2 w2, (Builtin.append_ #[27, 27] 27 #[.slice (some ⟨w.heap.size, 0, none⟩) 1 1, .slice (some ⟨g, off, none⟩) (n - k) c']).run Tryd.prog (w.alloc (.cells #[.int .i64 x] 3)).drew = .ok v1 w1 ∧
  (Builtin.append_ #[27, 27] 27 #[.slice (some ⟨g, 0, none⟩) k c, v1]).run Tryd.prog w1 = .ok v2 w2 ∧ w2.ownsRow base 3 1 v2 (n + 1) (ints (os.take k ++ (x :: os.drop k))) ∧ Below base w w2
theorem ins_run (w : World) (base g n c k off c' : Nat) (x : Int) (os : List Int) (hn : n ≤ 1000) (hk : k ≤ n) (hoff : k < n → off = k) (hb : base ≤ w.heap.size) (h : w.ownsRow base 3 1 (.slice (some ⟨g, 0, none⟩) n c) n (ints os)) : InsRun w base g n c k off c' x os := by
  have hl : n = os.length := by have := h.1; rw [ints_length] at this; omega
  obtain ⟨ht, i, z, bytes, hi, hz, hsize, hby, hzs, hsz, hb256⟩ := slIntO
  have hgl := h.lt g rfl
  have hown1 : (w.alloc (.cells #[.int .i64 x] 3)).drew.ownsRow base 3 1 (.slice (some ⟨w.heap.size, 0, none⟩) 1 1) 1 (ints [x]) := own_drew (own_new1 w hb x)
  have hout : (w.alloc (.cells #[.int .i64 x] 3)).drew.ownsRow base 3 1 (.slice (some ⟨g, 0, none⟩) n c) n (ints os) := own_drew (h.alloc _)
  have hnb : (1 + (n - k)) * bytes ≤ 2000 * 256 := Nat.mul_le_mul (by omega) hb256
  obtain ⟨v1, w1, hr1, ho1, hg1, _, h5⟩ := run_append_own_at (P := Tryd.prog) (w.alloc (.cells #[.int .i64 x] 3)).drew base 27 27 3 i z 1 bytes ht hi hz hsize hby hzs hsz _ 1 _ hown1 ⟨g, off, none⟩ (n - k) c' (ints (os.drop k))
    (by rw [ints_length, List.length_drop, hl, Nat.mul_one]) (fun j u hu => by
      have hj : j < n - k := by
        have := (List.getElem?_eq_some_iff.1 hu).1
        rw [ints_length, List.length_drop] at this; omega
      rw [hoff (by omega)]
      have hc := hout.cells (g := g) rfl (k + j) u (by unfold ints at hu ⊢; rw [List.map_drop, List.getElem?_drop] at hu; exact hu)
      rw [show (⟨g, k, none⟩ : Addr).add j = ⟨g, k + j, none⟩ from by unfold Addr.add; split <;> simp_all]
      rw [show (⟨g, 0, none⟩ : Addr).add (k + j) = ⟨g, 0 + (k + j), none⟩ from by unfold Addr.add; split <;> simp_all, Nat.zero_add] at hc
      exact hc) (fun u hu => by
      obtain ⟨y, _, rfl⟩ := List.mem_map.1 hu
      rfl) (by unfold maxLen; omega) (by omega) (by simp; omega)
  obtain ⟨g1, c1, rfl, q1, q2⟩ := ho1.form (by omega)
  have hout1 : w1.ownsRow base 3 1 (.slice (some ⟨g, 0, none⟩) n c) n (ints os) := hout.kept hg1 (.inr (by simp only [Value.ownBlock]; intro e; injection e; omega))
  have hpre := own_prefix hout1 hk
  have hnb2 : (k + (1 + (n - k))) * bytes ≤ 2000 * 256 := Nat.mul_le_mul (by omega) hb256
  have hz1 := hg1.size
  simp only [World.drew, World.size_alloc] at hz1
  obtain ⟨v2, w2, hr2, ho2, hg2, _, _⟩ := run_append_own_at (P := Tryd.prog) w1 base 27 27 3 i z 1 bytes ht hi hz hsize hby hzs hsz _ k _ hpre ⟨g1, 0, none⟩ (1 + (n - k)) c1 (ints [x] ++ ints (os.drop k))
    ho1.1 (fun j u hu => ho1.cells (g := g1) rfl j u hu) (fun u hu => by
      rw [← ints_append] at hu
      obtain ⟨y, _, rfl⟩ := List.mem_map.1 hu
      rfl) (by unfold maxLen; omega) (by omega) (by omega)
  refine ⟨_, w1, v2, w2, hr1, hr2, ?_, ?_⟩
  · rw [show k + (1 + (n - k)) = n + 1 by omega] at ho2
    rw [ints_append, show ints (x :: os.drop k) = ints [x] ++ ints (os.drop k) from rfl]
    exact ho2
  · have B1 : Below base w (w.alloc (.cells #[.int .i64 x] 3)).drew := ((Below.refl base w).alloc hb _).drew
    have B2 := B1.grown hg1 (by simp only [World.drew, World.size_alloc]; omega) (fun k hk => by simp only [Value.ownBlock] at hk; injection hk; omega)
    exact B2.grown hg2 (by omega) (fun k hk => by simp only [Value.ownBlock] at hk; injection hk; omega)
/-- The same at no element: 'append(nil, append([]int{x}, nil...)...)'. -/
theorem nil_run (w : World) (base : Nat) (x : Int) (hb : base ≤ w.heap.size) : ∃ v2 w2, (Builtin.append_ #[27, 27] 27 #[.slice (some ⟨w.heap.size, 0, none⟩) 1 1, .slice none 0 0]).run Tryd.prog (w.alloc (.cells #[.int .i64 x] 3)).drew = .ok (.slice (some ⟨w.heap.size, 0, none⟩) 1 1) (w.alloc (.cells #[.int .i64 x] 3)).drew ∧
    (Builtin.append_ #[27, 27] 27 #[.slice none 0 0, .slice (some ⟨w.heap.size, 0, none⟩) 1 1]).run Tryd.prog (w.alloc (.cells #[.int .i64 x] 3)).drew = .ok v2 w2 ∧ w2.ownsRow base 3 1 v2 1 (ints [x]) ∧ Below base w w2 := by
  obtain ⟨ht, i, z, bytes, hi, hz, hsize, hby, hzs, hsz, hb256⟩ := slIntO
  have hown1 : (w.alloc (.cells #[.int .i64 x] 3)).drew.ownsRow base 3 1 (.slice (some ⟨w.heap.size, 0, none⟩) 1 1) 1 (ints [x]) := own_drew (own_new1 w hb x)
  have hnb : (0 + 1) * bytes ≤ 2000 * 256 := Nat.mul_le_mul (by omega) hb256
  obtain ⟨v2, w2, hr2, ho2, hg2, _, _⟩ := run_append_own_at (P := Tryd.prog) (w.alloc (.cells #[.int .i64 x] 3)).drew base 27 27 3 i z 1 bytes ht hi hz hsize hby hzs hsz (.slice none 0 0) 0 [] (World.ownsRow_nil _ _ _ _) ⟨w.heap.size, 0, none⟩ 1 1 (ints [x])
    rfl (fun j u hu => hown1.cells (g := w.heap.size) rfl j u hu) (fun u hu => by
      obtain ⟨y, _, rfl⟩ := List.mem_map.1 hu
      rfl) (by unfold maxLen; omega) (by omega) (by simp; omega)
  refine ⟨v2, w2, ?_, hr2, by rwa [Nat.zero_add, List.nil_append] at ho2, ?_⟩
  · simp [Builtin.append_, run_underlying ht, sizeOf, typeInfo, hi, Builtin.lenOf, Builtin.firstCells, storeCells]
  · have B1 : Below base w (w.alloc (.cells #[.int .i64 x] 3)).drew := ((Below.refl base w).alloc hb _).drew
    exact B1.grown hg2 (by simp only [World.drew, World.size_alloc]; omega) (fun k hk => by simp [Value.ownBlock] at hk)
theorem rk_at {cs : List Cd} {k : Nat} (h : k < cs.length) {r kd v f t x y : Int} (he : cs[k] = ⟨r, kd, v, f, t, x, y⟩) : rkC cs k = r := by
  unfold rkC; simp [List.getD_eq_getElem?_getD, h, he]
def ROrdPost (w : World) (n : Nat) (cs : List Cd) (e : Ending) (w' : World) : Prop := ∃ v os, e = .returned v ∧ OrdOf cs n os ∧ w'.ownsRow w.heap.size 3 1 v n (ints os) ∧ Below w.heap.size w w'
attribute [local go_sem ↓] Go.wp_at_zero Go.wp_at_succ
set_option maxHeartbeats 3200000 in
set_option maxRecDepth 20000 in
theorem rorder_any (A : Option Addr) (n c : Nat) (cs : List Cd) (w : World) (hn : n ≤ 1000) (hs : Sl w w.heap.size 7 A n c (cdCells cs)) : Calls Tryd.prog 41 #[.slice A n c] w (ROrdPost w n cs) := by
  have hl : n = cs.length := by have := hs.1; rw [cdCells_length] at this; omega
  have HL := hide hl
  have HS := hide hs
  clear hl hs
  go_enter Tryd.func41, Tryd.ntmps41
  go_wp2
  go_loopw [3, 9] (fun v i wr => ∃ (k : Nat) (os : List Int), k ≤ n ∧ i = .int .i64 k ∧ Hid (OrdOf cs k os) ∧ wr.ownsRow w.heap.size 3 1 v k (ints os) ∧ (k = 0 → v = .slice none 0 0) ∧ Below w.heap.size w wr) (fun _ i _ => n - (intOf i).toNat)
  case atStart => exact ⟨0, [], by omega, rfl, hide ⟨List.Pairwise.nil, List.Perm.refl _⟩, World.ownsRow_nil _ _ _ _, fun _ => rfl, Below.refl _ _⟩
  case round =>
    obtain ⟨k, os, hk, rfl, ho, hv, hv0, hb⟩ := hrel
    by_cases hlt : k < n
    · obtain ⟨b, o, rfl, hb1, hc⟩ := (HS.out.below hb).at_ hlt
      have hL := HL.out
      rcases he : cs[k]'(by omega) with ⟨r, kd, vv, f, t, x, y⟩
      obtain ⟨c0, c1, c2, c3, c4, c5, c6⟩ := cd_cells (B := 0) (n := 0) (c := 0) hc (by omega) he
      have HRK := hide (rk_at (by omega) he)
      have hb2 := hb.alloc hb.size (.cells (Cd.arr ⟨r, kd, vv, f, t, x, y⟩) 47)
      have h5 := Blk.new wr 47 (Cd.arr ⟨r, kd, vv, f, t, x, y⟩)
      have hv5 := hv.alloc (.cells (Cd.arr ⟨r, kd, vv, f, t, x, y⟩) 47)
      have hS2 := (HS.out.below hb).alloc hb.size (.cells (Cd.arr ⟨r, kd, vv, f, t, x, y⟩) 47)
      unfold Cd.arr at hb2 h5 hv5 hS2
      have hzz := hb.size
      clear hc he hv hb hL
      by_cases hk0 : k = 0
      · obtain rfl := hv0 hk0
        subst hk0
        simp only [Nat.zero_mul, Nat.add_zero] at c0 c1 c2 c3 c4 c5 c6
        have hos : os = [] := List.eq_nil_of_length_eq_zero ho.out.len
        have HO := hide (show OrdOf cs 1 [((0 : Nat) : Int)] from ⟨List.pairwise_singleton _ _, List.Perm.refl _⟩)
        clear hv5 hS2 hv0 ho
        go_wp2_with fail
        obtain ⟨w0, hw0⟩ : ∃ w0 : World, w0 = wr.alloc (.cells #[.int .i64 r, .int .i64 kd, .int .i64 vv, .int .i64 f, .int .i64 t, .int .i64 x, .int .i64 y] 47) := ⟨_, rfl⟩
        have hz0 : w0.heap.size = wr.heap.size + 1 := by rw [hw0]; simp
        rw [← hw0] at hb2 h5 ⊢
        clear hw0
        have hd0 : decide ((0 : Int) < 0) = false := rfl
        refine wp_loop_rounds 1 ?_
        rw [rounds_succ]
        go_wp2_with fail
        go_quiet (fail)
        go_wp2_with fail
        generalize hwz : w0.drewN _ = wz
        have hsz : wz.heap.size = w0.heap.size := by rw [← hwz]; rfl
        have hbz : Below w.heap.size w wz := by rw [← hwz]; exact below_drewN hb2 _
        clear hwz
        obtain ⟨v2, w2, r1, r2, r3, r4⟩ := nil_run wz w.heap.size ((0 : Nat) : Int) (by omega)
        rw [hsz] at r1 r2
        have R1 := hide r1
        have R2 := hide r2
        have R3 := hide r3
        have R4 := hide (hbz.trans r4)
        clear r1 r2 r3 r4 hbz h5 hb2
        go_region_law (first | ((refine step_append_run rfl (.tmp 38) (.tmp 41) 27 rfl _ _ _ _ (by simp [Act.eval]) (by simp [Act.eval]) R1.out ?_)) | ((refine step_append_run rfl (.tmp 36) (.tmp 42) 27 rfl _ _ v2 w2 (by simp [Act.eval]) (by simp [Act.eval]) R2.out ?_)))
        go_wp2
        go_roundw
        case rel => exact ⟨1, [((0 : Nat) : Int)], by omega, rfl, HO, R3.out, fun h => by omega, R4.out⟩
        case measure => simp [intOf]; omega
      · obtain ⟨g, cq, rfl, g0, g1⟩ := hv5.form (by omega)
        have hcq := own_capR hv5
        have hmm := hcq.2
        unfold maxLen at hmm
        have HV5 := hide hv5
        clear hv5 hv0
        go_wp2_with fail
        obtain ⟨w0, hw0⟩ : ∃ w0 : World, w0 = wr.alloc (.cells #[.int .i64 r, .int .i64 kd, .int .i64 vv, .int .i64 f, .int .i64 t, .int .i64 x, .int .i64 y] 47) := ⟨_, rfl⟩
        have hz0 : w0.heap.size = wr.heap.size + 1 := by rw [hw0]; simp
        rw [← hw0] at hb2 h5 HV5 hS2 g1 ⊢
        clear hw0
        have hcell := h5.facts.1 0
        simp only [List.getElem?_toArray, List.getElem?_cons_zero] at hcell
        have HS2 := hide hS2
        clear h5 hS2
        go_loopw [6] (fun vq wq => ∃ q m : Nat, q ≤ k ∧ vq = .int .i64 q ∧ Hid (∀ j, q ≤ j → j < k → r < rkC cs (os.getD j 0)) ∧ wq = w0.drewN m) (fun vq _ => (intOf vq).toNat)
        case atStart => exact ⟨k, 0, by omega, rfl, hide (fun j h1 h2 => by omega), rfl⟩
        case round =>
          obtain ⟨q, m, hq, rfl, hh, rfl⟩ := hrel
          have hqc : q < cq ∨ q = cq := by omega
          by_cases hq0 : q = 0
          · subst hq0
            have HN := hide (show OrdOf cs (k + 1) (os.take 0 ++ ((k : Int) :: os.drop 0)) from ord_ins ho.out (Nat.zero_le _) (fun h => by omega) (fun j h1 h2 => by rw [HRK.out]; exact hh.out j h1 h2))
            have hd0 : decide ((0 : Int) < ((0 : Nat) : Int)) = false := rfl
            have hcq0 : ¬ ((0 : Int) = (cq : Int)) := by omega
            go_wp2_with fail
            go_quiet (fail)
            go_wp2_with fail
            generalize hwz : w0.drewN _ = wz
            try generalize hwy : wz.drewN _ = wy
            have hsz : wy.heap.size = w0.heap.size := by rw [← hwy, ← hwz]; rfl
            have hbz : Below w.heap.size w wy := by rw [← hwy, ← hwz]; exact below_drewN (below_drewN hb2 _) _
            have hvz : wy.ownsRow w.heap.size 3 1 (.slice (some ⟨g, 0, none⟩) k cq) k (ints os) := by rw [← hwy, ← hwz]; exact HV5.out
            clear hwy hwz
            obtain ⟨v1, w1, v2, w2, r1, r2, r3, r4⟩ := ins_run wy w.heap.size g k cq 0 0 cq (k : Int) os (by omega) (by omega) (fun _ => rfl) (by omega) hvz
            rw [hsz] at r1
            have R1 := hide r1
            have R2 := hide r2
            have R3 := hide r3
            have R4 := hide (hbz.trans r4)
            clear r1 r2 r3 r4 hbz hvz hb2
            go_region_law (first | ((refine step_append_run rfl (.tmp 38) (.tmp 41) 27 rfl _ _ v1 w1 (by simp [Act.eval]) (by simp [Act.eval]) R1.out ?_)) | ((refine step_append_run rfl (.tmp 36) (.tmp 42) 27 rfl _ _ v2 w2 (by simp [Act.eval]) (by simp [Act.eval]) R2.out ?_)))
            go_wp2
            go_roundw
            case rel => exact ⟨k + 1, _, by omega, by go_num, HN, R3.out, fun h => by omega, R4.out⟩
            case measure => simp [intOf]; omega
          · obtain ⟨z, hz⟩ : ∃ z, q = z + 1 := ⟨q - 1, by omega⟩
            have hqz : (q : Int) - 1 = (z : Int) := by omega
            have HQZ := hide hz
            have hlo := ho.out.len
            obtain ⟨p0, p1⟩ := ho.out.in_ (gd_mem (show z < os.length by omega))
            obtain ⟨p, hp⟩ : ∃ p : Nat, os.getD z 0 = (p : Int) := ⟨(os.getD z 0).toNat, by omega⟩
            have co := own_cellI HV5.out (j := z) (by omega)
            rw [hp] at co
            obtain ⟨b2, o2, e2, _, hc2⟩ := HS2.out.at_ (k := p) (by omega)
            obtain ⟨rfl, rfl⟩ : b = b2 ∧ o = o2 := by injection e2 with e; injection e with e1 e3; exact ⟨e1, e3⟩
            have hL := HL.out
            rcases ep : cs[p]'(by omega) with ⟨rp, kd2, vv2, f2, t2, x2, y2⟩
            have d0 := (cd_cells (B := 0) (n := 0) (c := 0) hc2 (by omega) ep).1
            have hrp := rk_at (by omega) ep
            have i0 : (0 : Int) ≤ (z : Int) := by omega
            have i1 : (z : Int) < (k : Int) := by omega
            have i2 : (0 : Int) ≤ (p : Int) := by omega
            have i3 : (p : Int) < (n : Int) := by omega
            have i4 : decide ((0 : Int) < (q : Int)) = true := decide_eq_true (by omega)
            have i5 : 0 < q := by omega
            have i6 : decide (0 < q) = true := decide_eq_true i5
            have HP := hide hp
            have hpc : rkC cs (os.getD z 0) = rp := by rw [hp, hrp]
            have HPC := hide hpc
            clear e2 hc2 ep hrp hL hp p0 p1 hpc hz
            by_cases hcmp : r < rp
            · have HHN := hide (fun (j : Nat) (h1 : z ≤ j) (h2 : j < k) => show r < rkC cs (os.getD j 0) by
                by_cases e : j = z
                · rw [e, HPC.out]; exact hcmp
                · exact hh.out j (by have := HQZ.out; omega) h2)
              go_wp2_with fail
              go_quiet (fail)
              go_wp2
              go_roundw
              case rel => exact ⟨z, _, by omega, rfl, HHN, rfl⟩
              case measure => simp [intOf]; have := HQZ.out; omega
            · have HN := hide (show OrdOf cs (k + 1) (os.take q ++ ((k : Int) :: os.drop q)) from ord_ins ho.out hq (fun h => by rw [HRK.out, show q - 1 = z by have := HQZ.out; omega, HPC.out]; omega) (fun j h1 h2 => by rw [HRK.out]; exact hh.out j h1 h2))
              have hd0 : decide (r < rp) = false := decide_eq_false hcmp
              clear hh HPC HP
              have hqk : (q : Int) ≤ (k : Int) := by omega
              by_cases hqc : q = cq
              · have hkq : k = q := by omega
                subst hqc
                subst hkq
                go_wp2_with fail
                go_quiet (fail)
                go_wp2_with fail
                generalize hwz : w0.drewN _ = wz
                generalize hwy : wz.drewN _ = wy
                have hsz : wy.heap.size = w0.heap.size := by rw [← hwy, ← hwz]; rfl
                have hbz : Below w.heap.size w wy := by rw [← hwy, ← hwz]; exact below_drewN (below_drewN hb2 _) _
                have hvz : wy.ownsRow w.heap.size 3 1 (.slice (some ⟨g, 0, none⟩) k k) k (ints os) := by rw [← hwy, ← hwz]; exact HV5.out
                clear hwy hwz
                obtain ⟨v1, w1, v2, w2, r1, r2, r3, r4⟩ := ins_run wy w.heap.size g k k k 0 0 (k : Int) os (by omega) (by omega) (fun _ => by omega) (by omega) hvz
                rw [hsz] at r1
                have R1 := hide r1
                have R2 := hide r2
                have R3 := hide r3
                have R4 := hide (hbz.trans r4)
                clear r1 r2 r3 r4 hbz hvz hb2
                go_region_law (first | ((refine step_append_run rfl (.tmp 38) (.tmp 41) 27 rfl _ _ v1 w1 (by simp [Act.eval]) (by simp [Act.eval]) R1.out ?_)) | ((refine step_append_run rfl (.tmp 36) (.tmp 42) 27 rfl _ _ v2 w2 (by simp [Act.eval]) (by simp [Act.eval]) R2.out ?_)))
                go_wp2
                go_roundw
                case rel => exact ⟨k + 1, _, by omega, by go_num, HN, R3.out, fun h => by omega, R4.out⟩
                case measure => simp [intOf]; omega
              have hne : ¬ ((q : Int) = (cq : Int)) := by omega
              have hlt2 : (q : Int) < (cq : Int) := by omega
              have n1 : ¬ (cq = q) := by omega
              have n2 : q ≤ cq := by omega
              go_wp2_with fail
              go_quiet (fail)
              go_wp2_with fail
              generalize hwz : w0.drewN _ = wz
              generalize hwy : wz.drewN _ = wy
              have hsz : wy.heap.size = w0.heap.size := by rw [← hwy, ← hwz]; rfl
              have hbz : Below w.heap.size w wy := by rw [← hwy, ← hwz]; exact below_drewN (below_drewN hb2 _) _
              have hvz : wy.ownsRow w.heap.size 3 1 (.slice (some ⟨g, 0, none⟩) k cq) k (ints os) := by rw [← hwy, ← hwz]; exact HV5.out
              clear hwy hwz
              obtain ⟨v1, w1, v2, w2, r1, r2, r3, r4⟩ := ins_run wy w.heap.size g k cq q q (cq - q) (k : Int) os (by omega) (by omega) (fun _ => by omega) (by omega) hvz
              rw [hsz] at r1
              have R1 := hide r1
              have R2 := hide r2
              have R3 := hide r3
              have R4 := hide (hbz.trans r4)
              clear r1 r2 r3 r4 hbz hvz hb2
              go_region_law (first | ((refine step_append_run rfl (.tmp 38) (.tmp 41) 27 rfl _ _ v1 w1 (by simp [Act.eval]) (by simp [Act.eval]) R1.out ?_)) | ((refine step_append_run rfl (.tmp 36) (.tmp 42) 27 rfl _ _ v2 w2 (by simp [Act.eval]) (by simp [Act.eval]) R2.out ?_)))
              go_wp2
              go_roundw
              case rel => exact ⟨k + 1, _, by omega, by go_num, HN, R3.out, fun h => by omega, R4.out⟩
              case measure => simp [intOf]; omega
    · obtain rfl : k = n := by omega
      have HO := hide ho.out
      have HV := hide hv
      clear hv ho
      go_wp2
      go_ret
      exact ⟨_, os, rfl, HO.out, HV.out, hb⟩
end Go.Proofs.YtphgddanbgdemaaDoor
