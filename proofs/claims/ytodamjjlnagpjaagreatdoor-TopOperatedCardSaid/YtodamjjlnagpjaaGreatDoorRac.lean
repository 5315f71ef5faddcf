/-
  The contract of the reference's Order of conditions: the numbers by rank, and of one rank ascending. Condition: the list can be read, and is not longer than 1,000.
  The contract of the reference's Active of conditions: the part of the order that applies. Conditions: each condition is valid, there are 200 at most, and the day and the level are valid.
-/
import Derived.Test.YtodamjjlnagpjaaGreatDoorProg
import Derived.Test.YtodamjjlnagpjaaGreatDoorTpd
import Derived.Deep.RegionLaw
import Derived.Deep.DrawnRows
import Derived.Test.YtodamjjlnagpjaaGreatDoorRap
namespace Go.Proofs.YtodamjjlnagpjaaGreatDoor
open Go.RowKit

def cdz : Cd := ⟨0, 0, 0, 0, 0, 0, 0⟩
def rkC (cs : List Cd) (x : Int) : Int := (cs.getD x.toNat cdz).rank
def ixs (n : Nat) : List Int := (List.range n).map fun k : Nat => (k : Int)
def RkR (cs : List Cd) (x y : Int) : Prop := rkC cs x < rkC cs y ∨ rkC cs x = rkC cs y ∧ x < y
/-- The first i numbers by rank, and of one rank ascending. -/
def OrdOf (cs : List Cd) (i : Nat) (os : List Int) : Prop := os.Pairwise (RkR cs) ∧ os.Perm (ixs i)
theorem ixs_succ (n : Nat) : ixs (n + 1) = ixs n ++ [(n : Int)] := by simp [ixs, List.range_succ]
theorem ixs_mem {n : Nat} {x : Int} : x ∈ ixs n ↔ 0 ≤ x ∧ x < n := by
  unfold ixs
  simp only [List.mem_map, List.mem_range]
  constructor
  · rintro ⟨k, hk, rfl⟩; omega
  · rintro ⟨h0, h1⟩; exact ⟨x.toNat, by omega, by omega⟩
theorem ixs_len (n : Nat) : (ixs n).length = n := by simp [ixs]
theorem OrdOf.len {cs : List Cd} {i : Nat} {os : List Int} (h : OrdOf cs i os) : os.length = i := by rw [h.2.length_eq, ixs_len]
theorem OrdOf.in_ {cs : List Cd} {i : Nat} {os : List Int} (h : OrdOf cs i os) {x : Int} (hx : x ∈ os) : 0 ≤ x ∧ x < i := ixs_mem.1 (h.2.mem_iff.1 hx)
theorem gd_mem {l : List Int} {i : Nat} (h : i < l.length) : l.getD i 0 ∈ l := by
  rw [List.getD_eq_getElem?_getD, List.getElem?_eq_getElem h]; exact List.getElem_mem h
theorem ord_ins {cs : List Cd} {i k : Nat} {os : List Int} (h : OrdOf cs i os) (hk : k ≤ i) (hlo : 0 < k → rkC cs (os.getD (k - 1) 0) ≤ rkC cs i) (hhi : ∀ j, k ≤ j → j < i → rkC cs i < rkC cs (os.getD j 0)) : OrdOf cs (i + 1) (os.take k ++ ((i : Int) :: os.drop k)) := by
  have hl := h.len
  have hsp : (os.take k ++ os.drop k).Pairwise (RkR cs) := by rw [List.take_append_drop]; exact h.1
  rw [List.pairwise_append] at hsp
  refine ⟨List.pairwise_append.2 ⟨hsp.1, List.pairwise_cons.2 ⟨fun y hy => ?_, hsp.2.1⟩, fun x hx y hy => ?_⟩, ?_⟩
  · obtain ⟨j, hj, rfl⟩ := List.mem_iff_getElem.1 hy
    rw [List.length_drop] at hj
    have h2 := hhi (k + j) (by omega) (by omega)
    left
    simpa [List.getD_eq_getElem?_getD, show k + j < os.length by omega] using h2
  · rcases List.mem_cons.1 hy with rfl | hy
    · obtain ⟨j, hj, rfl⟩ := List.mem_iff_getElem.1 hx
      rw [List.length_take] at hj
      have h2 := hlo (by omega)
      have hin := h.in_ (List.getElem_mem (show j < os.length by omega))
      have h3 : rkC cs (os[j]'(by omega)) ≤ rkC cs (os.getD (k - 1) 0) := by
        by_cases e : j = k - 1
        · subst e; simp [List.getD_eq_getElem?_getD, show k - 1 < os.length by omega]
        · have := List.pairwise_iff_getElem.1 h.1 j (k - 1) (by omega) (by omega) (by omega)
          have h4 : rkC cs (os[j]'(by omega)) ≤ rkC cs (os[k - 1]'(by omega)) := by rcases this with h | h <;> omega
          simpa [List.getD_eq_getElem?_getD, show k - 1 < os.length by omega] using h4
      rw [List.getElem_take]
      simp only [RkR]
      omega
    · exact hsp.2.2 x hx y hy
  · rw [ixs_succ]
    refine List.perm_middle.trans ?_
    rw [List.take_append_drop]
    exact (List.Perm.cons _ h.2).trans (List.perm_append_comm (l₁ := [(i : Int)]) (l₂ := ixs i))
theorem slIntO : SlT Tryz.prog 22 3 1 := slT_of (z := .int .i64 0) (bytes := 8) Tryz.underlying22 (by kernel_rfl) rfl (by decide) (by decide)
theorem own_capR {w : World} {base n c : Nat} {e : TypeId} {size : Nat} {A : Option Addr} {xs : List Value} (h : w.ownsRow base e size (.slice A n c) n xs) : n ≤ c ∧ c ≤ maxLen := by
  obtain ⟨A', c', he, hs⟩ := own_sl h
  injection he with _ _ h3
  subst h3
  exact ⟨hs.2.1, hs.2.2.1⟩
theorem own_cellI {w : World} {base n c g j : Nat} {xs : List Int} (h : w.ownsRow base 3 1 (.slice (some ⟨g, 0, none⟩) n c) n (ints xs)) (hj : j < n) : w.cell? ⟨g, j, none⟩ = some (.int .i64 (xs.getD j 0)) := by
  have hl : n = xs.length := by have := h.1; rw [ints_length] at this; omega
  have hc := h.cells (g := g) rfl j _ (ints_get xs j (by omega))
  rwa [show (⟨g, 0, none⟩ : Addr).add j = ⟨g, 0 + j, none⟩ from by unfold Addr.add; split <;> simp_all, Nat.zero_add] at hc
/-- A row of one integer, just built. -/
theorem own_new1 (w : World) {base : Nat} (hb : base ≤ w.heap.size) (x : Int) : (w.alloc (.cells #[.int .i64 x] 3)).ownsRow base 3 1 (.slice (some ⟨w.heap.size, 0, none⟩) 1 1) 1 (ints [x]) :=
  ⟨rfl, .inr ⟨w.heap.size, 1, #[.int .i64 x], rfl, hb, heap_alloc_new _ _, Nat.le_refl _, by unfold maxLen; omega, rfl, rfl⟩⟩
theorem own_prefix {w : World} {base n c g k : Nat} {xs : List Int} (h : w.ownsRow base 3 1 (.slice (some ⟨g, 0, none⟩) n c) n (ints xs)) (hk : k ≤ n) : w.ownsRow base 3 1 (.slice (some ⟨g, 0, none⟩) k c) k (ints (xs.take k)) := by
  have hl : n = xs.length := by have := h.1; rw [ints_length] at this; omega
  refine ⟨by rw [ints_length, List.length_take]; omega, ?_⟩
  rcases h.2 with ⟨h2, _⟩ | ⟨g', cap, cur, hv, hg, hh, h3, h4, h5, h6⟩
  · simp at h2
  · injection hv with e1 e2 e3
    refine .inr ⟨g', cap, cur, by rw [← e1, e3], hg, hh, by omega, h4, h5, ?_⟩
    rw [Nat.mul_one] at h6 ⊢
    have : cur.toList.take k = (cur.toList.take n).take k := by rw [List.take_take, Nat.min_eq_left hk]
    rw [this, h6]
    simp [ints, List.map_take]
/-- An append at a step of a region that draws, out of its run. -/
theorem step_append_run {P : Program} {ops : Array Oper} {o : Oper} {a : Act} {w : World} {K : Act → World → Prop} {Q : Exit → Act → World → Prop} {E : Prop} (hgd : o.guard = none) (s x : Operand) (t : TypeId)
    (ho : o.op = .call { callee := .builtin .append, args := #[s, x], argTypes := #[t, t] }) (vs vx v1 : Value) (w1 : World) (hs : a.eval s = vs) (hx : a.eval x = vx)
    (hr : (Builtin.append_ #[t, t] o.type #[vs, vx]).run P w = .ok v1 w1) (h : K (a.put o.dst v1) w1) :
    if Region.wanted o (yielded ops a.tmps) = true then Oper.wp P o a w K Q else E := by
  have hw : Region.wanted o (yielded ops a.tmps) = true := by simp [Region.wanted, hgd]
  rw [if_pos hw]
  unfold Oper.wp execOp
  simp only [ho, resolve, invoke, builtin, Sem.run_bind, Sem.run_pure, Result.andThen_ok, List.map_toArray, List.map_cons, List.map_nil, hs, hx, hr]
  exact h
theorem own_drew {w : World} {base : Nat} {e : TypeId} {size n : Nat} {v : Value} {xs : List Value} (h : w.ownsRow base e size v n xs) : w.drew.ownsRow base e size v n xs := h
/-- What 'append(out[:k], append([]int{x}, out[k:]...)...)' leaves. -/
def InsRun (w : World) (base g n c k off c' : Nat) (x : Int) (os : List Int) : Prop := ∃ v1 w1 v2 w2, (Builtin.append_ #[22, 22] 22 #[.slice (some ⟨w.heap.size, 0, none⟩) 1 1, .slice (some ⟨g, off, none⟩) (n - k) c']).run Tryz.prog (w.alloc (.cells #[.int .i64 x] 3)).drew = .ok v1 w1 ∧
  (Builtin.append_ #[22, 22] 22 #[.slice (some ⟨g, 0, none⟩) k c, v1]).run Tryz.prog w1 = .ok v2 w2 ∧ w2.ownsRow base 3 1 v2 (n + 1) (ints (os.take k ++ (x :: os.drop k))) ∧ Below base w w2
theorem ins_run (w : World) (base g n c k off c' : Nat) (x : Int) (os : List Int) (hn : n ≤ 1000) (hk : k ≤ n) (hoff : k < n → off = k) (hb : base ≤ w.heap.size) (h : w.ownsRow base 3 1 (.slice (some ⟨g, 0, none⟩) n c) n (ints os)) : InsRun w base g n c k off c' x os := by
  have hl : n = os.length := by have := h.1; rw [ints_length] at this; omega
  obtain ⟨ht, i, z, bytes, hi, hz, hsize, hby, hzs, hsz, hb256⟩ := slIntO
  have hgl := h.lt g rfl
  have hown1 : (w.alloc (.cells #[.int .i64 x] 3)).drew.ownsRow base 3 1 (.slice (some ⟨w.heap.size, 0, none⟩) 1 1) 1 (ints [x]) := own_drew (own_new1 w hb x)
  have hout : (w.alloc (.cells #[.int .i64 x] 3)).drew.ownsRow base 3 1 (.slice (some ⟨g, 0, none⟩) n c) n (ints os) := own_drew (h.alloc _)
  have hnb : (1 + (n - k)) * bytes ≤ 2000 * 256 := Nat.mul_le_mul (by omega) hb256
  obtain ⟨v1, w1, hr1, ho1, hg1, _, h5⟩ := run_append_own_at (P := Tryz.prog) (w.alloc (.cells #[.int .i64 x] 3)).drew base 22 22 3 i z 1 bytes ht hi hz hsize hby hzs hsz _ 1 _ hown1 ⟨g, off, none⟩ (n - k) c' (ints (os.drop k))
    (by rw [ints_length, List.length_drop, hl, Nat.mul_one]) (fun j u hu => by
      have hj : j < n - k := by
        have := (List.getElem?_eq_some_iff.1 hu).1
        rw [ints_length, List.length_drop] at this; omega
      rw [hoff (by omega)]
      have hc := hout.cells (g := g) rfl (k + j) u (by unfold ints at hu ⊢; rw [List.map_drop, List.getElem?_drop] at hu; exact hu)
      rw [show (⟨g, k, none⟩ : Addr).add j = ⟨g, k + j, none⟩ from by unfold Addr.add; split <;> simp_all]
      rw [show (⟨g, 0, none⟩ : Addr).add (k + j) = ⟨g, 0 + (k + j), none⟩ from by unfold Addr.add; split <;> simp_all, Nat.zero_add] at hc
      exact hc) (fun u hu => by
      obtain ⟨y, _, rfl⟩ := List.mem_map.1 hu
      rfl) (by unfold maxLen; omega) (by omega) (by simp; omega)
  obtain ⟨g1, c1, rfl, q1, q2⟩ := ho1.form (by omega)
  have hout1 : w1.ownsRow base 3 1 (.slice (some ⟨g, 0, none⟩) n c) n (ints os) := hout.kept hg1 (.inr (by simp only [Value.ownBlock]; intro e; injection e; omega))
  have hpre := own_prefix hout1 hk
  have hnb2 : (k + (1 + (n - k))) * bytes ≤ 2000 * 256 := Nat.mul_le_mul (by omega) hb256
  have hz1 := hg1.size
  simp only [World.drew, World.size_alloc] at hz1
  obtain ⟨v2, w2, hr2, ho2, hg2, _, _⟩ := run_append_own_at (P := Tryz.prog) w1 base 22 22 3 i z 1 bytes ht hi hz hsize hby hzs hsz _ k _ hpre ⟨g1, 0, none⟩ (1 + (n - k)) c1 (ints [x] ++ ints (os.drop k))
    ho1.1 (fun j u hu => ho1.cells (g := g1) rfl j u hu) (fun u hu => by
      rw [← ints_append] at hu
      obtain ⟨y, _, rfl⟩ := List.mem_map.1 hu
      rfl) (by unfold maxLen; omega) (by omega) (by omega)
  refine ⟨_, w1, v2, w2, hr1, hr2, ?_, ?_⟩
  · rw [show k + (1 + (n - k)) = n + 1 by omega] at ho2
    rw [ints_append, show ints (x :: os.drop k) = ints [x] ++ ints (os.drop k) from rfl]
    exact ho2
  · have B1 : Below base w (w.alloc (.cells #[.int .i64 x] 3)).drew := ((Below.refl base w).alloc hb _).drew
    have B2 := B1.grown hg1 (by simp only [World.drew, World.size_alloc]; omega) (fun k hk => by simp only [Value.ownBlock] at hk; injection hk; omega)
    exact B2.grown hg2 (by omega) (fun k hk => by simp only [Value.ownBlock] at hk; injection hk; omega)
/-- The same at no element: 'append(nil, append([]int{x}, nil...)...)'. -/
theorem nil_run (w : World) (base : Nat) (x : Int) (hb : base ≤ w.heap.size) : ∃ v2 w2, (Builtin.append_ #[22, 22] 22 #[.slice (some ⟨w.heap.size, 0, none⟩) 1 1, .slice none 0 0]).run Tryz.prog (w.alloc (.cells #[.int .i64 x] 3)).drew = .ok (.slice (some ⟨w.heap.size, 0, none⟩) 1 1) (w.alloc (.cells #[.int .i64 x] 3)).drew ∧
    (Builtin.append_ #[22, 22] 22 #[.slice none 0 0, .slice (some ⟨w.heap.size, 0, none⟩) 1 1]).run Tryz.prog (w.alloc (.cells #[.int .i64 x] 3)).drew = .ok v2 w2 ∧ w2.ownsRow base 3 1 v2 1 (ints [x]) ∧ Below base w w2 := by
  obtain ⟨ht, i, z, bytes, hi, hz, hsize, hby, hzs, hsz, hb256⟩ := slIntO
  have hown1 : (w.alloc (.cells #[.int .i64 x] 3)).drew.ownsRow base 3 1 (.slice (some ⟨w.heap.size, 0, none⟩) 1 1) 1 (ints [x]) := own_drew (own_new1 w hb x)
  have hnb : (0 + 1) * bytes ≤ 2000 * 256 := Nat.mul_le_mul (by omega) hb256
  obtain ⟨v2, w2, hr2, ho2, hg2, _, _⟩ := run_append_own_at (P := Tryz.prog) (w.alloc (.cells #[.int .i64 x] 3)).drew base 22 22 3 i z 1 bytes ht hi hz hsize hby hzs hsz (.slice none 0 0) 0 [] (World.ownsRow_nil _ _ _ _) ⟨w.heap.size, 0, none⟩ 1 1 (ints [x])
    rfl (fun j u hu => hown1.cells (g := w.heap.size) rfl j u hu) (fun u hu => by
      obtain ⟨y, _, rfl⟩ := List.mem_map.1 hu
      rfl) (by unfold maxLen; omega) (by omega) (by simp; omega)
  refine ⟨v2, w2, ?_, hr2, by rwa [Nat.zero_add, List.nil_append] at ho2, ?_⟩
  · simp [Builtin.append_, run_underlying ht, sizeOf, typeInfo, hi, Builtin.lenOf, Builtin.firstCells, storeCells]
  · have B1 : Below base w (w.alloc (.cells #[.int .i64 x] 3)).drew := ((Below.refl base w).alloc hb _).drew
    exact B1.grown hg2 (by simp only [World.drew, World.size_alloc]; omega) (fun k hk => by simp [Value.ownBlock] at hk)
theorem rk_at {cs : List Cd} {k : Nat} (h : k < cs.length) {r kd v f t x y : Int} (he : cs[k] = ⟨r, kd, v, f, t, x, y⟩) : rkC cs k = r := by
  unfold rkC; simp [List.getD_eq_getElem?_getD, h, he]
def ROrdPost (w : World) (n : Nat) (cs : List Cd) (e : Ending) (w' : World) : Prop := ∃ v os, e = .returned v ∧ OrdOf cs n os ∧ w'.ownsRow w.heap.size 3 1 v n (ints os) ∧ Below w.heap.size w w'
attribute [local go_sem ↓] Go.wp_at_zero Go.wp_at_succ
end Go.Proofs.YtodamjjlnagpjaaGreatDoor
namespace Go.Proofs.YtodamjjlnagpjaaGreatDoor
open Go.RowKit

/-- Which of some numbers apply. -/
def ractL (cs : List Cd) (d lv : Int) (os : List Int) : List Int := os.filter fun x => apyB d lv (cs.getD x.toNat cdz)
theorem ract_in {cs : List Cd} {d lv : Int} {os : List Int} {k : Nat} (h : k < os.length) (hp : apyB d lv (cs.getD (os.getD k 0).toNat cdz) = true) : ractL cs d lv (os.take (k + 1)) = ractL cs d lv (os.take k) ++ [os.getD k 0] := by
  have e := List.take_succ_eq_append_getElem h
  have e2 : os.getD k 0 = os[k] := by simp [List.getD_eq_getElem?_getD, h]
  rw [e2] at hp ⊢
  unfold ractL
  rw [e, List.filter_append]
  have e3 : [os[k]].filter (fun x => apyB d lv (cs.getD x.toNat cdz)) = [os[k]] := by rw [List.filter_cons]; simp only [hp, if_true]; rfl
  rw [e3]
theorem ract_out {cs : List Cd} {d lv : Int} {os : List Int} {k : Nat} (h : k < os.length) (hp : apyB d lv (cs.getD (os.getD k 0).toNat cdz) = false) : ractL cs d lv (os.take (k + 1)) = ractL cs d lv (os.take k) := by
  have e := List.take_succ_eq_append_getElem h
  have e2 : os.getD k 0 = os[k] := by simp [List.getD_eq_getElem?_getD, h]
  rw [e2] at hp
  unfold ractL
  rw [e, List.filter_append]
  have e3 : [os[k]].filter (fun x => apyB d lv (cs.getD x.toNat cdz)) = [] := by rw [List.filter_cons]; simp only [hp]; rfl
  rw [e3, List.append_nil]
theorem ract_le (cs : List Cd) (d lv : Int) (os : List Int) : (ractL cs d lv os).length ≤ os.length := List.length_filter_le _ _
def RActPost (w : World) (n : Nat) (cs : List Cd) (d lv : Int) (e : Ending) (w' : World) : Prop := ∃ (v : Value) (os : List Int), e = .returned (.tuple #[v, .int .i64 0]) ∧ OrdOf cs n os ∧ w'.ownsRow w.heap.size 3 1 v (ractL cs d lv os).length (ints (ractL cs d lv os)) ∧ Below w.heap.size w w'
end Go.Proofs.YtodamjjlnagpjaaGreatDoor
