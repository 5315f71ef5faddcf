/-
  The run of append(out[:k], append([]int{x}, out[k:]...)...) over an own row of integers (out of XRor). Condition: 1,000 elements at most.
-/
import Derived.Test.YtfcmgmcidngjeaaProg
import Derived.Test.YtfcmgmcidngjeaaRgv
import Derived.Test.YtfcmgmcidngjeaaExt
import Derived.Deep.RegionLaw
import Derived.Deep.DrawnRows
namespace Go.Proofs.Ytfcmgmcidngjeaa
open Go.RowKit
theorem slIntO : SlT Try.prog 27 3 1 := slT_of (z := .int .i64 0) (bytes := 8) Try.underlying27 (by kernel_rfl) rfl (by decide) (by decide)
theorem own_capR {w : World} {base n c : Nat} {e : TypeId} {size : Nat} {A : Option Addr} {xs : List Value} (h : w.ownsRow base e size (.slice A n c) n xs) : n ≤ c ∧ c ≤ maxLen := by
  obtain ⟨A', c', he, hs⟩ := own_sl h
  injection he with _ _ h3
  subst h3
  exact ⟨hs.2.1, hs.2.2.1⟩
theorem own_cellI {w : World} {base n c g j : Nat} {xs : List Int} (h : w.ownsRow base 3 1 (.slice (some ⟨g, 0, none⟩) n c) n (ints xs)) (hj : j < n) : w.cell? ⟨g, j, none⟩ = some (.int .i64 (xs.getD j 0)) := by
  have hl : n = xs.length := by have := h.1; rw [ints_length] at this; omega
  have hc := h.cells (g := g) rfl j _ (ints_get xs j (by omega))
  rwa [show (⟨g, 0, none⟩ : Addr).add j = ⟨g, 0 + j, none⟩ from by unfold Addr.add; split <;> simp_all, Nat.zero_add] at hc
/-- A row of one integer, just built. -/
theorem own_new1 (w : World) {base : Nat} (hb : base ≤ w.heap.size) (x : Int) : (w.alloc (.cells #[.int .i64 x] 3)).ownsRow base 3 1 (.slice (some ⟨w.heap.size, 0, none⟩) 1 1) 1 (ints [x]) :=
  ⟨rfl, .inr ⟨w.heap.size, 1, #[.int .i64 x], rfl, hb, heap_alloc_new _ _, Nat.le_refl _, by unfold maxLen; omega, rfl, rfl⟩⟩
theorem own_prefix {w : World} {base n c g k : Nat} {xs : List Int} (h : w.ownsRow base 3 1 (.slice (some ⟨g, 0, none⟩) n c) n (ints xs)) (hk : k ≤ n) : w.ownsRow base 3 1 (.slice (some ⟨g, 0, none⟩) k c) k (ints (xs.take k)) := by
  have hl : n = xs.length := by have := h.1; rw [ints_length] at this; omega
  refine ⟨by rw [ints_length, List.length_take]; omega, ?_⟩
  rcases h.2 with ⟨h2, _⟩ | ⟨g', cap, cur, hv, hg, hh, h3, h4, h5, h6⟩
  · simp at h2
  · injection hv with e1 e2 e3
    refine .inr ⟨g', cap, cur, by rw [← e1, e3], hg, hh, by omega, h4, h5, ?_⟩
    rw [Nat.mul_one] at h6 ⊢
    have : cur.toList.take k = (cur.toList.take n).take k := by rw [List.take_take, Nat.min_eq_left hk]
    rw [this, h6]
    simp [ints, List.map_take]
/-- An append at a step of a region that draws, out of its run. -/
theorem step_append_run {P : Program} {ops : Array Oper} {o : Oper} {a : Act} {w : World} {K : Act → World → Prop} {Q : Exit → Act → World → Prop} {E : Prop} (hgd : o.guard = none) (s x : Operand) (t : TypeId)
    (ho : o.op = .call { callee := .builtin .append, args := #[s, x], argTypes := #[t, t] }) (vs vx v1 : Value) (w1 : World) (hs : a.eval s = vs) (hx : a.eval x = vx)
    (hr : (Builtin.append_ #[t, t] o.type #[vs, vx]).run P w = .ok v1 w1) (h : K (a.put o.dst v1) w1) :
    if Region.wanted o (yielded ops a.tmps) = true then Oper.wp P o a w K Q else E := by
  have hw : Region.wanted o (yielded ops a.tmps) = true := by simp [Region.wanted, hgd]
  rw [if_pos hw]
  unfold Oper.wp execOp
  simp only [ho, resolve, invoke, builtin, Sem.run_bind, Sem.run_pure, Result.andThen_ok, List.map_toArray, List.map_cons, List.map_nil, hs, hx, hr]
  exact h
theorem own_drew {w : World} {base : Nat} {e : TypeId} {size n : Nat} {v : Value} {xs : List Value} (h : w.ownsRow base e size v n xs) : w.drew.ownsRow base e size v n xs := h
/-- What 'append(out[:k], append([]int{x}, out[k:]...)...)' leaves. -/
def InsRun (w : World) (base g n c k off c' : Nat) (x : Int) (os : List Int) : Prop := ∃ v1 w1 v2 w2, (Builtin.append_ #[27, 27] 27 #[.slice (some ⟨w.heap.size, 0, none⟩) 1 1, .slice (some ⟨g, off, none⟩) (n - k) c']).run Try.prog (w.alloc (.cells #[.int .i64 x] 3)).drew = .ok v1 w1 ∧
  (Builtin.append_ #[27, 27] 27 #[.slice (some ⟨g, 0, none⟩) k c, v1]).run Try.prog w1 = .ok v2 w2 ∧ w2.ownsRow base 3 1 v2 (n + 1) (ints (os.take k ++ (x :: os.drop k))) ∧ Below base w w2
theorem ins_run (w : World) (base g n c k off c' : Nat) (x : Int) (os : List Int) (hn : n ≤ 1000) (hk : k ≤ n) (hoff : k < n → off = k) (hb : base ≤ w.heap.size) (h : w.ownsRow base 3 1 (.slice (some ⟨g, 0, none⟩) n c) n (ints os)) : InsRun w base g n c k off c' x os := by
  have hl : n = os.length := by have := h.1; rw [ints_length] at this; omega
  obtain ⟨ht, i, z, bytes, hi, hz, hsize, hby, hzs, hsz, hb256⟩ := slIntO
  have hgl := h.lt g rfl
  have hown1 : (w.alloc (.cells #[.int .i64 x] 3)).drew.ownsRow base 3 1 (.slice (some ⟨w.heap.size, 0, none⟩) 1 1) 1 (ints [x]) := own_drew (own_new1 w hb x)
  have hout : (w.alloc (.cells #[.int .i64 x] 3)).drew.ownsRow base 3 1 (.slice (some ⟨g, 0, none⟩) n c) n (ints os) := own_drew (h.alloc _)
  have hnb : (1 + (n - k)) * bytes ≤ 2000 * 256 := Nat.mul_le_mul (by omega) hb256
  obtain ⟨v1, w1, hr1, ho1, hg1, _, h5⟩ := run_append_own_at (P := Try.prog) (w.alloc (.cells #[.int .i64 x] 3)).drew base 27 27 3 i z 1 bytes ht hi hz hsize hby hzs hsz _ 1 _ hown1 ⟨g, off, none⟩ (n - k) c' (ints (os.drop k))
    (by rw [ints_length, List.length_drop, hl, Nat.mul_one]) (fun j u hu => by
      have hj : j < n - k := by
        have := (List.getElem?_eq_some_iff.1 hu).1
        rw [ints_length, List.length_drop] at this; omega
      rw [hoff (by omega)]
      have hc := hout.cells (g := g) rfl (k + j) u (by unfold ints at hu ⊢; rw [List.map_drop, List.getElem?_drop] at hu; exact hu)
      rw [show (⟨g, k, none⟩ : Addr).add j = ⟨g, k + j, none⟩ from by unfold Addr.add; split <;> simp_all]
      rw [show (⟨g, 0, none⟩ : Addr).add (k + j) = ⟨g, 0 + (k + j), none⟩ from by unfold Addr.add; split <;> simp_all, Nat.zero_add] at hc
      exact hc) (fun u hu => by
      obtain ⟨y, _, rfl⟩ := List.mem_map.1 hu
      rfl) (by unfold maxLen; omega) (by omega) (by simp; omega)
  obtain ⟨g1, c1, rfl, q1, q2⟩ := ho1.form (by omega)
  have hout1 : w1.ownsRow base 3 1 (.slice (some ⟨g, 0, none⟩) n c) n (ints os) := hout.kept hg1 (.inr (by simp only [Value.ownBlock]; intro e; injection e; omega))
  have hpre := own_prefix hout1 hk
  have hnb2 : (k + (1 + (n - k))) * bytes ≤ 2000 * 256 := Nat.mul_le_mul (by omega) hb256
  have hz1 := hg1.size
  simp only [World.drew, World.size_alloc] at hz1
  obtain ⟨v2, w2, hr2, ho2, hg2, _, _⟩ := run_append_own_at (P := Try.prog) w1 base 27 27 3 i z 1 bytes ht hi hz hsize hby hzs hsz _ k _ hpre ⟨g1, 0, none⟩ (1 + (n - k)) c1 (ints [x] ++ ints (os.drop k))
    ho1.1 (fun j u hu => ho1.cells (g := g1) rfl j u hu) (fun u hu => by
      rw [← ints_append] at hu
      obtain ⟨y, _, rfl⟩ := List.mem_map.1 hu
      rfl) (by unfold maxLen; omega) (by omega) (by omega)
  refine ⟨_, w1, v2, w2, hr1, hr2, ?_, ?_⟩
  · rw [show k + (1 + (n - k)) = n + 1 by omega] at ho2
    rw [ints_append, show ints (x :: os.drop k) = ints [x] ++ ints (os.drop k) from rfl]
    exact ho2
  · have B1 : Below base w (w.alloc (.cells #[.int .i64 x] 3)).drew := ((Below.refl base w).alloc hb _).drew
    have B2 := B1.grown hg1 (by simp only [World.drew, World.size_alloc]; omega) (fun k hk => by simp only [Value.ownBlock] at hk; injection hk; omega)
    exact B2.grown hg2 (by omega) (fun k hk => by simp only [Value.ownBlock] at hk; injection hk; omega)
/-- The same at no element: 'append(nil, append([]int{x}, nil...)...)'. -/
theorem nil_run (w : World) (base : Nat) (x : Int) (hb : base ≤ w.heap.size) : ∃ v2 w2, (Builtin.append_ #[27, 27] 27 #[.slice (some ⟨w.heap.size, 0, none⟩) 1 1, .slice none 0 0]).run Try.prog (w.alloc (.cells #[.int .i64 x] 3)).drew = .ok (.slice (some ⟨w.heap.size, 0, none⟩) 1 1) (w.alloc (.cells #[.int .i64 x] 3)).drew ∧
    (Builtin.append_ #[27, 27] 27 #[.slice none 0 0, .slice (some ⟨w.heap.size, 0, none⟩) 1 1]).run Try.prog (w.alloc (.cells #[.int .i64 x] 3)).drew = .ok v2 w2 ∧ w2.ownsRow base 3 1 v2 1 (ints [x]) ∧ Below base w w2 := by
  obtain ⟨ht, i, z, bytes, hi, hz, hsize, hby, hzs, hsz, hb256⟩ := slIntO
  have hown1 : (w.alloc (.cells #[.int .i64 x] 3)).drew.ownsRow base 3 1 (.slice (some ⟨w.heap.size, 0, none⟩) 1 1) 1 (ints [x]) := own_drew (own_new1 w hb x)
  have hnb : (0 + 1) * bytes ≤ 2000 * 256 := Nat.mul_le_mul (by omega) hb256
  obtain ⟨v2, w2, hr2, ho2, hg2, _, _⟩ := run_append_own_at (P := Try.prog) (w.alloc (.cells #[.int .i64 x] 3)).drew base 27 27 3 i z 1 bytes ht hi hz hsize hby hzs hsz (.slice none 0 0) 0 [] (World.ownsRow_nil _ _ _ _) ⟨w.heap.size, 0, none⟩ 1 1 (ints [x])
    rfl (fun j u hu => hown1.cells (g := w.heap.size) rfl j u hu) (fun u hu => by
      obtain ⟨y, _, rfl⟩ := List.mem_map.1 hu
      rfl) (by unfold maxLen; omega) (by omega) (by simp; omega)
  refine ⟨v2, w2, ?_, hr2, by rwa [Nat.zero_add, List.nil_append] at ho2, ?_⟩
  · simp [Builtin.append_, run_underlying ht, sizeOf, typeInfo, hi, Builtin.lenOf, Builtin.firstCells, storeCells]
  · have B1 : Below base w (w.alloc (.cells #[.int .i64 x] 3)).drew := ((Below.refl base w).alloc hb _).drew
    exact B1.grown hg2 (by simp only [World.drew, World.size_alloc]; omega) (fun k hk => by simp [Value.ownBlock] at hk)
end Go.Proofs.Ytfcmgmcidngjeaa
