/-
  An argument that is a bundle, read as cells. No condition.
-/
import Derived.Test.YtmlpimidbgeacaaProg
import Derived.Test.YtmlpimidbgeacaaFsc
import Derived.ProofKit
import Derived.Deep.Slices
import Derived.Deep.Strs
import Derived.ChangeSame
namespace Go.Proofs.Ytmlpimidbgeacaa
open Go.RowKit Go.Deep Go.WideShapes Go.ChangeShapes

section
variable {H : Type} {enc : TypeId × Value → H} {w : World} {sp : Nat → Bool} {held : Bool}
/-- A slice whose elements are read as something. -/
theorem sl_of_readT {α : Type} [Inhabited α] {t e : TypeId} {s fuel n c : Nat} {A : Option Addr} {x : DataW H × List MemPlace} (f : α → List Value) (Q : α → Prop) (ht : Try.prog.underlying t = some (.slice e)) (hs : Try.prog.cellsOf e = s) (h0 : 0 < s)
    (hT : ∀ (fuel : Nat) (cs : List Value) x, DataW.trod enc Try.prog w 0 sp held fuel e cs = some x → ∃ a : α, cs = f a ∧ Q a ∧ (f a).length = s)
    (h : DataW.trod enc Try.prog w 0 sp held fuel t [.slice A n c] = some x) : ∃ L : List α, L.length = n ∧ (∀ a ∈ L, Q a) ∧ Sl w w.heap.size s A n c (L.flatMap f) := by
  rcases open_slice ht h with ⟨hcs, _⟩ | ⟨a, len, cap, m, k, D, Pl, hcs, hb, hl, hm, hmm, _, hx⟩
  · simp at hcs
    obtain ⟨rfl, rfl, rfl⟩ := hcs
    exact ⟨[], rfl, by simp, Sl.none_ _ _ _⟩
  · simp at hcs
    obtain ⟨rfl, rfl, rfl⟩ := hcs
    have hnm : n ≤ m := by rw [hmm]; split <;> omega
    rw [hs] at hx
    have hex : ∀ i, i < n → ∃ b : α, Q b ∧ (f b).length = s ∧ ∀ j, j < s → w.cell? ((a.add (i * s)).add j) = (f b)[j]? := by
      intro i hi
      obtain ⟨cs, h1, h2⟩ := hx i (by omega)
      obtain ⟨b, rfl, hq, hz⟩ := hT _ _ _ h2
      obtain ⟨_, _, h3⟩ := World.cells?_some h1
      exact ⟨b, hq, hz, h3⟩
    obtain ⟨F, hF⟩ := choose_lt (α := α) hex
    have hlen : ∀ q, q ≤ n → ((List.range q).flatMap fun i => f (F i)).length = q * s := by
      intro q
      induction q with
      | zero => simp
      | succ q ih => intro hq; rw [List.range_succ, List.flatMap_append, List.length_append, ih (by omega)]; simp [(hF q (by omega)).2.1, Nat.succ_mul]
    have hget : ∀ q, q ≤ n → ∀ i j, i < q → j < s → ((List.range q).flatMap fun i => f (F i))[i * s + j]? = (f (F i))[j]? := by
      intro q
      induction q with
      | zero => intro _ i j hi; omega
      | succ q ih =>
        intro hq i j hi hj
        rw [List.range_succ, List.flatMap_append]
        by_cases hiq : i < q
        · have : i * s + j < q * s := by
            have := Nat.mul_le_mul_right s (show i + 1 ≤ q by omega)
            rw [Nat.succ_mul] at this; omega
          rw [List.getElem?_append_left (by rw [hlen q (by omega)]; exact this)]
          exact ih (by omega) i j hiq hj
        · obtain rfl : i = q := by omega
          rw [List.getElem?_append_right (by rw [hlen i (by omega)]; omega), hlen i (by omega)]
          simp
    have hfm : ((List.range n).map F).flatMap f = (List.range n).flatMap fun i => f (F i) := by rw [List.flatMap_map]
    refine ⟨(List.range n).map F, by simp, fun b hb => ?_, ?_⟩
    · obtain ⟨i, hi, rfl⟩ := List.mem_map.1 hb
      exact (hF i (by simpa using hi)).1
    rw [hfm]
    refine ⟨hlen n (Nat.le_refl _), hl, hm, fun hn => ?_⟩
    obtain ⟨b, off, spot⟩ := a
    have hc0 := (hF 0 hn).2.2 0 h0
    rw [Nat.zero_mul] at hc0
    have hv0 : ∃ v, w.cell? ((Addr.mk b off spot).add 0 |>.add 0) = some v := by
      have h1 := (hF 0 hn).2.1
      exact ⟨_, hc0.trans (List.getElem?_eq_getElem (by omega))⟩
    obtain ⟨v0, hv0⟩ := hv0
    have hspot : spot = none := by simpa [Addr.add] using World.cell?_spot hv0
    subst hspot
    refine ⟨b, off, rfl, by simpa [Addr.add] using World.block_lt_of_cell? w _ hv0, fun j u hu => ?_⟩
    have hj : j < n * s := by
      have := (List.getElem?_eq_some_iff.1 hu).1
      rwa [hlen n (Nat.le_refl _)] at this
    have hi : j / s < n := Nat.div_lt_of_lt_mul (by rw [Nat.mul_comm]; exact hj)
    have hr : j % s < s := Nat.mod_lt _ h0
    have hjj : j / s * s + j % s = j := by rw [Nat.mul_comm]; exact Nat.div_add_mod j s
    have h1 := (hF (j / s) hi).2.2 (j % s) hr
    rw [show ((⟨b, off, none⟩ : Addr).add (j / s * s)).add (j % s) = ⟨b, off + j, none⟩ from by
      unfold Addr.add
      rw [← hjj]
      split <;> split <;> simp_all <;> omega] at h1
    rw [h1, ← hu]
    rw [← hget n (Nat.le_refl _) _ _ hi hr, hjj]
instance : Inhabited Sc := ⟨⟨0, none, 0, 0, []⟩⟩
theorem ints_of {fuel : Nat} {v : Value} {x : DataW H × List MemPlace} (h : DataW.trod enc Try.prog w 0 sp held fuel 22 [v] = some x) : ∃ (A : Option Addr) (n c : Nat) (zs : List Int), v = .slice A n c ∧ Sl w w.heap.size 1 A n c (ints zs) := by
  have hv : ∃ A n c, v = .slice A n c := by
    rcases DataW.trod_slice Try.underlying22 h with ⟨h0, _⟩ | ⟨a, len, cap, elems, rest, n, _, h0, _⟩
    · simp at h0; exact ⟨_, _, _, h0⟩
    · simp at h0; exact ⟨_, _, _, h0⟩
  obtain ⟨A, n, c, rfl⟩ := hv
  obtain ⟨L, hl, _, hs⟩ := sl_of_readT (s := 1) (fun z : Int => [.int .i64 z]) (fun _ => True) Try.underlying22 (by kernel_rfl) (by omega) (fun fuel cs x h => by
    obtain ⟨z, e, _⟩ := DataW.trod_int Try.underlying3 h
    exact ⟨z, e, trivial, rfl⟩) h
  exact ⟨A, n, c, L, rfl, by
    have e : L.flatMap (fun z : Int => [Value.int .i64 z]) = ints L := by unfold ints; rw [List.map_eq_flatMap]
    rw [e] at hs; exact hs⟩
/-- An argument's scenario. -/
theorem scen_of {fuel : Nat} {cs : List Value} {x : DataW H × List MemPlace} (h : DataW.trod enc Try.prog w 0 sp held fuel 32 cs = some x) : ∃ s : Sc, cs = s.arr.toList ∧ s.ok w w.heap.size ∧ s.arr.toList.length = 2 := by
  obtain ⟨y0, y1, n, _, hl, h0, h1⟩ := trod_struct2 Try.underlying32 h
  rw [show Try.prog.cellsOf 32 = 2 by kernel_rfl] at hl
  simp only [show Try.prog.cellsOf 3 = 1 by kernel_rfl, show Try.prog.cellsOf 22 = 1 by kernel_rfl] at h0 h1
  match cs, hl with
  | [a, b], _ =>
    obtain ⟨z, e, _⟩ := DataW.trod_int Try.underlying3 h0
    simp at e
    obtain ⟨A, m, c, zs, e2, hs⟩ := ints_of (by simpa using h1)
    subst e e2
    exact ⟨⟨z, A, m, c, zs⟩, rfl, hs, rfl⟩
/-- An argument that is a bundle. -/
theorem bundle_of {r : Reach} {b0 : Nat} {v : Value} {d : DataW H} {p : List MemPlace} (hv : Value.okWide Try.prog w r b0 27 v) (h : DataW.Trod enc Try.prog w 0 sp held 27 v d p) : ∃ b : Bd, v = .agg b.arr ∧ b.ok w w.heap.size := by
  obtain ⟨cs, rfl, hsz⟩ := okWide_struct Try.underlying27 hv
  obtain ⟨fuel, hf⟩ := h
  obtain ⟨l⟩ := cs
  have hc : (Value.agg (Array.mk l)).cells.toList = l := by simp [Value.cells]
  rw [hc] at hf
  obtain ⟨y0, y1, y2, n, _, hl, h0, h1, h2⟩ := trod_struct3 Try.underlying27 hf
  rw [show Try.prog.cellsOf 27 = 3 by kernel_rfl] at hl
  simp only [show Try.prog.cellsOf 3 = 1 by kernel_rfl, show Try.prog.cellsOf 25 = 1 by kernel_rfl, show Try.prog.cellsOf 4 = 1 by kernel_rfl] at h0 h1 h2
  match l, hl with
  | [a, b, c], _ =>
    obtain ⟨z, e, _⟩ := DataW.trod_int Try.underlying3 h0
    simp at e
    obtain ⟨wd, e3, _⟩ := DataW.trod_bool Try.underlying4 h2
    simp at e3
    subst e e3
    have h1' : DataW.trod enc Try.prog w 0 sp held n 25 [b] = some y1 := by simpa using h1
    have hv : ∃ A n c, b = .slice A n c := by
      rcases DataW.trod_slice Try.underlying25 h1' with ⟨h0, _⟩ | ⟨a, len, cap, elems, rest, n, _, h0, _⟩
      · simp at h0; exact ⟨_, _, _, h0⟩
      · simp at h0; exact ⟨_, _, _, h0⟩
    obtain ⟨A, m, c, rfl⟩ := hv
    obtain ⟨ss, hss, hq, hs⟩ := sl_of_readT (s := 2) (fun s : Sc => s.arr.toList) (fun s => s.ok w w.heap.size) Try.underlying25 (by kernel_rfl) (by omega) (fun fuel cs x h => scen_of h) h1'
    exact ⟨⟨z, A, m, c, ss, wd⟩, rfl, hs, hq⟩
end
end Go.Proofs.Ytmlpimidbgeacaa
