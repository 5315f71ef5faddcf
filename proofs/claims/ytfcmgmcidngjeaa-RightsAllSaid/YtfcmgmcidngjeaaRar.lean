/-
  Arguments that are structs of integers, or slices of them, read as cells. No condition.
-/
import Derived.Test.YtfcmgmcidngjeaaProg
import Derived.Test.YtfcmgmcidngjeaaRgm
import Derived.ProofKit
import Derived.Deep.Slices
namespace Go.Proofs.Ytfcmgmcidngjeaa
open Go.RowKit Go.Deep Go.WideShapes

section
variable {H : Type} {enc : TypeId × Value → H} {w : World} {base : Nat} {sp : Nat → Bool} {held : Bool}
/-- Whatever can be read at type t is some integers. -/
def IntsT (enc : TypeId × Value → H) (w : World) (base : Nat) (sp : Nat → Bool) (held : Bool) (t : TypeId) : Prop := ∀ (fuel : Nat) (cs : List Value) x, DataW.trod enc Try.prog w base sp held fuel t cs = some x → ∃ zs : List Int, cs = ints zs ∧ zs.length = Try.prog.cellsOf t
set_option maxRecDepth 20000 in
theorem intsT_int : IntsT enc w base sp held 3 := by
  intro fuel cs x h
  have hc : Try.prog.cellsOf 3 = 1 := by kernel_rfl
  cases fuel with
  | zero => simp [DataW.trod] at h
  | succ n =>
    have h2 := h
    unfold DataW.trod at h2
    rw [Try.underlying3] at h2
    rcases cs with _ | ⟨c0, _ | ⟨c1, t⟩⟩
    · simp at h2
    · obtain ⟨a, ea, _, _⟩ := DataW.trod_int Try.underlying3 h
      simp at ea
      exact ⟨[a], by rw [ea]; rfl, by rw [hc]; rfl⟩
    · simp at h2
theorem intsT_struct {t : TypeId} {fs : Array Field} (ht : Try.prog.underlying t = some (.struct fs)) (hlay : ∀ cs : List Value, cs.length = Try.prog.cellsOf t → fs.toList.flatMap (fun f => (cs.drop f.offset).take (Try.prog.cellsOf f.type)) = cs) (hf : ∀ f ∈ fs.toList, IntsT enc w base sp held f.type) : IntsT enc w base sp held t := by
  intro fuel cs x h
  obtain ⟨xs, n, _, _, hl, hxl, hx⟩ := DataW.trod_struct ht h
  have hparts : ∀ f ∈ fs.toList, ∃ zs : List Int, (cs.drop f.offset).take (Try.prog.cellsOf f.type) = ints zs := by
    intro f hm
    obtain ⟨i, hi, rfl⟩ := List.getElem_of_mem hm
    have hi2 : i < fs.size := by simpa using hi
    have h1 := hx i fs[i] (by simp [hi2])
    rw [List.getElem?_eq_getElem (by omega)] at h1
    obtain ⟨zs, hz, _⟩ := hf _ (List.getElem_mem hi) _ _ _ (by simpa using h1)
    exact ⟨zs, by simpa using hz⟩
  have hall : ∀ l : List Field, (∀ f ∈ l, ∃ zs : List Int, (cs.drop f.offset).take (Try.prog.cellsOf f.type) = ints zs) → ∃ zs : List Int, l.flatMap (fun f => (cs.drop f.offset).take (Try.prog.cellsOf f.type)) = ints zs := by
    intro l
    induction l with
    | nil => intro _; exact ⟨[], rfl⟩
    | cons a t ih =>
      intro hp
      obtain ⟨z1, h1⟩ := hp a (by simp)
      obtain ⟨z2, h2⟩ := ih (fun f hf => hp f (by simp [hf]))
      exact ⟨z1 ++ z2, by rw [List.flatMap_cons, h1, h2, ints_append]⟩
  obtain ⟨zs, hz⟩ := hall _ hparts
  rw [hlay cs hl] at hz
  exact ⟨zs, hz, by rw [← hl, hz, ints_length]⟩
theorem intsT_span : IntsT enc w base sp held 24 := by
  refine intsT_struct Try.underlying24 ?_ ?_
  · intro cs hl
    rw [show Try.prog.cellsOf 24 = 2 by kernel_rfl] at hl
    match cs, hl with
    | [a, b], _ => simp [show Try.prog.cellsOf 3 = 1 by kernel_rfl]
  · intro f hf
    simp at hf
    rcases hf with rfl | rfl <;> exact intsT_int
theorem intsT_right : IntsT enc w base sp held 26 := by
  refine intsT_struct Try.underlying26 ?_ ?_
  · intro cs hl
    rw [show Try.prog.cellsOf 26 = 4 by kernel_rfl] at hl
    match cs, hl with
    | [a, b, c, d], _ => simp [show Try.prog.cellsOf 3 = 1 by kernel_rfl, show Try.prog.cellsOf 24 = 2 by kernel_rfl]
  · intro f hf
    simp at hf
    rcases hf with rfl | rfl | rfl <;> first | exact intsT_int | exact intsT_span
/-- A slice of structs of integers. -/
theorem sl_of_intsT {t e : TypeId} {s fuel n c : Nat} {A : Option Addr} {x : DataW H × List MemPlace} (ht : Try.prog.underlying t = some (.slice e)) (hs : Try.prog.cellsOf e = s) (h0 : 0 < s) (hT : IntsT enc w 0 sp held e)
    (h : DataW.trod enc Try.prog w 0 sp held fuel t [.slice A n c] = some x) : ∃ zs : List Int, Sl w w.heap.size s A n c (ints zs) := by
  rcases open_slice ht h with ⟨hcs, _⟩ | ⟨a, len, cap, m, k, D, Pl, hcs, hb, hl, hm, hmm, _, hx⟩
  · simp at hcs
    obtain ⟨rfl, rfl, rfl⟩ := hcs
    exact ⟨[], Sl.none_ _ _ _⟩
  · simp at hcs
    obtain ⟨rfl, rfl, rfl⟩ := hcs
    have hnm : n ≤ m := by rw [hmm]; split <;> omega
    rw [hs] at hx
    have hex : ∀ i, i < n → ∃ zs : List Int, zs.length = s ∧ ∀ j, j < s → w.cell? ((a.add (i * s)).add j) = (ints zs)[j]? := by
      intro i hi
      obtain ⟨cs, h1, h2⟩ := hx i (by omega)
      obtain ⟨zs, rfl, hz⟩ := hT _ _ _ h2
      obtain ⟨_, _, h3⟩ := World.cells?_some h1
      exact ⟨zs, hz.trans hs, h3⟩
    obtain ⟨F, hF⟩ := choose_lt (α := List Int) hex
    have hlen : ∀ q, q ≤ n → ((List.range q).flatMap F).length = q * s := by
      intro q
      induction q with
      | zero => simp
      | succ q ih => intro hq; rw [List.range_succ, List.flatMap_append, List.length_append, ih (by omega)]; simp [(hF q (by omega)).1, Nat.succ_mul]
    have hget : ∀ q, q ≤ n → ∀ i j, i < q → j < s → ((List.range q).flatMap F)[i * s + j]? = (F i)[j]? := by
      intro q
      induction q with
      | zero => intro _ i j hi; omega
      | succ q ih =>
        intro hq i j hi hj
        rw [List.range_succ, List.flatMap_append]
        by_cases hiq : i < q
        · have : i * s + j < q * s := by
            have := Nat.mul_le_mul_right s (show i + 1 ≤ q by omega)
            rw [Nat.succ_mul] at this; omega
          rw [List.getElem?_append_left (by rw [hlen q (by omega)]; exact this)]
          exact ih (by omega) i j hiq hj
        · obtain rfl : i = q := by omega
          rw [List.getElem?_append_right (by rw [hlen i (by omega)]; omega), hlen i (by omega)]
          simp
    refine ⟨(List.range n).flatMap F, by rw [ints_length, hlen n (Nat.le_refl _)], hl, hm, fun hn => ?_⟩
    obtain ⟨b, off, spot⟩ := a
    have hc0 := (hF 0 hn).2 0 h0
    rw [Nat.zero_mul] at hc0
    have hv0 : ∃ v, w.cell? ((Addr.mk b off spot).add 0 |>.add 0) = some v := by
      have h1 := (hF 0 hn).1
      exact ⟨_, hc0.trans (ints_get (F 0) 0 (by omega))⟩
    obtain ⟨v0, hv0⟩ := hv0
    have hspot : spot = none := by simpa [Addr.add] using World.cell?_spot hv0
    subst hspot
    refine ⟨b, off, rfl, by simpa [Addr.add] using World.block_lt_of_cell? w _ hv0, fun j u hu => ?_⟩
    have hj : j < n * s := by
      have := (List.getElem?_eq_some_iff.1 hu).1
      rwa [ints_length, hlen n (Nat.le_refl _)] at this
    have hi : j / s < n := Nat.div_lt_of_lt_mul (by rw [Nat.mul_comm]; exact hj)
    have hr : j % s < s := Nat.mod_lt _ h0
    have hjj : j / s * s + j % s = j := by rw [Nat.mul_comm]; exact Nat.div_add_mod j s
    have h1 := (hF (j / s) hi).2 (j % s) hr
    rw [show ((⟨b, off, none⟩ : Addr).add (j / s * s)).add (j % s) = ⟨b, off + j, none⟩ from by
      unfold Addr.add
      rw [← hjj]
      split <;> split <;> simp_all <;> omega] at h1
    rw [h1, ← hu]
    unfold ints
    rw [List.getElem?_map, List.getElem?_map, ← hjj, hget n (Nat.le_refl _) _ _ hi hr, hjj]
/-- Integers by fours are rights. -/
theorem ints_rts : ∀ (n : Nat) (zs : List Int), zs.length = n * 4 → ∃ cs : List Rt, ints zs = rtCells cs ∧ cs.length = n
  | 0, zs, h => ⟨[], by
      have : zs = [] := List.eq_nil_of_length_eq_zero (by omega)
      subst this; rfl, rfl⟩
  | n + 1, zs, h => by
    rcases zs with _ | ⟨a, _ | ⟨b, _ | ⟨c, _ | ⟨d, t⟩⟩⟩⟩
    iterate 4 (· simp at h <;> omega)
    · skip
      obtain ⟨cs, h1, h2⟩ := ints_rts n t (by simp at h; omega)
      refine ⟨⟨a, b, c, d⟩ :: cs, ?_, by simp [h2]⟩
      unfold ints at h1 ⊢
      simp only [List.map_cons, h1, rtCells, List.flatMap_cons]
      rfl
/-- An argument that is a slice of rights. -/
theorem rights_of {fuel n c : Nat} {A : Option Addr} {x : DataW H × List MemPlace} (h : DataW.trod enc Try.prog w 0 sp held fuel 22 [.slice A n c] = some x) : ∃ cs : List Rt, Sl w w.heap.size 4 A n c (rtCells cs) := by
  obtain ⟨zs, hs⟩ := sl_of_intsT (s := 4) Try.underlying22 (by kernel_rfl) (by omega) intsT_right h
  obtain ⟨cs, h1, _⟩ := ints_rts n zs (by have := hs.1; rwa [ints_length] at this)
  exact ⟨cs, h1 ▸ hs⟩
set_option maxRecDepth 20000 in
/-- An argument that is a right. -/
theorem right_of {r : Reach} {b0 : Nat} {v : Value} {d : DataW H} {p : List MemPlace} (hv : Value.okWide Try.prog w r b0 26 v) (h : DataW.Trod enc Try.prog w 0 sp held 26 v d p) : ∃ c : Rt, v = .agg c.arr := by
  obtain ⟨cs, rfl, hsz⟩ := okWide_struct Try.underlying26 hv
  obtain ⟨fuel, hf⟩ := h
  obtain ⟨zs, hz, hl⟩ := intsT_right _ _ _ hf
  rw [show Try.prog.cellsOf 26 = 4 by kernel_rfl] at hl
  obtain ⟨l⟩ := cs
  have hc : (Value.agg (Array.mk l)).cells.toList = l := by simp [Value.cells]
  rw [hc] at hz
  match zs, hl with
  | [a, b, c, d], _ => exact ⟨⟨a, b, c, d⟩, by rw [hz]; rfl⟩
end
end Go.Proofs.Ytfcmgmcidngjeaa
