/-
  The plain laws of ForecastWeights: weights that are all multiplied, scenarios that are halved. No condition.
-/
import Derived.Test.YtmlpimidbgeacaaProg
import Derived.Test.YtmlpimidbgeacaaFlq
namespace Go.Proofs.Ytmlpimidbgeacaa
open Go.RowKit

def scK (K : Int) (s : Sc) : Sc := { s with wt := K * s.wt }
def manyL (K : Int) (ss : List Sc) : List Sc := ss.map (scK K)
def halfL (K : Int) (ss : List Sc) : List Sc := ss.flatMap fun s => [scK K s, scK K s]
theorem manyL_take {K : Int} {ss : List Sc} {q : Nat} {s : Sc} (h : q < ss.length) (e : ss[q] = s) : manyL K (ss.take (q + 1)) = manyL K (ss.take q) ++ [scK K s] := by
  unfold manyL
  rw [List.take_succ_eq_append_getElem h, List.map_append, e]; rfl
theorem halfL_take {K : Int} {ss : List Sc} {q : Nat} {s : Sc} (h : q < ss.length) (e : ss[q] = s) : halfL K (ss.take (q + 1)) = halfL K (ss.take q) ++ [scK K s, scK K s] := by
  unfold halfL
  rw [List.take_succ_eq_append_getElem h, List.flatMap_append, e]; simp
theorem halfL_len (K : Int) : ∀ ss : List Sc, (halfL K ss).length = 2 * ss.length
  | [] => rfl
  | s :: t => by
    have := halfL_len K t
    unfold halfL at *
    rw [List.flatMap_cons, List.length_append, this]
    simp; omega
theorem manyL_mem {K : Int} {ss : List Sc} {t : Sc} (h : t ∈ manyL K ss) : ∃ s ∈ ss, t = scK K s := by
  obtain ⟨s, hs, e⟩ := List.mem_map.1 h
  exact ⟨s, hs, e.symm⟩
theorem halfL_mem {K : Int} {ss : List Sc} {t : Sc} (h : t ∈ halfL K ss) : ∃ s ∈ ss, t = scK K s := by
  obtain ⟨s, hs, e⟩ := List.mem_flatMap.1 h
  exact ⟨s, hs, by simpa using e⟩
theorem halfL_of {K : Int} {ss : List Sc} {s : Sc} (h : s ∈ ss) : scK K s ∈ halfL K ss := List.mem_flatMap.2 ⟨s, h, by simp⟩
theorem scK_good {K : Int} {nn : Nat} {s : Sc} (h1 : 1 ≤ K) (h9 : K ≤ 9) (h : ScGood nn s) : (1 ≤ (scK K s).wt ∧ (scK K s).wt ≤ 10000) ∧ (scK K s).n = nn ∧ ∀ v ∈ (scK K s).fl, 0 ≤ v ∧ v ≤ 1073741824 := by
  obtain ⟨⟨a, b⟩, c, d⟩ := h
  refine ⟨?_, c, fun v hv => by have := d v hv; omega⟩
  have m1 := Int.mul_le_mul h1 a (by omega) (by omega)
  have m2 := Int.mul_le_mul h9 b (by omega) (by omega)
  show 1 ≤ K * s.wt ∧ K * s.wt ≤ 10000
  omega
theorem scK_bnd {K x : Int} (h1 : 1 ≤ K) (h9 : K ≤ 9) (a : 1 ≤ x) (b : x ≤ 5) : 1 ≤ K * x ∧ K * x ≤ 45 := by
  have m1 := Int.mul_le_mul h1 a (by omega) (by omega)
  have m2 := Int.mul_le_mul h9 b (by omega) (by omega)
  omega
section
variable {f : Sc → Int} {ss : List Sc} {K : Int}
theorem many_sum (g : Sc → Int) (h : ∀ s, g (scK K s) = K * g s) : sumS g (manyL K ss) = K * sumS g ss := by
  unfold manyL
  rw [sumS_map, ← sumS_mul]
  exact sumS_congr _ fun s _ => h s
theorem half_sum (g : Sc → Int) (h : ∀ s, g (scK K s) = K * g s) : sumS g (halfL K ss) = 2 * K * sumS g ss := by
  have e : sumS (fun s => g (scK K s)) ss = K * sumS g ss := by
    rw [← sumS_mul]
    exact sumS_congr _ fun s _ => h s
  unfold halfL
  rw [sumS_twice, e, Int.mul_assoc]
theorem le_scK (hf : ∀ s, f (scK K s) = f s) (y : Int) (s : Sc) : (if f (scK K s) ≤ y then (scK K s).wt else 0) = K * (if f s ≤ y then s.wt else 0) := by
  rw [hf]
  split
  · rfl
  · simp
theorem qv_many {num den y : Int} (hf : ∀ s, f (scK K s) = f s) (h1 : 1 ≤ K) (h : QV f (manyL K ss) num den y) : QV f ss num den y := by
  refine qv_scale h1 (fun z => ?_) (by rw [wAll_wt, wAll_wt]; exact many_sum _ fun s => rfl) (fun z => by rw [wLe_wt, wLe_wt]; exact many_sum _ fun s => le_scK hf z s) h
  constructor
  · rintro ⟨t, ht, e⟩
    obtain ⟨s, hs, rfl⟩ := manyL_mem ht
    exact ⟨s, hs, (hf s).symm.trans e⟩
  · rintro ⟨s, hs, e⟩
    exact ⟨scK K s, List.mem_map_of_mem hs, (hf s).trans e⟩
theorem qv_half {num den y : Int} (hf : ∀ s, f (scK K s) = f s) (h1 : 1 ≤ K) (h : QV f (halfL K ss) num den y) : QV f ss num den y := by
  refine qv_scale (K := 2 * K) (by omega) (fun z => ?_) (by rw [wAll_wt, wAll_wt]; exact half_sum _ fun s => rfl) (fun z => by rw [wLe_wt, wLe_wt]; exact half_sum _ fun s => le_scK hf z s) h
  constructor
  · rintro ⟨t, ht, e⟩
    obtain ⟨s, hs, rfl⟩ := halfL_mem ht
    exact ⟨s, hs, (hf s).symm.trans e⟩
  · rintro ⟨s, hs, e⟩
    exact ⟨scK K s, halfL_of hs, (hf s).trans e⟩
theorem mean_half {b b' : Bd} {T : Int} (h1 : 1 ≤ K) (hf : b'.fr = b.fr) (hs : b'.ss = halfL K b.ss) : meanV b' T = meanV b T := by
  unfold meanV
  rw [hf, hs]
  have e1 : sumS (meanT (T - b.fr).toNat) (halfL K b.ss) = 2 * K * sumS (meanT (T - b.fr).toNat) b.ss := half_sum _ fun s => by unfold meanT scK; simp only; rw [Int.mul_assoc]
  have e2 : sumS (wOf fun _ => true) (halfL K b.ss) = 2 * K * sumS (wOf fun _ => true) b.ss := half_sum _ fun s => by unfold wOf scK; simp
  rw [e1, e2, Int.mul_ediv_mul_of_pos _ _ (by omega)]
end
end Go.Proofs.Ytmlpimidbgeacaa
