/-
  The plain laws of ForecastShifts: a bundle that is cut is valid, has the same quantiles, and volumes before and behind add up. No condition.
-/
import Derived.Test.YtmlpimidbgeacaaProg
import Derived.Test.YtmlpimidbgeacaaFlq
import Derived.Test.YtmlpimidbgeacaaFsh
import Derived.Test.YtmlpimidbgeacaaFvo
namespace Go.Proofs.Ytmlpimidbgeacaa
open Go.RowKit

theorem cut_len {xs ss : List Sc} {k : Nat} (h : xs.map dat = ss.map (datD k)) : xs.length = ss.length := by
  have := congrArg List.length h
  simpa using this
theorem cut_mem {xs ss : List Sc} {k : Nat} (h : xs.map dat = ss.map (datD k)) {t : Sc} (ht : t ∈ xs) : ∃ s ∈ ss, t.wt = s.wt ∧ t.fl = s.fl.drop k := by
  have h1 : dat t ∈ ss.map (datD k) := by rw [← h]; exact List.mem_map_of_mem ht
  obtain ⟨s, hs, e⟩ := List.mem_map.1 h1
  unfold dat datD at e
  injection e with e1 e2
  exact ⟨s, hs, e1.symm, e2.symm⟩
theorem cut_at {xs ss : List Sc} {k j : Nat} (h : xs.map dat = ss.map (datD k)) (h1 : j < xs.length) (h2 : j < ss.length) : xs[j].wt = ss[j].wt ∧ xs[j].fl = ss[j].fl.drop k := by
  have e := congrArg (fun l => l[j]?) h
  simp only [List.getElem?_map, List.getElem?_eq_getElem h1, List.getElem?_eq_getElem h2, Option.map_some, Option.some.injEq] at e
  unfold dat datD at e
  injection e with e1 e2
  exact ⟨e1, e2⟩
theorem sumS_cut {f f' : Sc → Int} {k : Nat} : ∀ (xs ss : List Sc), xs.map dat = ss.map (datD k) → (∀ t s : Sc, s ∈ ss → t.wt = s.wt → t.fl = s.fl.drop k → f t = f' s) → sumS f xs = sumS f' ss
  | [], [], _, _ => rfl
  | [], s :: ss, h, _ => by simp at h
  | t :: xs, [], h, _ => by simp at h
  | t :: xs, s :: ss, h, hf => by
    simp only [List.map_cons, List.cons.injEq] at h
    obtain ⟨h1, h2⟩ := h
    unfold dat datD at h1
    injection h1 with e1 e2
    simp only [sumS]
    rw [hf t s (by simp) e1 e2, sumS_cut xs ss h2 (fun t s hs => hf t s (by simp [hs]))]
theorem getD_drop (l : List Int) (k j : Nat) : (l.drop k).getD j 0 = l.getD (k + j) 0 := by simp [List.getD_eq_getElem?_getD, List.getElem?_drop]
/-- the same quantiles -/
theorem qv_cut {b x : Bd} {k : Nat} {T num den y : Int} (h : x.ss.map dat = b.ss.map (datD k)) (hf : x.fr = b.fr + k) (hT : b.fr + k ≤ T) (hq : QV (flAt x T) x.ss num den y) : QV (flAt b T) b.ss num den y := by
  have key : ∀ t s : Sc, t.fl = s.fl.drop k → flAt x T t = flAt b T s := fun t s e => by
    unfold flAt
    rw [e, getD_drop, hf]
    congr 1
    omega
  refine qv_scale (K := 1) (by omega) (fun z => ?_) ?_ (fun z => ?_) hq
  · constructor
    · rintro ⟨t, ht, e⟩
      obtain ⟨s, hs, _, e2⟩ := cut_mem h ht
      exact ⟨s, hs, (key t s e2).symm.trans e⟩
    · rintro ⟨s, hs, e⟩
      obtain ⟨j, hj, rfl⟩ := List.getElem_of_mem hs
      have hj2 : j < x.ss.length := by rw [cut_len h]; exact hj
      exact ⟨x.ss[j], List.getElem_mem _, (key _ _ (cut_at h hj2 hj).2).trans e⟩
  · rw [Int.one_mul, wAll_wt, wAll_wt]
    exact sumS_cut _ _ h (fun t s _ e1 _ => e1)
  · rw [Int.one_mul, wLe_wt, wLe_wt]
    exact sumS_cut _ _ h (fun t s _ e1 e2 => by rw [key t s e2, e1])
theorem vol_add (fl : List Int) (k n : Nat) (h : k ≤ n) : lsum (fl.take k) + lsum ((fl.drop k).take (n - k)) = lsum (fl.take n) := by
  rw [← lsum_append, ← List.take_add]
  congr 2
  omega
/-- volumes before and behind -/
theorem vol_cut {xs ss : List Sc} {k n j : Nat} (h : xs.map dat = ss.map (datD k)) (hk : k ≤ n) (hj : j < ss.length) : (ss.map (volOf k)).getD j 0 + (xs.map (volOf (n - k))).getD j 0 = (ss.map (volOf n)).getD j 0 := by
  have hj2 : j < xs.length := by rw [cut_len h]; exact hj
  simp only [List.getD_eq_getElem?_getD, List.getElem?_map, List.getElem?_eq_getElem hj, List.getElem?_eq_getElem hj2, Option.map_some, Option.getD_some]
  unfold volOf
  rw [(cut_at h hj2 hj).2]
  exact vol_add _ _ _ hk
theorem sc_n {w : World} {base : Nat} {s : Sc} (h : ScOwn w base s) : s.n = s.fl.length := by
  have := h.1
  rw [ints_length] at this
  omega
/-- what is cut off a made bundle -/
theorem cut_good {w : World} {base : Nat} {x : Bd} {ss : List Sc} {k nn : Nat} (h : x.ss.map dat = ss.map (datD k)) (ho : BdOwn w base x) (hg : ∀ s ∈ ss, ScGood nn s) (hl : ∀ s ∈ ss, s.n = s.fl.length) : ∀ t ∈ x.ss, (1 ≤ t.wt ∧ t.wt ≤ 10000) ∧ t.n = nn - k ∧ ∀ v ∈ t.fl, 0 ≤ v ∧ v ≤ 1073741824 := by
  intro t ht
  obtain ⟨s, hs, e1, e2⟩ := cut_mem h ht
  obtain ⟨h1, h2, h3⟩ := good_sc (hg s hs)
  refine ⟨by rw [e1]; exact h1, ?_, fun v hv => h3 v (by rw [e2] at hv; exact List.mem_of_mem_drop hv)⟩
  rw [sc_n (ho.2 t ht), e2, List.length_drop, ← hl s hs, h2]
theorem steps_of {ss : List Sc} {n : Nat} (hl : 1 ≤ ss.length) (h : ∀ s ∈ ss, s.n = n) : stepsOf ss = n := by
  rcases ss with _ | ⟨s, t⟩
  · simp at hl
  · exact h s (by simp)
theorem volE_made {x : Bd} {st : Int} (h : liveE x = 0) (h0 : 0 ≤ st) (h1 : st ≤ stepsOf x.ss) : volE x st = 0 := by
  unfold volE
  rw [if_neg (by simp [h]), if_pos (wit_of h0 h1)]
theorem gone_step {x : Bd} {t : Int} (h : x.err = 0) (hw : x.wd = true) : stepE x t = 9 := by
  have hl : liveE x = 9 := by unfold liveE; rw [if_neg (by simp [h]), hw]; rfl
  unfold stepE
  rw [hl]; rfl
theorem vol_bnd {nn st : Nat} {s : Sc} (hg : ScGood nn s) (hl : s.n = s.fl.length) (hn : nn ≤ 6) : 0 ≤ volOf st s ∧ volOf st s ≤ 100 := by
  have h := lsum_bnd (M := 12) (by omega) (s.fl.take st) (fun x hx => by have := hg.2.2 x (List.mem_of_mem_take hx); omega)
  rw [List.length_take] at h
  have := hg.2.1
  unfold volOf
  omega
end Go.Proofs.Ytmlpimidbgeacaa
