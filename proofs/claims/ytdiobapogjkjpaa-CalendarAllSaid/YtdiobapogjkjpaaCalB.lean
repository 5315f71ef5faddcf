/-
  A span and the days behind it up to its beginning divide the year: the walk of CalendarSplits, and the plain facts on days. No condition.
-/
import Derived.Test.YtdiobapogjkjpaaProg
import Derived.Test.YtdiobapogjkjpaaCalA
import Derived.Deep.RegionHeld3
namespace Go.Proofs.Ytdiobapogjkjpaa
open Go.RowKit

theorem inB_val {f t d : Int} (hf : 0 ≤ f ∧ f ≤ 364) (ht : 0 ≤ t ∧ t ≤ 364) (hd : 0 ≤ d ∧ d ≤ 364) : inB f t d = if f ≤ t then decide (f ≤ d) && decide (d ≤ t) else decide (f ≤ d) || decide (d ≤ t) := by
  simp [inB, okSpan, wit_of hf.1 hf.2, wit_of ht.1 ht.2, wit_of hd.1 hd.2]
theorem inB_iff {f t d : Int} (hf : 0 ≤ f ∧ f ≤ 364) (ht : 0 ≤ t ∧ t ≤ 364) (hd : 0 ≤ d ∧ d ≤ 364) : inB f t d = true ↔ (f ≤ t ∧ f ≤ d ∧ d ≤ t) ∨ (t < f ∧ (f ≤ d ∨ d ≤ t)) := by
  rw [inB_val hf ht hd]
  by_cases h : f ≤ t
  · simp [h]; omega
  · simp [h]; omega
theorem split_iff {f t d : Int} (hf : 0 ≤ f ∧ f ≤ 364) (ht : 0 ≤ t ∧ t ≤ 364) (hd : 0 ≤ d ∧ d ≤ 364) (hne : (t + 1) % 365 ≠ f) : inB ((t + 1) % 365) ((f + 365 - 1) % 365) d = !inB f t d := by
  rw [Bool.eq_iff_iff, Bool.not_eq_true', Bool.eq_false_iff, Ne, inB_iff hf ht hd, inB_iff (by omega) (by omega) hd]
  omega
theorem full_iff {f t d : Int} (hf : 0 ≤ f ∧ f ≤ 364) (ht : 0 ≤ t ∧ t ≤ 364) (hd : 0 ≤ d ∧ d ≤ 364) (he : (t + 1) % 365 = f) : inB f t d = true := by
  rw [inB_iff hf ht hd]; omega
theorem daysN_eq (f t : Int) : daysN f t = ((List.range 365).filter fun d : Nat => inB f t (d : Int)).length := by
  unfold daysN bothL
  rw [List.length_map]
  simp
theorem full_days {f t : Int} (hf : 0 ≤ f ∧ f ≤ 364) (ht : 0 ≤ t ∧ t ≤ 364) (he : (t + 1) % 365 = f) : daysN f t = 365 := by
  rw [daysN_eq, List.filter_eq_self.2 (fun d hd => full_iff hf ht (by simp at hd; omega) he)]
  simp
theorem all_days {f t d : Int} (hd : 0 ≤ d ∧ d ≤ 364) (h : daysN f t = 365) : inB f t d = true := by
  rw [daysN_eq] at h
  have h2 := List.length_filter_eq_length_iff.1 (show ((List.range 365).filter fun d : Nat => inB f t (d : Int)).length = (List.range 365).length by rw [h]; simp)
  have h3 := h2 d.toNat (by simp; omega)
  rwa [Int.toNat_of_nonneg hd.1] at h3
theorem len_parts {α : Type} (p : α → Bool) : ∀ l : List α, (l.filter p).length + (l.filter fun x => !p x).length = l.length
  | [] => rfl
  | x :: l => by
    have := len_parts p l
    cases h : p x <;> simp [h] <;> omega
theorem split_days {f t : Int} (hf : 0 ≤ f ∧ f ≤ 364) (ht : 0 ≤ t ∧ t ≤ 364) (hne : (t + 1) % 365 ≠ f) : daysN ((t + 1) % 365) ((f + 365 - 1) % 365) + daysN f t = 365 := by
  rw [daysN_eq, daysN_eq, List.filter_congr (q := fun d : Nat => !inB f t (d : Int)) (fun d hd => split_iff hf ht (by simp at hd; omega) hne)]
  have h := len_parts (fun d : Nat => inB f t (d : Int)) (List.range 365)
  simp only [List.length_range] at h
  omega
theorem split_both {f t : Int} (hf : 0 ≤ f ∧ f ≤ 364) (ht : 0 ≤ t ∧ t ≤ 364) (hne : (t + 1) % 365 ≠ f) : bothL f t ((t + 1) % 365) ((f + 365 - 1) % 365) 365 = [] := by
  unfold bothL
  rw [List.filter_congr (q := fun _ => false) (fun d hd => by rw [split_iff hf ht (by simp at hd; omega) hne]; cases inB f t (d : Int) <;> rfl)]
  simp
theorem block_lt2 {w : World} {b o : Nat} {v : Value} (h : w.cell? ⟨b, o, none⟩ = some v) : b < w.heap.size := World.block_lt_of_cell? w ⟨b, o, none⟩ h
theorem days_le (f t : Int) : daysN f t ≤ 365 := bothL_le f t f t 365

set_option maxHeartbeats 1600000 in
set_option maxRecDepth 20000 in
theorem splits_walk (a0 a1 a2 : Int) (w : World) : Calls Try.prog 3 #[.int .i64 a0, .int .i64 a1, .int .i64 a2] w fun e w' => e = .returned (.bool true) ∧ Below w.heap.size w w' := by
  go_enter Try.func3, Try.ntmps3
  go_wp2_with (go_at_call 8; refine (mod_any _ _ (by omega) (by omega) _).mono ?_; rintro e w1 ⟨rfl, rfl⟩)
  obtain ⟨f, hf⟩ : ∃ f, f = a0 % 365 := ⟨_, rfl⟩
  obtain ⟨t, ht⟩ : ∃ t, t = a1 % 365 := ⟨_, rfl⟩
  have f0 : 0 ≤ f ∧ f ≤ 364 := by omega
  have t0 : 0 ≤ t ∧ t ≤ 364 := by omega
  rw [← hf, ← ht]; clear hf ht
  refine (days_any _ _ _).mono ?_
  rintro e w2 ⟨rfl, hb2⟩
  obtain ⟨hc, hfz⟩ := bcell hb2
  have hle := days_le f t
  have hx0 : w2.cell? ⟨w.heap.size, 0, none⟩ = some (.int .i64 f) := by rw [hc _ _ (by simp)]; simp
  have hx1 : w2.cell? ⟨w.heap.size, 1, none⟩ = some (.int .i64 t) := by rw [hc _ _ (by simp)]; simp
  have hB := bel2 hb2
  clear hc hfz hb2
  by_cases hn : daysN f t = 365
  · have H1 := hide (fun d hd => all_days (d := d) hd hn)
    have hn2 : ((daysN f t : Int) == 365) = true := beq_of (by omega)
    clear hn hle
    generalize daysN f t = n at *
    go_wp2_with fail
    go_region_held3 (fun w' => w'.cell? ⟨w.heap.size, 0, none⟩ = some (.int .i64 f) ∧ w'.cell? ⟨w.heap.size, 1, none⟩ = some (.int .i64 t) ∧ Below w.heap.size w w')
      (first | exact ⟨hx0, hx1, hB.drew⟩ | go_keep | (go_split_ands; exact ⟨cell_thr hb (by assumption), cell_thr hb (by assumption), bthr (by assumption) hb (Below.size (by assumption))⟩))
      (first | (go_at_call 8; refine (mod_any _ _ (by omega) (by omega) _).mono ?_; rintro e w3 ⟨rfl, rfl⟩) | (go_at_call 10; refine (in_any _ _ _ _).mono ?_; rintro e w3 ⟨rfl, hb⟩; rw [H1.out _ (by omega)]) | (go_at_call 11; refine (awake_any _).mono ?_; rintro e w3 ⟨rfl, hb⟩))
    go_split_ands
    go_wp2
    go_ret
    exact ⟨rfl, by assumption⟩
  · have hn2 : ((daysN f t : Int) == 365) = false := beq_eq_false_iff_ne.2 (by omega)
    have hne : (t + 1) % 365 ≠ f := fun e => hn (full_days f0 t0 e)
    have hlt := block_lt2 hx0
    obtain ⟨x, hx⟩ : ∃ x, x = a2 % 365 := ⟨_, rfl⟩
    have x0 : 0 ≤ x ∧ x ≤ 364 := by omega
    have H1 := hide (split_iff f0 t0 x0 hne)
    have H2 := hide (split_days f0 t0 hne)
    have H3 := hide (split_both f0 t0 hne)
    have g0 : 0 ≤ (t + 1) % 365 ∧ (t + 1) % 365 ≤ 364 := by omega
    have u0 : 0 ≤ (f + 365 - 1) % 365 ∧ (f + 365 - 1) % 365 ≤ 364 := by omega
    clear hn hne
    obtain ⟨g, hg⟩ : ∃ g, g = (t + 1) % 365 := ⟨_, rfl⟩
    obtain ⟨u, hu⟩ : ∃ u, u = (f + 365 - 1) % 365 := ⟨_, rfl⟩
    rw [← hg] at H1 H2 H3
    rw [← hu] at H1 H2 H3
    obtain ⟨hy0, hy1, _⟩ := (Blk.new w2 24 #[.int .i64 g, .int .i64 u]).facts2
    have hx2 := cell_thr (bel1 (w := w2) (o := .cells #[.int .i64 g, .int .i64 u] 24)) hx0
    have hx3 := cell_thr (bel1 (w := w2) (o := .cells #[.int .i64 g, .int .i64 u] 24)) hx1
    have hB2 := hB.alloc (Nat.le_of_lt hlt) (.cells #[.int .i64 g, .int .i64 u] 24)
    have HG := hide hg; have HU := hide hu; have HX := hide hx; clear hx hg hu
    go_wp2_with (go_at_call 8; refine (mod_any _ _ (by omega) (by omega) _).mono ?_; rintro e w1 ⟨rfl, rfl⟩)
    rw [← HG.out, ← HU.out, ← HX.out]
    have hn3 : (((daysN g u : Nat) : Int) == 365 - ((daysN f t : Nat) : Int)) = true := beq_of (by have := H2.out; omega)
    have hwr : IntKind.i64.wrap (365 - (daysN f t : Int)) = 365 - (daysN f t : Int) := IntWalk.i64_in _ (by omega)
    clear hB hx0 hx1
    cases h1 : inB f t x
    all_goals
      have h2 := H1.out
      rw [h1] at h2
      simp only [Bool.not_false, Bool.not_true] at h2
      go_region_held3 (fun w' => w'.cell? ⟨w.heap.size, 0, none⟩ = some (.int .i64 f) ∧ w'.cell? ⟨w.heap.size, 1, none⟩ = some (.int .i64 t) ∧ w'.cell? ⟨w2.heap.size, 0, none⟩ = some (.int .i64 g) ∧ w'.cell? ⟨w2.heap.size, 1, none⟩ = some (.int .i64 u) ∧ Below w.heap.size w w')
        (first | exact ⟨hx2, hx3, hy0, hy1, hB2.drew⟩ | go_keep | (go_split_ands; exact ⟨cell_thr hb (by assumption), cell_thr hb (by assumption), cell_thr hb (by assumption), cell_thr hb (by assumption), bthr (by assumption) hb (Below.size (by assumption))⟩))
        (first | (go_at_call 10; refine (in_any _ _ _ _).mono ?_; rintro e w3 ⟨rfl, hb⟩; first | rw [h1] | rw [h2]) | (go_at_call 9; refine (days_any _ _ _).mono ?_; rintro e w3 ⟨rfl, hb⟩) | (go_at_call 12; refine (both_any _ _ _ _ _).mono ?_; rintro e w3 ⟨v, rfl, _, hb, hnil⟩; obtain rfl := hnil H3.out) | (go_at_call 11; refine (awake_any _).mono ?_; rintro e w3 ⟨rfl, hb⟩))
      go_split_ands
      go_wp2
      go_ret
      exact ⟨rfl, by assumption⟩
end Go.Proofs.Ytdiobapogjkjpaa
