/-
  Contracts of the calendar's functions and of Mod: what each returns, for whatever integers. No condition but Mod's bounds on its second argument.
-/
import Derived.Test.YtjbddicgegkkjaaProg
import Derived.Test.YtjbddicgegkkjaaLib
namespace Go.Proofs.Ytjbddicgegkkjaa
open Go.RowKit

def wit (n m : Int) : Bool := decide (0 ≤ n) && decide (n ≤ m)
theorem wit_iff {n m : Int} : wit n m = true ↔ 0 ≤ n ∧ n ≤ m := by simp [wit]
theorem wit_of {n m : Int} (h0 : 0 ≤ n) (h1 : n ≤ m) : wit n m = true := wit_iff.2 ⟨h0, h1⟩
theorem wit_not {n m : Int} : wit n m = false ↔ n < 0 ∨ m < n := by rw [Bool.eq_false_iff, Ne, wit_iff]; omega
theorem within_any (n m : Int) (w : World) :
    Calls Try.prog 51 #[.int .i64 n, .int .i64 m] w fun e w' => e = .returned (.bool (wit n m)) ∧ w = w' := by
  by_cases h : 0 ≤ n
  all_goals
    go_enter Try.func51, Try.ntmps51
    go_wp2
    go_ret
    exact ⟨ret_bool (by simp [wit]; try omega), rfl⟩
theorem mod_eq (n k : Int) (h0 : 0 < k) (h1 : k ≤ 4611686018427387904) : (wrap64 (n.tmod k + k)).tmod k = n % k := by
  have a1 := Int.tmod_lt_of_pos n h0
  have a2 : -k < n.tmod k := by
    have := Int.tmod_lt_of_pos (-n) h0
    rw [Int.neg_tmod] at this; omega
  rw [IntWalk.wrap64_in _ ⟨by omega, by omega⟩, Int.tmod_eq_emod_of_nonneg (by omega), Int.add_emod_right]
  rw [Int.tmod_eq_emod]
  split
  · simp
  · have e : (k.natAbs : Int) = k := by omega
    rw [e, Int.sub_emod_right, Int.emod_emod_of_dvd _ (Int.dvd_refl k)]
theorem mod_any (n k : Int) (h0 : 0 < k) (h1 : k ≤ 4611686018427387904) (w : World) :
    Calls Try.prog 11 #[.int .i64 n, .int .i64 k] w fun e w' => e = .returned (.int .i64 (n % k)) ∧ w = w' := by
  go_enter Try.func11, Try.ntmps11
  go_wp2
  go_ret
  exact ⟨ret_int (mod_eq n k h0 h1), rfl⟩
theorem is_any (d : Int) (w : World) :
    Calls Try.prog 64 #[.int .i64 d] w fun e w' => e = .returned (.bool (wit d 364)) ∧ w = w' := by
  go_enter Try.func64, Try.ntmps64
  go_wp2_with (go_at_call 51; refine (within_any _ _ _).mono ?_; rintro e w' ⟨rfl, rfl⟩)
  go_ret
  exact ⟨rfl, rfl⟩
def okSpan (f t : Int) : Bool := wit f 364 && wit t 364
theorem valid_any (f t : Int) (w : World) :
    Calls Try.prog 52 #[.agg #[.int .i64 f, .int .i64 t]] w fun e w' => e = .returned (.bool (okSpan f t)) ∧ Below w.heap.size w w' := by
  cases h : wit f 364
  all_goals
    go_enter Try.func52, Try.ntmps52
    go_wp2_with (go_at_call 64; refine (is_any _ _).mono ?_; rintro e w' ⟨rfl, rfl⟩)
    go_ret
    exact ⟨ret_bool (by simp [okSpan, h]), bel1⟩
def inB (f t d : Int) : Bool := okSpan f t && wit d 364 && (if f ≤ t then decide (f ≤ d) && decide (d ≤ t) else decide (f ≤ d) || decide (d ≤ t))
theorem inB_1 {f t d : Int} (h : okSpan f t = false) : inB f t d = false := by simp [inB, h]
theorem inB_2 {f t d : Int} (h : wit d 364 = false) : inB f t d = false := by simp [inB, h]
theorem inB_3 {f t d : Int} (h1 : okSpan f t = true) (h2 : wit d 364 = true) (h : f ≤ t) : inB f t d = (decide (f ≤ d) && decide (d ≤ t)) := by simp [inB, h, h1, h2]
theorem inB_4 {f t d : Int} (h1 : okSpan f t = true) (h2 : wit d 364 = true) (h : ¬ f ≤ t) : inB f t d = (decide (f ≤ d) || decide (d ≤ t)) := by simp [inB, h, h1, h2]
theorem in_any (f t d : Int) (w : World) :
    Calls Try.prog 68 #[.agg #[.int .i64 f, .int .i64 t], .int .i64 d] w fun e w' => e = .returned (.bool (inB f t d)) ∧ Below w.heap.size w w' := by
  cases h1 : okSpan f t
  · go_enter Try.func68, Try.ntmps68
    go_wp2_with (go_at_call 52; refine (valid_any _ _ _).mono ?_; rintro e w' ⟨rfl, hb⟩)
    go_ret
    exact ⟨ret_bool (by simp [inB_1 h1]), bel2 hb⟩
  · cases h2 : wit d 364
    · go_enter Try.func68, Try.ntmps68
      go_wp2_with (first | (go_at_call 52; refine (valid_any _ _ _).mono ?_; rintro e w' ⟨rfl, hb⟩) | (go_at_call 64; refine (is_any _ _).mono ?_; rintro e w' ⟨rfl, rfl⟩))
      go_ret
      exact ⟨ret_bool (by simp [inB_2 h2]), bel2 hb⟩
    · by_cases h3 : f ≤ t
      · by_cases h4 : f ≤ d
        all_goals
          go_enter Try.func68, Try.ntmps68
          go_wp2_with (first | (go_at_call 52; refine (valid_any _ _ _).mono ?_; rintro e w' ⟨rfl, hb⟩; obtain ⟨hc, hf⟩ := bcell hb) | (go_at_call 64; refine (is_any _ _).mono ?_; rintro e w' ⟨rfl, rfl⟩))
          go_ret
          exact ⟨ret_bool (by simp [inB_3 h1 h2 h3]; try omega), bel2 hb⟩
      · by_cases h4 : f ≤ d
        all_goals
          go_enter Try.func68, Try.ntmps68
          go_wp2_with (first | (go_at_call 52; refine (valid_any _ _ _).mono ?_; rintro e w' ⟨rfl, hb⟩; obtain ⟨hc, hf⟩ := bcell hb) | (go_at_call 64; refine (is_any _ _).mono ?_; rintro e w' ⟨rfl, rfl⟩))
          go_ret
          exact ⟨ret_bool (by simp [inB_4 h1 h2 (by omega)]; try omega), bel2 hb⟩

theorem slInt : SlT Try.prog 22 3 1 := slT_of (z := .int .i64 0) (bytes := 8) Try.underlying22 (by kernel_rfl) rfl (by decide) (by decide)
def bothL (f t g u : Int) (k : Nat) : List Int := ((List.range k).filter fun d : Nat => inB f t (d : Int) && inB g u (d : Int)).map fun d : Nat => (d : Int)
theorem bothL_succ (f t g u : Int) (k : Nat) : bothL f t g u (k + 1) = bothL f t g u k ++ if inB f t (k : Int) && inB g u (k : Int) then [(k : Int)] else [] := by
  unfold bothL
  rw [List.range_succ, List.filter_append, List.map_append]
  congr 1
  by_cases h : (inB f t (k : Int) && inB g u (k : Int)) = true <;> simp [h]
theorem bothL_le (f t g u : Int) (k : Nat) : (bothL f t g u k).length ≤ k := by
  unfold bothL
  rw [List.length_map]
  exact Nat.le_trans (List.length_filter_le _ _) (by simp)
theorem bothL_no {f t g u : Int} {k : Nat} (h : (inB f t (k : Int) && inB g u (k : Int)) = false) : bothL f t g u (k + 1) = bothL f t g u k := by rw [bothL_succ, h]; simp
theorem bothL_yes {f t g u : Int} {k : Nat} (h : (inB f t (k : Int) && inB g u (k : Int)) = true) : bothL f t g u (k + 1) = bothL f t g u k ++ [(k : Int)] := by rw [bothL_succ, if_pos h]
set_option maxRecDepth 20000 in
theorem both_any (f t g u : Int) (w : World) :
    Calls Try.prog 65 #[.agg #[.int .i64 f, .int .i64 t], .agg #[.int .i64 g, .int .i64 u]] w fun e w' => ∃ v, e = .returned v ∧ w'.ownsRow w.heap.size 3 1 v (bothL f t g u 365).length (ints (bothL f t g u 365)) ∧ Below w.heap.size w w' ∧ (bothL f t g u 365 = [] → v = .slice none 0 0) := by
  go_enter Try.func65, Try.ntmps65
  go_wp2
  go_loopw [5, 7] (fun v i wr => ∃ k : Nat, k ≤ 365 ∧ i = .int .i64 k ∧ wr.ownsRow (w.heap.size + 2) 3 1 v (bothL f t g u k).length (ints (bothL f t g u k)) ∧ Below (w.heap.size + 2) ((w.alloc (.cells #[.int .i64 f, .int .i64 t] 26)).alloc (.cells #[.int .i64 g, .int .i64 u] 26)) wr ∧ Hid (bothL f t g u k = [] → v = .slice none 0 0))
    (fun _ i _ => 365 - (intOf i).toNat)
  case atStart => exact ⟨0, by omega, rfl, by simpa [bothL, ints] using World.ownsRow_nil _ _ _ _, Below.refl _ _, fun _ => rfl⟩
  case round =>
    obtain ⟨k, hk, rfl, hown, hb, hnil⟩ := hrel
    obtain ⟨hc, hf⟩ := bcell hb
    have hs : w.heap.size + 2 ≤ wr.heap.size := by have := hb.size; simpa using this
    have hs0 : w.heap.size < wr.heap.size := by omega
    have hs1 : w.heap.size + 1 < wr.heap.size := by omega
    by_cases hlt : k < 365
    · cases h1 : inB f t k
      · go_wp2_with (go_at_call 68; refine (in_any _ _ _ _).mono ?_; rintro e w1 ⟨rfl, hb1⟩)
        go_roundw
        case rel => exact ⟨k + 1, by omega, by go_num, by rw [bothL_no (by simp [h1])]; exact ownsRow_below hown hb1, bthr hb hb1 hs, by rw [bothL_no (by simp [h1])]; exact hnil⟩
        case measure => simp [intOf]; omega
      · cases h2 : inB g u k
        all_goals
          go_wp2_with fail
          refine (in_any _ _ _ _).mono ?_; rintro e w1 ⟨rfl, hb1⟩; obtain ⟨hc1, hf1⟩ := bcell hb1
          go_wp2_with fail
          refine (in_any _ _ _ _).mono ?_; rintro e w2 ⟨rfl, hb2⟩
          have hbb := bthr (bthr hb hb1 hs) hb2 (by have := hb1.size; omega)
          have hown2 := ownsRow_below (ownsRow_below hown hb1) hb2
          have hs2 : w.heap.size + 2 ≤ w2.heap.size := by have := hbb.size; simpa using this
          clear hb hb1 hb2 hc hf hc1 hf1 hs hs0 hs1
        · go_wp2
          go_roundw
          case rel => exact ⟨k + 1, by omega, by go_num, by rw [bothL_no (by simp [h1, h2])]; exact hown2, hbb, by rw [bothL_no (by simp [h1, h2])]; exact hnil⟩
          case measure => simp [intOf]; omega
        · have hle := bothL_le f t g u k
          go_wp2_with (at_builtin; refine wpList_push rfl _ _ _ rfl (w.heap.size + 2) _ _ slInt _ _ _ rfl hown2 _ _ rfl rfl rfl (by omega) hs2 ?_)
          intro v' w3 hown3 hg3 _
          have hb3 := hbb.trans (below_push hown2 hg3 hs2)
          go_wp2
          go_roundw
          case rel => exact ⟨k + 1, by omega, by go_num, by rw [bothL_yes (by simp [h1, h2]), ints_append, List.length_append]; exact hown3, hb3, fun he => by rw [bothL_yes (by simp [h1, h2])] at he; simp at he⟩
          case measure => simp [intOf]; omega
    · obtain rfl : k = 365 := by omega
      go_wp2
      go_ret
      exact ⟨_, rfl, ownsRow_base hown (by omega), bel3 hb (by omega), hnil.out⟩
def daysN (f t : Int) : Nat := (bothL f t f t 365).length
theorem days_any (f t : Int) (w : World) :
    Calls Try.prog 67 #[.agg #[.int .i64 f, .int .i64 t]] w fun e w' => e = .returned (.int .i64 (daysN f t)) ∧ Below w.heap.size w w' := by
  go_enter Try.func67, Try.ntmps67
  go_wp2_with fail
  refine (both_any _ _ _ _ _).mono ?_; rintro e w' ⟨v, rfl, hown, hb, _⟩
  obtain ⟨A, c, rfl, hsl⟩ := own_sl hown
  clear hown
  go_wp2
  go_ret
  exact ⟨rfl, bel2 hb⟩
end Go.Proofs.Ytjbddicgegkkjaa
