/-
  Contracts of slices.Index and Contains, of Meet, apart, and of Proved at a choice that proves itself. Conditions of Proved: each condition is valid, there are 20 at most, the table of kinds, a valid day, level, release and bounds, and that the choice proves itself.
-/
import Derived.Test.YtphgddanbgdemaaDoorProg
import Derived.Test.YtphgddanbgdemaaDoorMad
import Derived.Test.YtphgddanbgdemaaDoorKep
import Derived.Test.YtphgddanbgdemaaDoorRpv
import Derived.WalkLawsBesides
import Derived.Handy
namespace Go.Proofs.YtphgddanbgdemaaDoor
open Go.RowKit

theorem act_in {cs : List Cd} {d lv : Int} : ∀ x ∈ actC cs d lv, 0 ≤ x ∧ x < cs.length := fun x hx => ordC_mem x (List.mem_filter.1 hx).1
set_option maxHeartbeats 1600000 in
set_option maxRecDepth 20000 in
theorem pmeet_any (a0 a1 b0 b1 : Int) (w : World) : Calls Tryd.prog 53 #[.agg #[.int .i64 a0, .int .i64 a1], .agg #[.int .i64 b0, .int .i64 b1]] w fun e w' => e = .returned (metVal a0 a1 b0 b1) ∧ Below w.heap.size w w' := by
  go_enter Tryd.func53, Tryd.ntmps53
  go_wp2
  all_goals first | (refine bodyPost_ret (v := .tuple #[.agg #[.int .i64 0, .int .i64 0], .bool false]) ?_ rfl ⟨congrArg _ (met_no ?_).symm, ?_⟩; (focus (simp [results, Tryd.results53, go_sem]; done)); (focus omega); go_grown; done) | (refine bodyPost_ret (v := .tuple #[.agg #[.int .i64 a0, .int .i64 a1], .bool true]) ?_ rfl ⟨congrArg _ (met_yes ?_ ?_ ?_ ?_ ?_).symm, ?_⟩; (focus (simp [results, Tryd.results53, go_sem]; done)); (focus omega); (focus omega); (focus omega); (focus omega); (focus omega); go_grown; done) | (refine bodyPost_ret (v := .tuple #[.agg #[.int .i64 a0, .int .i64 b1], .bool true]) ?_ rfl ⟨congrArg _ (met_yes ?_ ?_ ?_ ?_ ?_).symm, ?_⟩; (focus (simp [results, Tryd.results53, go_sem]; done)); (focus omega); (focus omega); (focus omega); (focus omega); (focus omega); go_grown; done) | (refine bodyPost_ret (v := .tuple #[.agg #[.int .i64 b0, .int .i64 a1], .bool true]) ?_ rfl ⟨congrArg _ (met_yes ?_ ?_ ?_ ?_ ?_).symm, ?_⟩; (focus (simp [results, Tryd.results53, go_sem]; done)); (focus omega); (focus omega); (focus omega); (focus omega); (focus omega); go_grown; done) | (refine bodyPost_ret (v := .tuple #[.agg #[.int .i64 b0, .int .i64 b1], .bool true]) ?_ rfl ⟨congrArg _ (met_yes ?_ ?_ ?_ ?_ ?_).symm, ?_⟩; (focus (simp [results, Tryd.results53, go_sem]; done)); (focus omega); (focus omega); (focus omega); (focus omega); (focus omega); go_grown; done) | fail

theorem apart_any (a0 a1 b0 b1 : Int) (w : World) : Calls Tryd.prog 31 #[.agg #[.int .i64 a0, .int .i64 a1], .agg #[.int .i64 b0, .int .i64 b1]] w fun e w' => e = .returned (.bool (!metOk a0 a1 b0 b1)) ∧ Below w.heap.size w w' := by
  have q0 := (Blk.new w 23 #[.int .i64 a0, .int .i64 a1]).alloc (.cells #[.int .i64 b0, .int .i64 b1] 23)
  have q1 := Blk.new (w.alloc (.cells #[.int .i64 a0, .int .i64 a1] 23)) 23 #[.int .i64 b0, .int .i64 b1]
  rw [World.size_alloc] at q1
  have hB := (bel1 (w := w) (o := .cells #[.int .i64 a0, .int .i64 a1] 23)).alloc (by simp) (.cells #[.int .i64 b0, .int .i64 b1] 23)
  obtain ⟨y0, y1, _⟩ := q0.facts2
  obtain ⟨z0, z1, _⟩ := q1.facts2
  have HM := hide (fun W => pmeet_any a0 a1 b0 b1 W)
  unfold metVal at HM
  cases hm : metOk a0 a1 b0 b1
  · rw [hm] at HM
    simp only [Bool.false_eq_true, if_false] at HM
    clear q0 q1 hm
    go_enter Tryd.func31, Tryd.ntmps31
    go_wp2_with fail
    generalize ((w.alloc _).alloc _) = w2 at *
    refine (HM.out _).mono ?_
    rintro e w3 ⟨rfl, hb3⟩
    have hB3 := bthr hB hb3 hB.size
    have HB4 := hide (hB3.alloc hB3.size (.cells #[.int .i64 0, .int .i64 0] 23))
    clear y0 y1 z0 z1 hB3 hb3 hB
    go_wp2
    go_ret
    exact ⟨rfl, HB4.out⟩
  · rw [hm] at HM
    simp only [if_true] at HM
    clear q0 q1 hm
    generalize max a0 b0 = m0 at *
    generalize min a1 b1 = m1 at *
    go_enter Tryd.func31, Tryd.ntmps31
    go_wp2_with fail
    generalize ((w.alloc _).alloc _) = w2 at *
    refine (HM.out _).mono ?_
    rintro e w3 ⟨rfl, hb3⟩
    have hB3 := bthr hB hb3 hB.size
    have HB4 := hide (hB3.alloc hB3.size (.cells #[.int .i64 m0, .int .i64 m1] 23))
    clear y0 y1 z0 z1 hB3 hb3 hB
    go_wp2
    go_ret
    exact ⟨rfl, HB4.out⟩
theorem apart_yes {a0 a1 b0 b1 : Int} (h : a1 < b0 ∨ b1 < a0) : (!metOk a0 a1 b0 b1) = true := by
  have : metOk a0 a1 b0 b1 = false := by rw [Bool.eq_false_iff]; simp only [metOk, Ne, Bool.and_eq_true, decide_eq_true_eq]; omega
  rw [this]; rfl
/-- where a number stands first -/
def IdxAt (xs : List Int) (v r : Int) : Prop := (∃ k : Nat, k < xs.length ∧ r = k ∧ xs.getD k 0 = v) ∨ (v ∉ xs ∧ r = -1)
def idxN (xs : List Int) (v : Int) (k : Nat) : Prop := ∀ j, j < k → xs.getD j 0 ≠ v
set_option maxRecDepth 20000 in
theorem idx_any (A : Option Addr) (n c : Nat) (xs : List Int) (v : Int) (w : World) (hs : Sl w w.heap.size 1 A n c (ints xs)) :
    Calls Tryd.prog 32 #[.slice A n c, .int .i64 v] w fun e w' => ∃ r : Int, e = .returned (.int .i64 r) ∧ IdxAt xs v r ∧ w = w' := by
  have hl : n = xs.length := by have := hs.1; rw [ints_length] at this; omega
  have hm : n ≤ 9223372036854775807 := by have a1 := hs.2.1; have a2 := hs.2.2.1; unfold maxLen at a2; omega
  have HL := hide hl
  have HS := hide hs
  clear hl hs
  go_enter Tryd.func32, Tryd.ntmps32
  go_wp2
  go_loopw [8] (fun i wr => ∃ k : Nat, k ≤ n ∧ i = .int .i64 k ∧ Hid (idxN xs v k) ∧ wr = w) (fun i _ => n - (intOf i).toNat)
  case atStart => exact ⟨0, by omega, rfl, hide (fun j h => absurd h (by omega)), rfl⟩
  case round =>
    obtain ⟨k, hk, rfl, hno, rfl⟩ := hrel
    by_cases hlt : k < n
    · obtain ⟨b, o, rfl, hb, hc⟩ := HS.out.at_ hlt
      have cx := hc k _ (ints_get xs k (by have := HL.out; omega))
      have HX := hide (show xs.getD k 0 = xs.getD k 0 from rfl)
      have HNX := hide (fun (h : xs.getD k 0 ≠ v) => show idxN xs v (k + 1) by
        intro j hj
        rcases Nat.lt_or_ge j k with h1 | h1
        · exact hno.out j h1
        · obtain rfl : j = k := by omega
          exact h)
      have hki : (k : Int) < (n : Int) := by omega
      have HA := hide (fun (h : v = xs.getD k 0) => show IdxAt xs v (k : Int) from .inl ⟨k, by have := HL.out; omega, rfl, h.symm⟩)
      clear hc HX
      generalize xs.getD k 0 = x at *
      by_cases hx : v = x
      · have HV := hide (HA.out hx)
        have hvx : (v == x) = true := by simp [hx]
        clear HNX hx HA
        go_wp2
        go_ret
        exact ⟨_, rfl, HV.out, rfl⟩
      · have HN2 := hide (HNX.out (fun e => hx e.symm))
        have hvx : (v == x) = false := by simp [hx]
        clear HNX hx HA
        go_wp2
        go_roundw
        case rel => exact ⟨k + 1, by omega, by go_num, HN2, by trivial⟩
        case measure => simp [intOf]; omega
    · obtain rfl : k = n := by omega
      go_wp2
      go_ret
      refine ⟨-1, rfl, .inr ⟨?_, rfl⟩, rfl⟩
      intro hm2
      obtain ⟨j, hj, e⟩ := List.getElem_of_mem hm2
      refine hno.out j (by have := HL.out; omega) ?_
      rw [List.getD_eq_getElem?_getD, List.getElem?_eq_getElem hj]; exact e
theorem IdxAt.mem {xs : List Int} {v r : Int} (h : IdxAt xs v r) : decide (0 ≤ r) = decide (v ∈ xs) := by
  rcases h with ⟨k, h1, h2, h3⟩ | ⟨h1, h2⟩
  · have : v ∈ xs := by rw [← h3, List.getD_eq_getElem?_getD, List.getElem?_eq_getElem h1]; exact List.getElem_mem _
    rw [decide_eq_true this, decide_eq_true (by omega)]
  · rw [decide_eq_false h1, decide_eq_false (by omega)]
theorem cont_any (A : Option Addr) (n c : Nat) (xs : List Int) (v : Int) (w : World) (hs : Sl w w.heap.size 1 A n c (ints xs)) :
    Calls Tryd.prog 29 #[.slice A n c, .int .i64 v] w fun e w' => e = .returned (.bool (decide (v ∈ xs))) ∧ w = w' := by
  have HI := hide (idx_any A n c xs v w hs)
  clear hs
  go_enter Tryd.func29, Tryd.ntmps29
  go_wp2_with fail
  refine HI.out.mono ?_
  rintro e w1 ⟨r, rfl, hr, rfl⟩
  have HR := hide hr.mem
  clear hr
  go_wp2
  go_ret
  exact ⟨ret_bool HR.out, rfl⟩
theorem nodup_inj {xs : List Int} (hn : xs.Nodup) {i j : Nat} (hi : i < xs.length) (hj : j < xs.length) (h : xs[i] = xs[j]) : i = j := by
  have hp := List.pairwise_iff_getElem.1 hn
  rcases Nat.lt_trichotomy i j with h1 | h1 | h1
  · exact absurd h (hp i j hi hj h1)
  · exact h1
  · exact absurd h.symm (hp j i hj hi h1)
theorem sub2 : ∀ {xs : List Int} {a b : Int}, [a, b].Sublist xs → ∃ i j : Nat, i < j ∧ xs[i]? = some a ∧ xs[j]? = some b
  | [], a, b, h => by cases h
  | x :: t, a, b, h => by
    cases h with
    | cons _ h =>
      obtain ⟨i, j, h1, h2, h3⟩ := sub2 h
      exact ⟨i + 1, j + 1, by omega, by simpa using h2, by simpa using h3⟩
    | cons_cons _ h =>
      have hb : b ∈ t := List.singleton_sublist.1 h
      obtain ⟨j, hj, e⟩ := List.getElem_of_mem hb
      exact ⟨0, j + 1, by omega, by simp, by simp [List.getElem?_eq_getElem hj, e]⟩
/-- who stands before -/
theorem idx_lt {xs : List Int} (hn : xs.Nodup) {a b r s : Int} (h : [a, b].Sublist xs) (ha : IdxAt xs a r) (hb : IdxAt xs b s) : 0 ≤ r ∧ r < s := by
  obtain ⟨i0, i1, hlt, h0, h1⟩ := sub2 h
  obtain ⟨l0, e0⟩ := List.getElem?_eq_some_iff.1 h0
  obtain ⟨l1, e1⟩ := List.getElem?_eq_some_iff.1 h1
  have ma : a ∈ xs := by rw [← e0]; exact List.getElem_mem _
  have mb : b ∈ xs := by rw [← e1]; exact List.getElem_mem _
  rcases ha with ⟨k, k1, k2, k3⟩ | ⟨h, _⟩
  · rcases hb with ⟨j, j1, j2, j3⟩ | ⟨h, _⟩
    · rw [List.getD_eq_getElem?_getD, List.getElem?_eq_getElem k1] at k3
      rw [List.getD_eq_getElem?_getD, List.getElem?_eq_getElem j1] at j3
      simp only [Option.getD_some] at k3 j3
      have q1 : k = i0 := nodup_inj hn k1 l0 (k3.trans e0.symm)
      have q2 : j = i1 := nodup_inj hn j1 l1 (j3.trans e1.symm)
      omega
    · exact absurd mb h
  · exact absurd ma h
end Go.Proofs.YtphgddanbgdemaaDoor
