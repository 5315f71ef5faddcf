/-
  Contracts of dead, Dead and slices.Contains. Conditions: each condition is valid, there are 200 at most.
-/
import Derived.Test.YtjbddicgegkkjaaProg
import Derived.Test.YtjbddicgegkkjaaCov
import Derived.Test.YtjbddicgegkkjaaPushN
namespace Go.Proofs.Ytjbddicgegkkjaa
open Go.RowKit

def idxL (xs : List Int) (v : Int) (k : Nat) : Prop := ∀ j, j < k → xs.getD j 0 ≠ v
set_option maxRecDepth 20000 in
theorem index_any (A : Option Addr) (n c : Nat) (xs : List Int) (v : Int) (w : World) (hs : Sl w w.heap.size 1 A n c (ints xs)) :
    Calls Try.prog 60 #[.slice A n c, .int .i64 v] w fun e w' => ∃ r : Int, e = .returned (.int .i64 r) ∧ decide (0 ≤ r) = decide (v ∈ xs) ∧ w = w' := by
  have hl : n = xs.length := by have := hs.1; rw [ints_length] at this; omega
  have hm : n ≤ 9223372036854775807 := by have a1 := hs.2.1; have a2 := hs.2.2.1; unfold maxLen at a2; omega
  have HL := hide hl
  have HS := hide hs
  clear hl hs
  go_enter Try.func60, Try.ntmps60
  go_wp2
  go_loopw [8] (fun i wr => ∃ k : Nat, k ≤ n ∧ i = .int .i64 k ∧ Hid (idxL xs v k) ∧ wr = w) (fun i _ => n - (intOf i).toNat)
  case atStart => exact ⟨0, by omega, rfl, hide (fun j h => absurd h (by omega)), rfl⟩
  case round =>
    obtain ⟨k, hk, rfl, hno, rfl⟩ := hrel
    by_cases hlt : k < n
    · obtain ⟨b, o, rfl, hb, hc⟩ := HS.out.at_ hlt
      have cx := hc k _ (ints_get xs k (by have := HL.out; omega))
      have HIN := hide (show xs.getD k 0 ∈ xs by
        have h2 : k < xs.length := by have := HL.out; omega
        rw [List.getD_eq_getElem?_getD, List.getElem?_eq_getElem h2]; exact List.getElem_mem _)
      have HNX := hide (fun (h : xs.getD k 0 ≠ v) => show idxL xs v (k + 1) by
        intro j hj
        rcases Nat.lt_or_ge j k with h1 | h1
        · exact hno.out j h1
        · obtain rfl : j = k := by omega
          exact h)
      have hki : (k : Int) < (n : Int) := by omega
      clear hc
      generalize xs.getD k 0 = x at *
      by_cases hx : v = x
      · have HV := hide (show v ∈ xs by rw [hx]; exact HIN.out)
        have hvx : (v == x) = true := by simp [hx]
        clear HIN HNX hx
        go_wp2
        go_ret
        exact ⟨_, rfl, by have := HV.out; simp [this], rfl⟩
      · have HN2 := hide (HNX.out (fun e => hx e.symm))
        have hvx : (v == x) = false := by simp [hx]
        clear HIN HNX hx
        go_wp2
        go_roundw
        case rel => exact ⟨k + 1, by omega, by go_num, HN2, by trivial⟩
        case measure => simp [intOf]; omega
    · obtain rfl : k = n := by omega
      go_wp2
      go_ret
      refine ⟨-1, rfl, ?_, rfl⟩
      have hnm : v ∉ xs := by
        intro hm2
        obtain ⟨j, hj, e⟩ := List.getElem_of_mem hm2
        refine hno.out j (by have := HL.out; omega) ?_
        rw [List.getD_eq_getElem?_getD, List.getElem?_eq_getElem hj]; exact e
      simp [hnm]
theorem contains_int (A : Option Addr) (n c : Nat) (xs : List Int) (v : Int) (w : World) (hs : Sl w w.heap.size 1 A n c (ints xs)) :
    Calls Try.prog 41 #[.slice A n c, .int .i64 v] w fun e w' => e = .returned (.bool (decide (v ∈ xs))) ∧ w = w' := by
  have HI := hide (index_any A n c xs v w hs)
  clear hs
  go_enter Try.func41, Try.ntmps41
  go_wp2_with fail
  refine HI.out.mono ?_
  rintro e w1 ⟨r, rfl, hr, rfl⟩
  have HR := hide hr
  clear hr
  go_wp2
  go_ret
  exact ⟨ret_bool HR.out, rfl⟩
theorem prior_eq {cs : List Cd} {k i : Nat} {r k0 v f t x y r' k' v' f' t' x' y' : Int} (hk : k < cs.length) (hi : i < cs.length) (ek : cs[k] = ⟨r, k0, v, f, t, x, y⟩) (ei : cs[i] = ⟨r', k', v', f', t', x', y'⟩) :
    (prior cs k i && coverB (cs.getD k cdv) (cs.getD i cdv)) = ((decide (r < r') || decide (r = r') && decide (k < i)) && coverB ⟨r, k0, v, f, t, x, y⟩ ⟨r', k', v', f', t', x', y'⟩) := by
  unfold prior
  simp [List.getD_eq_getElem?_getD, hk, hi, ek, ei]
set_option maxHeartbeats 1600000 in
set_option maxRecDepth 20000 in
theorem dead_any (A : Option Addr) (n c : Nat) (cs : List Cd) (i : Nat) (w : World) (hn : n ≤ 200) (hi : i < n) (hg : ∀ x ∈ cs, x.err = 0) (hs : Sl w w.heap.size 7 A n c (cdCells cs)) :
    Calls Try.prog 43 #[.slice A n c, .int .i64 i] w fun e w' => e = .returned (.bool (deadB cs i)) ∧ Below w.heap.size w w' := by
  have hl : n = cs.length := by have := hs.1; rw [cdCells_length] at this; omega
  have HL := hide hl
  have HG := hide hg
  have HS := hide hs
  clear hl hg hs
  go_enter Try.func43, Try.ntmps43
  go_wp2
  go_loopw [9] (fun iv wr => ∃ k : Nat, k ≤ n ∧ iv = .int .i64 k ∧ Hid (deadK cs i k = false) ∧ Below w.heap.size w wr) (fun iv _ => n - (intOf iv).toNat)
  case atStart => exact ⟨0, by omega, rfl, hide rfl, Below.refl _ _⟩
  case round =>
    obtain ⟨k, hk, rfl, hno, hb⟩ := hrel
    by_cases hlt : k < n
    · have hL := HL.out
      obtain ⟨bl, ol, rfl, hbl, hcl⟩ := HS.out.at_ hlt
      rcases ek : cs[k]'(by omega) with ⟨r, kd, vv, f, t, x, y⟩
      rcases ei : cs[i]'(by omega) with ⟨r2, kd2, vv2, f2, t2, x2, y2⟩
      obtain ⟨e0, e1, e2, e3, e4, e5, e6⟩ := cd_cells (B := 0) (n := 0) (c := 0) hcl (by omega) ek
      obtain ⟨d0, d1, d2, d3, d4, d5, d6⟩ := cd_cells (B := 0) (n := 0) (c := 0) hcl (by omega) ei
      have HPE := hide (prior_eq (by omega) (by omega) ek ei)
      have HNX := hide (deadK_succ cs i k)
      have HOF := hide (fun h => deadK_of (i := i) (show k < cs.length by omega) h)
      have hgk := HG.out _ (List.getElem_mem (show k < cs.length by omega))
      have hgi := HG.out _ (List.getElem_mem (show i < cs.length by omega))
      rw [ek] at hgk
      rw [ei] at hgi
      rw [HPE.out] at HNX HOF
      rw [hno.out, Bool.false_or] at HNX
      replace e0 := cell_thr hb e0
      replace e1 := cell_thr hb e1
      replace e2 := cell_thr hb e2
      replace e3 := cell_thr hb e3
      replace e4 := cell_thr hb e4
      replace e5 := cell_thr hb e5
      replace e6 := cell_thr hb e6
      replace d0 := cell_thr hb d0
      replace d1 := cell_thr hb d1
      replace d2 := cell_thr hb d2
      replace d3 := cell_thr hb d3
      replace d4 := cell_thr hb d4
      replace d5 := cell_thr hb d5
      replace d6 := cell_thr hb d6
      have qq := Blk.new wr 28 #[.int .i64 r, .int .i64 kd, .int .i64 vv, .int .i64 f, .int .i64 t, .int .i64 x, .int .i64 y]
      have HB2 := hide (hb.alloc hb.size (.cells #[.int .i64 r, .int .i64 kd, .int .i64 vv, .int .i64 f, .int .i64 t, .int .i64 x, .int .i64 y] 28))
      have hbq := bel1 (w := wr) (o := .cells #[.int .i64 r, .int .i64 kd, .int .i64 vv, .int .i64 f, .int .i64 t, .int .i64 x, .int .i64 y] 28)
      have hki : (k : Int) < (n : Int) := by omega
      have hii : (i : Int) < (n : Int) := by omega
      have hi0 : (0 : Int) ≤ (i : Int) := by omega
      have HC := hide (fun W => covers_any r kd vv f t x y r2 kd2 vv2 f2 t2 x2 y2 W)
      obtain ⟨cb, hcb⟩ : ∃ cb, coverB ⟨r, kd, vv, f, t, x, y⟩ ⟨r2, kd2, vv2, f2, t2, x2, y2⟩ = cb := ⟨_, rfl⟩
      rw [hcb] at HNX HOF HC
      unfold Cd.arr at HC
      clear hcb hcl ek ei hgk hgi hL HPE hb hno
      obtain ⟨⟨q0, q1, q2, q3, q4, q5, q6⟩, _⟩ := Blk.facts7 qq
      replace d0 := cell_thr hbq d0
      replace d1 := cell_thr hbq d1
      replace d2 := cell_thr hbq d2
      replace d3 := cell_thr hbq d3
      replace d4 := cell_thr hbq d4
      replace d5 := cell_thr hbq d5
      replace d6 := cell_thr hbq d6
      go_wp2_with fail
      clear e0 e1 e2 e3 e4 e5 e6 qq hbq
      generalize wr.alloc _ = w4 at *
      generalize wr.heap.size = g4 at *
      replace d0 := inv_cell d0
      replace d1 := inv_cell d1
      replace d2 := inv_cell d2
      replace d3 := inv_cell d3
      replace d4 := inv_cell d4
      replace d5 := inv_cell d5
      replace d6 := inv_cell d6
      replace q0 := inv_cell q0
      replace q1 := inv_cell q1
      replace q2 := inv_cell q2
      replace q3 := inv_cell q3
      replace q4 := inv_cell q4
      replace q5 := inv_cell q5
      replace q6 := inv_cell q6
      have hne : Nonempty (InW fun W => Below w4.heap.size w4 W) := ⟨⟨w4, Below.refl _ _⟩⟩
      by_cases hr : r < r2
      · have g1 : decide (r < r2) = true := by simp [hr]
        cases cb
        · have HNN := hide (show deadK cs i (k + 1) = false by rw [HNX.out, Bool.and_false])
          clear HNX HOF
          go_wp2_with fail
          refine wp_region_inv (I := fun W => Below w4.heap.size w4 W) (by kernel_rfl) (by kernel_rfl) (Below.refl _ _).drew ?_
          repeat (go_big_quiet_step (first | (go_at_call 61; refine inv_call (inv_closed w4) (HC.out _))))
          refine wpQuiet_nil ?_
          rintro _ ⟨⟨w9, h9⟩, rfl⟩
          have HB9 := hide (bthr HB2.out h9 HB2.out.size)
          clear h9 hne d0 q0 d1 q1 d2 q2 d3 q3 d4 q4 d5 q5 d6 q6
          go_wp2
          go_roundw
          case rel => exact ⟨k + 1, by omega, by go_num, HNN, HB9.out⟩
          case measure => simp [intOf]; omega
        · have HDD := hide (HOF.out (by simp; omega))
          clear HNX HOF
          go_wp2_with fail
          refine wp_region_inv (I := fun W => Below w4.heap.size w4 W) (by kernel_rfl) (by kernel_rfl) (Below.refl _ _).drew ?_
          repeat (go_big_quiet_step (first | (go_at_call 61; refine inv_call (inv_closed w4) (HC.out _))))
          refine wpQuiet_nil ?_
          rintro _ ⟨⟨w9, h9⟩, rfl⟩
          have HB9 := hide (bthr HB2.out h9 HB2.out.size)
          clear h9 hne d0 q0 d1 q1 d2 q2 d3 q3 d4 q4 d5 q5 d6 q6
          go_wp2
          go_ret
          exact ⟨ret_bool HDD.out.symm, HB9.out⟩
      · have g1 : decide (r < r2) = false := decide_eq_false hr
        by_cases hq : r = r2
        · subst hq
          have g2 : (r == r) = true := by simp
          by_cases hki2 : k < i
          · have g3 : decide ((k : Int) < (i : Int)) = true := by simp [hki2]
            cases cb
            · have HNN := hide (show deadK cs i (k + 1) = false by rw [HNX.out, Bool.and_false])
              clear HNX HOF
              go_wp2_with fail
              refine wp_region_inv (I := fun W => Below w4.heap.size w4 W) (by kernel_rfl) (by kernel_rfl) (Below.refl _ _).drew ?_
              repeat (go_big_quiet_step (first | (go_at_call 61; refine inv_call (inv_closed w4) (HC.out _))))
              refine wpQuiet_nil ?_
              rintro _ ⟨⟨w9, h9⟩, rfl⟩
              have HB9 := hide (bthr HB2.out h9 HB2.out.size)
              clear h9 hne d0 q0 d1 q1 d2 q2 d3 q3 d4 q4 d5 q5 d6 q6
              go_wp2
              go_roundw
              case rel => exact ⟨k + 1, by omega, by go_num, HNN, HB9.out⟩
              case measure => simp [intOf]; omega
            · have HDD := hide (HOF.out (by simp; omega))
              clear HNX HOF
              go_wp2_with fail
              refine wp_region_inv (I := fun W => Below w4.heap.size w4 W) (by kernel_rfl) (by kernel_rfl) (Below.refl _ _).drew ?_
              repeat (go_big_quiet_step (first | (go_at_call 61; refine inv_call (inv_closed w4) (HC.out _))))
              refine wpQuiet_nil ?_
              rintro _ ⟨⟨w9, h9⟩, rfl⟩
              have HB9 := hide (bthr HB2.out h9 HB2.out.size)
              clear h9 hne d0 q0 d1 q1 d2 q2 d3 q3 d4 q4 d5 q5 d6 q6
              go_wp2
              go_ret
              exact ⟨ret_bool HDD.out.symm, HB9.out⟩
          · have g3 : decide ((k : Int) < (i : Int)) = false := by simp; omega
            have HNN := hide (show deadK cs i (k + 1) = false by rw [HNX.out]; simp [hki2])
            clear HNX HOF
            go_wp2_with fail
            refine wp_region_inv (I := fun W => Below w4.heap.size w4 W) (by kernel_rfl) (by kernel_rfl) (Below.refl _ _).drew ?_
            repeat (go_big_quiet_step (first | (go_at_call 61; refine inv_call (inv_closed w4) (HC.out _))))
            refine wpQuiet_nil ?_
            rintro _ ⟨⟨w9, h9⟩, rfl⟩
            have HB9 := hide (bthr HB2.out h9 HB2.out.size)
            clear h9 hne d0 q0 d1 q1 d2 q2 d3 q3 d4 q4 d5 q5 d6 q6
            go_wp2
            go_roundw
            case rel => exact ⟨k + 1, by omega, by go_num, HNN, HB9.out⟩
            case measure => simp [intOf]; omega
        · have g2 : (r == r2) = false := by simp [hq]
          have HNN := hide (show deadK cs i (k + 1) = false by rw [HNX.out]; simp [hr, hq])
          clear HNX HOF
          go_wp2_with fail
          refine wp_region_inv (I := fun W => Below w4.heap.size w4 W) (by kernel_rfl) (by kernel_rfl) (Below.refl _ _).drew ?_
          repeat (go_big_quiet_step (first | (go_at_call 61; refine inv_call (inv_closed w4) (HC.out _))))
          refine wpQuiet_nil ?_
          rintro _ ⟨⟨w9, h9⟩, rfl⟩
          have HB9 := hide (bthr HB2.out h9 HB2.out.size)
          clear h9 hne d0 q0 d1 q1 d2 q2 d3 q3 d4 q4 d5 q5 d6 q6
          go_wp2
          go_roundw
          case rel => exact ⟨k + 1, by omega, by go_num, HNN, HB9.out⟩
          case measure => simp [intOf]; omega
    · obtain rfl : k = n := by omega
      have HD := hide (show deadB cs i = false by unfold deadB; rw [← HL.out]; exact hno.out)
      go_wp2
      go_ret
      exact ⟨ret_bool HD.out.symm, hb⟩
end Go.Proofs.Ytjbddicgegkkjaa
