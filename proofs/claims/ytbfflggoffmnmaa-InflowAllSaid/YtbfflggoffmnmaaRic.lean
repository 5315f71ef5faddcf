/-
  The reference's Check, Balance, Uncertain and Same of chapter 9. Condition: the slices can be read, the second is no longer than 2^62.
-/
import Derived.Test.YtbfflggoffmnmaaProg
import Derived.Test.YtbfflggoffmnmaaIsp
import Derived.Test.YtbfflggoffmnmaaRsh
import Derived.Deep.RegionLaw
import Derived.Deep.DrawnRows
namespace Go.Proofs.Ytbfflggoffmnmaa
open Go.RowKit

theorem rIn_any (v m : Int) (w : World) : Calls Try.prog 33 #[.int .i64 v, .int .i64 m] w fun e w' => e = .returned (.bool (wit v m)) ∧ w = w' := by
  go_enter Try.func33, Try.ntmps33
  go_wp2_with (go_at_call 39; refine (rin_any _ _ _).mono ?_; rintro e w' ⟨rfl, rfl⟩)
  go_ret
  exact ⟨rfl, rfl⟩
theorem over_wrong {m : Int} {l : List Int} {k : Nat} (hk : k < l.length) (h : wit (l.getD k 0) m = false) : overB m l = true := by
  unfold overB
  rw [List.any_eq_true]
  refine ⟨l[k], List.getElem_mem hk, ?_⟩
  rw [List.getD_eq_getElem?_getD, List.getElem?_eq_getElem hk, Option.getD_some] at h
  rw [h]; rfl
theorem over_right {m : Int} {l : List Int} (h : ∀ j, j < l.length → wit (l.getD j 0) m = true) : overB m l = false := by
  unfold overB
  rw [List.any_eq_false]
  intro x hx
  obtain ⟨j, hj, rfl⟩ := List.getElem_of_mem hx
  have := h j hj
  rw [List.getD_eq_getElem?_getD, List.getElem?_eq_getElem hj, Option.getD_some] at this
  simp [this]
def AllW (m : Int) (l : List Int) (k : Nat) : Prop := ∀ j, j < k → wit (l.getD j 0) m = true
theorem allW_succ {m : Int} {l : List Int} {k : Nat} (h : AllW m l k) (hx : wit (l.getD k 0) m = true) : AllW m l (k + 1) := by
  intro j hj
  rcases Nat.lt_or_ge j k with h1 | h1
  · exact h j h1
  · obtain rfl : j = k := by omega
    exact hx
set_option maxHeartbeats 600000 in
set_option maxRecDepth 20000 in
theorem rcheck_any (A B : Option Addr) (n c n' c' : Nat) (vs os : List Int) (w : World) (hsm : n' ≤ 4611686018427387904) (h1 : Sl w w.heap.size 1 A n c (ints vs)) (h2 : Sl w w.heap.size 1 B n' c' (ints os)) :
    Calls Try.prog 18 #[.slice A n c, .slice B n' c'] w fun e w' => e = .returned (.int .i64 (chkI vs os)) ∧ w = w' := by
  have l1 : n = vs.length := by have := h1.1; rw [ints_length] at this; omega
  have l2 : n' = os.length := by have := h2.1; rw [ints_length] at this; omega
  have m1 : n ≤ 9223372036854775807 := by have a1 := h1.2.1; have a2 := h1.2.2.1; unfold maxLen at a2; omega
  have m2 : n' ≤ 9223372036854775807 := by have a1 := h2.2.1; have a2 := h2.2.2.1; unfold maxLen at a2; omega
  have H1 := hide h1
  have H2 := hide h2
  clear h1 h2
  by_cases hl : n = n' + 1
  · by_cases hb : 4096 < n'
    · have HR := hide (chk_long (vs := vs) (os := os) (by omega) (by omega))
      have hd : ((n : Int) != (n' : Int) + 1) = false := by simp; omega
      have hbi : (4096 : Int) < (n' : Int) := by omega
      have HL := hide hl
      clear l1 l2 hl
      go_enter Try.func18, Try.ntmps18
      go_wp2
      go_ret
      exact ⟨ret_int HR.out.symm, rfl⟩
    · have HX := hide (fun h => chk_over (vs := vs) (os := os) (by omega) (by omega) h)
      have HO := hide (fun h => chk_ok (vs := vs) (os := os) (by omega) (by omega) h)
      have hd : ((n : Int) != (n' : Int) + 1) = false := by simp; omega
      have hbi : (n' : Int) ≤ 4096 := by omega
      have L1 := hide l1
      have L2 := hide l2
      have HL := hide hl
      have hni : (n : Int) ≤ 4097 := by omega
      clear l1 l2 hl
      go_enter Try.func18, Try.ntmps18
      go_wp2
      go_loopw [20] (fun i wr => ∃ k : Nat, k ≤ n ∧ i = .int .i64 k ∧ Hid (AllW 274877906944 vs k) ∧ wr = w) (fun i _ => n - (intOf i).toNat)
      case atStart => exact ⟨0, by omega, rfl, hide (fun j h => absurd h (by omega)), rfl⟩
      case round =>
        obtain ⟨k, hk, rfl, hall, rfl⟩ := hrel
        by_cases hlt : k < n
        · obtain ⟨b, o, rfl, hbb, hc⟩ := H1.out.at_ hlt
          have cx := hc k _ (ints_get vs k (by have := L1.out; omega))
          have HW := hide (fun h => HX.out (by rw [over_wrong (m := 274877906944) (l := vs) (k := k) (by have := L1.out; omega) h]; rfl))
          have HS := hide (fun h => allW_succ hall.out h)
          have hki : (k : Int) < (n : Int) := by omega
          clear hc
          generalize vs.getD k 0 = x at *
          cases hx : wit x 274877906944
          · have HW2 := hide (HW.out hx)
            have HXX := hide hx
            clear hx HW HS
            go_wp2_with fail
            refine (rIn_any _ _ _).mono ?_
            rintro e w1 ⟨rfl, rfl⟩
            rw [HXX.out]
            go_wp2
            go_ret
            exact ⟨ret_int HW2.out.symm, rfl⟩
          · have HS2 := hide (HS.out hx)
            have HXX := hide hx
            clear hx HW HS
            go_wp2_with fail
            refine (rIn_any _ _ _).mono ?_
            rintro e w1 ⟨rfl, rfl⟩
            rw [HXX.out]
            go_wp2
            go_roundw
            case rel => exact ⟨k + 1, by omega, by go_num, HS2, by trivial⟩
            case measure => simp [intOf]; omega
        · obtain rfl : k = n := by omega
          have HV := hide (over_right (m := 274877906944) (l := vs) (fun j hj => hall.out j (by have := L1.out; omega)))
          go_wp2
          go_loopw [30] (fun i wr' => ∃ j : Nat, j ≤ n' ∧ i = .int .i64 j ∧ Hid (AllW 1073741824 os j) ∧ wr' = wr) (fun i _ => n' - (intOf i).toNat)
          case atStart => exact ⟨0, by omega, rfl, hide (fun j h => absurd h (by omega)), rfl⟩
          case round =>
            obtain ⟨j, hj, rfl, hall2, rfl⟩ := hrel
            by_cases hlt : j < n'
            · obtain ⟨b, o, rfl, hbb, hc⟩ := H2.out.at_ hlt
              have cx := hc j _ (ints_get os j (by have := L2.out; omega))
              have HW := hide (fun h => HX.out (by rw [over_wrong (m := 1073741824) (l := os) (k := j) (by have := L2.out; omega) h, Bool.or_true]))
              have HS := hide (fun h => allW_succ hall2.out h)
              have hji : (j : Int) < (n' : Int) := by omega
              clear hc
              generalize os.getD j 0 = x at *
              cases hx : wit x 1073741824
              · have HW2 := hide (HW.out hx)
                have HXX := hide hx
                clear hx HW HS
                go_wp2_with fail
                refine (rIn_any _ _ _).mono ?_
                rintro e w1 ⟨rfl, rfl⟩
                rw [HXX.out]
                go_wp2
                go_ret
                exact ⟨ret_int HW2.out.symm, rfl⟩
              · have HS2 := hide (HS.out hx)
                have HXX := hide hx
                clear hx HW HS
                go_wp2_with fail
                refine (rIn_any _ _ _).mono ?_
                rintro e w1 ⟨rfl, rfl⟩
                rw [HXX.out]
                go_wp2
                go_roundw
                case rel => exact ⟨j + 1, by omega, by go_num, HS2, by trivial⟩
                case measure => simp [intOf]; omega
            · obtain rfl : j = n' := by omega
              have HR := hide (HO.out (by rw [HV.out, over_right (m := 1073741824) (l := os) (fun i hi => hall2.out i (by have := L2.out; omega))]; rfl))
              go_wp2
              go_ret
              exact ⟨ret_int HR.out.symm, rfl⟩
  · have HR := hide (chk_form (vs := vs) (os := os) (by omega))
    have hd : ((n : Int) != (n' : Int) + 1) = true := by simp; omega
    have L1 := hide l1
    have L2 := hide l2
    clear l1 l2 hl
    go_enter Try.func18, Try.ntmps18
    go_wp2
    go_ret
    exact ⟨ret_int HR.out.symm, rfl⟩
/-- An append at a step of a region that draws, out of its run. -/
theorem step_append_run {P : Program} {ops : Array Oper} {o : Oper} {a : Act} {w : World} {K : Act → World → Prop} {Q : Exit → Act → World → Prop} {E : Prop} (hgd : o.guard = none) (s x : Operand) (t : TypeId)
    (ho : o.op = .call { callee := .builtin .append, args := #[s, x], argTypes := #[t, t] }) (vs vx v1 : Value) (w1 : World) (hs : a.eval s = vs) (hx : a.eval x = vx)
    (hr : (Builtin.append_ #[t, t] o.type #[vs, vx]).run P w = .ok v1 w1) (h : K (a.put o.dst v1) w1) :
    if Region.wanted o (yielded ops a.tmps) = true then Oper.wp P o a w K Q else E := by
  have hw : Region.wanted o (yielded ops a.tmps) = true := by simp [Region.wanted, hgd]
  rw [if_pos hw]
  unfold Oper.wp execOp
  simp only [ho, resolve, invoke, builtin, Sem.run_bind, Sem.run_pure, Result.andThen_ok, List.map_toArray, List.map_cons, List.map_nil, hs, hx, hr]
  exact h
theorem push_run (w : World) (base : Nat) (v : Value) (n : Nat) (xs : List Int) (x : Int) (hown : w.ownsRow base 3 1 v n (ints xs)) (hn : n ≤ 1000000) (hb : base ≤ w.heap.size) :
    ∃ v1 w1, (Builtin.append_ #[22, 22] 22 #[v, .slice (some ⟨w.heap.size, 0, none⟩) 1 1]).run Try.prog (w.alloc (.cells #[.int .i64 x] 3)).drew = .ok v1 w1 ∧ w1.ownsRow base 3 1 v1 (n + 1) (ints (xs ++ [x])) ∧ Below base w w1 := by
  obtain ⟨ht, i, z, bytes, hi, hz, hsize, hby, hzs, hsz, hb256⟩ := slInt
  have hown1 : (w.alloc (.cells #[.int .i64 x] 3)).drew.ownsRow base 3 1 v n (ints xs) := hown.alloc _
  have hnb : (n + 1) * bytes ≤ 1000001 * 256 := Nat.mul_le_mul (by omega) hb256
  have hnew := (Blk.new w 3 #[.int .i64 x]).facts.1
  obtain ⟨v1, w1, hr, h1, h2, _⟩ := run_append_own (P := Try.prog) (w := (w.alloc (.cells #[.int .i64 x] 3)).drew) base 22 22 3 i z 1 bytes ht hi hz hsize hby hzs hsz v n _ hown1 ⟨w.heap.size, 0, none⟩ 1 1 [.int .i64 x] rfl
    (fun j u hu => by
      match j, hu with
      | 0, hu => simp at hu; subst hu; exact hnew 0
      | j + 1, hu => simp at hu) (by simp [Value.oneCell']) (by unfold maxLen; omega) (by omega) (by simp only [World.drew, World.size_alloc]; omega)
  refine ⟨v1, w1, hr, by rw [ints_append]; exact h1, ?_⟩
  have B1 : Below base w (w.alloc (.cells #[.int .i64 x] 3)).drew := ((Below.refl base w).alloc hb _).drew
  exact B1.grown h2 (by simp only [World.drew, World.size_alloc]; omega) (fun k hk => (hown.lt k hk).1)
/-! Balance -/
def balE (vs os : List Int) : Int := uncE vs os 0
theorem balE_eq (vs os : List Int) : uncE vs os 0 = chkI vs os := by
  unfold uncE
  split
  · rename_i h; rw [h, if_pos (wit_of (Int.le_refl 0) (by omega))]
  · rfl
def balP (vs os : List Int) (k : Nat) : List Int := (List.range k).map (balAt vs os)
theorem balP_succ (vs os : List Int) (k : Nat) : balP vs os (k + 1) = balP vs os k ++ [balAt vs os k] := by simp [balP, List.range_succ]
theorem balP_length (vs os : List Int) (k : Nat) : (balP vs os k).length = k := by simp [balP]
theorem bal_gen {vs os : List Int} (h : chkI vs os = 0) : balL vs os = balP vs os os.length := by
  obtain ⟨h1, h2, h3, h4⟩ := chk_zero h
  have he : uncE vs os 0 = 0 := by rw [balE_eq, h]
  unfold balL uncL
  rw [if_pos he]
  unfold uncK balP
  rw [List.map_map]
  refine List.map_congr_left fun t ht => ?_
  rw [List.mem_range] at ht
  have := over_at h3 (k := t + 1) (by omega)
  show uncLo 0 (vs.getD t 0) (vs.getD (t + 1) 0) (os.getD t 0) = balAt vs os t
  unfold uncLo balAt
  omega
theorem bal_err {vs os : List Int} (h : chkI vs os ≠ 0) : balL vs os = [] := by
  unfold balL uncL
  rw [if_neg (by rw [balE_eq]; exact h)]
  rfl
set_option maxHeartbeats 600000 in
set_option maxRecDepth 20000 in
theorem rbal_any (A B : Option Addr) (n c n' c' : Nat) (vs os : List Int) (w : World) (hsm : n' ≤ 4611686018427387904) (h1 : Sl w w.heap.size 1 A n c (ints vs)) (h2 : Sl w w.heap.size 1 B n' c' (ints os)) :
    Calls Try.prog 19 #[.slice A n c, .slice B n' c'] w (BalOut w vs os) := by
  have l1 : n = vs.length := by have := h1.1; rw [ints_length] at this; omega
  have l2 : n' = os.length := by have := h2.1; rw [ints_length] at this; omega
  have HC := hide (rcheck_any A B n c n' c' vs os w hsm h1 h2)
  have HBE := hide (balE_eq vs os)
  by_cases hk : chkI vs os = 0
  · obtain ⟨g1, g2, g3, g4⟩ := chk_zero hk
    have HE := hide (show uncE vs os 0 = 0 by rw [HBE.out, hk])
    have HL := hide (show balL vs os = balP vs os n' by rw [bal_gen hk, l2])
    have HK := hide hk
    have G3 := hide g3
    have G4 := hide g4
    have H1 := hide h1
    have H2 := hide h2
    have hn4 : n' ≤ 4096 := by omega
    have hnn : n' < n := by omega
    have L1 := hide l1
    have L2 := hide l2
    clear hk g1 g2 g3 g4 l1 l2 h1 h2
    go_enter Try.func19, Try.ntmps19
    go_wp2_with fail
    refine HC.out.mono ?_
    rintro e w2 ⟨rfl, rfl⟩
    rw [HK.out]
    go_wp2
    go_loopw [7, 18] (fun v i wr => ∃ k : Nat, k ≤ n' ∧ i = .int .i64 k ∧ wr.ownsRow w.heap.size 3 1 v k (ints (balP vs os k)) ∧ Below w.heap.size w wr) (fun _ i _ => n' - (intOf i).toNat)
    case atStart => exact ⟨0, by omega, rfl, World.ownsRow_nil _ _ _ _, Below.refl _ _⟩
    case round =>
      obtain ⟨k, hk, rfl, hown, hbr⟩ := hrel
      by_cases hlt : k < n'
      · have hl1 := L1.out
        have hl2 := L2.out
        obtain ⟨b1, o1, rfl, hb1, hc1⟩ := H1.out.at_ (k := k) (by omega)
        obtain ⟨b2, o2, rfl, hb2, hc2⟩ := H2.out.at_ hlt
        have x1 := (hbr.cell (p := ⟨b1, o1 + k, none⟩) hb1).trans (hc1 k _ (ints_get vs k (by omega)))
        have x2 := (hbr.cell (p := ⟨b1, o1 + (k + 1), none⟩) hb1).trans (hc1 (k + 1) _ (ints_get vs (k + 1) (by omega)))
        have x3 := (hbr.cell (p := ⟨b2, o2 + k, none⟩) hb2).trans (hc2 k _ (ints_get os k (by omega)))
        obtain ⟨p0, p1⟩ := over_at G3.out (k := k) (by omega)
        obtain ⟨q0, q1⟩ := over_at G3.out (k := k + 1) (by omega)
        obtain ⟨r0, r1⟩ := over_at G4.out (k := k) (by omega)
        have HS := hide (balP_succ vs os k)
        have HA := hide (show balAt vs os k = vs.getD (k + 1) 0 - vs.getD k 0 + os.getD k 0 from rfl)
        clear hc1 hc2 hl1 hl2
        generalize vs.getD k 0 = a at *
        generalize vs.getD (k + 1) 0 = bb at *
        generalize os.getD k 0 = q at *
        have hz2 := hbr.size
        have i0 : (0 : Int) ≤ (k : Int) + 1 := by omega
        have i1 : (k : Int) + 1 < (n : Int) := by omega
        obtain ⟨v1, w5, hr, hown5, hb5⟩ := push_run wr w.heap.size _ k _ (bb - a + q) hown (by omega) hz2
        have HR := hide hr
        have HO5 := hide (own_cells hown5 (ys := ints (balP vs os (k + 1))) (by rw [HS.out, HA.out]))
        have HB5 := hide (hbr.trans hb5)
        clear hown hown5 hb5 hr
        have w1' : IntKind.i64.wrap ((k : Int) + 1) = (k : Int) + 1 := by rw [IntKind.wrap_i64]; omega
        have w2' : IntKind.i64.wrap (bb - a) = bb - a := by rw [IntKind.wrap_i64]; omega
        have w3' : IntKind.i64.wrap (bb - a + q) = bb - a + q := by rw [IntKind.wrap_i64]; omega
        have t1' : ((k : Int) + 1).toNat = k + 1 := by omega
        have hkn : k < n := by omega
        go_wp2
        go_region_law (refine step_append_run rfl (.tmp 23) (.tmp 36) 22 rfl _ _ v1 w5 (by simp [Act.eval]) (by simp [Act.eval]) HR.out ?_)
        all_goals
          (try go_wp2)
          go_roundw
          case rel => exact ⟨k + 1, by omega, by go_num, HO5.out, HB5.out⟩
          case measure => simp [intOf]; omega
      · obtain rfl : k = n' := by omega
        have HOW := hide hown
        clear hown
        go_wp2
        go_ret2
        exact ⟨_, by rw [HE.out]; rfl, by rw [HL.out, balP_length]; exact HOW.out, hbr⟩
  · have HE := hide (show uncE vs os 0 = chkI vs os by rw [HBE.out])
    have HL := hide (bal_err hk)
    have hk2 : (chkI vs os != 0) = true := by simp [hk]
    clear hk l1 l2 h1 h2
    go_enter Try.func19, Try.ntmps19
    go_wp2_with fail
    refine HC.out.mono ?_
    rintro e w1 ⟨rfl, rfl⟩
    go_wp2
    go_ret2
    exact ⟨_, by rw [HE.out]; rfl, by rw [HL.out]; exact World.ownsRow_nil _ _ _ _, Below.refl _ _⟩
end Go.Proofs.Ytbfflggoffmnmaa
