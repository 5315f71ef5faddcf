/-
  The contract of quantity.Share at any amount and weights, 4096 at most: the shares, or the error. Condition: the slice can be read.
  The contract of the reference's Share at any amount and weights, 4096 at most: the shares, or the error. Condition: the slice can be read.
-/
import Derived.Test.YtfcmgmcidngjeaaProg
import Derived.Test.YtfcmgmcidngjeaaShg
import Derived.Test.YtfcmgmcidngjeaaRsp
namespace Go.Proofs.Ytfcmgmcidngjeaa
open Go.RowKit

def ShfPost (w : World) (a : Int) (ws : List Int) (e : Ending) (w' : World) : Prop := ∃ v, e = .returned (.tuple #[v, .int .i64 (shFE a ws)]) ∧ w'.ownsRow w.heap.size 3 1 v (shFV a ws).length (ints (shFV a ws)) ∧ Below w.heap.size w w'
theorem any_ok {ws : List Int} (h : ws.any (fun v => !wit v 10000) = false) : ∀ w ∈ ws, 0 ≤ w ∧ w ≤ 10000 := by
  intro x hx
  have := List.any_eq_false.1 h x hx
  simp at this
  exact wit_iff.1 this
set_option maxHeartbeats 600000 in
set_option maxRecDepth 20000 in
theorem share_full (a : Int) (ws : List Int) (A : Option Addr) (n c : Nat) (w : World) (hn : n ≤ 4096) (hs : Sl w w.heap.size 1 A n c (ints ws)) :
    Calls Try.prog 39 #[.int .i64 a, .slice A n c] w (ShfPost w a ws) := by
  cases hA : wit a 274877906944
  · have HA := hide hA
    have HE := hide (show shFE a ws = 1 by simp [shFE, hA])
    have HV := hide (show shFV a ws = [] by simp [shFV, hA])
    clear hA hs
    have hB := (bel1 (w := w) (o := .cells #[.int .i64 a] 3)).alloc (by simp) (.cells #[.slice A n c] 27)
    go_enter Try.func39, Try.ntmps39
    go_wp2_with fail
    refine (within_any _ _ _).mono ?_
    rintro e w1 ⟨rfl, rfl⟩
    rw [HA.out]
    go_wp2
    go_ret2
    exact ⟨_, by rw [HE.out]; rfl, by rw [HV.out]; exact World.ownsRow_nil _ _ _ _, hB⟩
  · cases hW : ws.any fun v => !wit v 10000
    · refine (share_gen a ws A n c w hn (wit_iff.1 hA) (any_ok hW) hs).mono ?_
      rintro e w' ⟨v, rfl, hv, hb⟩
      refine ⟨v, ?_, ?_, hb⟩
      · rw [show shFE a ws = shE a ws by simp [shFE, hA, hW]]
      · rw [show shFV a ws = shV a ws by simp [shFV, hA, hW]]; exact hv
    · have HA := hide hA
      have HW := hide hW
      have HE := hide (show shFE a ws = 1 by simp [shFE, hW])
      have HV := hide (show shFV a ws = [] by simp [shFV, hW])
      have HS := hide hs
      clear hA hW hs
      have hB := (bel1 (w := w) (o := .cells #[.int .i64 a] 3)).alloc (by simp) (.cells #[.slice A n c] 27)
      go_enter Try.func39, Try.ntmps39
      go_wp2_with fail
      refine (within_any _ _ _).mono ?_
      rintro e w1 ⟨rfl, rfl⟩
      rw [HA.out]
      go_wp2_with fail
      refine (contains_func0 _ cfS1 (fun v => !wit v 10000) A n c ws _ ((HS.out.allocw _).allocw _) (fun v => wrong_any v _)).mono ?_
      rintro e w1 ⟨rfl, rfl⟩
      rw [HW.out]
      go_wp2
      go_ret2
      exact ⟨_, by rw [HE.out]; rfl, by rw [HV.out]; exact World.ownsRow_nil _ _ _ _, hB⟩
end Go.Proofs.Ytfcmgmcidngjeaa
namespace Go.Proofs.Ytfcmgmcidngjeaa
open Go.RowKit

theorem rqn_any (v m : Int) (w : World) : Calls Try.prog 34 #[.int .i64 v, .int .i64 m] w fun e w' => e = .returned (.bool (wit v m)) ∧ w = w' := by
  by_cases h1 : 0 ≤ v
  · by_cases h2 : v ≤ m
    · have HW := hide (wit_of h1 h2)
      go_enter Try.func34, Try.ntmps34
      go_wp2
      go_ret
      exact ⟨ret_bool HW.out.symm, rfl⟩
    · have HW := hide (show wit v m = false by rw [Bool.eq_false_iff]; intro h; exact h2 (wit_iff.1 h).2)
      go_enter Try.func34, Try.ntmps34
      go_wp2
      go_ret
      exact ⟨ret_bool HW.out.symm, rfl⟩
  · have HW := hide (show wit v m = false by rw [Bool.eq_false_iff]; intro h; exact h1 (wit_iff.1 h).1)
    go_enter Try.func34, Try.ntmps34
    go_wp2
    go_ret
    exact ⟨ret_bool HW.out.symm, rfl⟩
theorem any_wrong {ws : List Int} {k : Nat} (hk : k < ws.length) (h : wit (ws.getD k 0) 10000 = false) : ws.any (fun v => !wit v 10000) = true := by
  rw [List.any_eq_true]
  refine ⟨ws[k], List.getElem_mem hk, ?_⟩
  rw [List.getD_eq_getElem?_getD, List.getElem?_eq_getElem hk, Option.getD_some] at h
  rw [h]; rfl
theorem any_right {ws : List Int} (h : ∀ j, j < ws.length → wit (ws.getD j 0) 10000 = true) : ws.any (fun v => !wit v 10000) = false := by
  rw [List.any_eq_false]
  intro x hx
  obtain ⟨j, hj, rfl⟩ := List.getElem_of_mem hx
  have := h j hj
  rw [List.getD_eq_getElem?_getD, List.getElem?_eq_getElem hj, Option.getD_some] at this
  simp [this]
/-- a row under way: its first k values are there, the others are 0 -/
def halfK (xs : List Int) (k : Nat) : List Int := xs.take k ++ List.replicate (xs.length - k) 0
theorem halfK_length {xs : List Int} {k : Nat} (h : k ≤ xs.length) : (halfK xs k).length = xs.length := by simp [halfK]; omega
theorem halfK_zero (xs : List Int) : halfK xs 0 = List.replicate xs.length 0 := by simp [halfK]
theorem halfK_all (xs : List Int) : halfK xs xs.length = xs := by simp [halfK]
theorem halfK_set {xs : List Int} {k : Nat} (h : k < xs.length) : (halfK xs k).set k (xs.getD k 0) = halfK xs (k + 1) := by
  unfold halfK
  rw [List.take_succ_eq_append_getElem h, List.set_append_right _ _ (by rw [List.length_take]; omega)]
  rw [List.length_take, Nat.min_eq_left (by omega), Nat.sub_self, show xs.length - k = (xs.length - (k + 1)) + 1 by omega, List.replicate_succ, List.set_cons_zero, List.append_assoc]
  simp [List.getD_eq_getElem?_getD, h]
set_option maxHeartbeats 600000 in
set_option maxRecDepth 20000 in
theorem rshare_full (a : Int) (ws : List Int) (A : Option Addr) (n c : Nat) (w : World) (hn : n ≤ 4096) (hs : Sl w w.heap.size 1 A n c (ints ws)) :
    Calls Try.prog 32 #[.int .i64 a, .slice A n c] w (ShfPost w a ws) := by
  have hl : n = ws.length := by have := hs.1; rw [ints_length] at this; omega
  have HL := hide hl
  have HS := hide hs
  have hni : (n : Int) ≤ 4096 := by omega
  clear hl hs
  cases hA : wit a 274877906944
  · have HA := hide hA
    have HE := hide (show shFE a ws = 1 by simp [shFE, hA])
    have HV := hide (show shFV a ws = [] by simp [shFV, hA])
    clear hA
    go_enter Try.func32, Try.ntmps32
    go_wp2_with fail
    refine (rqn_any _ _ _).mono ?_
    rintro e w1 ⟨rfl, rfl⟩
    rw [HA.out]
    go_wp2
    go_ret2
    exact ⟨_, by rw [HE.out]; rfl, by rw [HV.out]; exact World.ownsRow_nil _ _ _ _, Below.refl _ _⟩
  · obtain ⟨a0, a1⟩ := wit_iff.1 hA
    have HA := hide hA
    clear hA
    go_enter Try.func32, Try.ntmps32
    go_wp2_with fail
    refine (rqn_any _ _ _).mono ?_
    rintro e w1 ⟨rfl, rfl⟩
    rw [HA.out]
    go_wp2
    go_loopw [6, 22] (fun v i wr => ∃ (k : Nat) (s : Int), k ≤ n ∧ i = .int .i64 k ∧ v = .int .i64 s ∧ Hid (s = (ws.take k).sum ∧ ∀ j, j < k → wit (ws.getD j 0) 10000 = true) ∧ 0 ≤ s ∧ s ≤ 10000 * (k : Int) ∧ wr = w) (fun _ i _ => n - (intOf i).toNat)
    case atStart => exact ⟨0, 0, by omega, rfl, rfl, hide ⟨by simp, fun j h => absurd h (by omega)⟩, by omega, by omega, rfl⟩
    case round =>
      obtain ⟨k, s, hk, rfl, rfl, hsum, hs0, hs1, rfl⟩ := hrel
      by_cases hlt : k < n
      · have hL := HL.out
        obtain ⟨b, o, rfl, hb, hc⟩ := HS.out.at_ hlt
        have cx := hc k _ (ints_get ws k (by omega))
        have HSU := hide (sum_snoc ws k (by omega))
        have HAW := hide (fun h => any_wrong (ws := ws) (k := k) (by omega) h)
        have HSN := hide (fun (h : wit (ws.getD k 0) 10000 = true) => fun (j : Nat) (hj : j < k + 1) => show wit (ws.getD j 0) 10000 = true by
          rcases Nat.lt_or_ge j k with h1 | h1
          · exact hsum.out.2 j h1
          · obtain rfl : j = k := by omega
            exact h)
        clear hc hL
        cases hx : wit (ws.getD k 0) 10000
        · have HX := hide hx
          have HE := hide (show shFE a ws = 1 by simp [shFE, HAW.out hx])
          have HV := hide (show shFV a ws = [] by simp [shFV, HAW.out hx])
          clear hx HAW HSN
          generalize ws.getD k 0 = x at *
          go_wp2_with fail
          refine (rqn_any _ _ _).mono ?_
          rintro e w1 ⟨rfl, rfl⟩
          rw [HX.out]
          go_wp2
          go_ret2
          exact ⟨_, by rw [HE.out]; rfl, by rw [HV.out]; exact World.ownsRow_nil _ _ _ _, Below.refl _ _⟩
        · have HX := hide hx
          have HSN2 := hide (HSN.out hx)
          obtain ⟨x0, x1⟩ := wit_iff.1 hx
          clear hx HAW HSN
          generalize ws.getD k 0 = x at *
          go_wp2_with fail
          refine (rqn_any _ _ _).mono ?_
          rintro e w1 ⟨rfl, rfl⟩
          rw [HX.out]
          go_wp2
          go_roundw
          case rel => exact ⟨k + 1, s + x, by omega, by go_num, rfl, hide ⟨by rw [HSU.out, hsum.out.1], HSN2.out⟩, by omega, by omega, by trivial⟩
          case measure => simp [intOf]; omega
      · obtain rfl : k = n := by omega
        rename World => w1
        have hL := HL.out
        obtain ⟨he, hall⟩ := hsum.out
        rw [List.take_of_length_le (by omega)] at he
        have hright := any_right (ws := ws) (fun j hj => hall j (by omega))
        have hok := any_ok hright
        have hE : shFE a ws = shE a ws := by simp [shFE, HA.out, hright]
        have hV : shFV a ws = shV a ws := by simp [shFV, HA.out, hright]
        obtain ⟨w2, hmk, hown, hg2⟩ := make_ints w1 w1.heap.size k (by omega) (Nat.le_refl _)
        have hb2 : Below w1.heap.size w1 w2 := (Below.refl _ w1).grown hg2 (Nat.le_refl _) (fun k hk => by cases hk)
        by_cases ha0 : a = 0
        · have HE := hide (show shFE a ws = 0 by rw [hE, ha0]; exact shE_zero ws)
          have HV := hide (show shFV a ws = List.replicate k 0 by rw [hV, ha0, shV_zero hok, hL])
          have ha0b : (a == 0) = true := by simp [ha0]
          have HOW := hide hown
          clear hsum he hall hright hok hE hV hL ha0 hown a0 a1
          go_wp2
          go_ret2
          exact ⟨_, by rw [HE.out]; rfl, by rw [HV.out, List.length_replicate]; exact HOW.out, hb2⟩
        · have ha0b : (a == 0) = false := by simp [ha0]
          by_cases hS0 : s = 0
          · have HE := hide (show shFE a ws = 2 by rw [hE, shE, if_pos (by omega), if_pos (by omega)])
            have HV := hide (show shFV a ws = [] by rw [hV, shV, if_pos (by omega), if_pos (by omega)])
            have hS0b : (s == 0) = true := by simp [hS0]
            clear hsum he hall hright hok hE hV hL ha0 hown hS0
            go_wp2
            go_ret2
            exact ⟨_, by rw [HE.out]; rfl, by rw [HV.out]; exact World.ownsRow_nil _ _ _ _, hb2⟩
          · have hS0b : (s == 0) = false := by simp [hS0]
            obtain ⟨w3, hmk3, hown3, hg3⟩ := make_ints w2 w1.heap.size k (by omega) hb2.size
            have hb3 : Below w1.heap.size w1 w3 := hb2.grown hg3 hb2.size (fun k hk => by cases hk)
            have hown4 := hown.kept hg3 (.inr (by simp [Value.ownBlock]))
            have hne : w1.heap.size < w2.heap.size := (hown.lt _ rfl).2
            have hS1 : 0 < s := by omega
            have hfl : (floA a s ws).length = k := by simp [floA]; omega
            have hml : (maskK a s ws 0).length = k := by rw [maskK_length]; omega
            have HP := hide (shareL_spec (a := a) (ws := ws) (by omega))
            have HE := hide (show shFE a ws = 0 by rw [hE, shE, if_neg (by omega)])
            have HV := hide (show shFV a ws = shareL a ws by rw [hV, shV, if_neg (by omega)])
            have HOK := hide hok
            have HSS := hide he
            have HFT := hide (fun j => flo_take (a := a) (ws := ws) ⟨a0, a1⟩ (by omega) hok j)
            rw [← he] at HFT
            have HFL := hide hfl
            have HML := hide hml
            have HFG := hide (fun (j : Nat) (hj : j < k) => show (floA a s ws).getD j 0 = a * ws.getD j 0 / s ∧ (maskK a s ws 0).getD j 0 = a * ws.getD j 0 % s from
              ⟨by simp [floA, List.getD_eq_getElem?_getD, show j < ws.length by omega], by rw [maskK_get (by omega)]; simp⟩)
            have hs40 : s ≤ 40960000 := by omega
            have z1 := own_cells hown4 (ys := ints (halfK (floA a s ws) 0)) (by rw [halfK_zero, hfl])
            have z2 := own_cells hown3 (ys := ints (halfK (maskK a s ws 0) 0)) (by rw [halfK_zero, hml])
            clear hsum he hall hright hok hE hV ha0 hS0 hown hown3 hown4 hg2 hg3 hfl hml hL
            go_wp2
            go_loopw [10, 50] (fun l i wq => ∃ j : Nat, j ≤ k ∧ i = .int .i64 j ∧ l = .int .i64 (a - ((floA a s ws).take j).sum) ∧ wq.ownsRow w1.heap.size 3 1 (.slice (some ⟨w1.heap.size, 0, none⟩) k k) k (ints (halfK (floA a s ws) j)) ∧ wq.ownsRow w1.heap.size 3 1 (.slice (some ⟨w2.heap.size, 0, none⟩) k k) k (ints (halfK (maskK a s ws 0) j)) ∧ Below w1.heap.size w1 wq) (fun _ i _ => k - (intOf i).toNat)
            case atStart => exact ⟨0, by omega, rfl, by simp, z1, z2, hb3⟩
            case round =>
              obtain ⟨j, hj, rfl, rfl, hv, hq, hbr⟩ := hrel
              by_cases hlt : j < k
              · obtain ⟨b, o, rfl, hb, hc⟩ := HS.out.at_ hlt
                have cx := (hbr.cell (p := ⟨b, o + j, none⟩) hb).trans (hc j _ (ints_get ws j (by have := HL.out; omega)))
                have hx := get_in HOK.out (k := j) (by have := HL.out; omega)
                obtain ⟨p0, p1⟩ := prod_in ⟨a0, a1⟩ hx
                obtain ⟨f0, f1⟩ := HFG.out j hlt
                have c1 := (hv.cellAt j (by omega)).trans (ints_get _ j (by rw [halfK_length (by rw [HFL.out]; omega), HFL.out]; exact hlt))
                have c2 := (hq.cellAt j (by omega)).trans (ints_get _ j (by rw [halfK_length (by rw [HML.out]; omega), HML.out]; exact hlt))
                have z1 := hv.frozenAt j
                have z2 := hq.frozenAt j
                obtain ⟨t0, t1⟩ := HFT.out j
                obtain ⟨t2, t3⟩ := HFT.out (j + 1)
                have HG := hide (show ((floA a s ws).take (j + 1)).sum = ((floA a s ws).take j).sum + a * ws.getD j 0 / s by rw [sum_snoc _ j (by rw [HFL.out]; exact hlt), f0])
                rw [HG.out] at t2 t3
                have HH1 := hide (halfK_set (xs := floA a s ws) (k := j) (by rw [HFL.out]; exact hlt))
                have HH2 := hide (halfK_set (xs := maskK a s ws 0) (k := j) (by rw [HML.out]; exact hlt))
                rw [f0] at HH1
                rw [f1] at HH2
                obtain ⟨e0, e1⟩ := mod_in (p := a * ws.getD j 0) hS1
                have e2 : 0 ≤ a * ws.getD j 0 / s := Int.ediv_nonneg p0 (by omega)
                have e3 : a * ws.getD j 0 / s ≤ a * ws.getD j 0 := Int.ediv_le_self _ p0
                obtain ⟨x0, x1⟩ := hx
                clear hc f0 f1
                generalize ws.getD j 0 = x at *
                obtain ⟨s1, s2⟩ := hv.stored j (.int .i64 (a * x / s))
                have s3 := hq.kept s2 (.inr (by simp [Value.ownBlock]; omega))
                obtain ⟨s4, s5⟩ := s3.stored j (.int .i64 (a * x % s))
                have s6 := s1.kept s5 (.inr (by simp [Value.ownBlock]; omega))
                have s7 := below_grown (below_grown hbr s2 (by have := hbr.size; omega) (Nat.le_refl _)) s5 (by have := hbr.size; have := s2.size; omega) (by omega)
                have s8 := own_cells s6 (ys := ints (halfK (floA a s ws) (j + 1))) (by rw [← HH1.out, ints_set])
                have s9 := own_cells s4 (ys := ints (halfK (maskK a s ws 0) (j + 1))) (by rw [← HH2.out, ints_set])
                have S7 := hide s7
                have S8 := hide s8
                have S9 := hide s9
                have hlx : (halfK (floA a s ws) (j + 1)).getD j 0 = a * x / s := by
                  have := HH1.out
                  rw [← this, List.getD_eq_getElem?_getD, List.getElem?_set_self (by rw [halfK_length (by rw [HFL.out]; omega), HFL.out]; exact hlt)]; rfl
                have c3 := (s8.cellAt j (by omega)).trans (ints_get _ j (by rw [halfK_length (by rw [HFL.out]; omega), HFL.out]; exact hlt))
                rw [hlx] at c3
                clear s1 s2 s3 s4 s5 s6 s7 s8 s9 hlx
                go_wp2
                go_region
                have hdw : ∀ W : World, Below W.heap.size W W.drew := fun W => (Below.refl _ W).drew
                generalize ((wr.setCell ⟨w1.heap.size, j, none⟩ (.int .i64 (a * x / s))).setCell ⟨w2.heap.size, j, none⟩ (.int .i64 (a * x % s))) = wz at *
                rename World => wz0
                have c4 : wz0.drew.cell? ⟨w1.heap.size, j, none⟩ = some (.int .i64 (a * x / s)) := c3
                go_wp2
                have hdw : Below wz0.heap.size wz0 wz0.drew := (Below.refl _ wz0).drew
                have S8' := ownsRow_below S8.out hdw
                have S9' := ownsRow_below S9.out hdw
                have S7' := bthr S7.out hdw S7.out.size
                go_roundw
                case rel => exact ⟨j + 1, by omega, by go_num, by rw [HG.out]; go_num, S8', S9', S7'⟩
                case measure => simp [intOf]; omega
              · obtain rfl : j = k := by omega
                have hsz := HSS.out
                rw [show halfK (floA a s ws) j = floA a s ws by rw [← HFL.out, halfK_all]] at hv
                rw [show halfK (maskK a s ws 0) j = maskK a s ws 0 by rw [← HML.out, halfK_all]] at hq
                rw [List.take_of_length_le (by rw [HFL.out]; omega)]
                have l0 := HP.out.left0
                have ln := HP.out.leftn
                rw [← hsz] at l0 ln
                obtain ⟨L, hLL⟩ : ∃ L : Nat, leftA a s ws = (L : Int) := ⟨(leftA a s ws).toNat, by omega⟩
                have Hdef := hide (show shareL a ws = ((ordA a s ws).take L).foldl incAt (floA a s ws) by unfold shareL; rw [← hsz, hLL, Int.toNat_natCast])
                have HPL := hide (show (shareL a ws).length = j by rw [HP.out.len]; exact HL.out.symm)
                have hleft : a - (floA a s ws).sum = (L : Int) := hLL
                rw [hleft]
                have hLj : L < j := by have := HL.out; omega
                have hLi : (L : Int) < (j : Int) := by omega
                have z1 : wr.ownsRow w1.heap.size 3 1 (.slice (some ⟨w1.heap.size, 0, none⟩) j j) j (ints (((ordA a s ws).take 0).foldl incAt (floA a s ws))) := hv
                have HFI := hide (flo_in (ws := ws) ⟨a0, a1⟩ hS1 HOK.out)
                clear hv hleft hLL l0 ln HP hsz
                go_wp2
                go_loopw [10] (fun l wq => ∃ t : Nat, t ≤ L ∧ l = .int .i64 ((L - t : Nat) : Int) ∧ wq.ownsRow w1.heap.size 3 1 (.slice (some ⟨w1.heap.size, 0, none⟩) j j) j (ints (((ordA a s ws).take t).foldl incAt (floA a s ws))) ∧ wq.ownsRow w1.heap.size 3 1 (.slice (some ⟨w2.heap.size, 0, none⟩) j j) j (ints (maskK a s ws t)) ∧ Below w1.heap.size w1 wq) (fun l _ => (intOf l).toNat)
                case atStart => exact ⟨0, by omega, rfl, z1, hq, hbr⟩
                case round =>
                  clear z1 hq hbr
                  rename World => wa
                  obtain ⟨t, ht, rfl, hv, hq, hbr⟩ := hrel
                  by_cases htl : t < L
                  · obtain ⟨d, hd⟩ : ∃ d : Nat, L - t = d + 1 := ⟨L - t - 1, by omega⟩
                    rw [hd]
                    have hdi : (0 : Int) < ((d + 1 : Nat) : Int) := by omega
                    have hdi2 : ((d + 1 : Nat) : Int) ≤ 4096 := by omega
                    have hdc : ((d + 1 : Nat) : Int) = (d : Int) + 1 := by omega
                    rw [hdc] at hdi hdi2 ⊢
                    go_wp2
                    go_loopw [14, 84] (fun bv i wq => ∃ (m : Nat) (b : Int), m ≤ j ∧ i = .int .i64 m ∧ bv = .int .i64 b ∧ Hid (BestK (maskK a s ws t) m b) ∧ -1 ≤ b ∧ b < (j : Int) ∧ wq = wa) (fun _ i _ => j - (intOf i).toNat)
                    case atStart => exact ⟨0, -1, by omega, rfl, rfl, hide (best_nil _), by omega, by omega, rfl⟩
                    case round =>
                      obtain ⟨m, b, hmj, rfl, rfl, hbk, hb1, hb2', rfl⟩ := hrel
                      have hjl := HL.out
                      have hmi : (m : Int) ≤ 4096 := by omega
                      by_cases hm : m < j
                      · have cm := (hq.cellAt m (by omega)).trans (ints_get _ m (by rw [maskK_length]; omega))
                        have HSK := hide (fun h => best_skip hbk.out h)
                        have HTK := hide (fun h0 h => best_take hbk.out h0 h)
                        have hmji : (m : Int) < (j : Int) := by omega
                        have cb : ∀ bn : Nat, bn < j → wr.cell? ⟨w2.heap.size, bn, none⟩ = some (.int .i64 ((maskK a s ws t).getD bn 0)) := fun bn hbn => (hq.cellAt bn (by omega)).trans (ints_get _ bn (by rw [maskK_length]; omega))
                        clear hbk hjl
                        generalize (maskK a s ws t).getD m 0 = r at *
                        by_cases hr : r < 0
                        · have HBK := hide (HSK.out (.inl hr))
                          clear cb
                          go_wp2
                          go_roundw
                          case rel => exact ⟨m + 1, b, by omega, by go_num, rfl, HBK, by omega, by omega, by trivial⟩
                          case measure => simp [intOf]; omega
                        · have hr0 : 0 ≤ r := by omega
                          by_cases hb0 : b < 0
                          · have HBK := hide (HTK.out hr0 (.inl hb0))
                            clear cb
                            go_wp2
                            go_roundw
                            case rel => exact ⟨m + 1, (m : Int), by omega, by go_num, rfl, HBK, by omega, by omega, by trivial⟩
                            case measure => simp [intOf]; omega
                          · obtain ⟨bn, rfl⟩ : ∃ bn : Nat, b = (bn : Int) := ⟨b.toNat, by omega⟩
                            have cbn := cb bn (by omega)
                            simp only [Int.toNat_natCast] at HSK HTK
                            have hb0i : (0 : Int) ≤ (bn : Int) := by omega
                            clear cb
                            generalize (maskK a s ws t).getD bn 0 = rb at *
                            by_cases hlt2 : rb < r
                            · have HBK := hide (HTK.out hr0 (.inr hlt2))
                              go_wp2
                              go_roundw
                              case rel => exact ⟨m + 1, (m : Int), by omega, by go_num, rfl, HBK, by omega, by omega, by trivial⟩
                              case measure => simp [intOf]; omega
                            · have HBK := hide (HSK.out (.inr ⟨hb0i, by omega⟩))
                              have hlt3 : r ≤ rb := by omega
                              go_wp2
                              go_roundw
                              case rel => exact ⟨m + 1, (bn : Int), by omega, by go_num, rfl, HBK, by omega, by omega, by trivial⟩
                              case measure => simp [intOf]; omega
                      · obtain rfl : m = j := by omega
                        have hbo := best_ord (a := a) (S := s) (ws := ws) (t := t) hS1 (by omega) (by rw [← hjl]; exact hbk.out)
                        obtain ⟨o0, o1⟩ := ord_get (a := a) (S := s) (ws := ws) (k := t) (by omega)
                        rw [← hbo] at o0 o1
                        obtain ⟨o, rfl⟩ : ∃ o : Nat, b = (o : Int) := ⟨b.toNat, by omega⟩
                        have HIN := hide (inc_snoc (a := a) (S := s) (ws := ws) (k := t) (by omega))
                        rw [← hbo] at HIN
                        have HMN := hide (maskK_next (a := a) (S := s) (ws := ws) (t := t) (o := o) (by omega) hbo.symm)
                        obtain ⟨n1, n2⟩ := inc_in (ws := ws) (S := s) HFI.out t
                        obtain ⟨y0, y1⟩ := n2 o (by omega)
                        have co := (hv.cellAt o (by omega)).trans (ints_get _ o (by omega))
                        have zo := hv.frozenAt o
                        have zr := hq.frozenAt o
                        have cr := (hq.cellAt o (by omega)).trans (ints_get _ o (by rw [maskK_length]; omega))
                        have hoi : (o : Int) < (m : Int) := by omega
                        have hoi0 : (0 : Int) ≤ (o : Int) := by omega
                        obtain ⟨s1, s2⟩ := hv.stored o (.int .i64 ((((ordA a s ws).take t).foldl incAt (floA a s ws)).getD o 0 + 1))
                        have s3 := hq.kept s2 (.inr (by simp [Value.ownBlock]; omega))
                        obtain ⟨s4, s5⟩ := s3.stored o (.int .i64 (-1))
                        have s6 := s1.kept s5 (.inr (by simp [Value.ownBlock]; omega))
                        have s7 := below_grown (below_grown hbr s2 (by have := hbr.size; omega) (Nat.le_refl _)) s5 (by have := hbr.size; have := s2.size; omega) (by omega)
                        have S8 := hide (own_cells s6 (ys := ints (((ordA a s ws).take (t + 1)).foldl incAt (floA a s ws))) (by rw [HIN.out, incAt, Int.toNat_natCast, ints_set]))
                        have S9 := hide (own_cells s4 (ys := ints (maskK a s ws (t + 1))) (by rw [HMN.out, ints_set]))
                        have S7 := hide s7
                        have cr2 := (s3.cellAt o (by omega)).trans (ints_get _ o (by rw [maskK_length]; omega))
                        have zr2 := s3.frozenAt o
                        clear s1 s2 s3 s4 s5 s6 s7 n1 n2 hbk hbo hv hq hbr HIN HMN o0 o1
                        generalize (((ordA a s ws).take t).foldl incAt (floA a s ws)).getD o 0 = y at *
                        generalize (maskK a s ws t).getD o 0 = rr at *
                        go_wp2
                        go_roundw
                        case rel => exact ⟨t + 1, by omega, by rw [show L - (t + 1) = d by omega], S8.out, S9.out, S7.out⟩
                        case measure => simp [intOf]
                  · obtain rfl : t = L := by omega
                    have HV9 := hide (show wa.ownsRow w1.heap.size 3 1 (.slice (some ⟨w1.heap.size, 0, none⟩) j j) j (ints (shareL a ws)) by rw [Hdef.out]; exact hv)
                    have HB9 := hide hbr
                    have hz0 : t - t = 0 := by omega
                    rw [hz0]
                    clear hv hq hbr
                    have hz1 : ((0 : Nat) : Int) = 0 := rfl
                    rw [hz1]
                    go_wp2
                    go_ret2
                    exact ⟨_, by rw [HE.out]; rfl, by rw [HV.out, HPL.out]; exact HV9.out, HB9.out⟩
end Go.Proofs.Ytfcmgmcidngjeaa
