/-
  Contracts of made and Worst: the arguments of a choice, drawn; the least rank of those that yield. Conditions: the deck lies in memory; the lists can be read.
-/
import Derived.Test.YtphgddanbgdemaaDoorProg
import Derived.Test.YtphgddanbgdemaaDoorGiv
import Derived.Test.YtphgddanbgdemaaDoorCho
import Derived.Deep.DeepCutAuto
namespace Go.Proofs.YtphgddanbgdemaaDoor
open Go.RowKit

def ZSet : Array Value := #[.slice none 0 0, .int .i64 0, .int .i64 0, .int .i64 0, .int .i64 0, .int .i64 0, .int .i64 0]
/-- what made makes -/
def MadeP (b : Nat) (w : World) (e : Ending) (w' : World) : Prop := ∃ (A : Option Addr) (c : Nat) (cs : List Cd) (d lv bf wn g0 g1 : Int), e = .returned (.agg #[.slice A cs.length c, .int .i64 d, .int .i64 lv, .int .i64 bf, .int .i64 wn, .int .i64 g0, .int .i64 g1]) ∧ cs.length ≤ 6 ∧ (∀ x ∈ cs, x.good) ∧ w'.ownsRow (w.heap.size + 1) 47 7 (.slice A cs.length c) cs.length (cdCells cs) ∧ (0 ≤ d ∧ d < 365) ∧ (80 ≤ lv ∧ lv < 230) ∧ (0 ≤ bf ∧ bf < 30) ∧ (0 ≤ wn ∧ wn < 60) ∧ 0 ≤ g0 ∧ g0 ≤ g1 ∧ g1 ≤ 1073741824 ∧ Dk w' b ∧ w.grownBy w' (some b)
theorem own_setM {w : World} {base n : Nat} {e : TypeId} {size : Nat} {v : Value} {xs : List Value} (h : w.ownsRow base e size v n xs) {p : Addr} (hp : p.block < base) (u : Value) : (w.setCell p u).ownsRow base e size v n xs := own_set h hp u
set_option maxHeartbeats 1600000 in
set_option maxRecDepth 20000 in
theorem made_any (b : Nat) (w : World) (hD : Dk w b) : Calls Tryd.prog 6 #[.pointer (some ⟨b, 0, none⟩)] w (MadeP b w) := by
  have hbl := hD.lt
  have q0 := Blk.new w 33 ZSet
  have hg0 := grown_alloc (grown_refl w (some b)) (.cells ZSet 33)
  have hD1 := hD.alloc (.cells ZSet 33)
  have hz1 : (w.alloc (.cells ZSet 33)).heap.size = w.heap.size + 1 := by simp
  unfold ZSet at q0 hg0 hD1 hz1
  go_enter Tryd.func6, Tryd.ntmps6
  go_wp2_with fail
  generalize w.alloc _ = w1 at *
  refine (conds_any b _ hD1).mono ?_
  rintro e w2 ⟨v, cs, rfl, hcl, hcg, hv, hD2, hg2⟩
  obtain ⟨A, c, rfl, -⟩ := own_sl hv
  rw [hz1] at hv
  have q2 := q0.only hg2 (by omega)
  have G2 := grown_trans hg0 hg2
  clear hD1 q0 hg0 hg2 hz1
  go_wp2_with fail
  refine (next_any b 365 (by omega) _ hD2).mono ?_
  rintro e w3 ⟨d, rfl, hd0, hd1, hD3, hg3, -⟩
  have q3 := q2.only hg3 (by omega)
  have G3 := grown_trans G2 hg3
  have hv3 := own_deck hv hg3 (by omega)
  have hd : 0 ≤ d ∧ d < 365 := by omega
  clear hD2 q2 G2 hg3 hv hd0 hd1
  go_wp2_with fail
  refine (next_any b 150 (by omega) _ hD3).mono ?_
  rintro e w4 ⟨lv, rfl, hd0, hd1, hD4, hg4, -⟩
  have q4 := q3.only hg4 (by omega)
  have G4 := grown_trans G3 hg4
  have hv4 := own_deck hv3 hg4 (by omega)
  have hlv : 0 ≤ lv ∧ lv < 150 := by omega
  clear hD3 q3 G3 hg4 hv3 hd0 hd1
  go_wp2_with fail
  refine (next_any b 30 (by omega) _ hD4).mono ?_
  rintro e w5 ⟨bf, rfl, hd0, hd1, hD5, hg5, -⟩
  have q5 := q4.only hg5 (by omega)
  have G5 := grown_trans G4 hg5
  have hv5 := own_deck hv4 hg5 (by omega)
  have hbf : 0 ≤ bf ∧ bf < 30 := by omega
  clear hD4 q4 G4 hg5 hv4 hd0 hd1
  go_wp2_with fail
  refine (next_any b 60 (by omega) _ hD5).mono ?_
  rintro e w6 ⟨wn, rfl, hd0, hd1, hD6, hg6, -⟩
  have q6 := q5.only hg6 (by omega)
  have G6 := grown_trans G5 hg6
  have hv6 := own_deck hv5 hg6 (by omega)
  have hwn : 0 ≤ wn ∧ wn < 60 := by omega
  clear hD5 q5 G5 hg6 hv5 hd0 hd1
  go_wp2_with fail
  refine (given_any b _ hD6).mono ?_
  rintro e w7 ⟨g0, g1, rfl, hg00, hg01, hg11, hD7, hg7⟩
  have q7 := q6.only hg7 (by omega)
  have G7 := hide (grown_trans G6 hg7)
  have hv7 := hide (own_deck hv6 hg7 (by omega))
  have HD7 := hide hD7
  have HCG := hide hcg
  clear hD6 q6 G6 hg7 hv6 hD7 hcg
  obtain ⟨⟨c0, c1, c2, c3, c4, c5, c6⟩, cF⟩ := Blk.facts7 q7
  clear q7
  obtain ⟨m, hm⟩ : ∃ m, cs.length = m := ⟨_, rfl⟩
  have HM := hide hm
  rw [hm] at hcl
  simp only [hm]
  clear hm
  go_wp2
  refine bodyPost_ret (v := .agg #[.slice A m c, .int .i64 d, .int .i64 (80 + lv), .int .i64 bf, .int .i64 wn, .int .i64 g0, .int .i64 g1]) (by simp [results, Tryd.results6, go_sem, c0, c1, c2, c3, c4, c5, c6]) rfl ⟨A, c, cs, d, 80 + lv, bf, wn, g0, g1, by rw [HM.out], by rw [HM.out]; exact hcl, HCG.out, ?_, hd, by omega, hbf, hwn, hg00, hg01, hg11, ?_, ?_⟩
  · repeat (first | with_reducible exact hv7.out | with_reducible refine own_set ?_ (by simp) _)
  · repeat (first | with_reducible exact HD7.out | with_reducible refine Dk.set ?_ (by simpa using hbl) _)
  · repeat (first | with_reducible exact G7.out | with_reducible refine grown_set ?_ (.inr (by simp)) _)

/-- the least rank of those that yield -/
def worstF (cs : List Cd) (ys : List (Int × Int)) : Int := ys.foldl (fun (a : Int) (y : Int × Int) => if 0 ≤ y.1 ∧ y.1 < (cs.length : Int) then (if a = 0 ∨ rkC cs y.1 < a then rkC cs y.1 else a) else a) 0
theorem worst_step {cs : List Cd} {ys : List (Int × Int)} {k : Nat} (h : k < ys.length) {y0 y1 : Int} (he : ys[k] = (y0, y1)) :
    worstF cs (ys.take (k + 1)) = if 0 ≤ y0 ∧ y0 < cs.length then (if worstF cs (ys.take k) = 0 ∨ rkC cs y0 < worstF cs (ys.take k) then rkC cs y0 else worstF cs (ys.take k)) else worstF cs (ys.take k) := by
  unfold worstF
  rw [List.take_succ_eq_append_getElem h, List.foldl_append, he]
  rfl
theorem yCells_len (ys : List (Int × Int)) : (yCells ys).length = ys.length * 2 := by
  induction ys with
  | nil => rfl
  | cons a t ih =>
    have e : yCells (a :: t) = [.int .i64 a.1, .int .i64 a.2] ++ yCells t := by simp [yCells]
    rw [e, List.length_append, ih]; simp; omega
theorem yCells_get : ∀ (ys : List (Int × Int)) (k : Nat) (h : k < ys.length), (yCells ys)[k * 2]? = some (.int .i64 ys[k].1) ∧ (yCells ys)[k * 2 + 1]? = some (.int .i64 ys[k].2)
  | a :: t, 0, _ => by simp [yCells]
  | a :: t, k + 1, h => by
    have e : yCells (a :: t) = [.int .i64 a.1, .int .i64 a.2] ++ yCells t := by simp [yCells]
    have ih := yCells_get t k (by simpa using h)
    rw [e, List.getElem?_append_right (by simp; omega), List.getElem?_append_right (by simp; omega)]
    rw [show (k + 1) * 2 - [Value.int .i64 a.1, Value.int .i64 a.2].length = k * 2 by simp; omega, show (k + 1) * 2 + 1 - [Value.int .i64 a.1, Value.int .i64 a.2].length = k * 2 + 1 by simp; omega]
    exact ih
/-- The two cells of a yield. -/
theorem y_cells {w : World} {b o : Nat} {ys : List (Int × Int)} (hc : ∀ j u, (yCells ys)[j]? = some u → w.cell? ⟨b, o + j, none⟩ = some u) {k : Nat} (hk : k < ys.length) {y0 y1 : Int} (he : ys[k] = (y0, y1)) :
    w.cell? ⟨b, o + k * 2, none⟩ = some (.int .i64 y0) ∧ w.cell? ⟨b, o + k * 2 + 1, none⟩ = some (.int .i64 y1) := by
  have g := yCells_get ys k hk
  rw [he] at g
  exact ⟨hc _ _ g.1, hc _ _ g.2⟩
set_option maxHeartbeats 1600000 in
set_option maxRecDepth 20000 in
theorem worst_any (A B : Option Addr) (n c m c2 : Nat) (cs : List Cd) (ys : List (Int × Int)) (rl lo hi : Int) (w : World) (hs : Sl w w.heap.size 7 A n c (cdCells cs)) (hy : Sl w w.heap.size 2 B m c2 (yCells ys)) :
    Calls Tryd.prog 13 #[.slice A n c, .agg #[.int .i64 rl, .int .i64 lo, .int .i64 hi, .slice B m c2]] w fun e w' => e = .returned (.int .i64 (worstF cs ys)) ∧ Below w.heap.size w w' := by
  have hl : n = cs.length := by have := hs.1; rw [cdCells_length] at this; omega
  have hm : m = ys.length := by have := hy.1; rw [yCells_len] at this; omega
  have hmm : m ≤ 9223372036854775807 := by have a1 := hy.2.1; have a2 := hy.2.2.1; unfold maxLen at a2; omega
  have q0 := Blk.new w 26 #[.int .i64 rl, .int .i64 lo, .int .i64 hi, .slice B m c2]
  have hB := bel1 (w := w) (o := .cells #[.int .i64 rl, .int .i64 lo, .int .i64 hi, .slice B m c2] 26)
  have HL := hide hl
  have HM := hide hm
  have HS := hide (hs.thr hB)
  have HY := hide (hy.thr hB)
  clear hl hm hs hy
  obtain ⟨c0, c1, c3, c4, cF⟩ := q0.facts4
  go_enter Tryd.func13, Tryd.ntmps13
  go_upto_region 2 with fail
  generalize w.alloc _ = w1 at *
  go_wp2
  clear c0 c1 c3 c4 cF q0
  go_loopw [5, 12] (fun a i wr => ∃ k : Nat, k ≤ m ∧ i = .int .i64 k ∧ a = .int .i64 (worstF cs (ys.take k)) ∧ Below w1.heap.size w1 wr) (fun _ i _ => m - (intOf i).toNat)
  case atStart => exact ⟨0, by omega, rfl, rfl, Below.refl _ _⟩
  case round =>
    obtain ⟨k, hk, rfl, rfl, hb⟩ := hrel
    by_cases hlt : k < m
    · obtain ⟨b2, o2, rfl, _, hyc⟩ := (HY.out.below hb).at_ hlt
      rcases ey : ys[k]'(by have := HM.out; omega) with ⟨y0, y1⟩
      obtain ⟨z0, z1⟩ := y_cells hyc (by have := HM.out; omega) ey
      have HST := hide (worst_step (cs := cs) (by have := HM.out; omega) ey)
      have hb2 := hide (hb.alloc hb.size (.cells #[.int .i64 y0, .int .i64 y1] 49))
      have q1 := Blk.new wr 49 #[.int .i64 y0, .int .i64 y1]
      have hki : (k : Int) < (m : Int) := by omega
      clear hyc ey
      generalize worstF cs (ys.take k) = a at *
      by_cases hin : 0 ≤ y0 ∧ y0 < n
      · obtain ⟨i0, i1⟩ := hin
        obtain ⟨j, rfl⟩ : ∃ j : Nat, y0 = (j : Int) := ⟨y0.toNat, by omega⟩
        have hL := HL.out
        obtain ⟨bl, ol, rfl, _, hcl⟩ := (HS.out.below (hb.alloc hb.size (.cells #[.int .i64 (j : Int), .int .i64 y1] 49))).at_ (show j < n by omega)
        rcases ej : cs[j]'(by omega) with ⟨r, kd, vv, f, t, x, y⟩
        obtain ⟨e0, -⟩ := cd_cells (B := 0) (n := 0) (c := 0) hcl (by omega) ej
        have HR := hide (rk_at (by omega) ej)
        rw [if_pos (by omega), HR.out] at HST
        obtain ⟨x0, x1, _⟩ := q1.facts2
        clear hcl ej hL hb q1
        by_cases ha : a = 0
        · have hab : (a == 0) = true := by simp [ha]
          have HS2 := hide (show worstF cs (ys.take (k + 1)) = r by rw [HST.out, if_pos (.inl ha)])
          clear HST ha
          go_wp2
          go_roundw
          case rel => exact ⟨k + 1, by omega, by go_num, by rw [HS2.out], hb2.out⟩
          case measure => simp [intOf]; omega
        · have hab : (a == 0) = false := by simp [ha]
          by_cases hra : r < a
          · have HS2 := hide (show worstF cs (ys.take (k + 1)) = r by rw [HST.out, if_pos (.inr hra)])
            clear HST ha
            go_wp2
            go_roundw
            case rel => exact ⟨k + 1, by omega, by go_num, by rw [HS2.out], hb2.out⟩
            case measure => simp [intOf]; omega
          · have HS2 := hide (show worstF cs (ys.take (k + 1)) = a by rw [HST.out, if_neg (by omega)])
            clear HST ha
            go_wp2
            go_roundw
            case rel => exact ⟨k + 1, by omega, by go_num, by rw [HS2.out], hb2.out⟩
            case measure => simp [intOf]; omega
      · have HS2 := hide (show worstF cs (ys.take (k + 1)) = a by rw [HST.out, if_neg (by have := HL.out; omega)])
        obtain ⟨x0, x1, _⟩ := q1.facts2
        clear hb HST q1
        by_cases h0 : 0 ≤ y0
        · have h1 : ¬ y0 < (n : Int) := fun h => hin ⟨h0, h⟩
          clear hin
          go_wp2
          go_roundw
          case rel => exact ⟨k + 1, by omega, by go_num, by rw [HS2.out], hb2.out⟩
          case measure => simp [intOf]; omega
        · clear hin
          go_wp2
          go_roundw
          case rel => exact ⟨k + 1, by omega, by go_num, by rw [HS2.out], hb2.out⟩
          case measure => simp [intOf]; omega
    · obtain rfl : k = m := by omega
      have HE := hide (show worstF cs (ys.take k) = worstF cs ys by rw [List.take_of_length_le (by have := HM.out; omega)])
      have HBB := hide (bthr hB hb hB.size)
      clear hb
      rw [HE.out]
      go_wp2
      go_ret
      exact ⟨rfl, HBB.out⟩
theorem worst_zero (cs : List Cd) : worstF cs [] = 0 := rfl
/-- if any yields, and the ranks are at least 1, the worst is positive -/
theorem worst_pos {cs : List Cd} : ∀ (ys : List (Int × Int)), (∀ y ∈ ys, (0 ≤ y.1 ∧ y.1 < cs.length) ∧ 1 ≤ rkC cs y.1) → ys ≠ [] → 0 < worstF cs ys := by
  have key : ∀ (ys : List (Int × Int)) (a : Int), 0 ≤ a → (∀ y ∈ ys, (0 ≤ y.1 ∧ y.1 < cs.length) ∧ 1 ≤ rkC cs y.1) → (ys ≠ [] ∨ 0 < a) → 0 < ys.foldl (fun (a : Int) (y : Int × Int) => if 0 ≤ y.1 ∧ y.1 < (cs.length : Int) then (if a = 0 ∨ rkC cs y.1 < a then rkC cs y.1 else a) else a) a := by
    intro ys
    induction ys with
    | nil => intro a _ _ h; rcases h with h | h; exact absurd rfl h; exact h
    | cons y t ih =>
      intro a ha h _
      obtain ⟨h1, h2⟩ := h y (by simp)
      rw [List.foldl_cons, if_pos h1]
      refine ih _ ?_ (fun z hz => h z (by simp [hz])) (.inr ?_)
      · split <;> omega
      · split <;> omega
  exact fun ys h hn => key ys 0 (Int.le_refl _) h (.inl hn)
end Go.Proofs.YtphgddanbgdemaaDoor
