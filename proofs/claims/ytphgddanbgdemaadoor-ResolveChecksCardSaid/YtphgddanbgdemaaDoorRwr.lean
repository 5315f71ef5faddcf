/-
  Contracts of the reference's Clamp, and of its check of a choice's arguments where they are right. Conditions: each condition is valid, there are 200 at most, and so are the day, the level, the releases and the bounds.
-/
import Derived.Test.YtphgddanbgdemaaDoorProg
import Derived.Test.YtphgddanbgdemaaDoorRac
import Derived.WalkLawsBesides
import Derived.Handy
namespace Go.Proofs.YtphgddanbgdemaaDoor
open Go.RowKit

def rclB (x lo hi : Int) : Int := if hi < lo then lo else max lo (min x hi)
theorem rcl_a {x lo hi y : Int} (h : (hi < lo ∧ y = lo) ∨ (lo ≤ hi ∧ y = max lo (min x hi))) : rclB x lo hi = y := by
  unfold rclB; split <;> omega
set_option maxHeartbeats 800000 in
set_option maxRecDepth 20000 in
theorem rclamp_any (x lo hi : Int) (w : World) : Calls Tryd.prog 23 #[.int .i64 x, .agg #[.int .i64 lo, .int .i64 hi]] w fun e w' => e = .returned (.int .i64 (rclB x lo hi)) ∧ Below w.heap.size w w' := by
  go_enter Tryd.func23, Tryd.ntmps23
  go_wp2
  all_goals
    go_ret
    exact ⟨ret_int (rcl_a (by omega)).symm, bel1⟩
set_option maxHeartbeats 3200000 in
set_option maxRecDepth 20000 in
theorem rwrong_ok (A : Option Addr) (n c : Nat) (cs : List Cd) (d lv bf g0 g1 wn : Int) (w : World) (hn : n ≤ 200) (hg : ∀ x ∈ cs, x.err = 0) (hd : wit d 364 = true) (hv : wit lv 16777216 = true) (hbf : wit bf 1073741824 = true) (hwn : wit wn 1073741824 = true) (h0 : wit g0 1073741824 = true) (h1 : wit g1 1073741824 = true) (hgg : g0 ≤ g1) (hs : Sl w w.heap.size 7 A n c (cdCells cs)) :
    Calls Tryd.prog 19 #[.slice A n c, .int .i64 d, .int .i64 lv, .int .i64 bf, .agg #[.int .i64 g0, .int .i64 g1], .int .i64 wn] w fun e w' => e = .returned (.int .i64 0) ∧ Below w.heap.size w w' := by
  have HG := hide hg
  have HD := hide hd
  have HV := hide hv
  have HE := hide (fun (k : Nat) (h : k < 4) => show wit ([bf, wn, g0, g1].getD k 0) 1073741824 = true by
    match k, h with
    | 0, _ => exact hbf
    | 1, _ => exact hwn
    | 2, _ => exact h0
    | 3, _ => exact h1)
  have hB := bel1 (w := w) (o := .cells #[.int .i64 g0, .int .i64 g1] 23)
  have q0 := Blk.new w 23 #[.int .i64 g0, .int .i64 g1]
  have hs1 := hs.thr hB
  clear hg hd hv hbf hwn h0 h1 hs
  go_enter Tryd.func19, Tryd.ntmps19
  go_wp2_with fail
  generalize (w.alloc _) = w1 at *
  refine (ractive_ok A n c cs d lv w1 hn HG.out HD.out HV.out hs1).mono ?_
  rintro e w2 ⟨v2, os, rfl, _, _, hb2⟩
  have hB2 := bthr hB hb2 hB.size
  replace q0 := q0.below hb2 q0.lt
  obtain ⟨y0, y1, _⟩ := q0.facts2
  have q1 := Blk.new w2 3 #[.int .i64 bf, .int .i64 wn, .int .i64 g0, .int .i64 g1]
  have HB3 := hide (hB2.alloc hB2.size (.cells #[.int .i64 bf, .int .i64 wn, .int .i64 g0, .int .i64 g1] 3))
  have Q0 := hide (q0.alloc (.cells #[.int .i64 bf, .int .i64 wn, .int .i64 g0, .int .i64 g1] 3))
  have Q1 := hide q1
  clear hB hb2 hB2 hs1 q0 q1
  go_wp2
  generalize (w2.alloc _) = w3 at *
  go_loop [35] (fun i => ∃ k : Nat, k ≤ 4 ∧ i = .int .i64 k) (fun i => 4 - (intOf i).toNat)
  case atStart => exact ⟨0, by omega, rfl⟩
  case round =>
    obtain ⟨k, hk, rfl⟩ := hrel
    by_cases hlt : k < 4
    · have hx := Q1.out.facts.1 k
      have hcx : w3.cell? ⟨w2.heap.size, k, none⟩ = some (.int .i64 ([bf, wn, g0, g1].getD k 0)) := by
        rw [hx, ← ints_get [bf, wn, g0, g1] k hlt]; simp [ints]
      have HW := hide (HE.out k hlt)
      have hkk : (k : Int) < 4 := by omega
      clear hx
      generalize [bf, wn, g0, g1].getD k 0 = z at *
      go_wp2_with (go_at_call 38; refine (refIn_any _ _ _).mono ?_; rintro e w' ⟨rfl, rfl⟩; rw [HW.out])
      go_round
      case rel => exact ⟨k + 1, by omega, by go_num⟩
      case measure => simp [intOf]; omega
    · obtain rfl : k = 4 := by omega
      obtain ⟨y2, y3, _⟩ := Q0.out.facts2
      go_wp2
      go_ret
      exact ⟨rfl, HB3.out⟩
end Go.Proofs.YtphgddanbgdemaaDoor
