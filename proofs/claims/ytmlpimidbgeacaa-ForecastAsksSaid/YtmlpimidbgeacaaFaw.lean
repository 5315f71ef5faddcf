/-
  The sanity check of the laws of chapter 10 answers true. No condition.
-/
import Derived.Test.YtmlpimidbgeacaaProg
import Derived.Test.YtmlpimidbgeacaaFqu
namespace Go.Proofs.Ytmlpimidbgeacaa
open Go.RowKit

def exB (A1 A2 A3 : Option Addr) : Bd := ⟨0, A3, 2, 2, [⟨1, A1, 1, 1, [10]⟩, ⟨3, A2, 1, 1, [20]⟩], false⟩
theorem ex_q (A1 A2 A3 : Option Addr) : qE (exB A1 A2 A3) 0 1 4 = 0 ∧ qE (exB A1 A2 A3) 0 1 2 = 0 ∧ stepE (exB A1 A2 A3) 0 = 0 ∧ meanV (exB A1 A2 A3) 0 = 17 := ⟨by kernel_rfl, by kernel_rfl, by kernel_rfl, by kernel_rfl⟩
theorem ex_w (A1 A2 A3 : Option Addr) : wAll (exB A1 A2 A3).ss = 4 ∧ wLe (flAt (exB A1 A2 A3) 0) 10 (exB A1 A2 A3).ss = 1 ∧ wLe (flAt (exB A1 A2 A3) 0) 20 (exB A1 A2 A3).ss = 4 := ⟨by kernel_rfl, by kernel_rfl, by kernel_rfl⟩
theorem ex_qv (A1 A2 A3 : Option Addr) : QV (flAt (exB A1 A2 A3) 0) (exB A1 A2 A3).ss 1 4 10 ∧ QV (flAt (exB A1 A2 A3) 0) (exB A1 A2 A3).ss 1 2 20 := by
  obtain ⟨h1, h2, h3⟩ := ex_w A1 A2 A3
  have f0 : flAt (exB A1 A2 A3) 0 ⟨1, A1, 1, 1, [10]⟩ = 10 := by kernel_rfl
  have f1 : flAt (exB A1 A2 A3) 0 ⟨3, A2, 1, 1, [20]⟩ = 20 := by kernel_rfl
  have hm : ∀ s ∈ (exB A1 A2 A3).ss, s = ⟨1, A1, 1, 1, [10]⟩ ∨ s = ⟨3, A2, 1, 1, [20]⟩ := by intro s hs; simpa [exB] using hs
  refine ⟨⟨⟨_, by simp [exB], f0⟩, by rw [h1, h2]; decide, fun s hs hlt => ?_⟩, ⟨⟨⟨3, A2, 1, 1, [20]⟩, by simp [exB], f1⟩, by rw [h1, h3]; decide, fun s hs hlt => ?_⟩⟩
  · rcases hm s hs with rfl | rfl
    · rw [f0] at hlt; omega
    · rw [f1] at hlt; omega
  · rcases hm s hs with rfl | rfl
    · rw [f0, h1, h2]; decide
    · rw [f1] at hlt; omega
theorem ex_ok {w : World} {g1 g2 g3 : Nat} (h1 : Blk w g1 3 #[.int .i64 10]) (h2 : Blk w g2 3 #[.int .i64 20]) (h3 : Blk w g3 32 #[.int .i64 1, .slice (some ⟨g1, 0, none⟩) 1 1, .int .i64 3, .slice (some ⟨g2, 0, none⟩) 1 1]) : (exB (some ⟨g1, 0, none⟩) (some ⟨g2, 0, none⟩) (some ⟨g3, 0, none⟩)).ok w w.heap.size := by
  refine ⟨⟨rfl, Nat.le_refl _, by unfold maxLen exB; simp, fun _ => ⟨g3, 0, rfl, h3.lt, fun j u hu => ?_⟩⟩, fun s hs => ?_⟩
  · rw [h3.facts.1, Nat.zero_add, ← hu]
    simp [exB, scCells, Sc.arr]
  · have hm : s = ⟨1, some ⟨g1, 0, none⟩, 1, 1, [10]⟩ ∨ s = ⟨3, some ⟨g2, 0, none⟩, 1, 1, [20]⟩ := by simpa [exB] using hs
    rcases hm with rfl | rfl
    · exact sl_int1 h1
    · exact sl_int1 h2
set_option maxHeartbeats 1600000 in
set_option maxRecDepth 20000 in
theorem awake_any (w : World) : Calls Try.prog 15 #[] w fun e w' => e = .returned (.bool true) ∧ Below w.heap.size w w' := by
  have b1 := (((Blk.new w 3 #[.int .i64 10]).alloc (.cells #[.int .i64 20] 3)).alloc (.cells #[.int .i64 1, .slice (some ⟨w.heap.size, 0, none⟩) 1 1, .int .i64 3, .slice (some ⟨w.heap.size + 1, 0, none⟩) 1 1] 32)).alloc (.cells #[.int .i64 0, .slice (some ⟨w.heap.size + 2, 0, none⟩) 2 2, .bool false] 27)
  have b2 := ((Blk.new (w.alloc (.cells #[.int .i64 10] 3)) 3 #[.int .i64 20]).alloc (.cells #[.int .i64 1, .slice (some ⟨w.heap.size, 0, none⟩) 1 1, .int .i64 3, .slice (some ⟨w.heap.size + 1, 0, none⟩) 1 1] 32)).alloc (.cells #[.int .i64 0, .slice (some ⟨w.heap.size + 2, 0, none⟩) 2 2, .bool false] 27)
  have b3 := (Blk.new ((w.alloc (.cells #[.int .i64 10] 3)).alloc (.cells #[.int .i64 20] 3)) 32 #[.int .i64 1, .slice (some ⟨w.heap.size, 0, none⟩) 1 1, .int .i64 3, .slice (some ⟨w.heap.size + 1, 0, none⟩) 1 1]).alloc (.cells #[.int .i64 0, .slice (some ⟨w.heap.size + 2, 0, none⟩) 2 2, .bool false] 27)
  have b4 := Blk.new (((w.alloc (.cells #[.int .i64 10] 3)).alloc (.cells #[.int .i64 20] 3)).alloc (.cells #[.int .i64 1, .slice (some ⟨w.heap.size, 0, none⟩) 1 1, .int .i64 3, .slice (some ⟨w.heap.size + 1, 0, none⟩) 1 1] 32)) 27 #[.int .i64 0, .slice (some ⟨w.heap.size + 2, 0, none⟩) 2 2, .bool false]
  simp only [World.size_alloc] at b2 b3 b4
  have hB := ((((Below.refl w.heap.size w).alloc (Nat.le_refl _) (.cells #[.int .i64 10] 3)).alloc (by simp only [World.size_alloc]; omega) (.cells #[.int .i64 20] 3)).alloc (by simp only [World.size_alloc]; omega) (.cells #[.int .i64 1, .slice (some ⟨w.heap.size, 0, none⟩) 1 1, .int .i64 3, .slice (some ⟨w.heap.size + 1, 0, none⟩) 1 1] 32)).alloc (by simp only [World.size_alloc]; omega) (.cells #[.int .i64 0, .slice (some ⟨w.heap.size + 2, 0, none⟩) 2 2, .bool false] 27)
  have hok := hide (ex_ok b1 b2 b3)
  have HB4 := hide b4
  clear b1 b2 b3 b4
  go_enter Try.func15, Try.ntmps15
  go_upto_region 2 with fail
  generalize (((w.alloc _).alloc _).alloc _).alloc _ = w4 at *
  obtain ⟨c0, c1, c2, cf⟩ := HB4.out.facts3
  have HQ1 := hide (fun (W : World) hW => quantile_any (exB (some ⟨w.heap.size, 0, none⟩) (some ⟨w.heap.size + 1, 0, none⟩) (some ⟨w.heap.size + 2, 0, none⟩)) 0 1 4 W hW (fun _ => show 2 ≤ 20 by omega))
  have HQ2 := hide (fun (W : World) hW => quantile_any (exB (some ⟨w.heap.size, 0, none⟩) (some ⟨w.heap.size + 1, 0, none⟩) (some ⟨w.heap.size + 2, 0, none⟩)) 0 1 2 W hW (fun _ => show 2 ≤ 20 by omega))
  have HM := hide (fun (W : World) hW => mean_any (exB (some ⟨w.heap.size, 0, none⟩) (some ⟨w.heap.size + 1, 0, none⟩) (some ⟨w.heap.size + 2, 0, none⟩)) 0 W hW)
  have HV := hide (ex_qv (some ⟨w.heap.size, 0, none⟩) (some ⟨w.heap.size + 1, 0, none⟩) (some ⟨w.heap.size + 2, 0, none⟩))
  obtain ⟨e1, e2, e3, e4⟩ := ex_q (some ⟨w.heap.size, 0, none⟩) (some ⟨w.heap.size + 1, 0, none⟩) (some ⟨w.heap.size + 2, 0, none⟩)
  unfold QOk at HQ1 HQ2
  rw [e1] at HQ1
  rw [e2] at HQ2
  rw [e3, e4] at HM
  unfold exB Bd.arr at HQ1 HQ2 HM
  simp only [if_true, forall_const, ne_eq, not_true_eq_false, false_implies, true_and] at HQ1 HQ2 HM
  clear e1 e2 e3 e4
  go_wp2_with fail
  refine (HQ1.out w4 hok.out).mono ?_
  rintro e w5 ⟨x, rfl, hx, hb5⟩
  obtain rfl : x = 10 := qv_one hx HV.out.1
  have HB5 := hide (bthr hB hb5 hB.size)
  have hok5 := hide (Bd.ok.thr hok.out hb5)
  have HC5 := hide (HB4.out.below hb5 HB4.out.lt)
  clear hx hb5 c0 c1 c2 cf hB HB4 hok
  obtain ⟨c0, c1, c2, cf⟩ := HC5.out.facts3
  go_wp2_with fail
  refine (HQ2.out w5 hok5.out).mono ?_
  rintro e w6 ⟨y, rfl, hy, hb6⟩
  obtain rfl : y = 20 := qv_one hy HV.out.2
  have HB6 := hide (bthr HB5.out hb6 HB5.out.size)
  have hok6 := hide (Bd.ok.thr hok5.out hb6)
  have HC6 := hide (HC5.out.below hb6 HC5.out.lt)
  clear hy hb6 c0 c1 c2 cf hok5 HC5
  obtain ⟨c0, c1, c2, cf⟩ := HC6.out.facts3
  go_wp2_with fail
  refine (HM.out w6 hok6.out).mono ?_
  rintro e w7 ⟨rfl, hb7⟩
  have HB7 := hide (bthr HB6.out hb7 HB6.out.size)
  clear hb7 c0 c1 c2 cf
  go_wp2
  go_ret
  exact ⟨rfl, HB7.out⟩
end Go.Proofs.Ytmlpimidbgeacaa
