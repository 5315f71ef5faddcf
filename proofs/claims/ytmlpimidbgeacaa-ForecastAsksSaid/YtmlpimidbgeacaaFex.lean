/-
  The contract of Exceeds: the weights beyond a flow and of all, or the first error. Condition: the bundle can be read.
-/
import Derived.Test.YtmlpimidbgeacaaProg
import Derived.Test.YtmlpimidbgeacaaFqu
namespace Go.Proofs.Ytmlpimidbgeacaa
open Go.RowKit

theorem cfX : ∀ (a : Array Value) (W : World), (callFunc 40 a).run Try.prog W = .ok (.enter 40 a) W := fun _ _ => by kernel_rfl
set_option maxHeartbeats 800000 in
set_option maxRecDepth 20000 in
theorem xby_any (s : Sc) (t fr flow : Int) (at_ g1 g2 g3 : Nat) (w : World) (hs : s.ok w w.heap.size) (hat : at_ < s.n) (he : t - fr = at_) (hr : at_ ≤ 1000) (c1 : w.cell? ⟨g1, 0, none⟩ = some (.int .i64 t)) (c2 : w.cell? ⟨g2, 0, none⟩ = some (.int .i64 fr)) (c3 : w.cell? ⟨g3, 0, none⟩ = some (.int .i64 flow)) :
    Calls Try.prog 40 #[.agg s.arr, .pointer (some ⟨g1, 0, none⟩), .pointer (some ⟨g2, 0, none⟩), .pointer (some ⟨g3, 0, none⟩)] w fun e w' => e = .returned (.bool (decide (flow < s.fl.getD at_ 0))) ∧ Below w.heap.size w w' := by
  obtain ⟨bf, of_, hA, hc, _⟩ := fl_get hs hat
  obtain ⟨wt, A, n, c, fl⟩ := s
  simp only at hA hc hat ⊢
  subst hA
  unfold Sc.arr
  simp only
  generalize fl.getD at_ 0 = fv at *
  have q0 := Blk.new w 32 #[.int .i64 wt, .slice (some ⟨bf, of_, none⟩) n c]
  have hB := bel1 (w := w) (o := .cells #[.int .i64 wt, .slice (some ⟨bf, of_, none⟩) n c] 32)
  obtain ⟨y0, y1, _⟩ := q0.facts2
  replace c1 := cell_thr hB c1
  replace c2 := cell_thr hB c2
  replace c3 := cell_thr hB c3
  replace hc := cell_thr hB hc
  have h0 : (0 : Int) ≤ (at_ : Int) := by omega
  have h1 : (at_ : Int) < (n : Int) := by omega
  have hw1 : IntKind.i64.wrap (t - fr) = (at_ : Int) := by rw [he, IntKind.wrap_i64]; omega
  have hw2 : wrap64 (at_ : Int) = (at_ : Int) := IntWalk.wrap64_in _ (by omega)
  clear hs q0
  go_enter Try.func40, Try.ntmps40
  go_upto_region 1 with fail
  go_quiet (fail)
  go_wp2
  go_ret
  exact ⟨rfl, below_drewN hB _⟩
def overV (b : Bd) (t flow : Int) : Int := sumS (wOf fun s => decide (flow < flAt b t s)) b.ss
set_option maxHeartbeats 1600000 in
set_option maxRecDepth 20000 in
theorem exceeds_any (b : Bd) (t flow : Int) (w : World) (hb : b.ok w w.heap.size) :
    Calls Try.prog 16 #[.agg b.arr, .int .i64 t, .int .i64 flow] w fun e w' => e = .returned (.tuple #[.int .i64 (if stepE b t = 0 then overV b t flow else 0), .int .i64 (if stepE b t = 0 then wAll b.ss else 0), .int .i64 (stepE b t)]) ∧ Below w.heap.size w w' := by
  have q0 := ((Blk.new w 27 b.arr).alloc (.cells #[.int .i64 t] 3)).alloc (.cells #[.int .i64 flow] 3)
  have q1 := (Blk.new (w.alloc (.cells b.arr 27)) 3 #[.int .i64 t]).alloc (.cells #[.int .i64 flow] 3)
  have q2 := Blk.new ((w.alloc (.cells b.arr 27)).alloc (.cells #[.int .i64 t] 3)) 3 #[.int .i64 flow]
  rw [World.size_alloc] at q1 q2
  rw [World.size_alloc] at q2
  have hB := ((bel1 (w := w) (o := .cells b.arr 27)).alloc (by simp) (.cells #[.int .i64 t] 3)).alloc (by simp only [World.size_alloc]; omega) (.cells #[.int .i64 flow] 3)
  have hb1 := Bd.ok.thr hb hB
  have HSP := hide (fun W hW => step_any b t W hW)
  by_cases hse : stepE b t = 0
  · obtain ⟨hv, ht0, ht1, hwd⟩ := stepE_zero hse (ScsOk.len hb)
    have HW1 := hide (fun W hW => weight_any b 36 #[] (fun _ => true) W hW hv (every_says W b.ss))
    have HW2 := hide (fun (W : World) hW hS => weight_any b 40 #[.pointer (some ⟨w.heap.size + 1, 0, none⟩), .pointer (some ⟨w.heap.size, 0, none⟩), .pointer (some ⟨w.heap.size + 2, 0, none⟩)] (fun s => decide (flow < flAt b t s)) W hW hv hS)
    have HEX := hide (show (if stepE b t = 0 then overV b t flow else 0) = sumS (wOf fun s => decide (flow < flAt b t s)) b.ss from if_pos hse)
    have HEA := hide (show (if stepE b t = 0 then wAll b.ss else 0) = sumS (wOf fun _ => true) b.ss from if_pos hse)
    generalize (if stepE b t = 0 then overV b t flow else 0) = rx at *
    generalize (if stepE b t = 0 then wAll b.ss else 0) = ra at *
    rw [hse] at HSP ⊢
    obtain ⟨at_, hat⟩ : ∃ at_ : Nat, t - b.fr = (at_ : Int) := ⟨(t - b.fr).toNat, by omega⟩
    have hm := hv.m
    have HSAY := hide (fun (W : World) (hW : Below w.heap.size w W) (c1 : W.cell? ⟨w.heap.size + 1, 0, none⟩ = some (.int .i64 t)) (c2 : W.cell? ⟨w.heap.size, 0, none⟩ = some (.int .i64 b.fr)) (c3 : W.cell? ⟨w.heap.size + 2, 0, none⟩ = some (.int .i64 flow)) => show SaysS W b.ss 40 #[.pointer (some ⟨w.heap.size + 1, 0, none⟩), .pointer (some ⟨w.heap.size, 0, none⟩), .pointer (some ⟨w.heap.size + 2, 0, none⟩)] (fun s => decide (flow < flAt b t s)) from
      ⟨cfX, fun s hs W2 h2 => by
        have h := xby_any s t b.fr flow at_ (w.heap.size + 1) w.heap.size (w.heap.size + 2) W2 ((hb.2 s hs).thr (bthr hW h2 hW.size)) (by rw [(hv.sc s hs).2.1]; omega) hat (by omega) (cell_thr h2 c1) (cell_thr h2 c2) (cell_thr h2 c3)
        rwa [show s.fl.getD at_ 0 = flAt b t s by unfold flAt; rw [hat]; rfl] at h⟩)
    generalize sumS (wOf fun _ => true) b.ss = ws at *
    generalize (fun s => decide (flow < flAt b t s)) = px at *
    generalize sumS (wOf px) b.ss = wx at *
    obtain ⟨fr, A, n, c, ss, wd⟩ := b
    unfold Bd.arr at q0 q1 q2 hB HSP HW1 HW2 hb1 ⊢
    simp only at q0 q1 q2 hB HSP HW1 HW2 hb1 HSAY ⊢
    obtain ⟨c0, c1, c2, _⟩ := q0.facts3
    have c3 := q1.facts.1 0
    have c4 := q2.facts.1 0
    clear hb hse hv hwd hat hm ht0 ht1
    go_enter Try.func16, Try.ntmps16
    go_wp2_with fail
    generalize ((w.alloc _).alloc _).alloc _ = w1 at *
    refine (HSP.out w1 hb1).mono ?_
    rintro e w2 ⟨rfl, hb2⟩
    have HB2 := hide (bthr hB hb2 hB.size)
    have HS2 := hide (Bd.ok.thr hb1 hb2)
    have k0 := q0.below hb2 q0.lt
    have k1 := q1.below hb2 q1.lt
    have k2 := q2.below hb2 q2.lt
    clear hb1 c0 c1 c2 c3 c4 q0 q1 q2 hB hb2 HSP
    obtain ⟨c0, c1, c2, _⟩ := k0.facts3
    have c3 : w2.cell? ⟨w.heap.size + 1, 0, none⟩ = some (.int .i64 t) := k1.facts.1 0
    have c4 : w2.cell? ⟨w.heap.size + 2, 0, none⟩ = some (.int .i64 flow) := k2.facts.1 0
    have HSY := hide (HSAY.out w2 HB2.out c3 c0 c4)
    have HB2s := hide HB2.out.size
    clear k0 k1 k2 HSAY
    go_upto_region 4 with fail
    have hne : Nonempty (InW fun W => Below w2.heap.size w2 W) := ⟨⟨w2, Below.refl _ _⟩⟩
    have HSY2 := hide (fun (W : World) (hW : Below w2.heap.size w2 W) => show SaysS W ss 40 #[.pointer (some ⟨w.heap.size + 1, 0, none⟩), .pointer (some ⟨w.heap.size, 0, none⟩), .pointer (some ⟨w.heap.size + 2, 0, none⟩)] px from ⟨HSY.out.1, fun s hs W2 h2 => HSY.out.2 s hs W2 (bthr hW h2 hW.size)⟩)
    replace c0 := inv_cell c0
    replace c1 := inv_cell c1
    replace c2 := inv_cell c2
    replace c3 := inv_cell c3
    replace c4 := inv_cell c4
    refine wp_region_inv (I := fun W => Below w2.heap.size w2 W) (by kernel_rfl) (by kernel_rfl) (Below.refl _ _).drew ?_
    repeat (go_big_quiet_step (first | (with_reducible refine inv_call (inv_closed w2) (HW1.out _ (Bd.ok.thr HS2.out (InW.ok _)))) | (with_reducible refine inv_call (inv_closed w2) (HW2.out _ (Bd.ok.thr HS2.out (InW.ok _)) (HSY2.out _ (InW.ok _))))))
    refine wpQuiet_nil ?_
    rintro _ ⟨⟨w6, h6⟩, rfl⟩
    rename World => w6
    have HB6 := hide (bthr HB2.out h6 HB2.out.size)
    clear h6 hne c0 c1 c2 c3 c4
    go_wp2
    go_ret3
    exact ⟨by rw [HEX.out, HEA.out]; first | done | rfl, HB6.out⟩
  · have HX := hide (show (if stepE b t = 0 then overV b t flow else 0) = 0 from if_neg hse)
    have HX2 := hide (show (if stepE b t = 0 then wAll b.ss else 0) = 0 from if_neg hse)
    generalize (if stepE b t = 0 then overV b t flow else 0) = rx at *
    generalize (if stepE b t = 0 then wAll b.ss else 0) = ra at *
    generalize stepE b t = se at *
    have hq : (se != 0) = true := by simp [hse]
    obtain ⟨fr, A, n, c, ss, wd⟩ := b
    unfold Bd.arr at q0 q1 q2 hB HSP hb1 ⊢
    simp only at q0 q1 q2 hB HSP hb1 ⊢
    obtain ⟨c0, c1, c2, _⟩ := q0.facts3
    have c3 := q1.facts.1 0
    have c4 := q2.facts.1 0
    clear hb hse
    go_enter Try.func16, Try.ntmps16
    go_wp2_with fail
    generalize ((w.alloc _).alloc _).alloc _ = w1 at *
    refine (HSP.out w1 hb1).mono ?_
    rintro e w2 ⟨rfl, hb2⟩
    have HB2 := hide (bthr hB hb2 hB.size)
    clear hb1 c0 c1 c2 c3 c4 q0 q1 q2 hB hb2 HSP
    go_wp2
    go_ret3
    exact ⟨by rw [HX.out, HX2.out]; first | done | rfl, HB2.out⟩
end Go.Proofs.Ytmlpimidbgeacaa
