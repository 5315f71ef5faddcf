/-
  The contracts of the reference's Withdraw and Shift: the bundle in memory of the call's own, or the first error. Condition: the bundle can be read.
-/
import Derived.Test.YtmlpimidbgeacaaProg
import Derived.Test.YtmlpimidbgeacaaFrl
import Derived.Test.YtmlpimidbgeacaaFsh
namespace Go.Proofs.Ytmlpimidbgeacaa
open Go.RowKit

set_option maxHeartbeats 1600000 in
set_option maxRecDepth 20000 in
theorem rwithdraw_any (b : Bd) (w : World) (hb : b.ok w w.heap.size) :
    Calls Try.prog 28 #[.agg b.arr] w fun e w' => ∃ x : Bd, e = .returned (.tuple #[.agg x.arr, .int .i64 b.err]) ∧ BdRes w b 0 true b.err x w' := by
  have q0 := (Blk.new w 27 b.arr).alloc (.cells #[.int .i64 0, .slice none 0 0, .bool false] 27)
  have p0 := Blk.new (w.alloc (.cells b.arr 27)) 27 #[.int .i64 0, .slice none 0 0, .bool false]
  rw [World.size_alloc] at p0
  have hB := (bel1 (w := w) (o := .cells b.arr 27)).alloc (by simp) (.cells #[.int .i64 0, .slice none 0 0, .bool false] 27)
  have hb1 := Bd.ok.thr hb hB
  have HC := hide (fun W hW => rfcheck_any b W hW)
  have HCU := hide (fun (W : World) hW hv => later_ok b 0 W hW hv (hv.m.1))
  have HV := hide (fun (h : b.err = 0) => bd_valid h (ScsOk.len hb))
  generalize hbe : b.err = be at *
  have HRS := hide (fun x W => show BdRes w b 0 true be x W ↔ _ from Iff.rfl)
  obtain ⟨fr, A, n, c, ss, wd⟩ := b
  unfold Bd.arr at q0 p0 hB HC HCU hb1 ⊢
  simp only [Int.natCast_zero] at q0 p0 hB HC HCU hb1 ⊢
  obtain ⟨c0, c1, c2, cf⟩ := q0.facts3
  clear hb hbe
  go_enter Try.func28, Try.ntmps28
  go_wp2_with fail
  generalize (w.alloc _).alloc _ = w1 at *
  refine (HC.out w1 hb1).mono ?_
  rintro e w2 ⟨rfl, hb2⟩
  have q2 := q0.below hb2 q0.lt
  have p2 := p0.below hb2 p0.lt
  have hB2 := bthr hB hb2 hB.size
  have hb3 := Bd.ok.thr hb1 hb2
  clear hb1 c0 c1 c2 cf q0 p0 hb2 hB HC
  obtain ⟨c0, c1, c2, cf⟩ := q2.facts3
  obtain ⟨d0, d1, d2, df⟩ := p2.facts3
  by_cases hbe : be = 0
  · have hq : (be != 0) = false := by simp [hbe]
    have HBE := hide hbe
    have hv := HV.out hbe
    go_wp2_with fail
    refine (HCU.out w2 hb3 hv).mono ?_
    rintro e w3 ⟨x, rfl, hx⟩
    have hb3' : Below w2.heap.size w2 w3 := hx.2.2.2.2.2
    have hB3 := bthr hB2 hb3' hB2.size
    have q5 := Blk.new w3 27 #[.int .i64 x.fr, .slice x.A x.n x.c, .bool x.wd]
    have p5 := (p2.below hb3' p2.lt).alloc (.cells #[.int .i64 x.fr, .slice x.A x.n x.c, .bool x.wd] 27)
    have hB5 := hB3.alloc hB3.size (.cells #[.int .i64 x.fr, .slice x.A x.n x.c, .bool x.wd] 27)
    have hlt : w.heap.size + 1 < w3.heap.size := Nat.lt_of_lt_of_le p2.lt hb3'.size
    have HX := hide hx
    have hgn : w.heap.size + 1 ≠ w3.heap.size := by omega
    have hgn2 : w3.heap.size ≠ w.heap.size + 1 := by omega
    have hp2 : w.heap.size + 1 < w2.heap.size := p2.lt
    have hws : w.heap.size ≤ w2.heap.size := hB2.size
    have o5 := hx.2.2.2.2.1.alloc (.cells #[.int .i64 x.fr, .slice x.A x.n x.c, .bool true] 27)
    have k5 := Blk.new w3 27 #[.int .i64 x.fr, .slice x.A x.n x.c, .bool true]
    have k4 := (p2.below hb3' p2.lt).alloc (.cells #[.int .i64 x.fr, .slice x.A x.n x.c, .bool true] 27)
    have hB6 := hB3.alloc hB3.size (.cells #[.int .i64 x.fr, .slice x.A x.n x.c, .bool true] 27)
    clear HCU HV hb3 hv q2 p2 c0 c1 c2 cf d0 d1 d2 df hb3' hx hB2 hB3 hbe
    obtain ⟨c0, c1, c2, cf⟩ := q5.facts3
    clear q5 p5 hB5
    go_upto_region 6 with fail
    clear c0 c1 c2 cf
    generalize w3.alloc _ = w6 at *
    generalize w3.heap.size = g5 at *
    obtain ⟨c0, c1, c2, cf⟩ := k5.facts3
    obtain ⟨d0, d1, d2, df⟩ := k4.facts3
    have r4 := k4.set3 (.int .i64 x.fr) (.slice x.A x.n x.c) (.bool true)
    obtain ⟨u0, u1, u2, uf⟩ := r4.facts3
    have HB7 := hide (below_set3 hB6 (g := w.heap.size + 1) (by omega) (.int .i64 x.fr) (.slice x.A x.n x.c) (.bool true))
    have HO7 := hide (((o5.set (p := ⟨w.heap.size + 1, 0, none⟩) hp2 (.int .i64 x.fr)).set (p := ⟨w.heap.size + 1, 1, none⟩) hp2 (.slice x.A x.n x.c)).set (p := ⟨w.heap.size + 1, 2, none⟩) hp2 (.bool true))
    have HXX := hide (show x.fr = fr + (0 : Nat) ∧ x.n = x.ss.length ∧ x.ss.map dat = ss.map (datD 0) from ⟨HX.out.1, HX.out.2.2.1, HX.out.2.2.2.1⟩)
    clear k5 k4 r4 hB6 o5 HX
    go_wp2
    refine bodyPost_ret (v := .tuple #[.agg #[.int .i64 x.fr, .slice x.A x.n x.c, .bool true], .int .i64 0]) ?_ rfl ?_
    · simp [results, Try.results28, go_sem, u0, u1, u2]
    · refine ⟨⟨x.fr, x.A, x.n, x.c, x.ss, true⟩, by rw [HBE.out], ?_⟩
      exact ⟨fun _ => ⟨HXX.out.1, rfl, HXX.out.2.1, HXX.out.2.2, HO7.out.lower hws, HB7.out⟩, fun h => absurd HBE.out h, HB7.out⟩
  · have hq : (be != 0) = true := by simp [hbe]
    have HBN := hide hbe
    have HB2 := hide (below_set3 hB2 (g := w.heap.size + 1) (by omega) (.int .i64 0) (.slice none 0 0) (.bool false))
    have k2 := p2.set3 (.int .i64 0) (.slice none 0 0) (.bool false)
    obtain ⟨u0, u1, u2, uf⟩ := k2.facts3
    clear HV HCU hB2 hb3 hbe q2
    go_wp2
    refine bodyPost_ret (v := .tuple #[.agg #[.int .i64 0, .slice none 0 0, .bool false], .int .i64 be]) (by simp [results, Try.results28, go_sem, u0, u1, u2]) rfl ⟨bd0, rfl, fun h => absurd h HBN.out, fun _ => rfl, HB2.out⟩
set_option maxHeartbeats 1600000 in
set_option maxRecDepth 20000 in
theorem rshift_any (b : Bd) (t : Int) (ht : t ≤ 9223372036854775807) (w : World) (hb : b.ok w w.heap.size) :
    Calls Try.prog 31 #[.agg b.arr, .int .i64 t] w fun e w' => ∃ x : Bd, e = .returned (.tuple #[.agg x.arr, .int .i64 (shE b t)]) ∧ BdRes w b (t - b.fr).toNat b.wd (shE b t) x w' := by
  have q0 := (Blk.new w 27 b.arr).alloc (.cells #[.int .i64 0, .slice none 0 0, .bool false] 27)
  have p0 := Blk.new (w.alloc (.cells b.arr 27)) 27 #[.int .i64 0, .slice none 0 0, .bool false]
  rw [World.size_alloc] at p0
  have hB := (bel1 (w := w) (o := .cells b.arr 27)).alloc (by simp) (.cells #[.int .i64 0, .slice none 0 0, .bool false] 27)
  have hb1 := Bd.ok.thr hb hB
  have HC := hide (fun W hW => rfcheck_any b W hW)
  have HCV := hide (fun W hW hv => rcovers_ok b t ht W hW hv)
  have HCU := hide (fun (W : World) hW hv (hst : (t - b.fr).toNat < stepsOf b.ss) => later_ok b (t - b.fr).toNat W hW hv hst)
  have HV := hide (fun (h : b.err = 0) => bd_valid h (ScsOk.len hb))
  have HE := hide (show shE b t = if b.err ≠ 0 then b.err else if covB b t then 0 else 6 from rfl)
  have HCI := hide (covB_iff (b := b) (t := t))
  generalize hbe : b.err = be at *
  generalize shE b t = se at *
  generalize covB b t = cb at *
  have hsub := hide (show t - b.fr = t - b.fr from rfl)
  obtain ⟨fr, A, n, c, ss, wd⟩ := b
  unfold Bd.arr at q0 p0 hB HC HCU HCV hb1 ⊢
  simp only at q0 p0 hB HC HCU HCV HCI hb1 ⊢
  obtain ⟨sn, hsn⟩ : ∃ sn, (t - fr).toNat = sn := ⟨_, rfl⟩
  have HSN := hide hsn
  simp only [hsn] at HCU ⊢
  clear hsn
  obtain ⟨c0, c1, c2, cf⟩ := q0.facts3
  clear hb hbe hsub
  go_enter Try.func31, Try.ntmps31
  go_wp2_with fail
  generalize (w.alloc _).alloc _ = w1 at *
  refine (HC.out w1 hb1).mono ?_
  rintro e w2 ⟨rfl, hb2⟩
  have q2 := q0.below hb2 q0.lt
  have p2 := p0.below hb2 p0.lt
  have hB2 := bthr hB hb2 hB.size
  have hb3 := Bd.ok.thr hb1 hb2
  clear hb1 c0 c1 c2 cf q0 p0 hb2 hB HC
  obtain ⟨c0, c1, c2, cf⟩ := q2.facts3
  obtain ⟨d0, d1, d2, df⟩ := p2.facts3
  by_cases hbe : be = 0
  · have hq : (be != 0) = false := by simp [hbe]
    have HE2 := hide (HE.out.trans (if_neg (by simp [hbe])))
    have hv := HV.out hbe
    have HVV := hide hv
    have hfr := hv.fr
    have hm := hv.m
    clear hbe HE HV
    go_wp2_with fail
    refine (HCV.out w2 hb3 hv).mono ?_
    rintro e w3 ⟨rfl, hb4⟩
    have q3 := q2.below hb4 q2.lt
    have p3 := p2.below hb4 p2.lt
    have hB3 := bthr hB2 hb4 hB2.size
    have hb5 := Bd.ok.thr hb3 hb4
    clear hb3 c0 c1 c2 cf d0 d1 d2 df q2 p2 hb4 hB2 HCV hv
    obtain ⟨c0, c1, c2, cf⟩ := q3.facts3
    obtain ⟨d0, d1, d2, df⟩ := p3.facts3
    cases cb
    · have HX := hide (HE2.out.trans (if_neg (by simp)))
      have HB3 := hide (below_set3 hB3 (g := w.heap.size + 1) (by omega) (.int .i64 0) (.slice none 0 0) (.bool false))
      have k2 := p3.set3 (.int .i64 0) (.slice none 0 0) (.bool false)
      obtain ⟨u0, u1, u2, uf⟩ := k2.facts3
      clear HE2 HCU hB3 hb5 q3
      go_wp2
      refine bodyPost_ret (v := .tuple #[.agg #[.int .i64 0, .slice none 0 0, .bool false], .int .i64 6]) ?_ rfl ?_
      · simp [results, Try.results31, go_sem, u0, u1, u2]
      · exact ⟨bd0, by rw [HX.out]; rfl, by rw [HX.out]; exact ⟨fun h => absurd h (by decide), fun _ => rfl, HB3.out⟩⟩
    · have HX := hide (HE2.out.trans (if_pos rfl))
      obtain ⟨ht0, ht1⟩ := HCI.out.1 rfl
      have hst : sn < stepsOf ss := by have := HSN.out; omega
      have HST := hide hst
      have hsnm : t - fr = (sn : Int) := by have := HSN.out; omega
      obtain ⟨hf0, hf1⟩ := hfr
      obtain ⟨hm0, hm1⟩ := hm
      have hsn1 : sn ≤ 1000 := by omega
      have hw64 : wrap64 (sn : Int) = (sn : Int) := IntWalk.wrap64_in _ (by omega)
      have HCU2 := hide (HCU.out w3 hb5 HVV.out HST.out)
      clear HE2 hst HCU ht0 ht1
      go_wp2_with fail
      refine HCU2.out.mono ?_
      rintro e w4 ⟨x, rfl, hx⟩
      have hb6 : Below w3.heap.size w3 w4 := hx.2.2.2.2.2
      have hB4 := bthr hB3 hb6 hB3.size
      have p4 := p3.below hb6 p3.lt
      have hp2 : w.heap.size + 1 < w3.heap.size := p3.lt
      have hws : w.heap.size ≤ w3.heap.size := hB3.size
      have o4 := hx.2.2.2.2.1
      have HXX := hide (show x.fr = fr + sn ∧ x.wd = wd ∧ x.n = x.ss.length ∧ x.ss.map dat = ss.map (datD sn) from ⟨hx.1, hx.2.1, hx.2.2.1, hx.2.2.2.1⟩)
      have r4 := p4.set3 (.int .i64 x.fr) (.slice x.A x.n x.c) (.bool x.wd)
      have HB7 := hide (below_set3 hB4 (g := w.heap.size + 1) (by omega) (.int .i64 x.fr) (.slice x.A x.n x.c) (.bool x.wd))
      have HO7 := hide (((o4.set (p := ⟨w.heap.size + 1, 0, none⟩) hp2 (.int .i64 x.fr)).set (p := ⟨w.heap.size + 1, 1, none⟩) hp2 (.slice x.A x.n x.c)).set (p := ⟨w.heap.size + 1, 2, none⟩) hp2 (.bool x.wd))
      clear hx hb6 hB4 o4 c0 c1 c2 cf d0 d1 d2 df q3 p3 hb5 hB3 HCU2
      obtain ⟨d0, d1, d2, df⟩ := p4.facts3
      obtain ⟨u0, u1, u2, uf⟩ := r4.facts3
      clear p4 r4
      go_wp2
      refine bodyPost_ret (v := .tuple #[.agg #[.int .i64 x.fr, .slice x.A x.n x.c, .bool x.wd], .int .i64 0]) ?_ rfl ?_
      · simp [results, Try.results31, go_sem, u0, u1, u2]
      · refine ⟨x, by rw [HX.out], ?_⟩
        exact ⟨fun _ => ⟨HXX.out.1, HXX.out.2.1, HXX.out.2.2.1, HXX.out.2.2.2, HO7.out.lower hws, HB7.out⟩, fun h => absurd HX.out h, HB7.out⟩
  · have hq : (be != 0) = true := by simp [hbe]
    have HBN := hide hbe
    have HX := hide (HE.out.trans (if_pos hbe))
    have HB2 := hide (below_set3 hB2 (g := w.heap.size + 1) (by omega) (.int .i64 0) (.slice none 0 0) (.bool false))
    have k2 := p2.set3 (.int .i64 0) (.slice none 0 0) (.bool false)
    obtain ⟨u0, u1, u2, uf⟩ := k2.facts3
    clear HV HCU hB2 hb3 hbe q2 HE
    go_wp2
    refine bodyPost_ret (v := .tuple #[.agg #[.int .i64 0, .slice none 0 0, .bool false], .int .i64 be]) ?_ rfl ?_
    · simp [results, Try.results31, go_sem, u0, u1, u2]
    · exact ⟨bd0, by rw [HX.out]; rfl, by rw [HX.out]; exact ⟨fun h => absurd h HBN.out, fun _ => rfl, HB2.out⟩⟩
end Go.Proofs.Ytmlpimidbgeacaa
