/-
  The contract of Shift: the bundle from a step on, in memory of the call's own, or the first error. Condition: the bundle can be read.
-/
import Derived.Test.YtmlpimidbgeacaaProg
import Derived.Test.YtmlpimidbgeacaaFws
namespace Go.Proofs.Ytmlpimidbgeacaa
open Go.RowKit

def shE (b : Bd) (t : Int) : Int := if b.err ≠ 0 then b.err else if covB b t then 0 else 6
theorem covB_iff {b : Bd} {t : Int} : covB b t = true ↔ b.fr ≤ t ∧ t < b.fr + stepsOf b.ss := by unfold covB; simp only [Bool.and_eq_true, decide_eq_true_eq]
set_option maxHeartbeats 1600000 in
set_option maxRecDepth 20000 in
theorem shift_any (b : Bd) (t : Int) (w : World) (hb : b.ok w w.heap.size) :
    Calls Try.prog 30 #[.agg b.arr, .int .i64 t] w fun e w' => ∃ x : Bd, e = .returned (.tuple #[.agg x.arr, .int .i64 (shE b t)]) ∧ BdRes w b (t - b.fr).toNat b.wd (shE b t) x w' := by
  have q0 := (Blk.new w 27 b.arr).alloc (.cells #[.int .i64 0, .slice none 0 0, .bool false] 27)
  have p0 := Blk.new (w.alloc (.cells b.arr 27)) 27 #[.int .i64 0, .slice none 0 0, .bool false]
  rw [World.size_alloc] at p0
  have hB := (bel1 (w := w) (o := .cells b.arr 27)).alloc (by simp) (.cells #[.int .i64 0, .slice none 0 0, .bool false] 27)
  have hb1 := Bd.ok.thr hb hB
  have HC := hide (fun W hW => fcheck_any b W hW)
  have HCV := hide (fun W hW hv => covers_ok b t W hW hv)
  have HCU := hide (fun (W : World) hW hv (hst : (t - b.fr).toNat < stepsOf b.ss) => cut_ok b (t - b.fr).toNat W hW hv hst)
  have HV := hide (fun (h : b.err = 0) => bd_valid h (ScsOk.len hb))
  have HE := hide (show shE b t = if b.err ≠ 0 then b.err else if covB b t then 0 else 6 from rfl)
  have HCI := hide (covB_iff (b := b) (t := t))
  generalize hbe : b.err = be at *
  generalize shE b t = se at *
  generalize covB b t = cb at *
  have hsub := hide (show t - b.fr = t - b.fr from rfl)
  obtain ⟨fr, A, n, c, ss, wd⟩ := b
  unfold Bd.arr at q0 p0 hB HC HCU HCV hb1 ⊢
  simp only at q0 p0 hB HC HCU HCV HCI hb1 ⊢
  obtain ⟨sn, hsn⟩ : ∃ sn, (t - fr).toNat = sn := ⟨_, rfl⟩
  have HSN := hide hsn
  simp only [hsn] at HCU ⊢
  clear hsn
  obtain ⟨c0, c1, c2, cf⟩ := q0.facts3
  clear hb hbe hsub
  go_enter Try.func30, Try.ntmps30
  go_wp2_with fail
  generalize (w.alloc _).alloc _ = w1 at *
  refine (HC.out w1 hb1).mono ?_
  rintro e w2 ⟨rfl, hb2⟩
  have q2 := q0.below hb2 q0.lt
  have p2 := p0.below hb2 p0.lt
  have hB2 := bthr hB hb2 hB.size
  have hb3 := Bd.ok.thr hb1 hb2
  clear hb1 c0 c1 c2 cf q0 p0 hb2 hB HC
  obtain ⟨c0, c1, c2, cf⟩ := q2.facts3
  obtain ⟨d0, d1, d2, df⟩ := p2.facts3
  by_cases hbe : be = 0
  · have hq : (be != 0) = false := by simp [hbe]
    have HE2 := hide (HE.out.trans (if_neg (by simp [hbe])))
    have hv := HV.out hbe
    have HVV := hide hv
    have hfr := hv.fr
    have hm := hv.m
    clear hbe HE HV
    go_wp2_with fail
    refine (HCV.out w2 hb3 hv).mono ?_
    rintro e w3 ⟨rfl, hb4⟩
    have q3 := q2.below hb4 q2.lt
    have p3 := p2.below hb4 p2.lt
    have hB3 := bthr hB2 hb4 hB2.size
    have hb5 := Bd.ok.thr hb3 hb4
    clear hb3 c0 c1 c2 cf d0 d1 d2 df q2 p2 hb4 hB2 HCV hv
    obtain ⟨c0, c1, c2, cf⟩ := q3.facts3
    obtain ⟨d0, d1, d2, df⟩ := p3.facts3
    cases cb
    · have HX := hide (HE2.out.trans (if_neg (by simp)))
      have HB3 := hide (below_set3 hB3 (g := w.heap.size + 1) (by omega) (.int .i64 0) (.slice none 0 0) (.bool false))
      have k2 := p3.set3 (.int .i64 0) (.slice none 0 0) (.bool false)
      obtain ⟨u0, u1, u2, uf⟩ := k2.facts3
      clear HE2 HCU hB3 hb5 q3
      go_wp2
      refine bodyPost_ret (v := .tuple #[.agg #[.int .i64 0, .slice none 0 0, .bool false], .int .i64 6]) ?_ rfl ?_
      · simp [results, Try.results30, go_sem, u0, u1, u2]
      · exact ⟨bd0, by rw [HX.out]; rfl, by rw [HX.out]; exact ⟨fun h => absurd h (by decide), fun _ => rfl, HB3.out⟩⟩
    · have HX := hide (HE2.out.trans (if_pos rfl))
      obtain ⟨ht0, ht1⟩ := HCI.out.1 rfl
      have hst : sn < stepsOf ss := by have := HSN.out; omega
      have HST := hide hst
      have hsnm : t - fr = (sn : Int) := by have := HSN.out; omega
      obtain ⟨hf0, hf1⟩ := hfr
      obtain ⟨hm0, hm1⟩ := hm
      have hsn1 : sn ≤ 1000 := by omega
      have hw64 : wrap64 (sn : Int) = (sn : Int) := IntWalk.wrap64_in _ (by omega)
      have HCU2 := hide (HCU.out w3 hb5 HVV.out HST.out)
      clear HE2 hst HCU ht0 ht1
      go_wp2_with fail
      refine HCU2.out.mono ?_
      rintro e w4 ⟨x, rfl, hx⟩
      have hb6 : Below w3.heap.size w3 w4 := hx.2.2.2.2.2
      have hB4 := bthr hB3 hb6 hB3.size
      have p4 := p3.below hb6 p3.lt
      have hp2 : w.heap.size + 1 < w3.heap.size := p3.lt
      have hws : w.heap.size ≤ w3.heap.size := hB3.size
      have o4 := hx.2.2.2.2.1
      have HXX := hide (show x.fr = fr + sn ∧ x.wd = wd ∧ x.n = x.ss.length ∧ x.ss.map dat = ss.map (datD sn) from ⟨hx.1, hx.2.1, hx.2.2.1, hx.2.2.2.1⟩)
      have r4 := p4.set3 (.int .i64 x.fr) (.slice x.A x.n x.c) (.bool x.wd)
      have HB7 := hide (below_set3 hB4 (g := w.heap.size + 1) (by omega) (.int .i64 x.fr) (.slice x.A x.n x.c) (.bool x.wd))
      have HO7 := hide (((o4.set (p := ⟨w.heap.size + 1, 0, none⟩) hp2 (.int .i64 x.fr)).set (p := ⟨w.heap.size + 1, 1, none⟩) hp2 (.slice x.A x.n x.c)).set (p := ⟨w.heap.size + 1, 2, none⟩) hp2 (.bool x.wd))
      clear hx hb6 hB4 o4 c0 c1 c2 cf d0 d1 d2 df q3 p3 hb5 hB3 HCU2
      obtain ⟨d0, d1, d2, df⟩ := p4.facts3
      obtain ⟨u0, u1, u2, uf⟩ := r4.facts3
      clear p4 r4
      go_wp2
      refine bodyPost_ret (v := .tuple #[.agg #[.int .i64 x.fr, .slice x.A x.n x.c, .bool x.wd], .int .i64 0]) ?_ rfl ?_
      · simp [results, Try.results30, go_sem, u0, u1, u2]
      · refine ⟨x, by rw [HX.out], ?_⟩
        exact ⟨fun _ => ⟨HXX.out.1, HXX.out.2.1, HXX.out.2.2.1, HXX.out.2.2.2, HO7.out.lower hws, HB7.out⟩, fun h => absurd HX.out h, HB7.out⟩
  · have hq : (be != 0) = true := by simp [hbe]
    have HBN := hide hbe
    have HX := hide (HE.out.trans (if_pos hbe))
    have HB2 := hide (below_set3 hB2 (g := w.heap.size + 1) (by omega) (.int .i64 0) (.slice none 0 0) (.bool false))
    have k2 := p2.set3 (.int .i64 0) (.slice none 0 0) (.bool false)
    obtain ⟨u0, u1, u2, uf⟩ := k2.facts3
    clear HV HCU hB2 hb3 hbe q2 HE
    go_wp2
    refine bodyPost_ret (v := .tuple #[.agg #[.int .i64 0, .slice none 0 0, .bool false], .int .i64 be]) ?_ rfl ?_
    · simp [results, Try.results30, go_sem, u0, u1, u2]
    · exact ⟨bd0, by rw [HX.out]; rfl, by rw [HX.out]; exact ⟨fun h => absurd h HBN.out, fun _ => rfl, HB2.out⟩⟩
end Go.Proofs.Ytmlpimidbgeacaa
