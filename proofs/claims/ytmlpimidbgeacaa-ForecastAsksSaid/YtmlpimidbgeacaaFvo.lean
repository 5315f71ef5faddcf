/-
  The contract of Volumes: the sums of the first flows of each scenario, or the first error. Condition: the bundle can be read.
-/
import Derived.Test.YtmlpimidbgeacaaProg
import Derived.Test.YtmlpimidbgeacaaFqu
namespace Go.Proofs.Ytmlpimidbgeacaa
open Go.RowKit

/-- The sum of a list. -/
def lsum : List Int → Int
  | [] => 0
  | x :: t => x + lsum t
theorem lsum_append : ∀ (a b : List Int), lsum (a ++ b) = lsum a + lsum b
  | [], b => by simp [lsum]
  | x :: t, b => by simp only [List.cons_append, lsum]; rw [lsum_append t b]; omega
theorem lsum_take {l : List Int} {k : Nat} (h : k < l.length) : lsum (l.take (k + 1)) = lsum (l.take k) + l.getD k 0 := by
  rw [List.take_succ_eq_append_getElem h, lsum_append]
  simp [lsum, List.getD_eq_getElem?_getD, h]
theorem lsum_bnd {M : Int} (h0 : 0 ≤ M) : ∀ (l : List Int), (∀ x ∈ l, 0 ≤ x ∧ x ≤ M) → 0 ≤ lsum l ∧ lsum l ≤ l.length * M
  | [], _ => by simp [lsum]
  | x :: t, h => by
    have h1 := h x (by simp)
    have h2 := lsum_bnd h0 t (fun y hy => h y (by simp [hy]))
    simp only [lsum, List.length_cons]
    rw [Int.natCast_succ, Int.add_mul]
    omega
def volOf (st : Nat) (s : Sc) : Int := lsum (s.fl.take st)
def volL (b : Bd) (st : Int) : List Int := b.ss.map (volOf st.toNat)
def volE (b : Bd) (st : Int) : Int := if liveE b ≠ 0 then liveE b else if wit st (stepsOf b.ss) then 0 else 1
def VOk (w : World) (b : Bd) (st : Int) (v : Value) (w' : World) : Prop := (if volE b st = 0 then w'.ownsRow w.heap.size 3 1 v b.n (ints (volL b st)) else v = .slice none 0 0) ∧ Below w.heap.size w w'
theorem vok_bad {w w' : World} {b : Bd} {st r : Int} (h : volE b st = r) (hr : r ≠ 0) (hB : Below w.heap.size w w') : VOk w b st (.slice none 0 0) w' := ⟨by rw [if_neg (by rw [h]; exact hr)], hB⟩
theorem own_cells {w : World} {base : Nat} {e : TypeId} {size n : Nat} {v : Value} {xs ys : List Value} (h : w.ownsRow base e size v n xs) (he : xs = ys) : w.ownsRow base e size v n ys := he ▸ h
theorem map_snoc {α β : Type} (f : α → β) {l : List α} {k : Nat} (h : k < l.length) {a : α} (e : l[k] = a) : (l.map f).take (k + 1) = (l.map f).take k ++ [f a] := by
  rw [List.take_succ_eq_append_getElem (by simpa using h), List.getElem_map, e]
set_option maxHeartbeats 1600000 in
set_option maxRecDepth 20000 in
theorem volumes_any (b : Bd) (st : Int) (w : World) (hb : b.ok w w.heap.size) :
    Calls Try.prog 23 #[.agg b.arr, .int .i64 st] w fun e w' => ∃ v, e = .returned (.tuple #[v, .int .i64 (volE b st)]) ∧ VOk w b st v w' := by
  have q0 := Blk.new w 27 b.arr
  have hB := bel1 (w := w) (o := .cells b.arr 27)
  have hb1 := Bd.ok.thr hb hB
  have HL := hide (fun W hW => live_any b W hW)
  have HQE := hide (show volE b st = if liveE b ≠ 0 then liveE b else if wit st (stepsOf b.ss) then 0 else 1 from rfl)
  have HLN := hide (ScsOk.len hb)
  have HP := hide (fun r W => vok_bad (b := b) (st := st) (r := r) (w := w) (w' := W))
  by_cases hle : liveE b = 0
  · have HQ2 := hide (HQE.out.trans (if_neg (by simp [hle])))
    have hv := (liveE_ok hle HLN.out).1
    rw [hle] at HL
    have hm := hv.m
    have hn := hv.n
    have HSC := hide hv.sc
    have HPOK := hide (fun (v : Value) (W : World) (h1 : volE b st = 0) (h2 : W.ownsRow w.heap.size 3 1 v b.n (ints (volL b st))) (h3 : Below w.heap.size w W) => show VOk w b st v W from ⟨by rw [if_pos h1]; exact h2, h3⟩)
    have HVL := hide (show volL b st = b.ss.map (volOf st.toNat) from rfl)
    have HWI := hide (fun W => within_any st (stepsOf b.ss : Int) W)
    have HWB := hide (show wit st (stepsOf b.ss) = true → 0 ≤ st ∧ st ≤ (stepsOf b.ss : Int) from wit_iff.1)
    generalize volL b st = vl at *
    generalize wit st (stepsOf b.ss) = wi at *
    obtain ⟨s0, h0, e0', hst⟩ := bd_steps hb hv
    rcases s0 with ⟨wt0, A0, n0, k0, fl0⟩
    simp only at hst
    have HST0 := hide hst
    generalize stepsOf b.ss = m at *
    generalize VOk w b st = PP at *
    generalize volE b st = qe at *
    obtain ⟨fr, A, n, c, ss, wd⟩ := b
    unfold Bd.arr at q0 hB HL hb1 ⊢
    simp only at q0 hB HL hb1 hn HLN HSC HVL HPOK h0 e0' ⊢
    obtain ⟨c0, c1, c2, _⟩ := q0.facts3
    have HE0 := hide e0'
    clear hb hle HQE hv e0' hst
    go_enter Try.func23, Try.ntmps23
    go_wp2_with fail
    generalize w.alloc _ = w1 at *
    refine (HL.out w1 hb1).mono ?_
    rintro e w2 ⟨rfl, hb2⟩
    have HQB := hide (q0.below hb2 q0.lt)
    have HB2 := hide (bthr hB hb2 hB.size)
    have HS2 := hide (ScsOk.thr (show ScsOk _ _ A n c ss from hb1) hb2)
    clear hb1 c0 c1 c2 q0 hB hb2 HL
    obtain ⟨c0, c1, c2, _⟩ := HQB.out.facts3
    obtain ⟨ba, oa, hA, _, hcl⟩ := HS2.out.1.at_ hn.1
    subst hA
    obtain ⟨-, d1⟩ := sc_cells hcl h0 HE0.out
    simp only [Nat.zero_mul, Nat.add_zero] at d1
    have hni : (0 : Int) < (n : Int) := by omega
    have hn0m : n0 = m := HST0.out
    rw [hn0m] at d1
    clear hcl hn0m
    obtain ⟨hm0, hm1⟩ := hm
    obtain ⟨hn0, hn1⟩ := hn
    go_wp2_with fail
    refine (HWI.out _).mono ?_
    rintro e w' ⟨rfl, rfl⟩
    cases wi
    · have HQ3 := hide (HQ2.out.trans (if_neg (by simp)))
      have HR := hide (HP.out 1 w2 HQ3.out (by decide) HB2.out)
      clear HPOK HP d1
      go_wp2
      go_ret2
      exact ⟨_, by rw [HQ3.out]; first | done | rfl, HR.out⟩
    · have HQ3 := hide (HQ2.out.trans (if_pos rfl))
      obtain ⟨hst0, hst1⟩ := HWB.out rfl
      obtain ⟨sn, rfl⟩ : ∃ sn : Nat, st = (sn : Int) := ⟨st.toNat, by omega⟩
      have HVL2 := hide (show vl = ss.map (volOf sn) from HVL.out)
      clear d1 HP HQ2 HVL HWB HWI
      go_wp2
      clear c0 c1 c2
      go_loopw [7, 30] (fun v i wr => ∃ k : Nat, k ≤ n ∧ i = .int .i64 k ∧ wr.ownsRow w2.heap.size 3 1 v k (ints (vl.take k)) ∧ Below w2.heap.size w2 wr) (fun _ i _ => n - (intOf i).toNat)
      case atStart => exact ⟨0, by omega, rfl, World.ownsRow_nil _ _ _ _, Below.refl _ _⟩
      case round =>
        obtain ⟨k, hk, rfl, hv, hb⟩ := hrel
        by_cases hlt : k < n
        · have hL := HLN.out
          have HSk := HS2.out.thr hb
          obtain ⟨bl, ol, hAA, _, hcl⟩ := HSk.1.at_ hlt
          injection hAA with hAA
          injection hAA with hA1 hA2 _
          subst hA1 hA2
          rcases ek : ss[k]'(by omega) with ⟨wt, A1, n1, c1, fl⟩
          obtain ⟨e0, e1⟩ := sc_cells hcl (by omega) ek
          simp only at e0 e1
          have hmem : (⟨wt, A1, n1, c1, fl⟩ : Sc) ∈ ss := by rw [← ek]; exact List.getElem_mem _
          obtain ⟨-, hn1', hfl⟩ := HSC.out _ hmem
          simp only at hn1' hfl
          have hokk := HSk.2 _ hmem
          have HFL := hide hfl
          have hbx := bel1 (w := wr) (o := .cells #[.int .i64 wt, .slice A1 n1 c1] 32)
          have HOK := hide (show Sl _ _ 1 A1 n1 c1 (ints fl) from Sl.thr (show Sl wr wr.heap.size 1 A1 n1 c1 (ints fl) from hokk) hbx)
          have hfll : n1 = fl.length := by have := hokk.1; rw [ints_length] at this; simp only at this; omega
          have HFLL := hide hfll
          obtain ⟨bf, of_, hA1, _, _⟩ := hokk.at_ (k := 0) (by simp only; omega)
          simp only at hA1
          subst hA1
          have hc1 : n1 ≤ c1 ∧ c1 ≤ maxLen := ⟨hokk.2.1, hokk.2.2.1⟩
          have hc63 : c1 ≤ 9223372036854775807 := by have := hc1.2; unfold maxLen at this; omega
          have hsn1 : (sn : Int) ≤ (n1 : Int) := by omega
          have hsnc : (sn : Int) ≤ (c1 : Int) := by omega
          have hsn1n : sn ≤ n1 := by omega
          have hsncn : sn ≤ c1 := by omega
          have HSNOC := hide (map_snoc (volOf sn) (show k < ss.length by omega) ek)
          rw [← HVL2.out] at HSNOC
          have HVO := hide (show volOf sn ⟨wt, some ⟨bf, of_, none⟩, n1, c1, fl⟩ = lsum (fl.take sn) from rfl)
          generalize volOf sn ⟨wt, some ⟨bf, of_, none⟩, n1, c1, fl⟩ = vo at *
          have hb2 := hb.alloc hb.size (.cells #[.int .i64 wt, .slice (some ⟨bf, of_, none⟩) n1 c1] 32)
          have q1 := Blk.new wr 32 #[.int .i64 wt, .slice (some ⟨bf, of_, none⟩) n1 c1]
          have HV := hide (hv.alloc (.cells #[.int .i64 wt, .slice (some ⟨bf, of_, none⟩) n1 c1] 32))
          have HB8 := hide hb2
          have hki : (k : Int) < (n : Int) := by omega
          have hsm0 : 0 ≤ sn := by omega
          clear hcl ek hmem hokk HSk hb hb2 hbx hL hfll hfl hc1 hv hn1'
          go_upto_region 10 with fail
          clear e0 e1
          generalize wr.alloc _ = w8 at *
          generalize wr.heap.size = g8 at *
          obtain ⟨x0, x1, _⟩ := q1.facts2
          go_wp2
          clear x0 x1
          go_loopw [10, 39] (fun sm i wx => ∃ j : Nat, j ≤ sn ∧ i = .int .i64 j ∧ sm = .int .i64 (lsum (fl.take j)) ∧ wx = w8) (fun _ i _ => sn - (intOf i).toNat)
          case atStart => exact ⟨0, by omega, rfl, rfl, rfl⟩
          case round =>
            obtain ⟨j, hj, rfl, rfl, rfl⟩ := hrel
            have hfl0 := HFLL.out
            by_cases hjl : j < sn
            · obtain ⟨bq, oq, hAA, _, hfc⟩ := HOK.out.at_ (k := j) (by omega)
              injection hAA with hAA
              injection hAA with hA1 hA2 _
              subst hA1 hA2
              have hcj := hfc j _ (ints_get fl j (by omega))
              have hfv := HFL.out (fl.getD j 0) (by rw [List.getD_eq_getElem?_getD, List.getElem?_eq_getElem (by omega)]; exact List.getElem_mem _)
              have HST := hide (lsum_take (show j < fl.length by omega))
              have hbnd := lsum_bnd (M := 1073741824) (by omega) (fl.take j) (fun x hx => HFL.out x (List.mem_of_mem_take hx))
              rw [List.length_take, Nat.min_eq_left (by omega)] at hbnd
              generalize fl.getD j 0 = fv at *
              obtain ⟨sm, hsm⟩ : ∃ sm, sm = lsum (fl.take j) := ⟨_, rfl⟩
              have hsb : 0 ≤ sm ∧ sm ≤ 1099511627776 := by rw [hsm]; omega
              rw [← hsm] at HST
              simp only [← hsm]
              have hji : (j : Int) < (sn : Int) := by omega
              obtain ⟨hs0, hs1⟩ := hsb
              obtain ⟨hf0, hf1⟩ := hfv
              clear hfc hbnd hsm hfl0
              go_wp2
              go_roundw
              case rel => exact ⟨j + 1, by omega, by go_num, by rw [HST.out], by trivial⟩
              case measure => simp [intOf]; omega
            · have hjs : j = sn := by omega
              have HVJ := hide (show lsum (fl.take j) = vo by rw [HVO.out, hjs])
              have hji : ¬ ((j : Int) < (sn : Int)) := by omega
              rw [HVJ.out]
              have hz8 := HB8.out.size
              clear hjs hfl0
              go_wp2_with (at_builtin; refine wpList_push rfl _ _ _ rfl w2.heap.size _ _ slInt _ _ _ rfl HV.out _ _ rfl rfl rfl (by omega) hz8 ?_)
              intro v' w9 hv9 hg9 _
              have HV9 := hide (own_cells hv9 (ys := ints (vl.take (k + 1))) (by rw [HSNOC.out, ints_append]; rfl))
              have HB9 := hide (HB8.out.trans (below_push HV.out hg9 hz8))
              clear hv9 hg9
              go_wp2
              go_roundw
              case rel => exact ⟨k + 1, by omega, by go_num, HV9.out, HB9.out⟩
              case measure => simp [intOf]; omega
        · have hki : ¬ ((k : Int) < (n : Int)) := by omega
          have hkn : k = n := by omega
          have HR := hide (HPOK.out _ wr HQ3.out (by
            have := ownsRow_base hv HB2.out.size
            rw [hkn, List.take_of_length_le (by rw [HVL2.out, List.length_map]; have := HLN.out; omega)] at this
            exact this) (bthr HB2.out hb HB2.out.size))
          clear hv hb HPOK hkn
          go_wp2
          go_ret2
          exact ⟨_, by rw [HQ3.out]; first | done | rfl, HR.out⟩
  · have HR := hide (fun W hW => HP.out _ W (HQE.out.trans (if_pos hle)) hle hW)
    have HX := hide (HQE.out.trans (if_pos hle))
    generalize VOk w b st = PP at *
    generalize volE b st = qe at *
    generalize liveE b = le at *
    have hq : (le != 0) = true := by simp [hle]
    unfold Bd.arr at q0 hB HL hb1 ⊢
    obtain ⟨c0, c1, c2, _⟩ := q0.facts3
    clear hb HQE hle
    go_enter Try.func23, Try.ntmps23
    go_wp2_with fail
    generalize w.alloc _ = w1 at *
    refine (HL.out w1 hb1).mono ?_
    rintro e w2 ⟨rfl, hb2⟩
    have HR2 := hide (HR.out _ (bthr hB hb2 hB.size))
    clear hb1 c0 c1 c2 q0 hB hb2 HL HR
    go_wp2
    go_ret2
    exact ⟨_, by rw [HX.out]; first | done | rfl, HR2.out⟩
end Go.Proofs.Ytmlpimidbgeacaa
