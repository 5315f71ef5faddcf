/-
  The contract of the reference's Latest: the last bundle that is live and covers a step. Condition: the list can be read.
-/
import Derived.Test.YtmlpimidbgeacaaProg
import Derived.Test.YtmlpimidbgeacaaFbl
namespace Go.Proofs.Ytmlpimidbgeacaa
open Go.RowKit

set_option maxHeartbeats 1600000 in
set_option maxRecDepth 20000 in
theorem rlatest_any (A : Option Addr) (n c : Nat) (bs : List Bd) (t : Int) (ht : t ≤ 9223372036854775807) (w : World) (hs : BdsOk w w.heap.size A n c bs) :
    Calls Try.prog 32 #[.slice A n c, .int .i64 t] w fun e w' => e = .returned (.tuple #[.int .i64 ((latL t bs n).getD 0 : Nat), .bool (latL t bs n).isSome]) ∧ Below w.heap.size w w' := by
  have HL := hide hs.len
  have HS := hide hs
  have hn63 : n ≤ 9223372036854775807 := by have a1 := hs.1.2.1; have a2 := hs.1.2.2.1; unfold maxLen at a2; omega
  clear hs
  go_enter Try.func32, Try.ntmps32
  go_wp2
  go_loopw [6] (fun v wr => ∃ (k : Nat) (z : Int), k ≤ n ∧ v = .int .i64 z ∧ z + 1 = (k : Int) ∧ Hid (latL t bs n = latL t bs k) ∧ Below w.heap.size w wr) (fun v _ => (intOf v + 1).toNat)
  case atStart => exact ⟨n, (n : Int) - 1, by omega, rfl, by omega, hide rfl, Below.refl _ _⟩
  case round =>
    obtain ⟨k, z, hk, rfl, hz, HLT, hb⟩ := hrel
    by_cases hz0 : 0 ≤ z
    · obtain ⟨q, rfl⟩ : ∃ q : Nat, z = (q : Int) := ⟨z.toNat, by omega⟩
      have hkq : k = q + 1 := by omega
      subst hkq
      have hL := HL.out
      have K := HS.out.thr hb
      obtain ⟨bl, ol, rfl, _, hcl⟩ := K.1.at_ (show q < n by omega)
      obtain ⟨b, eb⟩ : ∃ b, bs[q]'(by omega) = b := ⟨_, rfl⟩
      obtain ⟨e0, e1, e2⟩ := bd_cells hcl (by omega) eb
      have hok := K.2 b (by rw [← eb]; exact List.getElem_mem _)
      have HGET := hide (show bs[q]? = some b by rw [List.getElem?_eq_getElem (by omega), eb])
      have HU := hide (usable_any b wr hok)
      have HC := hide (fun W hW hv => rcovers_ok b t ht W hW hv)
      have HVV := hide (fun (h : liveE b = 0) => (liveE_ok h (ScsOk.len hok)).1)
      have HSE := hide (show stepE b t = if liveE b ≠ 0 then liveE b else if covB b t then 0 else 6 from rfl)
      have HOKB := hide hok
      have hqi : (q : Int) < (n : Int) := by omega
      have hqn : q < n := by omega
      unfold Bd.arr at HU HC
      clear hcl K hok eb hz hz0 hL
      have HB := hide hb
      go_wp2_with fail
      refine HU.out.mono ?_
      rintro e w2 ⟨rfl, hb2⟩
      replace e0 := cell_thr hb2 e0
      replace e1 := cell_thr hb2 e1
      replace e2 := cell_thr hb2 e2
      have HOK2 := hide (Bd.ok.thr HOKB.out hb2)
      have HB2 := hide (HB.out.trans (hb2.mono HB.out.size))
      clear hb hb2 HU HB HOKB
      by_cases hle : liveE b = 0
      · have hq : (liveE b == 0) = true := by simp [hle]
        have HSE2 := hide (HSE.out.trans (if_neg (by simp [hle])))
        have hv := HVV.out hle
        clear HSE HVV hle
        go_wp2_with fail
        refine (HC.out w2 HOK2.out hv).mono ?_
        rintro e w3 ⟨rfl, hb3⟩
        have HB3 := hide (HB2.out.trans (hb3.mono HB2.out.size))
        clear e0 e1 e2 hb3 HC HOK2 hv
        cases hc : covB b t
        · have HN := hide (HLT.out.trans (latL_miss HGET.out (by rw [HSE2.out, hc]; simp)))
          clear HSE2 hc HLT
          go_wp2
          go_roundw
          case rel => exact ⟨q, (q : Int) - 1, by omega, by go_num, by omega, HN, HB3.out⟩
          case measure => first | (simp [intOf]; done) | (simp [intOf]; omega)
        · have HX := hide (HLT.out.trans (latL_hit HGET.out (by rw [HSE2.out, hc]; simp)))
          clear HSE2 hc HLT
          go_wp2
          go_ret2
          exact ⟨by rw [HX.out]; first | done | rfl, HB3.out⟩
      · have hq : (liveE b == 0) = false := by simp [hle]
        have HN := hide (HLT.out.trans (latL_miss HGET.out (by rw [HSE.out, if_pos hle]; exact hle)))
        clear HSE HVV hle e0 e1 e2 HC HOK2 HLT
        go_wp2
        go_roundw
        case rel => exact ⟨q, (q : Int) - 1, by omega, by go_num, by omega, HN, HB2.out⟩
        case measure => first | (simp [intOf]; done) | (simp [intOf]; omega)
    · have hk0 : k = 0 := by omega
      subst hk0
      have HX := hide (HLT.out.trans (show latL t bs 0 = none by unfold latL; rfl))
      have HBZ := hide hb
      have hz1 : ¬ 0 ≤ z := hz0
      clear hb HLT hz
      go_wp2
      go_ret2
      exact ⟨by rw [HX.out]; first | done | rfl, HBZ.out⟩
end Go.Proofs.Ytmlpimidbgeacaa
