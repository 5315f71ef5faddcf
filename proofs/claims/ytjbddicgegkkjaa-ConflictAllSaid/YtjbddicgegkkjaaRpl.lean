/-
  Contracts of the reference's pairs, Find and Ever: the result, or the first error. Condition: there are 200 conditions at most.
-/
import Derived.Test.YtjbddicgegkkjaaProg
import Derived.Test.YtjbddicgegkkjaaCke
import Derived.Test.YtjbddicgegkkjaaRpa
namespace Go.Proofs.Ytjbddicgegkkjaa
open Go.RowKit

theorem ever_may {a b : Cd} (h : everB a b = true) : mayB a b = true := by
  unfold everB at h
  unfold mayB
  rw [Bool.and_eq_true, Bool.and_eq_true] at h ⊢
  refine ⟨h.1, ?_⟩
  have h2 := h.2
  split at h2
  · rename_i hl; rw [if_pos hl]; simp [everLH] at h2; simp [mayLH, h2]
  · rename_i hl; rw [if_neg hl]; simp [everLH] at h2; simp [mayLH, h2]
def prF (al : Bool) (cs : List Cd) : Nat → Nat → Bool := askF (fun m e => if al then e else m) cs
set_option maxHeartbeats 3200000 in
set_option maxRecDepth 20000 in
theorem rpairs_ok (al : Bool) (A : Option Addr) (n c : Nat) (cs : List Cd) (w : World) (hn : n ≤ 200) (hg : ∀ x ∈ cs, x.err = 0) (hs : Sl w w.heap.size 7 A n c (cdCells cs)) :
    Calls Try.prog 45 #[.slice A n c, .bool al] w fun e w' => ∃ v, e = .returned v ∧ w'.ownsRow w.heap.size 48 2 v (allP (prF al cs) n n).length (pCells (allP (prF al cs) n n)) ∧ Below w.heap.size w w' := by
  have hl := len_sl hs
  have HL := hide hl
  have HG := hide hg
  obtain ⟨F, hF⟩ : ∃ F, F = prF al cs := ⟨_, rfl⟩
  have HFF := hide hF
  rw [← hF]
  have HS := hide hs
  clear hF hl hg hs
  go_enter Try.func45, Try.ntmps45
  go_wp2
  go_loopw [5, 12] (fun v i wr => ∃ a : Nat, a ≤ n ∧ i = .int .i64 a ∧ wr.ownsRow w.heap.size 48 2 v (allP F n a).length (pCells (allP F n a)) ∧ Below w.heap.size w wr) (fun _ i _ => n - (intOf i).toNat)
  case atStart => exact ⟨0, by omega, rfl, World.ownsRow_nil _ _ _ _, Below.refl _ _⟩
  case round =>
    obtain ⟨a, ha, rfl, hv, hb⟩ := hrel
    by_cases hlt : a < n
    · have HV := hide hv
      have HB := hide hb
      have hai : (a : Int) < (n : Int) := by omega
      clear hv hb ha
      go_wp2
      go_loopw [5, 7] (fun v i wq => ∃ b : Nat, b ≤ n ∧ a < b ∧ i = .int .i64 b ∧ wq.ownsRow w.heap.size 48 2 v (allP F n a ++ rowP F a b).length (pCells (allP F n a ++ rowP F a b)) ∧ Below w.heap.size w wq) (fun _ i _ => n - (intOf i).toNat)
      case atStart => exact ⟨a + 1, by omega, by omega, by go_num, by rw [rowP_start, List.append_nil]; exact HV.out, HB.out⟩
      case round =>
        obtain ⟨b, hbn, hab, rfl, hv, hb⟩ := hrel
        by_cases hlt2 : b < n
        · have hL := HL.out
          obtain ⟨bl, ol, rfl, _, hcl⟩ := (HS.out.below hb).at_ hlt
          rcases ea : cs[a]'(by omega) with ⟨r, kd, vv, f, t, x, y⟩
          rcases eb : cs[b]'(by omega) with ⟨r2, kd2, vv2, f2, t2, x2, y2⟩
          obtain ⟨e0, e1, e2, e3, e4, e5, e6⟩ := cd_cells (B := 0) (n := 0) (c := 0) hcl (by omega) ea
          obtain ⟨d0, d1, d2, d3, d4, d5, d6⟩ := cd_cells (B := 0) (n := 0) (c := 0) hcl (by omega) eb
          have ga := HG.out _ (List.getElem_mem (show a < cs.length by omega))
          have gb := HG.out _ (List.getElem_mem (show b < cs.length by omega))
          rw [ea] at ga
          rw [eb] at gb
          have hFab : F a b = (if al then everB ⟨r, kd, vv, f, t, x, y⟩ ⟨r2, kd2, vv2, f2, t2, x2, y2⟩ else mayB ⟨r, kd, vv, f, t, x, y⟩ ⟨r2, kd2, vv2, f2, t2, x2, y2⟩) := by
            rw [HFF.out]; unfold prF askF; simp [List.getD_eq_getElem?_getD, show a < cs.length by omega, show b < cs.length by omega, ea, eb]
          have HP := hide (fun W => show Calls Try.prog 30 #[.agg #[.int .i64 r, .int .i64 kd, .int .i64 vv, .int .i64 f, .int .i64 t, .int .i64 x, .int .i64 y], .agg #[.int .i64 r2, .int .i64 kd2, .int .i64 vv2, .int .i64 f2, .int .i64 t2, .int .i64 x2, .int .i64 y2]] W fun e w' => e = .returned (.tuple #[.bool (mayB ⟨r, kd, vv, f, t, x, y⟩ ⟨r2, kd2, vv2, f2, t2, x2, y2⟩), .bool (everB ⟨r, kd, vv, f, t, x, y⟩ ⟨r2, kd2, vv2, f2, t2, x2, y2⟩)]) ∧ Below W.heap.size W w' from by
            have h := rpair_any ⟨r, kd, vv, f, t, x, y⟩ ⟨r2, kd2, vv2, f2, t2, x2, y2⟩ W
            unfold PairPost at h
            rw [show pM ⟨r, kd, vv, f, t, x, y⟩ ⟨r2, kd2, vv2, f2, t2, x2, y2⟩ = mayB ⟨r, kd, vv, f, t, x, y⟩ ⟨r2, kd2, vv2, f2, t2, x2, y2⟩ by simp [pM, ga, gb], show pE ⟨r, kd, vv, f, t, x, y⟩ ⟨r2, kd2, vv2, f2, t2, x2, y2⟩ = everB ⟨r, kd, vv, f, t, x, y⟩ ⟨r2, kd2, vv2, f2, t2, x2, y2⟩ by simp [pE, ga, gb]] at h
            exact h)
          have HEM := hide (fun h => ever_may (a := ⟨r, kd, vv, f, t, x, y⟩) (b := ⟨r2, kd2, vv2, f2, t2, x2, y2⟩) h)
          generalize mayB ⟨r, kd, vv, f, t, x, y⟩ ⟨r2, kd2, vv2, f2, t2, x2, y2⟩ = bm at *
          generalize everB ⟨r, kd, vv, f, t, x, y⟩ ⟨r2, kd2, vv2, f2, t2, x2, y2⟩ = be at *
          have HI := hide (fun (h : F a b = true) => rowP_in hab h)
          have HU := hide (fun (h : F a b = false) => rowP_out (i := a) (k := b) h)
          have hl1 : (allP F n a ++ rowP F a b).length ≤ 41000 := by
            have h1 := allP_len F n a
            have h2 := rowP_len F a b
            have h3 : a * n ≤ 200 * 200 := Nat.mul_le_mul (by omega) hn
            rw [List.length_append]; omega
          rw [hFab] at HI HU
          have HV2 := hide hv
          have HB2 := hide hb
          have hne : Nonempty (InW fun w => Below wr.heap.size wr w) := ⟨⟨wr, Below.refl _ _⟩⟩
          clear hcl ea eb ga gb hFab hL hv hb
          replace e0 := inv_cell e0
          replace e1 := inv_cell e1
          replace e2 := inv_cell e2
          replace e3 := inv_cell e3
          replace e4 := inv_cell e4
          replace e5 := inv_cell e5
          replace e6 := inv_cell e6
          replace d0 := inv_cell d0
          replace d1 := inv_cell d1
          replace d2 := inv_cell d2
          replace d3 := inv_cell d3
          replace d4 := inv_cell d4
          replace d5 := inv_cell d5
          replace d6 := inv_cell d6
          have a0 : (0 : Int) ≤ (a : Int) := by omega
          have a1 : (a : Int) < (n : Int) := by omega
          have b0 : (0 : Int) ≤ (b : Int) := by omega
          have b1 : (b : Int) < (n : Int) := by omega
          go_wp2_with fail
          refine wp_region_inv (I := fun w => Below wr.heap.size wr w) (by kernel_rfl) (by kernel_rfl) (Below.refl _ _).drew ?_
          repeat (go_big_quiet_step (first | (go_at_call 30; refine inv_call (inv_closed wr) (HP.out _)) | fail))
          refine wpQuiet_nil ?_
          rintro _ ⟨⟨w9, h9⟩, rfl⟩
          have hz9 := Nat.le_trans HB2.out.size h9.size
          have hB9 := HB2.out.trans (h9.mono HB2.out.size)
          have hv9 := ownsRow_below HV2.out h9
          clear e0 e1 e2 e3 e4 e5 e6 d0 d1 d2 d3 d4 d5 d6 hne h9 HP
          have hbw : (be || (bm && !al)) = (if al then be else bm) := by
            cases al <;> cases be <;> cases bm <;> first | rfl | (have := HEM.out rfl; cases this)
          clear HEM
          cases hw : (if al then be else bm)
          · have A1 := hide (HU.out hw)
            have HB9 := hide hB9
            have HV9 := hide hv9
            have HW := hide hw
            have HBW := hide hbw
            clear HI HU hB9 hv9 hw hbw
            cases be
            · cases bm
              · go_wp2
                go_roundw
                case rel => exact ⟨b + 1, by omega, by omega, by go_num, by rw [A1.out]; exact HV9.out, HB9.out⟩
                case measure => simp [intOf]; omega
              · cases al
                · have := HW.out; simp at this
                · go_wp2
                  go_roundw
                  case rel => exact ⟨b + 1, by omega, by omega, by go_num, by rw [A1.out]; exact HV9.out, HB9.out⟩
                  case measure => simp [intOf]; omega
            · have := HBW.out; rw [HW.out] at this; simp at this
          · have A1 := hide (HI.out hw)
            have HBW := hide (hbw.trans hw)
            clear HI HU hw hbw
            cases be
            · cases bm
              · have := HBW.out; simp at this
              · cases al
                · go_wp2_with (at_builtin; refine wpList_push rfl _ _ _ rfl w.heap.size _ _ slPairT _ _ _ rfl hv9 _ _ rfl rfl rfl (by omega) hz9 ?_)
                  intro v' w6 hv6 hg6 hn6
                  have hB6 := hide (hB9.trans (below_push hv9 hg6 hz9))
                  have hv7 := hide (own_cells hv6 (ys := pCells (allP F n a ++ rowP F a (b + 1))) (by rw [A1.out]; simp [pCells]))
                  clear hv9 hv6 hg6 hn6 hB9
                  go_wp2
                  go_roundw
                  case rel => exact ⟨b + 1, by omega, by omega, by go_num, by rw [show (allP F n a ++ rowP F a (b + 1)).length = (allP F n a).length + (rowP F a b).length + 1 by rw [A1.out]; simp; omega]; exact hv7.out, hB6.out⟩
                  case measure => simp [intOf]; omega
                · have := HBW.out; simp at this
            · go_wp2_with (at_builtin; refine wpList_push rfl _ _ _ rfl w.heap.size _ _ slPairT _ _ _ rfl hv9 _ _ rfl rfl rfl (by omega) hz9 ?_)
              intro v' w6 hv6 hg6 hn6
              have hB6 := hide (hB9.trans (below_push hv9 hg6 hz9))
              have hv7 := hide (own_cells hv6 (ys := pCells (allP F n a ++ rowP F a (b + 1))) (by rw [A1.out]; simp [pCells]))
              clear hv9 hv6 hg6 hn6 hB9
              go_wp2
              go_roundw
              case rel => exact ⟨b + 1, by omega, by omega, by go_num, by rw [show (allP F n a ++ rowP F a (b + 1)).length = (allP F n a).length + (rowP F a b).length + 1 by rw [A1.out]; simp; omega]; exact hv7.out, hB6.out⟩
              case measure => simp [intOf]; omega
        · obtain rfl : b = n := by omega
          have HV2 := hide hv
          have HB2 := hide hb
          clear hv hb
          go_wp2
          go_roundw
          case rel => exact ⟨a + 1, by omega, by go_num, by rw [allP_succ]; exact HV2.out, HB2.out⟩
          case measure => simp [intOf]; omega
    · obtain rfl : a = n := by omega
      have HV := hide hv
      have HB2 := hide hb
      clear hv hb
      go_wp2
      go_ret
      exact ⟨_, rfl, HV.out, HB2.out⟩
set_option maxHeartbeats 1600000 in
set_option maxRecDepth 20000 in
theorem rfind_any (A : Option Addr) (n c : Nat) (cs : List Cd) (w : World) (hn : n ≤ 200) (hs : Sl w w.heap.size 7 A n c (cdCells cs)) :
    Calls Try.prog 22 #[.slice A n c] w (AllE w cs (fiL cs)) := by
  have hl := len_sl hs
  have HC := hide (rcheck_any A n c cs w hn hs)
  by_cases he : errL cs = 0
  · have HP := hide (fun W hs2 => rpairs_ok false A n c cs W hn ((errL_zero cs).1 he) hs2)
    have HF : Hid (fiL cs = allP (prF false cs) n n) := hide (by unfold fiL; rw [if_pos he, hl]; rfl)
    have HS := hide hs
    clear hs hl
    unfold AllE
    rw [HF.out, he]
    rw [he] at HC
    go_enter Try.func22, Try.ntmps22
    go_wp2_with fail
    refine HC.out.mono ?_
    rintro e w1 ⟨rfl, hb1⟩
    have hs1 := HS.out.thr hb1
    go_wp2_with fail
    refine (HP.out w1 hs1).mono ?_
    rintro e w2 ⟨v, rfl, hv, hb⟩
    have HV := hide (ownsRow_base hv hb1.size)
    have HB := hide (bthr hb1 hb hb1.size)
    clear hv hb hb1 hs1
    go_wp2
    go_ret2
    exact ⟨v, rfl, HV.out, HB.out⟩
  · have HF : Hid (fiL cs = []) := hide (if_neg he)
    have hq : (errL cs != 0) = true := by simp [he]
    clear hs hl
    unfold AllE
    rw [HF.out]
    generalize errL cs = er at *
    clear he
    go_enter Try.func22, Try.ntmps22
    go_wp2_with fail
    refine HC.out.mono ?_
    rintro e w1 ⟨rfl, hb⟩
    have HB := hide hb
    clear hb
    go_wp2
    go_ret2
    exact ⟨_, rfl, World.ownsRow_nil _ _ _ _, HB.out⟩
set_option maxHeartbeats 1600000 in
set_option maxRecDepth 20000 in
theorem rever_any (A : Option Addr) (n c : Nat) (cs : List Cd) (w : World) (hn : n ≤ 200) (hs : Sl w w.heap.size 7 A n c (cdCells cs)) :
    Calls Try.prog 24 #[.slice A n c] w (AllE w cs (evL cs)) := by
  have hl := len_sl hs
  have HC := hide (rcheck_any A n c cs w hn hs)
  by_cases he : errL cs = 0
  · have HP := hide (fun W hs2 => rpairs_ok true A n c cs W hn ((errL_zero cs).1 he) hs2)
    have HF : Hid (evL cs = allP (prF true cs) n n) := hide (by unfold evL; rw [if_pos he, hl]; rfl)
    have HS := hide hs
    clear hs hl
    unfold AllE
    rw [HF.out, he]
    rw [he] at HC
    go_enter Try.func24, Try.ntmps24
    go_wp2_with fail
    refine HC.out.mono ?_
    rintro e w1 ⟨rfl, hb1⟩
    have hs1 := HS.out.thr hb1
    go_wp2_with fail
    refine (HP.out w1 hs1).mono ?_
    rintro e w2 ⟨v, rfl, hv, hb⟩
    have HV := hide (ownsRow_base hv hb1.size)
    have HB := hide (bthr hb1 hb hb1.size)
    clear hv hb hb1 hs1
    go_wp2
    go_ret2
    exact ⟨v, rfl, HV.out, HB.out⟩
  · have HF : Hid (evL cs = []) := hide (if_neg he)
    have hq : (errL cs != 0) = true := by simp [he]
    clear hs hl
    unfold AllE
    rw [HF.out]
    generalize errL cs = er at *
    clear he
    go_enter Try.func24, Try.ntmps24
    go_wp2_with fail
    refine HC.out.mono ?_
    rintro e w1 ⟨rfl, hb⟩
    have HB := hide hb
    clear hb
    go_wp2
    go_ret2
    exact ⟨_, rfl, World.ownsRow_nil _ _ _ _, HB.out⟩
end Go.Proofs.Ytjbddicgegkkjaa
