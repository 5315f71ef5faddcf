/-
  The walk of RightsDays: it answers true. Condition: its list can be read.
-/
import Derived.Test.YtbkadeoganaemaaProg
import Derived.Test.YtbkadeoganaemaaRgow
import Derived.Laws.OwnMore
namespace Go.Proofs.Ytbkadeoganaemaa
open Go.RowKit

/-- Block g holds n bools. -/
def BRow (w : World) (g n : Nat) (dr : Nat → Bool) : Prop := ∃ cur : Array Value, w.heap[g]? = some (.cells cur 4 (0, 0)) ∧ ∀ i, i < n → cur[i]? = some (.bool (dr i))
section
variable {w w' : World} {g n : Nat} {dr : Nat → Bool}
theorem BRow.lt (h : BRow w g n dr) : g < w.heap.size := by
  obtain ⟨cur, h, _⟩ := h
  rcases Nat.lt_or_ge g w.heap.size with hlt | hge
  · exact hlt
  · rw [Array.getElem?_eq_none hge] at h; cases h
theorem BRow.cell (h : BRow w g n dr) {i : Nat} (hi : i < n) : w.cell? ⟨g, i, none⟩ = some (.bool (dr i)) := by
  obtain ⟨cur, h, hc⟩ := h
  simp [World.cell?, h, hc i hi]
theorem BRow.frozen (h : BRow w g n dr) (i : Nat) : w.frozen? ⟨g, i, none⟩ = false := by
  obtain ⟨cur, h, _⟩ := h
  simp [World.frozen?, h]
theorem BRow.keep (h : BRow w g n dr) (hk : w'.heap[g]? = w.heap[g]?) : BRow w' g n dr := by
  obtain ⟨cur, h, hc⟩ := h
  exact ⟨cur, hk.trans h, hc⟩
theorem BRow.set_ (h : BRow w g n dr) (j : Nat) : BRow (w.setCell ⟨g, j, none⟩ (.bool true)) g n (fun i => dr i || j == i) := by
  obtain ⟨cur, h, hc⟩ := h
  refine ⟨cur.setIfInBounds j (.bool true), by simp [World.setCell, Array.getElem?_modify, h], fun i hi => ?_⟩
  have h2 := hc i hi
  by_cases e : j = i
  · subst e
    have : j < cur.size := by
      rcases Nat.lt_or_ge j cur.size with h3 | h3
      · exact h3
      · rw [Array.getElem?_eq_none h3] at h2; cases h2
    simp [this]
  · simp [e, h2]
theorem BRow.drewN (h : BRow w g n dr) (k : Nat) : BRow (w.drewN k) g n dr := by
  induction k with
  | zero => exact h
  | succ k ih => exact ih
end
theorem make_bools (w : World) (n : Nat) (hn : n ≤ 4096) : ∃ w', (Instr.makeSlice 39 (.int .i64 (n : Int)) (.int .i64 (n : Int))).run Try.prog w = .ok (.slice (some ⟨w.heap.size, 0, none⟩) n n) w' ∧ BRow w' w.heap.size n (fun _ => false) ∧ w.grownBy w' none := by
  obtain ⟨i, hi, h1, h2, h3⟩ := info_parts (P := Try.prog) (e := 4) (z := .bool false) (size := 1) (bytes := 1) rfl
  obtain ⟨w', r1, r2, r3⟩ := run_make_full (P := Try.prog) w w.heap.size 39 4 i (.bool false) 1 (by kernel_rfl) hi h1 h2 .i64 .i64 n (by rw [h3]; omega) (by unfold maxLen; omega) (Nat.le_refl _)
  refine ⟨w', r1, ?_, r3⟩
  rcases r2.2 with ⟨h4, _⟩ | ⟨g', cap, cur, hv, hg, hh, h5, h6, h7, h8⟩
  · simp at h4
  · injection hv with e1 e2 e3
    injection e1 with e1
    injection e1 with e1
    subst e1
    refine ⟨cur, hh, fun j hj => ?_⟩
    have h9 : (madeCells #[.bool false] (n * 1)).toList = List.replicate n (.bool false) := by rw [toList_madeCells_one]; simp
    have h10 : cur.toList.take (n * 1) = List.replicate n (.bool false) := h8.trans h9
    have h11 : (cur.toList.take (n * 1))[j]? = some (.bool false) := by rw [h10]; simp [hj]
    rw [List.getElem?_take, if_pos (by omega)] at h11
    simpa using h11
/-- is among the first k of the order -/
def inK (os : List Int) (k i : Nat) : Bool := (os.take k).any fun x => x == (i : Int)
theorem inK_succ {os : List Int} {k : Nat} (h : k < os.length) {b : Nat} (he : os.getD k 0 = (b : Int)) : inK os (k + 1) = fun i => inK os k i || b == i := by
  funext i
  unfold inK
  have he2 : os[k] = (b : Int) := by rw [← he]; simp [List.getD_eq_getElem?_getD, h]
  rw [List.take_succ_eq_append_getElem h, List.any_append]
  congr 1
  simp only [List.any_cons, List.any_nil, Bool.or_false, he2]
  rw [Bool.eq_iff_iff]; simp only [beq_iff_eq]; omega
theorem inK_new {rs : List Rt} {day : Int} {k : Nat} (h : k < (actR rs day).length) {b : Nat} (he : (actR rs day).getD k 0 = (b : Int)) : inK (actR rs day) k b = false := by
  unfold inK
  rw [List.any_eq_false]
  intro x hx
  obtain ⟨j, hj, rfl⟩ := List.getElem_of_mem hx
  rw [List.length_take] at hj
  rw [List.getElem_take]
  have h2 := List.pairwise_iff_getElem.1 (actR_spec rs day).1 j k (by omega) h (by omega)
  have h3 : (actR rs day)[k] = (b : Int) := by rw [← he]; simp [List.getD_eq_getElem?_getD, h]
  rw [h3] at h2
  intro e
  have e2 : (actR rs day)[j] = (b : Int) := by simpa using e
  rw [e2] at h2
  unfold Rlt at h2
  omega
theorem inK_all {rs : List Rt} {day : Int} {i : Nat} (h : i < rs.length) : inK (actR rs day) (actR rs day).length i = onT day (getR rs (i : Int)) := by
  unfold inK
  rw [List.take_length, ← onR_at h, Bool.eq_iff_iff, List.any_eq_true]
  constructor
  · rintro ⟨x, hx, e⟩
    have e2 : x = (i : Int) := by simpa using e
    obtain ⟨j, h1, _, h3⟩ := actF_mem.1 ((actR_spec rs day).2.mem_iff.1 hx)
    have : j = i := by omega
    rw [← this]; exact h3
  · intro h1
    exact ⟨(i : Int), (actR_spec rs day).2.mem_iff.2 (actF_mem.2 ⟨i, rfl, h, h1⟩), by simp⟩
/-- neighbours of the order -/
theorem ord_nb {rs : List Rt} {day : Int} {p : Nat} (h : p + 1 < (actR rs day).length) : Rlt rs ((actR rs day).getD p 0) ((actR rs day).getD (p + 1) 0) := by
  have h2 := List.pairwise_iff_getElem.1 (actR_spec rs day).1 p (p + 1) (by omega) h (by omega)
  simp only [List.getD_eq_getElem?_getD, List.getElem?_eq_getElem h, List.getElem?_eq_getElem (show p < (actR rs day).length by omega), Option.getD_some]
  exact h2
theorem alloc_off {rs : List Rt} {day a : Int} (hck : ckR rs = 0) (ha : 0 ≤ a) {i : Nat} (hi : i < rs.length) (ho : onT day (getR rs (i : Int)) = false) : (allotR rs day a).getD i 0 = 0 := by
  rw [alloc_at (flowR_in hck) ha hi, ho]; rfl
set_option maxHeartbeats 1600000 in
set_option maxRecDepth 20000 in
theorem rdays_walk {A : Option Addr} {n c : Nat} {zs : List Int} {w : World} (hs : Sl w w.heap.size 1 A n c (ints zs)) (av dy : Int) : Calls Try.prog 5 #[.slice A n c, .int .i64 av, .int .i64 dy] w fun e w' => e = .returned (.bool true) ∧ Below w.heap.size w w' := by
  go_enter Try.func5, Try.ntmps5
  go_wp2_with fail
  refine (new_any _ _ _ _ _ hs).mono ?_
  rintro e w1 ⟨rfl, hD1, hb1⟩
  have HB1 := hide hb1
  clear hs hb1
  go_wp2_with fail
  refine (rights_any _ _ hD1).mono ?_
  rintro e w2 ⟨Ar, cr, rs, rfl, hl6, hgd, hor, _, hg2⟩
  obtain ⟨m, hm⟩ : ∃ m, rs.length = m := ⟨_, rfl⟩
  rw [hm] at hor hl6
  have hck := good_ck hgd (by omega)
  have hsr := sl_ownv hor
  have HB2 := hide (below_grown HB1.out hg2 HB1.out.size (Nat.le_refl _))
  have HM := hide hm
  try simp only [hm]
  clear hD1 hg2 HB1 hgd hor
  obtain ⟨a, ha⟩ : ∃ a, av % 60 = a := ⟨_, rfl⟩
  obtain ⟨d, hd⟩ : ∃ d, dy % 365 = d := ⟨_, rfl⟩
  have ha0 : 0 ≤ a ∧ a < 60 := by omega
  have hd0 : 0 ≤ d ∧ d < 365 := by omega
  have HA := hide ha
  have HD := hide hd
  clear ha hd
  go_wp2_with (go_at_call 11; refine (mod_any _ _ (by omega) (by omega) _).mono ?_; rintro e w' ⟨rfl, rfl⟩; first | rw [HA.out] | rw [HD.out])
  have hwd : wit d 364 = true := wit_of (by omega) (by omega)
  have h12 : (actF rs d rs.length).length ≤ 12 := by have := actF_len rs d rs.length; have := HM.out; omega
  have HACT := hide (Active_any Ar m cr rs d w2 hsr hck hwd h12)
  have HAL := hide (fun (W : World) (hW : Below w2.heap.size w2 W) => Allot_any Ar m cr rs d a W (hsr.thr hW) hck hwd ⟨ha0.1, by omega⟩ h12)
  have HO6 := hide (show (actR rs d).length ≤ 6 by rw [actR_len]; have := actF_len rs d rs.length; have := HM.out; omega)
  have HS := hide hsr
  have HCK := hide hck
  have HL1 := hide (alloc_len (day := d) (flowR_in HCK.out) ha0.1)
  clear hsr hck h12
  go_wp2_with fail
  refine HACT.out.mono ?_
  rintro e w3 ⟨Ao, co, rfl, hso, hb3⟩
  have HB3 := hide hb3
  clear hb3 HACT
  go_wp2_with fail
  refine (HAL.out w3 HB3.out).mono ?_
  rintro e w4 ⟨v, rfl, hv, hb4⟩
  obtain ⟨Aa, ca, rfl, hsa⟩ := own_sl hv
  have HB4 := hide (bthr HB3.out hb4 HB3.out.size)
  have hso4 := hso.thr hb4
  have HSR := hide (HS.out.thr HB4.out)
  have HBW := hide (bthr HB2.out HB4.out HB2.out.size)
  clear hv hb4 HAL hso HB3
  obtain ⟨w5, hmk, hbr, hg5⟩ := make_bools w4 m (by omega)
  have hB5 : Below w4.heap.size w4 w5 := (Below.refl w4.heap.size w4).grown hg5 (Nat.le_refl _) (fun k hk => by cases hk)
  have HSO := hide hso4
  have HSA := hide hsa
  have hmm : ((m : Int) != (m : Int)) = false := by simp
  have HINK := hide (fun (k b : Nat) (h : k < (actR rs d).length) (he : (actR rs d).getD k 0 = (b : Int)) => inK_succ h he)
  have HINN := hide (fun (k b : Nat) (h : k < (actR rs d).length) (he : (actR rs d).getD k 0 = (b : Int)) => inK_new (rs := rs) (day := d) h he)
  have HINA := hide (fun (i : Nat) (h : i < m) => inK_all (rs := rs) (day := d) (i := i) (by have := HM.out; omega))
  obtain ⟨pp, hpp⟩ : ∃ pp : Rt → Bool, pp = onT d := ⟨_, rfl⟩
  have HPP := hide hpp
  rw [← hpp] at HINA
  have HOFF := hide (fun (i : Nat) (h : i < m) (ho : pp (getR rs (i : Int)) = false) => alloc_off (a := a) (i := i) HCK.out ha0.1 (by have := HM.out; omega) (by rw [← hpp]; exact ho))
  clear hpp
  have HNB := hide (fun (p : Nat) (h : p + 1 < (actR rs d).length) => ord_nb (rs := rs) (day := d) h)
  have HOI := hide (fun (k : Nat) (h : k < (actR rs d).length) => show ∃ i : Nat, (actR rs d).getD k 0 = (i : Int) ∧ i < m from by
    have h1 := actR_in (rs := rs) (day := d) (x := (actR rs d).getD k 0) (by simp [List.getD_eq_getElem?_getD, h])
    exact ⟨((actR rs d).getD k 0).toNat, by omega, by have := HM.out; omega⟩)
  generalize actR rs d = os at *
  obtain ⟨lo, hlo⟩ : ∃ lo, os.length = lo := ⟨_, rfl⟩
  have HLO := hide hlo
  rw [hlo] at HO6 HINK HINN HINA HNB HOI HSO
  try simp only [hlo]
  have ho6 := HO6.out
  have HG5 := hide hg5
  clear hsa hso4 hlo hg5
  go_wp2_with fail
  clear hmk
  go_loopw [60] (fun vi wr => ∃ k : Nat, k ≤ lo ∧ vi = .int .i64 k ∧ BRow wr w4.heap.size m (inK os k) ∧ Below w4.heap.size w4 wr) (fun vi _ => lo - (intOf vi).toNat)
  case atStart => exact ⟨0, by omega, rfl, hbr, hB5⟩
  case round =>
    clear hbr hB5
    obtain ⟨k, hk, rfl, hbr, hb⟩ := hrel
    rename World => wr
    by_cases hlt : k < lo
    · obtain ⟨x, hx, hxm⟩ := HOI.out k hlt
      have hnw := HINN.out k x hlt hx
      have HSU := hide (HINK.out k x hlt hx)
      obtain ⟨bo, oo, rfl, _, hco⟩ := (HSO.out.thr hb).at_ hlt
      obtain ⟨br, or_, rfl, _, _⟩ := HSR.out.at_ hxm
      have e0 := hco k _ (ints_get os k (by have := HLO.out; omega))
      rw [hx] at e0
      obtain ⟨r0, -⟩ := rt_at (HSR.out.thr hb) hxm
      have t0 := hbr.cell hxm
      rw [hnw] at t0
      have t1 := hbr.frozen x
      have hkl : (k : Int) < (lo : Int) := by omega
      have hxmi : (x : Int) < (m : Int) := by omega
      have q1 : decide ((x : Int) < 0) = false := by simp
      have q2 : decide (m ≤ x) = false := by simp; omega
      have q3 : decide ((m : Int) ≤ (x : Int)) = false := by simp; omega
      have hx0 : (0 : Int) ≤ (x : Int) := by omega
      have hk0i : (0 : Int) ≤ (k : Int) := by omega
      have HRS := hide (fun (q : Nat) => show BRow ((wr.drewN q).setCell ⟨w4.heap.size, x, none⟩ (.bool true)) w4.heap.size m (inK os (k + 1)) from by rw [HSU.out]; exact (hbr.drewN q).set_ x)
      have HRB := hide (fun (q : Nat) => (below_drewN hb q).setCell (p := ⟨w4.heap.size, x, none⟩) (Nat.le_refl _) (.bool true))
      by_cases hk0 : k = 0
      · subst hk0
        simp only [Nat.add_zero] at e0
        clear hco hbr hb hnw hx HSU
        go_wp2_with fail
        go_quiet (fail)
        go_wp2
        go_roundw
        case rel => exact ⟨1, by omega, by go_num, HRS.out _, HRB.out _⟩
        case measure => simp [intOf]; omega
      · obtain ⟨p, hp⟩ : ∃ p, k = p + 1 := ⟨k - 1, by omega⟩
        have hkp : (k : Int) - 1 = (p : Int) := by omega
        obtain ⟨y, hy, hym⟩ := HOI.out p (by omega)
        have hnb := HNB.out p (by omega)
        rw [← hp, hx, hy] at hnb
        have e1 := hco p _ (ints_get os p (by have := HLO.out; omega))
        rw [hy] at e1
        obtain ⟨r1, -⟩ := rt_at (HSR.out.thr hb) hym
        have q4 : decide ((0 : Int) < (k : Int)) = true := by simp; omega
        have q4n : decide (0 < k) = true := by simp; omega
        have hpl : (p : Int) < (lo : Int) := by omega
        have hp0 : (0 : Int) ≤ (p : Int) := by omega
        have hymi : (y : Int) < (m : Int) := by omega
        have hy0 : (0 : Int) ≤ (y : Int) := by omega
        unfold Rlt at hnb
        generalize dateR rs (x : Int) = dx at *
        generalize dateR rs (y : Int) = dy2 at *
        have hways : (decide (dx < dy2) = false ∧ (dy2 == dx) = false) ∨ (decide (dx < dy2) = false ∧ (dy2 == dx) = true ∧ decide (x < y) = false) := by
          rcases hnb with h | ⟨h, h2⟩
          · exact .inl ⟨by simp; omega, by simp; omega⟩
          · exact .inr ⟨by simp; omega, by simp; omega, by simp; omega⟩
        clear hco hbr hb hnw hx HSU hnb hy hp
        rcases hways with ⟨q5, q6⟩ | ⟨q5, q6, q7⟩
        all_goals
          go_wp2_with fail
          go_quiet (fail)
          go_wp2
          go_roundw
          case rel => exact ⟨k + 1, by omega, by go_num, HRS.out _, HRB.out _⟩
          case measure => simp [intOf]; omega
    · have hkl : k = lo := by omega
      subst hkl
      have hkli : ¬ ((k : Int) < (k : Int)) := by omega
      have HBR := hide hbr
      have HBW2 := hide (bthr HBW.out hb HBW.out.size)
      have HSRo := hide (HSR.out.thr hb)
      have HSAo := hide (HSA.out.thr hb)
      have hzo : w4.heap.size < wr.heap.size := hbr.lt
      clear hbr hb HNB HINN HINK HOI HSO
      go_wp2_with fail
      go_loopw [17, 18, 132] (fun v17 v18 v132 wx => ∃ j : Nat, j ≤ m ∧ v132 = .int .i64 j ∧ PartP wr rs pp j v17 v18 wx) (fun _ _ v132 _ => m - (intOf v132).toNat)
      case atStart => exact ⟨0, by omega, rfl, 0, rfl, World.ownsRow_nil _ _ _ _, World.ownsRow_nil _ _ _ _, Below.refl _ _⟩
      case round =>
        obtain ⟨j, hj, rfl, q, hq, ho1, ho2, hbx⟩ := hrel
        rename World => wx
        by_cases hjm : j < m
        · have hM := HM.out
          have hjr : j < rs.length := by omega
          have hgk := getR_at (rs := rs) hjr
          have t0 := (hbx.cell (p := ⟨w4.heap.size, j, none⟩) HBR.out.lt).trans (HBR.out.cell hjm)
          rw [HINA.out j hjm] at t0
          have hq6 : q ≤ 6 := by
            have := List.length_filter_le pp (rs.take j)
            rw [List.length_take] at this
            omega
          have hjmi : (j : Int) < (m : Int) := by omega
          have hql : q < 549755813888 := by omega
          cases hon : pp (getR rs (j : Int))
          · rw [hon] at t0
            obtain ⟨ba, oa, rfl, _, hca⟩ := (HSAo.out.thr hbx).at_ hjm
            have xa := hca j _ (ints_get _ j (by have := HL1.out; omega))
            rw [HOFF.out j hjm hon] at xa
            have HR := hide (show PartP wr rs pp (j + 1) _ _ wx from ⟨q, by rw [sub_no hjr hon]; exact hq, by rw [sub_no hjr hon]; exact ho1, by rw [atI_no hon]; exact ho2, hbx⟩)
            clear hca hq ho1 ho2 hbx hgk hM hon
            go_wp2_with fail
            go_roundw
            case rel => exact ⟨j + 1, by omega, by go_num, HR.out⟩
            case measure => simp [intOf]; omega
          · rw [hon] at t0
            rcases er : rs[j]'hjr with ⟨rd, rq, rf, rt⟩
            rw [er] at hgk
            obtain ⟨br, or_, rfl, _, hc⟩ := (HSRo.out.thr hbx).at_ hjm
            obtain ⟨e0, e1, e2, e3⟩ := rt_cells hc hjr er
            have HS1 := hide (sub_yes (p := pp) hjr hon)
            have HS2 := hide (atI_yes (rs := rs) (p := pp) (k := j) hon)
            rw [hgk] at HS1
            have HQ := hide hq
            have HO1 := hide ho1
            have HO2 := hide ho2
            have HBX := hide hbx
            clear hq ho1 ho2 hbx hgk hM hon hc er
            go_wp2_with (at_builtin; refine wpList_push rfl _ _ _ rfl wr.heap.size _ _ slRt _ _ _ rfl HO1.out _ _ rfl rfl rfl hql HBX.out.size ?_)
            intro v' y4 hv4 hg4 _
            have p2 := World.ownsRow.kept HO2.out hg4 (kinds_ne HO1.out HO2.out (by decide))
            have hb4 := HBX.out.grown hg4 HBX.out.size (fun g hg => (HO1.out.lt g hg).1)
            clear e0 e1 e2 e3 t0
            go_wp2_with (at_builtin; refine wpList_push rfl _ _ _ rfl wr.heap.size _ _ slInt _ _ _ rfl p2 _ _ rfl rfl rfl hql hb4.size ?_)
            intro v5 y5 hv5 hg5 _
            have HP1 := hide (World.ownsRow.kept hv4 hg5 (kinds_ne p2 hv4 (by decide)))
            have HB5 := hide (hb4.grown hg5 hb4.size (fun g hg => (p2.lt g hg).1))
            have HR := hide (show PartP wr rs pp (j + 1) v' v5 y5 from ⟨q + 1, by rw [HS1.out, List.length_append, HQ.out]; rfl, by rw [HS1.out, rtCells_append]; exact HP1.out, by rw [HS2.out, ints_append]; exact hv5, HB5.out⟩)
            clear hv4 hg4 hv5 hg5 p2 hb4
            go_wp2
            go_roundw
            case rel => exact ⟨j + 1, by omega, by go_num, HR.out⟩
            case measure => simp [intOf]; omega
        · have hjm2 : j = m := by omega
          have hjr : j = rs.length := by have := HM.out; omega
          have HTK := hide (show (rs.take j).filter pp = rs.filter pp by rw [List.take_of_length_le (by omega)])
          rw [HTK.out] at ho1 hq
          obtain ⟨A17, c17, rfl, hs17⟩ := own_sl ho1
          obtain ⟨A18, c18, rfl, hs18⟩ := own_sl ho2
          rw [hjr] at hs18
          have hql : q ≤ 6 := by have := List.length_filter_le pp rs; have := HM.out; omega
          have h12b : (actF (rs.filter pp) d (rs.filter pp).length).length ≤ 12 := by have := actF_len (rs.filter pp) d (rs.filter pp).length; omega
          have hwd : wit d 364 = true := wit_of (by omega) (by omega)
          have hck2 := sub_ck HCK.out pp
          have HSI := hide hs18
          have HSAx := hide (HSAo.out.thr hbx)
          have HBX := hide (bthr HBW2.out hbx HBW2.out.size)
          have HAL2 := hide (Allot_any A17 q c17 (rs.filter pp) d a wx hs17 hck2 hwd ⟨ha0.1, by omega⟩ h12b)
          have HL2 := hide ((alloc_len (day := d) (flowR_in hck2) ha0.1).trans hq)
          have HATL := hide (show (atI rs pp rs.length).length = q by rw [at_len _ (Nat.le_refl _), List.take_length]; exact hq)
          have HATG := hide (fun (i : Nat) (hi : i < q) => show ∃ x : Nat, x < m ∧ (atI rs pp rs.length).getD i 0 = (x : Int) ∧ (allotR (rs.filter pp) d a).getD i 0 = (allotR rs d a).getD x 0 from by
            obtain ⟨x, h1, h2, h3, h4⟩ := at_get (p := pp) rs.length (Nat.le_refl _) i (by rw [HATL.out]; exact hi)
            refine ⟨x, by have := HM.out; omega, h2, ?_⟩
            have h5 := sub_law (p := pp) (day := d) (a := a) HCK.out ha0.1 h1 h3 (fun r hr h _ => by rw [HPP.out]; exact h)
            rw [h4] at h5
            exact h5)
          have hjmi : ¬ ((j : Int) < (m : Int)) := by omega
          clear ho1 ho2 hs17 hs18 h12b hck2 hbx hq hwd HOFF HINA
          go_wp2_with fail
          refine HAL2.out.mono ?_
          rintro e w7 ⟨v, rfl, hv, hb7⟩
          obtain ⟨Ab, cb, rfl, hsb⟩ := own_sl hv
          have HB7 := hide (bthr HBX.out hb7 HBX.out.size)
          have HSA7 := hide (HSAx.out.thr hb7)
          have HSI7 := hide (HSI.out.thr hb7)
          have HSB := hide hsb
          have hqq : ((q : Int) != (q : Int)) = false := by simp
          clear hv hb7 HAL2 hsb
          generalize allotR rs d a = ga at *
          generalize allotR (rs.filter pp) d a = gb at *
          generalize atI rs pp rs.length = ai at *
          go_wp2_with fail
          go_loopw [174] (fun v wq => ∃ i : Nat, i ≤ q ∧ v = .int .i64 i ∧ Below w7.heap.size w7 wq) (fun v _ => q - (intOf v).toNat)
          case atStart => exact ⟨0, by omega, rfl, Below.refl _ _⟩
          case round =>
            obtain ⟨i, hi, rfl, hbq⟩ := hrel
            rename World => wq
            by_cases hiq : i < q
            · obtain ⟨x, hxm, hij, hgg⟩ := HATG.out i hiq
              obtain ⟨ba, oa, rfl, _, hca⟩ := (HSA7.out.thr hbq).at_ hxm
              obtain ⟨bb, ob, rfl, _, hcb⟩ := (HSB.out.thr hbq).at_ hiq
              obtain ⟨bi, oi, rfl, _, hci⟩ := (HSI7.out.thr hbq).at_ hiq
              have xa := hca x _ (ints_get ga x (by have := HL1.out; have := HM.out; omega))
              have xb := hcb i _ (ints_get gb i (by have := HL2.out; omega))
              have xi := hci i _ (ints_get ai i (by have := HATL.out; omega))
              rw [hij] at xi
              rw [hgg] at xb
              generalize ga.getD x 0 = gx at *
              have hxx : (gx != gx) = false := by simp
              have hiqi : (i : Int) < (q : Int) := by omega
              have hxmi : (x : Int) < (m : Int) := by omega
              have hx0i : (0 : Int) ≤ (x : Int) := by omega
              have hi0i : (0 : Int) ≤ (i : Int) := by omega
              have HBQ := hide hbq
              clear hca hcb hci hij hgg hbq
              go_wp2_with fail
              go_quiet (fail)
              go_wp2
              go_roundw
              case rel => exact ⟨i + 1, by omega, by go_num, below_drewN HBQ.out _⟩
              case measure => simp [intOf]; omega
            · have hiqi : ¬ ((i : Int) < (q : Int)) := by omega
              have HBQ := hide (bthr HB7.out hbq HB7.out.size)
              clear hbq HATG HSB HSI7 HL2 HATL
              go_wp2_with fail
              refine (awake_any _).mono ?_
              rintro e wz ⟨rfl, hbz⟩
              have HBY := hide (bthr HBQ.out hbz HBQ.out.size)
              clear hbz
              go_wp2
              go_ret
              exact ⟨rfl, HBY.out⟩
end Go.Proofs.Ytbkadeoganaemaa
