/-
  The contract of rights.active: the numbers of the rights that are active on a day, by date, and of one date ascending. Conditions: the list can be read, and at most twelve of its rights are active.
-/
import Derived.Test.YtfcmgmcidngjeaaProg
import Derived.Test.YtfcmgmcidngjeaaRgs
import Derived.Test.YtfcmgmcidngjeaaPdz
import Derived.Test.YtfcmgmcidngjeaaSrt
import Derived.Test.YtfcmgmcidngjeaaPushN
namespace Go.Proofs.Ytfcmgmcidngjeaa
open Go.RowKit

/-- is right i active -/
def onR (rs : List Rt) (day : Int) (i : Nat) : Bool := match rs[i]? with | some r => inB r.f r.t day | none => false
def actF (rs : List Rt) (day : Int) (k : Nat) : List Int := ((List.range k).filter (onR rs day)).map fun i : Nat => (i : Int)
theorem actF_zero (rs : List Rt) (day : Int) : actF rs day 0 = [] := rfl
theorem actF_yes {rs : List Rt} {day : Int} {k : Nat} (h : onR rs day k = true) : actF rs day (k + 1) = actF rs day k ++ [(k : Int)] := by
  unfold actF
  rw [List.range_succ, List.filter_append, List.map_append]
  simp [h]
theorem actF_no {rs : List Rt} {day : Int} {k : Nat} (h : onR rs day k = false) : actF rs day (k + 1) = actF rs day k := by
  unfold actF
  rw [List.range_succ, List.filter_append, List.map_append]
  simp [h]
theorem actF_len (rs : List Rt) (day : Int) (k : Nat) : (actF rs day k).length ≤ k := by
  unfold actF
  rw [List.length_map]
  exact Nat.le_trans (List.length_filter_le _ _) (by simp)
theorem actF_mem {rs : List Rt} {day : Int} {k : Nat} {x : Int} : x ∈ actF rs day k ↔ ∃ i : Nat, x = i ∧ i < k ∧ onR rs day i = true := by
  unfold actF
  simp only [List.mem_map, List.mem_filter, List.mem_range]
  exact ⟨fun ⟨i, ⟨h1, h2⟩, h3⟩ => ⟨i, h3.symm, h1, h2⟩, fun ⟨i, h1, h2, h3⟩ => ⟨i, ⟨h2, h3⟩, h1.symm⟩⟩
theorem actF_in {rs : List Rt} {day x : Int} (h : x ∈ actF rs day rs.length) : 0 ≤ x ∧ x < rs.length := by
  obtain ⟨i, rfl, h1, _⟩ := actF_mem.1 h
  omega
theorem actF_lt (rs : List Rt) (day : Int) (k : Nat) : (actF rs day k).Pairwise fun x z => x < z := by
  unfold actF
  rw [List.pairwise_map]
  exact (List.pairwise_lt_range.sublist List.filter_sublist).imp fun h => by omega
/-- the order of rights -/
def Rlt (rs : List Rt) (x y : Int) : Prop := dateR rs x < dateR rs y ∨ dateR rs x = dateR rs y ∧ x < y
def actR (rs : List Rt) (day : Int) : List Int := insK (ordR rs) 0 ((actF rs day rs.length).length - 1) (actF rs day rs.length)
theorem cmp3_neg {x y : Int} : cmp3 x y < 0 ↔ x < y := by
  unfold cmp3
  split
  · omega
  · split <;> omega
theorem cmp3_zero {x y : Int} : cmp3 x y = 0 ↔ x = y := by
  unfold cmp3
  split
  · omega
  · split <;> omega
theorem ordR_neg {rs : List Rt} {x y : Int} : ordR rs x y < 0 ↔ Rlt rs x y := by
  unfold ordR or2 Rlt
  by_cases h : dateR rs x = dateR rs y
  · rw [if_neg (by simp [cmp3_zero.2 h]), cmp3_neg]
    omega
  · rw [if_pos (by simpa [cmp3_zero] using h), cmp3_neg]
    omega
theorem insK_all {f : Int → Int → Int} {R : Int → Int → Prop} {xs : List Int} (hR : ∀ x y z, x ∈ xs → y ∈ xs → z ∈ xs → R x y → R y z → R x z) (hS : xs.Pairwise fun x z => (f z x < 0 → R z x) ∧ (¬ f z x < 0 → R x z)) : (insK f 0 (xs.length - 1) xs).Pairwise R ∧ (insK f 0 (xs.length - 1) xs).Perm xs := by
  by_cases h0 : xs.length = 0
  · obtain rfl := List.eq_nil_of_length_eq_zero h0
    exact ⟨List.Pairwise.nil, List.Perm.refl _⟩
  · obtain ⟨r, h1, h2, h3⟩ := insK_sorted hR hS (xs.length - 1) (by omega)
    rw [h1, List.drop_of_length_le (by omega), List.append_nil]
    rw [List.take_of_length_le (by omega)] at h3
    exact ⟨h2, h3⟩
/-- what active gives -/
theorem actR_spec (rs : List Rt) (day : Int) : (actR rs day).Pairwise (Rlt rs) ∧ (actR rs day).Perm (actF rs day rs.length) := by
  refine insK_all (fun x y z _ _ _ h1 h2 => ?_) ((actF_lt rs day rs.length).imp fun {x z} h => ?_)
  · simp only [Rlt] at *; omega
  · rw [ordR_neg]; simp only [Rlt]; omega
theorem actR_len (rs : List Rt) (day : Int) : (actR rs day).length = (actF rs day rs.length).length := (actR_spec rs day).2.length_eq
theorem actR_in {rs : List Rt} {day x : Int} (h : x ∈ actR rs day) : 0 ≤ x ∧ x < rs.length := actF_in ((actR_spec rs day).2.mem_iff.1 h)
theorem insM_nil (fv : Value) (w : World) : Calls Try.prog 48 #[.slice none 0 0, .int .i64 0, .int .i64 0, fv] w fun e w' => e = .returned (.tuple #[]) ∧ w = w' := by
  go_enter Try.func48, Try.ntmps48
  go_wp2
  refine wp_loop_rounds 1 ?_
  rw [rounds_succ]
  go_wp2
  go_end0
  exact ⟨rfl, rfl⟩
set_option maxRecDepth 20000 in
theorem pdqM_nil (lim : Int) (fv : Value) (w : World) : Calls Try.prog 40 #[.slice none 0 0, .int .i64 0, .int .i64 0, .int .i64 lim, fv] w fun e w' => e = .returned (.tuple #[]) ∧ w = w' := by
  go_enter Try.func40, Try.ntmps40
  go_wp2
  refine wp_loop_rounds 1 ?_
  rw [rounds_succ]
  go_wp2_with fail
  refine (insM_nil fv _).mono ?_
  rintro e w' ⟨rfl, rfl⟩
  go_wp2
  (try simp only [Exit.inBlock, Exit.then])
  refine bodyPost_ret (results_none rfl _ _ _) rfl ?_
  exact ⟨rfl, rfl⟩
theorem sortM_nil (fv : Value) (w : World) : Calls Try.prog 37 #[.slice none 0 0, fv] w fun e w' => e = .returned (.tuple #[]) ∧ w = w' := by
  go_enter Try.func37, Try.ntmps37
  go_wp2_with fail
  refine (len_any 0 _ (by omega) (by omega)).mono ?_
  rintro e w' ⟨⟨l, rfl⟩, rfl⟩
  go_wp2_with fail
  refine (pdqM_nil l fv _).mono ?_
  rintro e w' ⟨rfl, rfl⟩
  go_wp2
  go_end0
  exact ⟨rfl, rfl⟩
theorem own_forms0 {w : World} {base size n : Nat} {e : TypeId} {v : Value} {xs : List Value} (h : w.ownsRow base e size v n xs) : (v = .slice none 0 0 ∧ n = 0) ∨ ∃ g cap, v = .slice (some ⟨g, 0, none⟩) n cap ∧ n ≤ cap ∧ cap ≤ maxLen ∧ base ≤ g ∧ g < w.heap.size := by
  have hlt := h.lt
  rcases h.2 with ⟨h1, h2⟩ | ⟨g, cap, cur, rfl, h3, h4, h5, h6, _⟩
  · exact .inl ⟨h1, h2⟩
  · exact .inr ⟨g, cap, rfl, h5, h6, h3, (hlt g rfl).2⟩
theorem irow_sl {w : World} {g n c : Nat} {xs : List Int} (h : IRow w g xs) (hl : xs.length = n) (hc : n ≤ c) (hm : c ≤ maxLen) : Sl w w.heap.size 1 (some ⟨g, 0, none⟩) n c (ints xs) := by
  refine ⟨by rw [ints_length]; omega, hc, hm, fun _ => ⟨g, 0, rfl, h.lt, fun j u hu => ?_⟩⟩
  have hj : j < xs.length := by have := (List.getElem?_eq_some_iff.1 hu).1; rwa [ints_length] at this
  rw [ints_get xs j hj] at hu
  injection hu with hu
  rw [Nat.zero_add, ← hu]
  exact h.cell hj
theorem cfO : ∀ (a : Array Value) (W : World), (callFunc 38 a).run Try.prog W = .ok (.enter 38 a) W := fun _ _ => by kernel_rfl
theorem rlen {w : World} {B n c : Nat} {A : Option Addr} {rs : List Rt} (hs : Sl w B 4 A n c (rtCells rs)) : n = rs.length := by have := hs.1; rw [rtCells_len] at this; omega
theorem ordR_cmp (rs : List Rt) (ok : Int → Prop) : CmpO (ordR rs) ok := by
  refine ⟨fun x y _ _ hne h => ?_, fun x y _ _ h => ?_, fun x y z _ _ _ h1 h2 => ?_⟩
  · rw [ordR_neg] at h ⊢; unfold Rlt at *; omega
  · rw [ordR_neg] at h ⊢; unfold Rlt at *; omega
  · rw [ordR_neg] at h1 h2 ⊢; unfold Rlt at *; omega
theorem actF_row (rs : List Rt) (day : Int) (n : Nat) (hl : n = rs.length) (hn : n ≤ 4096) : RowG (ordR rs) (fun x => 0 ≤ x ∧ x < n) (actF rs day rs.length).length (actF rs day rs.length) :=
  ⟨ordR_cmp rs _, rfl, fun x hx => by have := actF_in hx; omega, (actF_lt rs day rs.length).imp (fun h => by omega), by have := actF_len rs day rs.length; omega⟩
set_option maxHeartbeats 1600000 in
set_option maxRecDepth 20000 in
theorem active_any (A : Option Addr) (n c : Nat) (rs : List Rt) (day : Int) (w : World) (hs : Sl w w.heap.size 4 A n c (rtCells rs)) (h12 : (actF rs day rs.length).length ≤ 200) (hn : n ≤ 4096) :
    Calls Try.prog 28 #[.slice A n c, .int .i64 day] w fun e w' => ∃ (A' : Option Addr) (c' : Nat), e = .returned (.slice A' (actR rs day).length c') ∧ Sl w' w'.heap.size 1 A' (actR rs day).length c' (ints (actR rs day)) ∧ (∀ b o s, A' = some ⟨b, o, s⟩ → w.heap.size ≤ b) ∧ Below w.heap.size w w' := by
  have HL := hide (rlen hs)
  have HS := hide hs
  have H12 := hide h12
  have HRG := hide (actF_row rs day n (rlen hs) hn)
  have hmf : ∀ (fn : Fn) (first cap : Array Value) (w : World), (Instr.makeFunc fn first cap).run Try.prog w = .ok (.func fn first cap) w := fun _ _ _ _ => rfl
  clear hs h12
  go_enter Try.func28, Try.ntmps28
  go_wp2
  go_loopw [5, 10] (fun v i wr => ∃ k : Nat, k ≤ n ∧ i = .int .i64 k ∧ wr.ownsRow w.heap.size 3 1 v (actF rs day k).length (ints (actF rs day k)) ∧ Below w.heap.size w wr) (fun _ i _ => n - (intOf i).toNat)
  case atStart => exact ⟨0, by omega, rfl, World.ownsRow_nil _ _ _ _, Below.refl _ _⟩
  case round =>
    obtain ⟨k, hk, rfl, ho, hb⟩ := hrel
    by_cases hlt : k < n
    · have hl := HL.out
      obtain ⟨bl, ol, rfl, _, hc⟩ := (HS.out.thr hb).at_ hlt
      have hki : k < rs.length := by omega
      rcases er : rs[k]'hki with ⟨d, q, f, t⟩
      obtain ⟨e0, e1, e2, e3⟩ := rt_cells hc hki er
      have HON := hide (show onR rs day k = inB f t day by unfold onR; rw [List.getElem?_eq_getElem hki, er])
      have q7 := Blk.new wr 26 #[.int .i64 d, .int .i64 q, .int .i64 f, .int .i64 t]
      have ho2 := ho.alloc (.cells #[.int .i64 d, .int .i64 q, .int .i64 f, .int .i64 t] 26)
      have hb2 := hb.alloc hb.size (.cells #[.int .i64 d, .int .i64 q, .int .i64 f, .int .i64 t] 26)
      have hkn : (k : Int) < (n : Int) := by omega
      have HLK := hide (actF_len rs day k)
      clear ho hb hc er hl
      go_upto_region 5 with fail
      clear e0 e1 e2 e3
      generalize wr.alloc _ = w3 at *
      generalize wr.heap.size = g7 at *
      obtain ⟨c0, c1, c2, c3, cf⟩ := q7.facts4
      go_wp2_with fail
      refine (in_any f t day _).mono ?_
      rintro e w4 ⟨rfl, hb4⟩
      have HO4 := hide (ownsRow_below ho2 hb4)
      have HB4 := hide (bthr hb2 hb4 hb2.size)
      clear ho2 hb2 hb4 c0 c1 c2 c3 cf q7
      cases hon : inB f t day
      · have HN := hide (actF_no (HON.out.trans hon))
        clear HON hon
        go_wp2
        go_roundw
        case rel => exact ⟨k + 1, by omega, by go_num, by rw [HN.out]; exact HO4.out, HB4.out⟩
        case measure => simp [intOf]; omega
      · have HN := hide (actF_yes (HON.out.trans hon))
        have hlk := HLK.out
        have hz4 := HB4.out.size
        have hlk2 : (actF rs day k).length < 549755813888 := by omega
        generalize hac : actF rs day k = ac at *
        have HAC := hide hac
        clear HON hon hac hlk
        go_wp2_with (at_builtin; refine wpList_push rfl _ _ _ rfl w.heap.size _ _ slInt _ _ _ rfl HO4.out _ _ rfl rfl rfl hlk2 hz4 ?_)
        intro v' w5 hv5 hg5 _
        have HV := hide (show w5.ownsRow w.heap.size 3 1 v' (actF rs day (k + 1)).length (ints (actF rs day (k + 1))) by
          rw [HN.out, ints_append, List.length_append]; exact hv5)
        have HB5 := hide (HB4.out.grown hg5 hz4 (fun g hg => (HO4.out.lt g hg).1))
        clear hv5 hg5
        go_wp2
        go_roundw
        case rel => exact ⟨k + 1, by omega, by go_num, HV.out, HB5.out⟩
        case measure => simp [intOf]; omega
    · have hkn : k = n := by omega
      have hk2 : k = rs.length := hkn.trans HL.out
      have hki : ¬ ((k : Int) < (n : Int)) := by omega
      have HFL := hide (actR_len rs day)
      have HDF := hide (show actR rs day = insK (ordR rs) 0 ((actF rs day k).length - 1) (actF rs day k) by rw [hk2]; rfl)
      have HOK := hide (show ∀ x ∈ actF rs day k, 0 ≤ x ∧ x < n from fun x hx => by rw [hk2] at hx; have := actF_in hx; have := HL.out; omega)
      have h12 := H12.out
      rw [← hk2] at h12
      have hrg := HRG.out
      rw [← hk2] at hrg
      replace HRG := hide hrg
      clear hrg
      have HS2 := hide (HS.out.thr hb)
      rw [← hk2] at HFL
      generalize actF rs day k = ac at *
      generalize har : actR rs day = ar at *
      have HAR := hide har
      clear har
      rcases own_forms0 ho with ⟨rfl, h0⟩ | ⟨g, cap, rfl, hc1, hc2, hg1, hg2⟩
      · obtain rfl := List.eq_nil_of_length_eq_zero h0
        have har : ar = [] := HDF.out
        have HB := hide hb
        have HAR2 := hide (HAR.out.trans har)
        clear ho hb HDF HFL HOK h12
        go_wp2_with fail
        refine (sortM_nil _ _).mono ?_
        rintro e w' ⟨rfl, rfl⟩
        go_wp2
        go_ret
        rw [HAR2.out]
        exact ⟨_, _, rfl, Sl.none_ _ _ _, fun _ _ _ h => (by cases h), HB.out⟩
      · have hrow := IRow.of_own ho
        have HCS := hide (show CmpSaysM wr g 38 (.slice A n c) (ordR rs) (fun x => 0 ≤ x ∧ x < n) from ⟨cfO, fun x y W hx hy hg => by
          refine order_any A n c rs x y W ?_ hx hy
          exact (HS.out.keep fun b o hb2 => World.cell?_of_block ((hg.block b (Nat.lt_of_lt_of_le hb2 hb.size) (fun e => by injection e with e; omega)).trans (hb.block b hb2))).more (Nat.le_trans hb.size hg.size)⟩)
        have HSM := hide (sortM_wide wr g 38 (.slice A n c) (ordR rs) (fun x => 0 ≤ x ∧ x < n) HCS.out ac.length cap h12 ac HRG.out wr (grown_refl _ _) hrow)
        rw [← HDF.out, ← HFL.out] at HSM
        have HB := hide hb
        have HC1 := hide (show ar.length ≤ cap by rw [HFL.out]; exact hc1)
        rw [← HFL.out]
        clear ho hb HDF HFL HOK h12 hrow HCS hc1
        go_wp2_with fail
        refine HSM.out.mono ?_
        rintro e w4 ⟨rfl, h1, h2⟩
        have HR := hide (irow_sl h1 rfl HC1.out hc2)
        have HB4 := hide (below_grown HB.out h2 HB.out.size hg1)
        clear h1 h2
        go_wp2
        go_ret
        rw [HAR.out]
        exact ⟨_, _, rfl, HR.out, fun _ _ _ h => (by cases h; exact hg1), HB4.out⟩
end Go.Proofs.Ytfcmgmcidngjeaa
