/-
  The contract of the library's symmetric merge of two sorted ranges of an own row, whatever their lengths. Condition: the comparing function answers f, writes nothing that was there, and fits a transitive relation.
-/
import Derived.Test.YtodamjjlnagpjaaGreatDoorProg
import Derived.Test.YtodamjjlnagpjaaGreatDoorSymw
namespace Go.Proofs.YtodamjjlnagpjaaGreatDoor
open Go.RowKit

/-- The merge at ranges that have less than N elements together. -/
def MergesTo (w0 : World) (g : Nat) (kc : FuncId) (cap : Array Value) (f : Int → Int → Int) (ok : Int → Prop) (R : Int → Int → Prop) (n c N : Nat) : Prop :=
  ∀ (a m b : Nat) (ia im ib : Int), ia = a → im = m → ib = b → ∀ (A U V B : List Int), A.length = a → a + U.length = m → m + V.length = b → b + B.length = n → 0 < U.length → 0 < V.length → U.length + V.length < N → (∀ x ∈ U, ok x) → (∀ x ∈ V, ok x) → U.Pairwise R → V.Pairwise R → (∀ x ∈ U, ∀ y ∈ V, Fits f R x y) →
    ∀ w : World, w0.grownBy w (some g) → IRow w g (A ++ (U ++ (V ++ B))) → Calls Tryz.prog 142 #[.slice (some ⟨g, 0, none⟩) n c, .int .i64 ia, .int .i64 im, .int .i64 ib, .func (.func kc) #[] cap] w (MergePost R g A U V B w)
set_option maxHeartbeats 6400000 in
set_option maxRecDepth 20000 in
theorem sym_mid (w0 : World) (g : Nat) (kc : FuncId) (cap : Array Value) (f : Int → Int → Int) (ok : Int → Prop) (hf : CmpSays w0 g kc cap f ok) (R : Int → Int → Prop) (hT : ∀ x y z, R x y → R y z → R x z) (n c : Nat) (hn : n ≤ 1048576) (N : Nat) (ih : MergesTo w0 g kc cap f ok R n c N)
    (a m b : Nat) (ia im ib : Int) (hia : ia = a) (him : im = m) (hib : ib = b) (A U V B : List Int) (hA : A.length = a) (hU : a + U.length = m) (hV : m + V.length = b) (hB : b + B.length = n) (hU0 : 1 < U.length) (hV0 : 1 < V.length) (hN : U.length + V.length ≤ N) (hoU : ∀ x ∈ U, ok x) (hoV : ∀ x ∈ V, ok x) (hUR : U.Pairwise R) (hVR : V.Pairwise R) (hC : ∀ x ∈ U, ∀ y ∈ V, Fits f R x y)
    (w : World) (hw : w0.grownBy w (some g)) (hx : IRow w g (A ++ (U ++ (V ++ B)))) :
    Calls Tryz.prog 142 #[.slice (some ⟨g, 0, none⟩) n c, .int .i64 ia, .int .i64 im, .int .i64 ib, .func (.func kc) #[] cap] w (MergePost R g A U V B w) := by
  subst hia him hib
  obtain ⟨mid, hmid⟩ : ∃ mid : Nat, ((a : Int) + (b : Int)) / 2 = (mid : Int) := ⟨(a + b) / 2, by omega⟩
  have hmd : 2 * mid ≤ a + b ∧ a + b ≤ 2 * mid + 1 := by omega
  have HF := hide hf.2
  have hcf := hf.1
  have HIH := hide ih
  have HX := hide hx
  have HA := hide hA
  have HU := hide hU
  have HV := hide hV
  have HB := hide hB
  have HOU := hide hoU
  have HOV := hide hoV
  have HUR := hide hUR
  have HVR := hide hVR
  have HC := hide hC
  have HN := hide hN
  have d1 : ((m : Int) - (a : Int) == 1) = false := by simp; omega
  have d2 : ((b : Int) - (m : Int) == 1) = false := by simp; omega
  have ham : a + 1 < m := by omega
  have hmb : m + 1 < b := by omega
  have hbn : b ≤ n := by omega
  have HLs := hide (show (A ++ (U ++ (V ++ B))).length = n by simp; omega)
  clear hf ih hx hA hU hV hB hoU hoV hUR hVR hC hU0 hV0 hN
  have hcase : (∃ s0 r0 : Nat, mid < m ∧ s0 + b = mid + m ∧ r0 = mid) ∨ (∃ s0 r0 : Nat, ¬ mid < m ∧ s0 = a ∧ r0 = m) := by
    by_cases h : mid < m
    · exact .inl ⟨mid + m - b, mid, h, by omega, rfl⟩
    · exact .inr ⟨a, m, h, rfl, rfl⟩
  obtain ⟨s0, r0, hs0, hsr⟩ : ∃ s0 r0 : Nat, (mid < m ∧ s0 + b = mid + m ∧ r0 = mid ∨ m ≤ mid ∧ s0 = a ∧ r0 = m) ∧ (s0 ≤ r0 ∧ r0 ≤ mid ∧ r0 ≤ m ∧ a ≤ s0 ∧ mid + m ≤ s0 + b) := by
    rcases hcase with ⟨s0, r0, h1, h2, h3⟩ | ⟨s0, r0, h1, h2, h3⟩
    · exact ⟨s0, r0, .inl ⟨h1, h2, h3⟩, by omega⟩
    · exact ⟨s0, r0, .inr ⟨by omega, h2, h3⟩, by omega⟩
  obtain ⟨q0, q1, q2, q3, q4⟩ := hsr
  have HS0 := hide hs0
  have ham2 : a ≤ mid := by omega
  have hmb2 : mid ≤ b := by omega
  have hatS : ∀ (v : World), True := fun _ => trivial
  clear hcase hatS
  go_enter Tryz.func142, Tryz.ntmps142
  by_cases hbr : mid < m
  all_goals
    have HS1 := hide hs0
    have e1 : (mid < m → (mid : Int) + (m : Int) - (b : Int) = (s0 : Int)) := by intro _; omega
    have e2 : (¬ mid < m → (s0 : Int) = (a : Int)) := by intro _; omega
    have e3 : (mid < m → (r0 : Int) = (mid : Int)) := by intro _; omega
    have e4 : (¬ mid < m → (r0 : Int) = (m : Int)) := by intro _; omega
    have E1 := hide e1
    have E2 := hide e2
    have E3 := hide e3
    have E4 := hide e4
    clear e1 e2 e3 e4 hs0
    go_wp2
    go_loopw [20, 21] (fun vs vr wr => ∃ s r : Nat, s0 ≤ s ∧ s ≤ r ∧ r ≤ r0 ∧ vs = .int .i64 s ∧ vr = .int .i64 r ∧ Hid ((s0 < s → 0 ≤ f (V.getD (mid - s) 0) (U.getD (s - 1 - a) 0)) ∧ (r < r0 → f (V.getD (mid - 1 - r) 0) (U.getD (r - a) 0) < 0)) ∧ IRow wr g (A ++ (U ++ (V ++ B))) ∧ w.grownBy wr (some g)) (fun vs vr _ => (intOf vr).toNat - (intOf vs).toNat)
    case atStart => exact ⟨s0, r0, by omega, by omega, by omega, by first | rw [E1.out hbr] | rw [E2.out hbr], by first | rw [E3.out hbr] | rw [E4.out hbr], hide ⟨fun h => by omega, fun h => by omega⟩, HX.out, grown_refl _ _⟩
    case round =>
      obtain ⟨s, r, h1, h2, h3, rfl, rfl, hH, hx, hg⟩ := hrel
      by_cases hlt : s < r
      · obtain ⟨h, hh⟩ : ∃ h : Nat, ((s : Int) + (r : Int)) / 2 = (h : Int) := ⟨(s + r) / 2, by omega⟩
        obtain ⟨pc, hpc⟩ : ∃ pc : Nat, (mid : Int) + (m : Int) - 1 - (h : Int) = (pc : Int) := ⟨mid + m - 1 - h, by omega⟩
        have b1 : s ≤ h := by omega
        have b2 : h < r := by omega
        have b3 : pc + h + 1 = mid + m := by omega
        have hkU : h - a < U.length := by have := HU.out; omega
        have hkV : mid - 1 - h < V.length := by have := HV.out; omega
        have x1 := hx.cell (j := pc) (by have := HLs.out; omega)
        have x0 := hx.cell (j := h) (by have := HLs.out; omega)
        rw [at_V (m := m) HA.out HU.out (by omega) (by have := HV.out; omega), show pc - m = mid - 1 - h by omega] at x1
        rw [at_U HA.out (by omega) (by have := HU.out; omega)] at x0
        have oy : ok (V.getD (mid - 1 - h) 0) := HOV.out _ (getD_mem hkV)
        have ox : ok (U.getD (h - a) 0) := HOU.out _ (getD_mem hkU)
        have HCC := hide (fun (W : World) (hW : Below wr.heap.size wr W) => HF.out (V.getD (mid - 1 - h) 0) (U.getD (h - a) 0) W oy ox (grown_trans hw (grown_of_below hg hW)))
        have HX2 := hide hx
        have i0 : (0 : Int) ≤ (h : Int) := by omega
        have i1 : (h : Int) < (n : Int) := by omega
        have i2 : (0 : Int) ≤ (pc : Int) := by omega
        have i3 : (pc : Int) < (n : Int) := by omega
        have HB3 := hide b3
        clear hx oy ox b3
        obtain ⟨x, hxx⟩ : ∃ x, x = U.getD (h - a) 0 := ⟨_, rfl⟩
        obtain ⟨y, hyy⟩ : ∃ y, y = V.getD (mid - 1 - h) 0 := ⟨_, rfl⟩
        rw [← hxx] at x0 HCC
        rw [← hyy] at x1 HCC
        have HXX := hide hxx
        have HYY := hide hyy
        clear hxx hyy
        have hne : Nonempty (InW fun W => Below wr.heap.size wr W) := ⟨⟨wr, Below.refl _ _⟩⟩
        replace x0 := inv_cell x0
        replace x1 := inv_cell x1
        by_cases hc : f y x < 0
        · have HD := hide (show f (V.getD (mid - 1 - h) 0) (U.getD (h - a) 0) < 0 by rw [← HXX.out, ← HYY.out]; exact hc)
          obtain ⟨rr, hr⟩ : ∃ rr, rr = f y x := ⟨_, rfl⟩
          rw [← hr] at hc HCC
          clear hr
          go_wp2_with fail
          refine wp_region_inv (I := fun W => Below wr.heap.size wr W) (by kernel_rfl) (by kernel_rfl) (Below.refl _ _).drew ?_
          repeat (go_big_quiet_step ((refine inv_call (inv_closed wr) (HCC.out _ (InW.ok _)))))
          refine wpQuiet_nil ?_
          rintro _ ⟨⟨w9, h9⟩, rfl⟩
          have H9 := hide h9
          clear x0 x1 hne h9
          go_wp2
          go_roundw
          case rel => exact ⟨s, h, by omega, by omega, by omega, rfl, rfl, hide ⟨hH.out.1, fun _ => HD.out⟩, HX2.out.below H9.out, grown_of_below hg H9.out⟩
          case measure => simp [intOf]; omega
        · have HD := hide (show 0 ≤ f (V.getD (mid - 1 - h) 0) (U.getD (h - a) 0) by rw [← HXX.out, ← HYY.out]; omega)
          obtain ⟨rr, hr⟩ : ∃ rr, rr = f y x := ⟨_, rfl⟩
          rw [← hr] at hc HCC
          clear hr
          have hd0 : decide (rr < 0) = false := decide_eq_false hc
          replace hc : 0 ≤ rr := by omega
          go_wp2_with fail
          refine wp_region_inv (I := fun W => Below wr.heap.size wr W) (by kernel_rfl) (by kernel_rfl) (Below.refl _ _).drew ?_
          repeat (go_big_quiet_step ((refine inv_call (inv_closed wr) (HCC.out _ (InW.ok _)))))
          refine wpQuiet_nil ?_
          rintro _ ⟨⟨w9, h9⟩, rfl⟩
          have H9 := hide h9
          clear x0 x1 hne h9
          go_wp2
          go_roundw
          case rel => exact ⟨h + 1, r, by omega, by omega, by omega, by go_num, rfl, hide ⟨fun _ => by rw [show mid - (h + 1) = mid - 1 - h by omega, show h + 1 - 1 - a = h - a by omega]; exact HD.out, hH.out.2⟩, HX2.out.below H9.out, grown_of_below hg H9.out⟩
          case measure => simp [intOf]; omega
      · obtain rfl : s = r := by omega
        obtain ⟨e, he⟩ : ∃ e : Nat, (mid : Int) + (m : Int) - (s : Int) = (e : Int) := ⟨mid + m - s, by omega⟩
        have hem : e + s = mid + m := by omega
        have SP := hide (sym_split (s := s) (s0 := s0) (r0 := r0) (mid := mid) hT HU.out HV.out HUR.out HVR.out HC.out HS0.out hmd ⟨h1, h3⟩ (fun h => Int.not_lt.2 (hH.out.1 h)) (hH.out.2))
        have eU := hide (show U.take (s - a) ++ U.drop (s - a) = U from List.take_append_drop _ _)
        have eV := hide (show V.take (mid - s) ++ V.drop (mid - s) = V from List.take_append_drop _ _)
        have l1 := hide (show (U.take (s - a)).length = s - a by rw [List.length_take]; have := HU.out; omega)
        have l2 := hide (show (U.drop (s - a)).length = m - s by rw [List.length_drop]; have := HU.out; omega)
        have l3 := hide (show (V.take (mid - s)).length = mid - s by rw [List.length_take]; have := HV.out; omega)
        have l4 := hide (show (V.drop (mid - s)).length = b - e by rw [List.length_drop]; have := HV.out; omega)
        have oU1 := hide (fun x (hx : x ∈ U.take (s - a)) => HOU.out x (List.mem_of_mem_take hx))
        have oU2 := hide (fun x (hx : x ∈ U.drop (s - a)) => HOU.out x (List.mem_of_mem_drop hx))
        have oV1 := hide (fun x (hx : x ∈ V.take (mid - s)) => HOV.out x (List.mem_of_mem_take hx))
        have oV2 := hide (fun x (hx : x ∈ V.drop (mid - s)) => HOV.out x (List.mem_of_mem_drop hx))
        have rU1 := hide (HUR.out.sublist (List.take_sublist (s - a) U))
        have rU2 := hide (HUR.out.sublist (List.drop_sublist (s - a) U))
        have rV1 := hide (HVR.out.sublist (List.take_sublist (mid - s) V))
        have rV2 := hide (HVR.out.sublist (List.drop_sublist (mid - s) V))
        have c1 := hide (fun x (hx : x ∈ U.take (s - a)) y (hy : y ∈ V.take (mid - s)) => HC.out x (List.mem_of_mem_take hx) y (List.mem_of_mem_take hy))
        have c2 := hide (fun x (hx : x ∈ U.drop (s - a)) y (hy : y ∈ V.drop (mid - s)) => HC.out x (List.mem_of_mem_drop hx) y (List.mem_of_mem_drop hy))
        rw [← eU.out, ← eV.out] at hx
        unfold MergePost
        generalize U.take (s - a) = U1 at *
        generalize U.drop (s - a) = U2 at *
        generalize V.take (mid - s) = V1 at *
        generalize V.drop (mid - s) = V2 at *
        have HXX := hide (show IRow wr g (A ++ (U1 ++ (U2 ++ (V1 ++ (V2 ++ B))))) by simpa using hx)
        have HG := hide hg
        have t1 : s ≤ mid := by omega
        have t2 : s ≤ m := by omega
        have t3 : a ≤ s := by omega
        have t4 : e ≤ b := by omega
        clear hx hg hH HX q0 q1 q2 q3 q4 h1 h2 h3
        have cmb : (a < s ∧ s < m ∧ s < mid ∧ e < b) ∨ (a < s ∧ s < m ∧ s < mid ∧ ¬ e < b) ∨ (a < s ∧ s < m ∧ ¬ s < mid ∧ e < b) ∨ (a < s ∧ ¬ s < m ∧ s < mid ∧ e < b) ∨ (a < s ∧ ¬ s < m ∧ ¬ s < mid ∧ e < b) ∨ (¬ a < s ∧ s < m ∧ s < mid ∧ e < b) ∨ (¬ a < s ∧ s < m ∧ s < mid ∧ ¬ e < b) := by omega
        rcases cmb with ⟨u1, u2, v1, v2⟩ | ⟨u1, u2, v1, v2⟩ | ⟨u1, u2, v1, v2⟩ | ⟨u1, u2, v1, v2⟩ | ⟨u1, u2, v1, v2⟩ | ⟨u1, u2, v1, v2⟩ | ⟨u1, u2, v1, v2⟩
        · have k1 : m < e := by omega
          have k2 : mid < e := by omega
          go_wp2_with fail
          refine (rot_any g n c s m e _ _ _ (by omega) (by omega) (by omega) _ hn (A ++ U1) U2 V1 (V2 ++ B) (by rw [List.length_append, l1.out]; have := HA.out; omega) (by rw [l2.out]; omega) (by rw [l3.out]; omega) (by rw [l2.out]; omega) (by rw [l3.out]; omega) (by rw [List.length_append, l4.out]; have := HB.out; omega) _ (by have h := HXX.out; simpa using h)).mono ?_
          rintro ex wa ⟨rfl, hxa, hga⟩
          have HX1 := hide (show IRow wa g (A ++ (U1 ++ (V1 ++ (U2 ++ (V2 ++ B))))) by simpa using hxa)
          have HG1 := hide (grown_trans HG.out hga)
          clear hxa hga
          go_wp2_with fail
          refine (HIH.out a s mid _ _ _ (by omega) (by omega) (by omega) A U1 V1 (U2 ++ (V2 ++ B)) HA.out (by rw [l1.out]; omega) (by rw [l3.out]; omega) (by simp only [List.length_append]; have h2 := l2.out; have h4 := l4.out; (try simp only [List.length_nil] at h2); have := HB.out; omega) (by rw [l1.out]; omega) (by rw [l3.out]; omega) (by rw [l1.out, l3.out]; have := HN.out; have := HU.out; have := HV.out; omega) oU1.out oV1.out rU1.out rV1.out c1.out _ (grown_trans hw HG1.out) HX1.out).mono ?_
          rintro ex wb ⟨Z1, rfl, hp1, hz1, hxb, hgb⟩
          have HP1 := hide hp1
          have HZ1 := hide hz1
          have HX2 := hide hxb
          have HG2 := hide (grown_trans HG1.out hgb)
          clear hp1 hz1 hxb hgb
          go_wp2_with fail
          refine (HIH.out mid e b _ _ _ (by omega) (by omega) (by omega) (A ++ Z1) U2 V2 B (by rw [List.length_append, HP1.out.length_eq, List.length_append]; have h1 := l1.out; have h3 := l3.out; have := HA.out; (try simp only [List.length_nil] at *); omega) (by rw [l2.out]; omega) (by rw [l4.out]; omega) HB.out (by rw [l2.out]; omega) (by rw [l4.out]; omega) (by rw [l2.out, l4.out]; have := HN.out; have := HU.out; have := HV.out; omega) oU2.out oV2.out rU2.out rV2.out c2.out _ (grown_trans hw HG2.out) (by have h := HX2.out; simpa using h)).mono ?_
          rintro ex wc ⟨Z2, rfl, hp2, hz2, hxc, hgc⟩
          have HP2 := hide hp2
          have HZ2 := hide hz2
          have HX3 := hide hxc
          have HG3 := hide (grown_trans HG2.out hgc)
          clear hp2 hz2 hxc hgc
          have HJ := hide (sym_join HP1.out HP2.out HZ1.out HZ2.out (by rw [eU.out]; exact HUR.out) (by rw [eV.out]; exact HVR.out) SP.out.1 SP.out.2)
          rw [eU.out, eV.out] at HJ
          have HX4 := hide (show IRow _ g (A ++ ((Z1 ++ Z2) ++ B)) by have h := HX3.out; simpa using h)
          go_wp2
          go_end0
          exact ⟨Z1 ++ Z2, rfl, HJ.out.2, HJ.out.1, HX4.out, HG3.out⟩
        · have k1 : m < e := by omega
          have k2 : mid < e := by omega
          go_wp2_with fail
          refine (rot_any g n c s m e _ _ _ (by omega) (by omega) (by omega) _ hn (A ++ U1) U2 V1 (V2 ++ B) (by rw [List.length_append, l1.out]; have := HA.out; omega) (by rw [l2.out]; omega) (by rw [l3.out]; omega) (by rw [l2.out]; omega) (by rw [l3.out]; omega) (by rw [List.length_append, l4.out]; have := HB.out; omega) _ (by have h := HXX.out; simpa using h)).mono ?_
          rintro ex wa ⟨rfl, hxa, hga⟩
          have HX1 := hide (show IRow wa g (A ++ (U1 ++ (V1 ++ (U2 ++ (V2 ++ B))))) by simpa using hxa)
          have HG1 := hide (grown_trans HG.out hga)
          clear hxa hga
          go_wp2_with fail
          refine (HIH.out a s mid _ _ _ (by omega) (by omega) (by omega) A U1 V1 (U2 ++ (V2 ++ B)) HA.out (by rw [l1.out]; omega) (by rw [l3.out]; omega) (by simp only [List.length_append]; have h2 := l2.out; have h4 := l4.out; (try simp only [List.length_nil] at h2); have := HB.out; omega) (by rw [l1.out]; omega) (by rw [l3.out]; omega) (by rw [l1.out, l3.out]; have := HN.out; have := HU.out; have := HV.out; omega) oU1.out oV1.out rU1.out rV1.out c1.out _ (grown_trans hw HG1.out) HX1.out).mono ?_
          rintro ex wb ⟨Z1, rfl, hp1, hz1, hxb, hgb⟩
          have HP1 := hide hp1
          have HZ1 := hide hz1
          have HX2 := hide hxb
          have HG2 := hide (grown_trans HG1.out hgb)
          clear hp1 hz1 hxb hgb
          obtain ⟨Z2, hZ2⟩ : ∃ Z2, Z2 = U2 ++ V2 := ⟨_, rfl⟩
          have HP2 := hide (show Z2.Perm (U2 ++ V2) by rw [hZ2])
          have HZ2 := hide (show Z2.Pairwise R by rw [hZ2, List.eq_nil_of_length_eq_zero (show V2.length = 0 by rw [l4.out]; omega), List.append_nil]; exact rU2.out)
          have HX3 := hide (show IRow wb g (A ++ Z1 ++ (Z2 ++ B)) by rw [hZ2]; have h := HX2.out; simpa using h)
          have HG3 := HG2
          clear hZ2
          have HJ := hide (sym_join HP1.out HP2.out HZ1.out HZ2.out (by rw [eU.out]; exact HUR.out) (by rw [eV.out]; exact HVR.out) SP.out.1 SP.out.2)
          rw [eU.out, eV.out] at HJ
          have HX4 := hide (show IRow _ g (A ++ ((Z1 ++ Z2) ++ B)) by have h := HX3.out; simpa using h)
          go_wp2
          go_end0
          exact ⟨Z1 ++ Z2, rfl, HJ.out.2, HJ.out.1, HX4.out, HG3.out⟩
        · have k1 : ¬ m < e := by omega
          have k2 : mid < e := by omega
          obtain rfl : V1 = [] := List.eq_nil_of_length_eq_zero (by rw [l3.out]; omega)
          have HX1 := hide (show IRow wr g (A ++ (U1 ++ ([] ++ (U2 ++ (V2 ++ B))))) by have h := HXX.out; simpa using h)
          have HG1 := HG
          obtain ⟨Z1, hZ1⟩ : ∃ Z1, Z1 = U1 ++ [] := ⟨_, rfl⟩
          have HP1 := hide (show Z1.Perm (U1 ++ []) by rw [hZ1])
          have HZ1 := hide (show Z1.Pairwise R by rw [hZ1, List.append_nil]; exact rU1.out)
          have HX2 := hide (show IRow wr g (A ++ (Z1 ++ (U2 ++ (V2 ++ B)))) by rw [hZ1]; have h := HX1.out; simpa using h)
          have HG2 := HG1
          clear hZ1
          go_wp2_with fail
          refine (HIH.out mid e b _ _ _ (by omega) (by omega) (by omega) (A ++ Z1) U2 V2 B (by rw [List.length_append, HP1.out.length_eq, List.length_append]; have h1 := l1.out; have h3 := l3.out; have := HA.out; (try simp only [List.length_nil] at *); omega) (by rw [l2.out]; omega) (by rw [l4.out]; omega) HB.out (by rw [l2.out]; omega) (by rw [l4.out]; omega) (by rw [l2.out, l4.out]; have := HN.out; have := HU.out; have := HV.out; omega) oU2.out oV2.out rU2.out rV2.out c2.out _ (grown_trans hw HG2.out) (by have h := HX2.out; simpa using h)).mono ?_
          rintro ex wc ⟨Z2, rfl, hp2, hz2, hxc, hgc⟩
          have HP2 := hide hp2
          have HZ2 := hide hz2
          have HX3 := hide hxc
          have HG3 := hide (grown_trans HG2.out hgc)
          clear hp2 hz2 hxc hgc
          have HJ := hide (sym_join HP1.out HP2.out HZ1.out HZ2.out (by rw [eU.out]; exact HUR.out) (by rw [eV.out]; exact HVR.out) SP.out.1 SP.out.2)
          rw [eU.out, eV.out] at HJ
          have HX4 := hide (show IRow _ g (A ++ ((Z1 ++ Z2) ++ B)) by have h := HX3.out; simpa using h)
          go_wp2
          go_end0
          exact ⟨Z1 ++ Z2, rfl, HJ.out.2, HJ.out.1, HX4.out, HG3.out⟩
        · have k1 : m < e := by omega
          have k2 : ¬ mid < e := by omega
          obtain rfl : U2 = [] := List.eq_nil_of_length_eq_zero (by rw [l2.out]; omega)
          have HX1 := hide (show IRow wr g (A ++ (U1 ++ (V1 ++ ([] ++ (V2 ++ B))))) by have h := HXX.out; simpa using h)
          have HG1 := HG
          go_wp2_with fail
          refine (HIH.out a s mid _ _ _ (by omega) (by omega) (by omega) A U1 V1 ([] ++ (V2 ++ B)) HA.out (by rw [l1.out]; omega) (by rw [l3.out]; omega) (by simp only [List.length_append, List.length_nil]; have h2 := l2.out; have h4 := l4.out; (try simp only [List.length_nil] at h2); have := HB.out; omega) (by rw [l1.out]; omega) (by rw [l3.out]; omega) (by rw [l1.out, l3.out]; have := HN.out; have := HU.out; have := HV.out; omega) oU1.out oV1.out rU1.out rV1.out c1.out _ (grown_trans hw HG1.out) HX1.out).mono ?_
          rintro ex wb ⟨Z1, rfl, hp1, hz1, hxb, hgb⟩
          have HP1 := hide hp1
          have HZ1 := hide hz1
          have HX2 := hide hxb
          have HG2 := hide (grown_trans HG1.out hgb)
          clear hp1 hz1 hxb hgb
          obtain ⟨Z2, hZ2⟩ : ∃ Z2, Z2 = [] ++ V2 := ⟨_, rfl⟩
          have HP2 := hide (show Z2.Perm ([] ++ V2) by rw [hZ2])
          have HZ2 := hide (show Z2.Pairwise R by rw [hZ2]; simpa using rV2.out)
          have HX3 := hide (show IRow wb g (A ++ Z1 ++ (Z2 ++ B)) by rw [hZ2]; have h := HX2.out; simpa using h)
          have HG3 := HG2
          clear hZ2
          have HJ := hide (sym_join HP1.out HP2.out HZ1.out HZ2.out (by rw [eU.out]; exact HUR.out) (by rw [eV.out]; exact HVR.out) SP.out.1 SP.out.2)
          rw [eU.out, eV.out] at HJ
          have HX4 := hide (show IRow _ g (A ++ ((Z1 ++ Z2) ++ B)) by have h := HX3.out; simpa using h)
          go_wp2
          go_end0
          exact ⟨Z1 ++ Z2, rfl, HJ.out.2, HJ.out.1, HX4.out, HG3.out⟩
        · have k1 : ¬ m < e := by omega
          have k2 : ¬ mid < e := by omega
          obtain rfl : U2 = [] := List.eq_nil_of_length_eq_zero (by rw [l2.out]; omega)
          obtain rfl : V1 = [] := List.eq_nil_of_length_eq_zero (by rw [l3.out]; omega)
          have HX1 := hide (show IRow wr g (A ++ (U1 ++ ([] ++ ([] ++ (V2 ++ B))))) by have h := HXX.out; simpa using h)
          have HG1 := HG
          obtain ⟨Z1, hZ1⟩ : ∃ Z1, Z1 = U1 ++ [] := ⟨_, rfl⟩
          have HP1 := hide (show Z1.Perm (U1 ++ []) by rw [hZ1])
          have HZ1 := hide (show Z1.Pairwise R by rw [hZ1, List.append_nil]; exact rU1.out)
          have HX2 := hide (show IRow wr g (A ++ (Z1 ++ ([] ++ (V2 ++ B)))) by rw [hZ1]; have h := HX1.out; simpa using h)
          have HG2 := HG1
          clear hZ1
          obtain ⟨Z2, hZ2⟩ : ∃ Z2, Z2 = [] ++ V2 := ⟨_, rfl⟩
          have HP2 := hide (show Z2.Perm ([] ++ V2) by rw [hZ2])
          have HZ2 := hide (show Z2.Pairwise R by rw [hZ2]; simpa using rV2.out)
          have HX3 := hide (show IRow wr g (A ++ Z1 ++ (Z2 ++ B)) by rw [hZ2]; have h := HX2.out; simpa using h)
          have HG3 := HG2
          clear hZ2
          have HJ := hide (sym_join HP1.out HP2.out HZ1.out HZ2.out (by rw [eU.out]; exact HUR.out) (by rw [eV.out]; exact HVR.out) SP.out.1 SP.out.2)
          rw [eU.out, eV.out] at HJ
          have HX4 := hide (show IRow _ g (A ++ ((Z1 ++ Z2) ++ B)) by have h := HX3.out; simpa using h)
          go_wp2
          go_end0
          exact ⟨Z1 ++ Z2, rfl, HJ.out.2, HJ.out.1, HX4.out, HG3.out⟩
        · have k1 : m < e := by omega
          have k2 : mid < e := by omega
          go_wp2_with fail
          refine (rot_any g n c s m e _ _ _ (by omega) (by omega) (by omega) _ hn (A ++ U1) U2 V1 (V2 ++ B) (by rw [List.length_append, l1.out]; have := HA.out; omega) (by rw [l2.out]; omega) (by rw [l3.out]; omega) (by rw [l2.out]; omega) (by rw [l3.out]; omega) (by rw [List.length_append, l4.out]; have := HB.out; omega) _ (by have h := HXX.out; simpa using h)).mono ?_
          rintro ex wa ⟨rfl, hxa, hga⟩
          have HX1 := hide (show IRow wa g (A ++ (U1 ++ (V1 ++ (U2 ++ (V2 ++ B))))) by simpa using hxa)
          have HG1 := hide (grown_trans HG.out hga)
          clear hxa hga
          obtain ⟨Z1, hZ1⟩ : ∃ Z1, Z1 = U1 ++ V1 := ⟨_, rfl⟩
          have HP1 := hide (show Z1.Perm (U1 ++ V1) by rw [hZ1])
          have HZ1 := hide (show Z1.Pairwise R by rw [hZ1, List.eq_nil_of_length_eq_zero (show U1.length = 0 by rw [l1.out]; omega), List.nil_append]; exact rV1.out)
          have HX2 := hide (show IRow wa g (A ++ (Z1 ++ (U2 ++ (V2 ++ B)))) by rw [hZ1]; have h := HX1.out; simpa using h)
          have HG2 := HG1
          clear hZ1
          go_wp2_with fail
          refine (HIH.out mid e b _ _ _ (by omega) (by omega) (by omega) (A ++ Z1) U2 V2 B (by rw [List.length_append, HP1.out.length_eq, List.length_append]; have h1 := l1.out; have h3 := l3.out; have := HA.out; (try simp only [List.length_nil] at *); omega) (by rw [l2.out]; omega) (by rw [l4.out]; omega) HB.out (by rw [l2.out]; omega) (by rw [l4.out]; omega) (by rw [l2.out, l4.out]; have := HN.out; have := HU.out; have := HV.out; omega) oU2.out oV2.out rU2.out rV2.out c2.out _ (grown_trans hw HG2.out) (by have h := HX2.out; simpa using h)).mono ?_
          rintro ex wc ⟨Z2, rfl, hp2, hz2, hxc, hgc⟩
          have HP2 := hide hp2
          have HZ2 := hide hz2
          have HX3 := hide hxc
          have HG3 := hide (grown_trans HG2.out hgc)
          clear hp2 hz2 hxc hgc
          have HJ := hide (sym_join HP1.out HP2.out HZ1.out HZ2.out (by rw [eU.out]; exact HUR.out) (by rw [eV.out]; exact HVR.out) SP.out.1 SP.out.2)
          rw [eU.out, eV.out] at HJ
          have HX4 := hide (show IRow _ g (A ++ ((Z1 ++ Z2) ++ B)) by have h := HX3.out; simpa using h)
          go_wp2
          go_end0
          exact ⟨Z1 ++ Z2, rfl, HJ.out.2, HJ.out.1, HX4.out, HG3.out⟩
        · have k1 : m < e := by omega
          have k2 : mid < e := by omega
          go_wp2_with fail
          refine (rot_any g n c s m e _ _ _ (by omega) (by omega) (by omega) _ hn (A ++ U1) U2 V1 (V2 ++ B) (by rw [List.length_append, l1.out]; have := HA.out; omega) (by rw [l2.out]; omega) (by rw [l3.out]; omega) (by rw [l2.out]; omega) (by rw [l3.out]; omega) (by rw [List.length_append, l4.out]; have := HB.out; omega) _ (by have h := HXX.out; simpa using h)).mono ?_
          rintro ex wa ⟨rfl, hxa, hga⟩
          have HX1 := hide (show IRow wa g (A ++ (U1 ++ (V1 ++ (U2 ++ (V2 ++ B))))) by simpa using hxa)
          have HG1 := hide (grown_trans HG.out hga)
          clear hxa hga
          obtain ⟨Z1, hZ1⟩ : ∃ Z1, Z1 = U1 ++ V1 := ⟨_, rfl⟩
          have HP1 := hide (show Z1.Perm (U1 ++ V1) by rw [hZ1])
          have HZ1 := hide (show Z1.Pairwise R by rw [hZ1, List.eq_nil_of_length_eq_zero (show U1.length = 0 by rw [l1.out]; omega), List.nil_append]; exact rV1.out)
          have HX2 := hide (show IRow wa g (A ++ (Z1 ++ (U2 ++ (V2 ++ B)))) by rw [hZ1]; have h := HX1.out; simpa using h)
          have HG2 := HG1
          clear hZ1
          obtain ⟨Z2, hZ2⟩ : ∃ Z2, Z2 = U2 ++ V2 := ⟨_, rfl⟩
          have HP2 := hide (show Z2.Perm (U2 ++ V2) by rw [hZ2])
          have HZ2 := hide (show Z2.Pairwise R by rw [hZ2, List.eq_nil_of_length_eq_zero (show V2.length = 0 by rw [l4.out]; omega), List.append_nil]; exact rU2.out)
          have HX3 := hide (show IRow wa g (A ++ Z1 ++ (Z2 ++ B)) by rw [hZ2]; have h := HX2.out; simpa using h)
          have HG3 := HG2
          clear hZ2
          have HJ := hide (sym_join HP1.out HP2.out HZ1.out HZ2.out (by rw [eU.out]; exact HUR.out) (by rw [eV.out]; exact HVR.out) SP.out.1 SP.out.2)
          rw [eU.out, eV.out] at HJ
          have HX4 := hide (show IRow _ g (A ++ ((Z1 ++ Z2) ++ B)) by have h := HX3.out; simpa using h)
          go_wp2
          go_end0
          exact ⟨Z1 ++ Z2, rfl, HJ.out.2, HJ.out.1, HX4.out, HG3.out⟩
end Go.Proofs.YtodamjjlnagpjaaGreatDoor

