/-
  The contract of the library's symmetric merge of two sorted ranges of an own row. Condition: the comparing function answers f, writes nothing that was there, and fits a transitive relation.
-/
import Derived.Test.YtfcmgmcidngjeaaProg
import Derived.Test.YtfcmgmcidngjeaaRot
namespace Go.Proofs.Ytfcmgmcidngjeaa
open Go.RowKit

def MergePost (R : Int → Int → Prop) (g : Nat) (A U V B : List Int) (w : World) (e : Ending) (w' : World) : Prop := ∃ Z : List Int, e = .returned (.tuple #[]) ∧ Z.Perm (U ++ V) ∧ Z.Pairwise R ∧ IRow w' g (A ++ (Z ++ B)) ∧ w.grownBy w' (some g)
theorem at_U {A U X : List Int} {a i : Nat} (hA : A.length = a) (h1 : a ≤ i) (h2 : i < a + U.length) : (A ++ (U ++ X)).getD i 0 = U.getD (i - a) 0 := by
  rw [List.getD_eq_getElem?_getD, List.getElem?_append_right (by omega), hA, List.getElem?_append_left (by omega), List.getD_eq_getElem?_getD]
theorem at_V {A U V X : List Int} {a m i : Nat} (hA : A.length = a) (hm : a + U.length = m) (h1 : m ≤ i) (h2 : i < m + V.length) : (A ++ (U ++ (V ++ X))).getD i 0 = V.getD (i - m) 0 := by
  rw [List.getD_eq_getElem?_getD, List.getElem?_append_right (by omega), hA, List.getElem?_append_right (by omega), List.getElem?_append_left (by omega), List.getD_eq_getElem?_getD, show i - a - U.length = i - m by omega]
theorem take_one {l : List Int} {k : Nat} (h : k < l.length) : l.take (k + 1) = l.take k ++ [l.getD k 0] := by
  rw [List.take_succ_eq_append_getElem h]; simp [List.getD_eq_getElem?_getD, h]
theorem drop_one {l : List Int} {k : Nat} (h : k < l.length) : l.drop k = l.getD k 0 :: l.drop (k + 1) := by
  rw [List.drop_eq_getElem_cons h]; simp [List.getD_eq_getElem?_getD, h]
set_option maxHeartbeats 3200000 in
set_option maxRecDepth 20000 in
theorem sym_left (w0 : World) (g : Nat) (kc : FuncId) (cap : Array Value) (f : Int → Int → Int) (ok : Int → Prop) (hf : CmpSays w0 g kc cap f ok) (R : Int → Int → Prop) (hT : ∀ x y z, R x y → R y z → R x z) (n c : Nat) (hn : n ≤ 1048576)
    (a b : Nat) (ia im ib : Int) (hia : ia = a) (him : im = (a + 1 : Nat)) (hib : ib = b) (A : List Int) (x : Int) (V B : List Int) (hA : A.length = a) (hV : a + 1 + V.length = b) (hB : b + B.length = n) (hV0 : 0 < V.length) (hox : ok x) (hoV : ∀ y ∈ V, ok y) (hVR : V.Pairwise R) (hC : ∀ y ∈ V, Fits f R x y)
    (w : World) (hw : w0.grownBy w (some g)) (hx : IRow w g (A ++ ([x] ++ (V ++ B)))) :
    Calls Try.prog 66 #[.slice (some ⟨g, 0, none⟩) n c, .int .i64 ia, .int .i64 im, .int .i64 ib, .func (.func kc) #[] cap] w (MergePost R g A [x] V B w) := by
  obtain ⟨m, hm⟩ : ∃ m, m = a + 1 := ⟨_, rfl⟩
  rw [← hm] at him hV
  subst hia him hib
  have HM := hide hm
  have HF := hide hf.2
  have hcf := hf.1
  have HX := hide hx
  have HA := hide hA
  have HV := hide hV
  have HB := hide hB
  have HO := hide hoV
  have HVR := hide hVR
  have HC := hide hC
  have d1 : ((m : Int) - (a : Int) == 1) = true := by simp; omega
  have ham : a < m := by omega
  have hmb : m < b := by omega
  have hbn : b ≤ n := by omega
  have HLs := hide (show (A ++ ([x] ++ (V ++ B))).length = n by simp; omega)
  clear hf hx hA hV hB hoV hVR hC hV0 hm
  go_enter Try.func66, Try.ntmps66
  go_wp2
  go_loopw [10, 11] (fun vi vj wr => ∃ i j : Nat, m ≤ i ∧ i ≤ j ∧ j ≤ b ∧ vi = .int .i64 i ∧ vj = .int .i64 j ∧ Hid ((m < i → f (V.getD (i - 1 - m) 0) x < 0) ∧ (j < b → 0 ≤ f (V.getD (j - m) 0) x)) ∧ IRow wr g (A ++ ([x] ++ (V ++ B))) ∧ w.grownBy wr (some g)) (fun vi vj _ => (intOf vj).toNat - (intOf vi).toNat)
  case atStart => exact ⟨m, b, by omega, by omega, by omega, rfl, rfl, hide ⟨fun h => by omega, fun h => by omega⟩, HX.out, grown_refl _ _⟩
  case round =>
    obtain ⟨i, j, h1, h2, h3, rfl, rfl, hH, hx, hg⟩ := hrel
    by_cases hlt : i < j
    · obtain ⟨h, hh⟩ : ∃ h : Nat, ((i : Int) + (j : Int)) / 2 = (h : Int) := ⟨(i + j) / 2, by omega⟩
      have b1 : i ≤ h := by omega
      have b2 : h < j := by omega
      have x1 := hx.cell (j := h) (by have := HLs.out; omega)
      have x0 := hx.cell (j := a) (by have := HLs.out; omega)
      rw [at_V (m := m) HA.out (by have := HM.out; simp; omega) (by omega) (by have := HV.out; omega)] at x1
      rw [at_U HA.out (Nat.le_refl _) (by simp), Nat.sub_self] at x0
      replace x0 : wr.cell? ⟨g, a, none⟩ = some (.int .i64 x) := x0
      have hky : h - m < V.length := by have := HV.out; omega
      have oy : ok (V.getD (h - m) 0) := HO.out _ (getD_mem hky)
      have HY := hide (show V.getD (h - m) 0 = V.getD (h - m) 0 from rfl)
      have HCC := hide (fun (W : World) (hW : Below wr.heap.size wr W) => HF.out (V.getD (h - m) 0) x W oy hox (grown_trans hw (grown_of_below hg hW)))
      have HX2 := hide hx
      have i0 : (0 : Int) ≤ (h : Int) := by omega
      have i1 : (h : Int) < (n : Int) := by omega
      have i2 : (0 : Int) ≤ (a : Int) := by omega
      have i3 : (a : Int) < (n : Int) := by omega
      clear hx oy
      obtain ⟨y, hy⟩ : ∃ y, y = V.getD (h - m) 0 := ⟨_, rfl⟩
      rw [← hy] at x1 HCC
      have HYY := hide hy
      clear hy HY
      have hne : Nonempty (InW fun W => Below wr.heap.size wr W) := ⟨⟨wr, Below.refl _ _⟩⟩
      replace x0 := inv_cell x0
      replace x1 := inv_cell x1
      by_cases hc : f y x < 0
      · have HD := hide (show f (V.getD (h - m) 0) x < 0 by rw [← HYY.out]; exact hc)
        obtain ⟨r, hr⟩ : ∃ r, r = f y x := ⟨_, rfl⟩
        rw [← hr] at hc HCC
        clear hr
        go_wp2_with fail
        refine wp_region_inv (I := fun W => Below wr.heap.size wr W) (by kernel_rfl) (by kernel_rfl) (Below.refl _ _).drew ?_
        repeat (go_big_quiet_step ((refine inv_call (inv_closed wr) (HCC.out _ (InW.ok _)))))
        refine wpQuiet_nil ?_
        rintro _ ⟨⟨w9, h9⟩, rfl⟩
        have H9 := hide h9
        clear x0 x1 hne h9
        go_wp2
        go_roundw
        case rel => exact ⟨h + 1, j, by omega, by omega, by omega, by go_num, rfl, hide ⟨fun _ => by rw [show h + 1 - 1 - m = h - m by omega]; exact HD.out, hH.out.2⟩, HX2.out.below H9.out, grown_of_below hg H9.out⟩
        case measure => simp [intOf]; omega
      · have HD := hide (show 0 ≤ f (V.getD (h - m) 0) x by rw [← HYY.out]; omega)
        obtain ⟨r, hr⟩ : ∃ r, r = f y x := ⟨_, rfl⟩
        rw [← hr] at hc HCC
        clear hr
        have hd0 : decide (r < 0) = false := decide_eq_false hc
        replace hc : 0 ≤ r := by omega
        go_wp2_with fail
        refine wp_region_inv (I := fun W => Below wr.heap.size wr W) (by kernel_rfl) (by kernel_rfl) (Below.refl _ _).drew ?_
        repeat (go_big_quiet_step ((refine inv_call (inv_closed wr) (HCC.out _ (InW.ok _)))))
        refine wpQuiet_nil ?_
        rintro _ ⟨⟨w9, h9⟩, rfl⟩
        have H9 := hide h9
        clear x0 x1 hne h9
        go_wp2
        go_roundw
        case rel => exact ⟨i, h, by omega, by omega, by omega, rfl, rfl, hide ⟨hH.out.1, fun _ => HD.out⟩, HX2.out.below H9.out, grown_of_below hg H9.out⟩
        case measure => simp [intOf]; omega
    · obtain rfl : i = j := by omega
      have HX2 := hide hx
      have HG2 := hide hg
      have HOL := hide (one_left (k := i - m) hT HVR.out HC.out (by have := HV.out; omega) (fun h => by rw [show i - m - 1 = i - 1 - m by omega]; exact hH.out.1 (by omega)) (fun h => Int.not_lt.2 (hH.out.2 (by have := HV.out; omega))))
      clear hx hg hH
      obtain ⟨wo, rfl⟩ : ∃ wo : World, wo = wr := ⟨_, rfl⟩
      go_wp2
      go_loopw [13] (fun vk wq => ∃ k : Nat, a ≤ k ∧ k + 1 ≤ i ∧ vk = .int .i64 k ∧ IRow wq g (A ++ (V.take (k - a) ++ (x :: (V.drop (k - a) ++ B)))) ∧ w.grownBy wq (some g)) (fun vk _ => i - (intOf vk).toNat)
      case atStart => exact ⟨a, by omega, by omega, rfl, by rw [Nat.sub_self]; exact HX2.out, HG2.out⟩
      case round =>
        obtain ⟨k, k1, k2, rfl, hx, hg⟩ := hrel
        by_cases hkt : k + 1 < i
        · have hkl : k - a < V.length := by have := HV.out; have := HM.out; omega
          have hlen : (A ++ (V.take (k - a) ++ (x :: (V.drop (k - a) ++ B)))).length = n := by
            simp; have := HA.out; have := HV.out; have := HB.out; have := HM.out; omega
          have HS := hide (show swap2 (A ++ (V.take (k - a) ++ (x :: (V.drop (k - a) ++ B)))) k (k + 1) = A ++ (V.take (k + 1 - a) ++ (x :: (V.drop (k + 1 - a) ++ B))) by
            rw [drop_one hkl, show k + 1 - a = k - a + 1 by omega, take_one hkl]
            have h := swap2_at (A ++ V.take (k - a)) [] (V.drop (k - a + 1) ++ B) x (V.getD (k - a) 0) (i := k) (j := k + 1) (by simp; have := HA.out; omega) (by simp)
            simpa using h)
          generalize A ++ (V.take (k - a) ++ (x :: (V.drop (k - a) ++ B))) = ys at *
          have HS2 := hide (show swap2 ys k (k + 1) = (ys.set k (ys.getD (k + 1) 0)).set (k + 1) (ys.getD k 0) from rfl)
          have x1 := hx.cell (j := k + 1) (by omega)
          have x0 := hx.cell (j := k) (by omega)
          have f1 := hx.frozen (k + 1)
          have f0 := hx.frozen k
          have HX3 := hide hx
          have i0 : (0 : Int) ≤ (k : Int) := by omega
          have i1 : (k : Int) < (n : Int) := by omega
          have i2 : (0 : Int) ≤ (k : Int) + 1 := by omega
          have i3 : (k : Int) + 1 < (n : Int) := by omega
          have i4 : (k : Int) < (i : Int) - 1 := by omega
          generalize ys.getD (k + 1) 0 = y at *
          generalize ys.getD k 0 = z at *
          clear hx hlen
          go_wp2
          go_region
          go_wp2
          go_roundw
          case rel => exact ⟨k + 1, by omega, by omega, by go_num, by rw [← HS.out, HS2.out]; exact (HX3.out.set_ k y).set_ (k + 1) z, grown_drewN (grown_set (grown_set hg (.inl rfl) _) (.inl rfl) _) 1⟩
          case measure => simp [intOf]; omega
        · obtain rfl : i = k + 1 := by omega
          have HX3 := hide hx
          have e1 : k + 1 - m = k - a := by have := HM.out; omega
          rw [e1] at HOL
          clear hx e1
          go_wp2
          go_end0
          exact ⟨_, rfl, HOL.out.2, HOL.out.1, by have h := HX3.out; simpa using h, hg⟩

set_option maxHeartbeats 3200000 in
set_option maxRecDepth 20000 in
theorem sym_right (w0 : World) (g : Nat) (kc : FuncId) (cap : Array Value) (f : Int → Int → Int) (ok : Int → Prop) (hf : CmpSays w0 g kc cap f ok) (R : Int → Int → Prop) (hT : ∀ x y z, R x y → R y z → R x z) (n c : Nat) (hn : n ≤ 1048576)
    (a m : Nat) (ia im ib : Int) (hia : ia = a) (him : im = m) (hib : ib = (m + 1 : Nat)) (A U : List Int) (y : Int) (B : List Int) (hA : A.length = a) (hU : a + U.length = m) (hB : m + 1 + B.length = n) (hU0 : 1 < U.length) (hoU : ∀ x ∈ U, ok x) (hoy : ok y) (hUR : U.Pairwise R) (hC : ∀ x ∈ U, Fits f R x y)
    (w : World) (hw : w0.grownBy w (some g)) (hx : IRow w g (A ++ (U ++ ([y] ++ B)))) :
    Calls Try.prog 66 #[.slice (some ⟨g, 0, none⟩) n c, .int .i64 ia, .int .i64 im, .int .i64 ib, .func (.func kc) #[] cap] w (MergePost R g A U [y] B w) := by
  obtain ⟨b, hb⟩ : ∃ b, b = m + 1 := ⟨_, rfl⟩
  rw [← hb] at hib hB
  subst hia him hib
  have HM := hide hb
  have HF := hide hf.2
  have hcf := hf.1
  have HX := hide hx
  have HA := hide hA
  have HU := hide hU
  have HB := hide hB
  have HO := hide hoU
  have HUR := hide hUR
  have HC := hide hC
  have d1 : ((m : Int) - (a : Int) == 1) = false := by simp; omega
  have d2 : ((b : Int) - (m : Int) == 1) = true := by simp; omega
  have ham : a + 1 < m := by omega
  have hmb : m < b := by omega
  have hbn : b ≤ n := by omega
  have HLs := hide (show (A ++ (U ++ ([y] ++ B))).length = n by simp; omega)
  clear hf hx hA hU hB hoU hUR hC hU0 hb
  go_enter Try.func66, Try.ntmps66
  go_wp2
  go_loopw [14, 15] (fun vi vj wr => ∃ i j : Nat, a ≤ i ∧ i ≤ j ∧ j ≤ m ∧ vi = .int .i64 i ∧ vj = .int .i64 j ∧ Hid ((a < i → 0 ≤ f y (U.getD (i - 1 - a) 0)) ∧ (j < m → f y (U.getD (j - a) 0) < 0)) ∧ IRow wr g (A ++ (U ++ ([y] ++ B))) ∧ w.grownBy wr (some g)) (fun vi vj _ => (intOf vj).toNat - (intOf vi).toNat)
  case atStart => exact ⟨a, m, by omega, by omega, by omega, rfl, rfl, hide ⟨fun h => by omega, fun h => by omega⟩, HX.out, grown_refl _ _⟩
  case round =>
    obtain ⟨i, j, h1, h2, h3, rfl, rfl, hH, hx, hg⟩ := hrel
    by_cases hlt : i < j
    · obtain ⟨h, hh⟩ : ∃ h : Nat, ((i : Int) + (j : Int)) / 2 = (h : Int) := ⟨(i + j) / 2, by omega⟩
      have b1 : i ≤ h := by omega
      have b2 : h < j := by omega
      have x1 := hx.cell (j := h) (by have := HLs.out; omega)
      have x0 := hx.cell (j := m) (by have := HLs.out; omega)
      rw [at_U HA.out (by omega) (by have := HU.out; omega)] at x1
      rw [at_V (m := m) HA.out HU.out (Nat.le_refl _) (by simp), Nat.sub_self] at x0
      replace x0 : wr.cell? ⟨g, m, none⟩ = some (.int .i64 y) := x0
      have hky : h - a < U.length := by have := HU.out; omega
      have oy : ok (U.getD (h - a) 0) := HO.out _ (getD_mem hky)
      have HCC := hide (fun (W : World) (hW : Below wr.heap.size wr W) => HF.out y (U.getD (h - a) 0) W hoy oy (grown_trans hw (grown_of_below hg hW)))
      have HX2 := hide hx
      have i0 : (0 : Int) ≤ (h : Int) := by omega
      have i1 : (h : Int) < (n : Int) := by omega
      have i2 : (0 : Int) ≤ (m : Int) := by omega
      have i3 : (m : Int) < (n : Int) := by omega
      clear hx oy
      obtain ⟨x, hxx⟩ : ∃ x, x = U.getD (h - a) 0 := ⟨_, rfl⟩
      rw [← hxx] at x1 HCC
      have HYY := hide hxx
      clear hxx
      have hne : Nonempty (InW fun W => Below wr.heap.size wr W) := ⟨⟨wr, Below.refl _ _⟩⟩
      replace x0 := inv_cell x0
      replace x1 := inv_cell x1
      by_cases hc : f y x < 0
      · have HD := hide (show f y (U.getD (h - a) 0) < 0 by rw [← HYY.out]; exact hc)
        obtain ⟨r, hr⟩ : ∃ r, r = f y x := ⟨_, rfl⟩
        rw [← hr] at hc HCC
        clear hr
        go_wp2_with fail
        refine wp_region_inv (I := fun W => Below wr.heap.size wr W) (by kernel_rfl) (by kernel_rfl) (Below.refl _ _).drew ?_
        repeat (go_big_quiet_step ((refine inv_call (inv_closed wr) (HCC.out _ (InW.ok _)))))
        refine wpQuiet_nil ?_
        rintro _ ⟨⟨w9, h9⟩, rfl⟩
        have H9 := hide h9
        clear x0 x1 hne h9
        go_wp2
        go_roundw
        case rel => exact ⟨i, h, by omega, by omega, by omega, rfl, rfl, hide ⟨hH.out.1, fun _ => HD.out⟩, HX2.out.below H9.out, grown_of_below hg H9.out⟩
        case measure => simp [intOf]; omega
      · have HD := hide (show 0 ≤ f y (U.getD (h - a) 0) by rw [← HYY.out]; omega)
        obtain ⟨r, hr⟩ : ∃ r, r = f y x := ⟨_, rfl⟩
        rw [← hr] at hc HCC
        clear hr
        have hd0 : decide (r < 0) = false := decide_eq_false hc
        replace hc : 0 ≤ r := by omega
        go_wp2_with fail
        refine wp_region_inv (I := fun W => Below wr.heap.size wr W) (by kernel_rfl) (by kernel_rfl) (Below.refl _ _).drew ?_
        repeat (go_big_quiet_step ((refine inv_call (inv_closed wr) (HCC.out _ (InW.ok _)))))
        refine wpQuiet_nil ?_
        rintro _ ⟨⟨w9, h9⟩, rfl⟩
        have H9 := hide h9
        clear x0 x1 hne h9
        go_wp2
        go_roundw
        case rel => exact ⟨h + 1, j, by omega, by omega, by omega, by go_num, rfl, hide ⟨fun _ => by rw [show h + 1 - 1 - a = h - a by omega]; exact HD.out, hH.out.2⟩, HX2.out.below H9.out, grown_of_below hg H9.out⟩
        case measure => simp [intOf]; omega
    · obtain rfl : i = j := by omega
      have HX2 := hide hx
      have HG2 := hide hg
      have HOL := hide (one_right (k := i - a) hT HUR.out HC.out (by have := HU.out; omega) (fun h => by rw [show i - a - 1 = i - 1 - a by omega]; exact Int.not_lt.2 (hH.out.1 (by omega))) (fun h => hH.out.2 (by have := HU.out; omega)))
      clear hx hg hH
      obtain ⟨wo, rfl⟩ : ∃ wo : World, wo = wr := ⟨_, rfl⟩
      go_wp2
      go_loopw [17] (fun vk wq => ∃ k : Nat, i ≤ k ∧ k ≤ m ∧ vk = .int .i64 k ∧ IRow wq g (A ++ (U.take (k - a) ++ (y :: (U.drop (k - a) ++ B)))) ∧ w.grownBy wq (some g)) (fun vk _ => (intOf vk).toNat)
      case atStart => exact ⟨m, by omega, by omega, rfl, by
        have h := HX2.out
        rw [List.take_of_length_le (by have := HU.out; omega), List.drop_of_length_le (by have := HU.out; omega)]
        simpa using h, HG2.out⟩
      case round =>
        obtain ⟨k, k1, k2, rfl, hx, hg⟩ := hrel
        by_cases hkt : i < k
        · obtain ⟨k, rfl⟩ : ∃ k', k = k' + 1 := ⟨k - 1, by omega⟩
          have hkl : k - a < U.length := by have := HU.out; omega
          have hlen : (A ++ (U.take (k + 1 - a) ++ (y :: (U.drop (k + 1 - a) ++ B)))).length = n := by
            simp; have := HA.out; have := HU.out; have := HB.out; have := HM.out; omega
          have HS := hide (show swap2 (A ++ (U.take (k + 1 - a) ++ (y :: (U.drop (k + 1 - a) ++ B)))) (k + 1) k = A ++ (U.take (k - a) ++ (y :: (U.drop (k - a) ++ B))) by
            rw [drop_one hkl, show k + 1 - a = k - a + 1 by omega, take_one hkl]
            have h := swap2_back (A ++ U.take (k - a)) (U.drop (k - a + 1) ++ B) (U.getD (k - a) 0) y (i := k) (by simp; have := HA.out; omega)
            simpa using h)
          generalize A ++ (U.take (k + 1 - a) ++ (y :: (U.drop (k + 1 - a) ++ B))) = ys at *
          have HS2 := hide (show swap2 ys (k + 1) k = (ys.set (k + 1) (ys.getD k 0)).set k (ys.getD (k + 1) 0) from rfl)
          have x1 := hx.cell (j := k + 1) (by omega)
          have x0 := hx.cell (j := k) (by omega)
          have f1 := hx.frozen (k + 1)
          have f0 := hx.frozen k
          have HX3 := hide hx
          have i0 : (0 : Int) ≤ (k : Int) := by omega
          have i1 : (k : Int) < (n : Int) := by omega
          have i2 : (0 : Int) ≤ (k : Int) + 1 := by omega
          have i3 : (k : Int) + 1 < (n : Int) := by omega
          have i4 : (i : Int) < (k : Int) + 1 := by omega
          generalize ys.getD (k + 1) 0 = u at *
          generalize ys.getD k 0 = z at *
          clear hx hlen
          go_wp2
          go_region
          go_wp2
          go_roundw
          case rel => exact ⟨k, by omega, by omega, by go_num, by rw [← HS.out, HS2.out]; exact (HX3.out.set_ (k + 1) z).set_ k u, grown_drewN (grown_set (grown_set hg (.inl rfl) _) (.inl rfl) _) 1⟩
          case measure => simp [intOf]; try omega
        · obtain rfl : i = k := by omega
          have HX3 := hide hx
          clear hx
          go_wp2
          go_end0
          exact ⟨_, rfl, HOL.out.2, HOL.out.1, by have h := HX3.out; simpa using h, hg⟩

end Go.Proofs.Ytfcmgmcidngjeaa
