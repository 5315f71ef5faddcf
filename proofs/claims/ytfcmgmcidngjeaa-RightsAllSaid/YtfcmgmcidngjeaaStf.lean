/-
  The contract of slices.SortStableFunc over an own row of integers, whatever its length: the result is made of the same elements, and is in order. Condition: the comparing function answers f, writes nothing that was there, and fits a transitive relation.
-/
import Derived.Test.YtfcmgmcidngjeaaProg
import Derived.Test.YtfcmgmcidngjeaaSymm
namespace Go.Proofs.Ytfcmgmcidngjeaa
open Go.RowKit

theorem merges_to (w0 : World) (g : Nat) (kc : FuncId) (cap : Array Value) (f : Int → Int → Int) (ok : Int → Prop) (hf : CmpSays w0 g kc cap f ok) (R : Int → Int → Prop) (hT : ∀ x y z, R x y → R y z → R x z) (n c : Nat) (hn : n ≤ 1048576) : ∀ N : Nat, MergesTo w0 g kc cap f ok R n c N
  | 0 => fun a m b ia im ib _ _ _ A U V B _ _ _ _ _ _ h => absurd h (Nat.not_lt_zero _)
  | N + 1 => by
    intro a m b ia im ib hia him hib A U V B hA hU hV hB hU0 hV0 hN hoU hoV hUR hVR hC w hw hx
    rcases Nat.lt_or_ge 1 U.length with h1 | h1
    · rcases Nat.lt_or_ge 1 V.length with h2 | h2
      · exact sym_mid w0 g kc cap f ok hf R hT n c hn N (merges_to w0 g kc cap f ok hf R hT n c hn N) a m b ia im ib hia him hib A U V B hA hU hV hB h1 h2 (by omega) hoU hoV hUR hVR hC w hw hx
      · obtain ⟨y, rfl⟩ : ∃ y, V = [y] := List.length_eq_one_iff.1 (by omega)
        have hb : b = m + 1 := by simpa using hV.symm
        subst hb
        exact sym_right w0 g kc cap f ok hf R hT n c hn a m ia im ib hia him hib A U y B hA hU hB h1 hoU (hoV y (by simp)) hUR (fun x hx => hC x hx y (by simp)) w hw hx
    · obtain ⟨x, rfl⟩ : ∃ x, U = [x] := List.length_eq_one_iff.1 (by omega)
      have hm : m = a + 1 := by simpa using hU.symm
      subst hm
      exact sym_left w0 g kc cap f ok hf R hT n c hn a b ia im ib hia him hib A x V B hA hV hB hV0 (hoU x (by simp)) hoV hVR (fun y hy => hC x (by simp) y hy) w hw hx
def StablePost (R : Int → Int → Prop) (g : Nat) (xs : List Int) (w : World) (e : Ending) (w' : World) : Prop := ∃ zs : List Int, e = .returned (.tuple #[]) ∧ zs.Perm xs ∧ zs.Pairwise R ∧ IRow w' g zs ∧ w.grownBy w' (some g)
theorem perm_ok {ok : Int → Prop} {xs zs : List Int} (h : zs.Perm xs) (hx : ∀ x ∈ xs, ok x) : ∀ x ∈ zs, ok x := fun x hz => hx x (h.mem_iff.1 hz)
theorem flat_app (D : List (List Int)) (e : List Int) : (D ++ [e]).flatten = D.flatten ++ e := by simp
theorem flat_app2 (D T : List (List Int)) (e1 e2 : List Int) : (D ++ e1 :: e2 :: T).flatten = D.flatten ++ (e1 ++ (e2 ++ T.flatten)) := by simp
theorem fullB_head {bs : Nat} {e1 e2 : List Int} {t : List (List Int)} (h : FullB bs (e1 :: e2 :: t)) : e1.length = bs ∧ 0 < e2.length ∧ e2.length ≤ bs ∧ (t ≠ [] → e2.length = bs) ∧ FullB bs t := by
  obtain ⟨h1, h2, h3, h4, h5, h6, h7⟩ := h
  refine ⟨h3 (by simp), h4, ?_, h6, h7⟩
  by_cases ht : t = []
  · exact h5 ht
  · rw [h6 ht]; exact Nat.le_refl _
set_option maxHeartbeats 3200000 in
set_option maxRecDepth 20000 in
theorem stable_any (w0 : World) (g : Nat) (kc : FuncId) (cap : Array Value) (f : Int → Int → Int) (ok : Int → Prop) (hf : CmpSays w0 g kc cap f ok) (R : Int → Int → Prop) (hT : ∀ x y z, R x y → R y z → R x z) (n c : Nat) (hn : n ≤ 1048576) (xs : List Int) (hl : xs.length = n) (hok : ∀ x ∈ xs, ok x) (hp : xs.Pairwise (Fits f R)) (w : World) (hw : w0.grownBy w (some g)) (hx : IRow w g xs) :
    Calls Try.prog 60 #[.slice (some ⟨g, 0, none⟩) n c, .int .i64 n, .func (.func kc) #[] cap] w (StablePost R g xs w) := by
  have HI := hide (fun (a b : Nat) (hab : b ≤ n) (han : a ≤ n) (ys : List Int) (hly : ys.length = n) (hoky : ∀ x ∈ ys, ok x) (W : World) (hW : w0.grownBy W (some g)) (hX : IRow W g ys) => ins_any w0 g kc cap f ok hf n c a b hab han hn ys hly hoky W hW hX)
  have HM := hide (fun N => merges_to w0 g kc cap f ok hf R hT n c hn N)
  have HX := hide hx
  have HL := hide hl
  have HOK := hide hok
  have HP := hide hp
  clear hx hl hok hp hf
  go_enter Try.func60, Try.ntmps60
  go_wp2
  go_loopw [7, 8] (fun va vb wr => ∃ (a : Nat) (D : List (List Int)), a ≤ n ∧ va = .int .i64 a ∧ vb = .int .i64 (a + 20 : Nat) ∧ Hid (BlkOk f R D ∧ (∀ d ∈ D, d.length = 20) ∧ D.flatten.length = a ∧ (∀ x ∈ D.flatten, ∀ y ∈ xs.drop a, Fits f R x y) ∧ D.flatten.Perm (xs.take a)) ∧ IRow wr g (D.flatten ++ xs.drop a) ∧ w.grownBy wr (some g)) (fun va _ _ => n - (intOf va).toNat)
  case atStart => exact ⟨0, [], by omega, rfl, rfl, hide ⟨⟨by simp, List.Pairwise.nil⟩, by simp, rfl, by simp, by simp⟩, HX.out, grown_refl _ _⟩
  case round =>
    obtain ⟨a, D, ha, rfl, rfl, hD, hx, hg⟩ := hrel
    have hlen : (D.flatten ++ xs.drop a).length = n := by
      have h1 := hD.out.2.2.1
      have h2 := HL.out
      rw [List.length_append, List.length_drop]; omega
    have HLN := hide hlen
    have HOA := hide (show ∀ x ∈ D.flatten ++ xs.drop a, ok x by
      intro x hx
      rcases List.mem_append.1 hx with h | h
      · exact HOK.out x (List.mem_of_mem_take (hD.out.2.2.2.2.mem_iff.1 h))
      · exact HOK.out x (List.mem_of_mem_drop h))
    have HX2 := hide hx
    clear hx hlen
    by_cases hlt : a + 20 ≤ n
    · obtain ⟨r, r1, r2, r3, r4, r5⟩ := blk_step (k := 19) hT HP.out hD.out.1 hD.out.2.2.2.1 (by have := HL.out; omega) hD.out.2.2.1 hD.out.2.2.2.2
      have R1 := hide r1
      have HD2 := hide (show BlkOk f R (D ++ [r]) ∧ (∀ d ∈ D ++ [r], d.length = 20) ∧ (D ++ [r]).flatten.length = a + 20 ∧ (∀ x ∈ (D ++ [r]).flatten, ∀ y ∈ xs.drop (a + 20), Fits f R x y) ∧ (D ++ [r]).flatten.Perm (xs.take (a + 20)) from
        ⟨r3, fun d hd => by
          rcases List.mem_append.1 hd with h | h
          · exact hD.out.2.1 d h
          · rw [List.mem_singleton] at h; subst h; exact r2, by rw [flat_app, List.length_append, hD.out.2.2.1, r2], r4, r5⟩)
      have hlt2 : ((a + 20 : Nat) : Int) ≤ (n : Int) := by omega
      clear r1 r2 r3 r4 r5
      go_wp2_with fail
      refine (HI.out a (a + 20) (by omega) (by omega) _ HLN.out HOA.out _ (grown_trans hw hg) HX2.out).mono ?_
      rintro e w5 ⟨rfl, hx5, hg5⟩
      rw [show a + 20 - (a + 1) = 19 by omega, R1.out] at hx5
      have HX5 := hide hx5
      have HG5 := hide (grown_trans hg hg5)
      clear hx5 hg5
      go_wp2
      go_roundw
      case rel => exact ⟨a + 20, D ++ [r], by omega, rfl, by go_num, hide HD2.out, HX5.out, HG5.out⟩
      case measure => simp [intOf]; omega
    · have han : a ≤ n := ha
      go_wp2_with fail
      refine (HI.out a n (Nat.le_refl _) ha _ HLN.out HOA.out _ (grown_trans hw hg) HX2.out).mono ?_
      rintro e w5 ⟨rfl, hx5, hg5⟩
      obtain ⟨L, hL, hx6⟩ : ∃ L : List (List Int), (BlkOk f R L ∧ FullB 20 L ∧ L.flatten.Perm xs) ∧ IRow w5 g L.flatten := by
        by_cases han2 : a < n
        · obtain ⟨r, r1, r2, r3, r4, r5⟩ := blk_step (k := n - (a + 1)) hT HP.out hD.out.1 hD.out.2.2.2.1 (by have := HL.out; omega) hD.out.2.2.1 hD.out.2.2.2.2
          rw [show a + (n - (a + 1)) + 1 = n by omega] at r1 r5
          rw [List.take_of_length_le (by have := HL.out; omega)] at r5
          rw [r1, List.drop_of_length_le (by have := HL.out; omega), List.append_nil] at hx5
          exact ⟨D ++ [r], ⟨r3, fullB_snoc (by omega) hD.out.2.1 (by omega) (by omega), r5⟩, hx5⟩
        · have e1 : a = n := by omega
          rw [e1, show n - (n + 1) = 0 by omega, List.drop_of_length_le (by have := HL.out; omega), List.append_nil] at hx5
          have h5 := hD.out.2.2.2.2
          rw [e1, List.take_of_length_le (by have := HL.out; omega)] at h5
          exact ⟨D, ⟨hD.out.1, fullB_of (by omega) hD.out.2.1, h5⟩, hx5⟩
      have HLL := hide hL
      have HX6 := hide hx6
      have HG6 := hide (grown_trans hg hg5)
      clear hx5 hg5 hg hL hx6 HX2 HLN HOA hD
      go_wp2
      go_loopw [6] (fun vb wr => ∃ (bs : Nat) (L : List (List Int)), 20 ≤ bs ∧ bs ≤ 2 * n + 40 ∧ vb = .int .i64 bs ∧ Hid (BlkOk f R L ∧ FullB bs L ∧ L.flatten.Perm xs) ∧ IRow wr g L.flatten ∧ w.grownBy wr (some g)) (fun vb _ => n - (intOf vb).toNat)
      case atStart => exact ⟨20, L, by omega, by omega, rfl, HLL, HX6.out, HG6.out⟩
      case round =>
        obtain ⟨bs, L, hb0, hb1, rfl, hL, hx, hg⟩ := hrel
        have HX7 := hide hx
        have HG7 := hide hg
        have HLn := hide (show L.flatten.length = n by rw [hL.out.2.2.length_eq, HL.out])
        clear hx hg
        by_cases hlt3 : bs < n
        · go_wp2
          go_loopw [7, 8] (fun va vb wq => ∃ (a : Nat) (D E : List (List Int)), a ≤ n ∧ va = .int .i64 a ∧ vb = .int .i64 ((a : Int) + 2 * (bs : Int)) ∧ Hid ((∀ d ∈ D, d.length = 2 * bs) ∧ FullB bs E ∧ BlkOk f R (D ++ E) ∧ D.flatten.length = a ∧ (D ++ E).flatten.Perm xs) ∧ IRow wq g (D ++ E).flatten ∧ w.grownBy wq (some g)) (fun va _ _ => n - (intOf va).toNat)
          case atStart => exact ⟨0, [], L, by omega, rfl, by rw [show ((0 : Nat) : Int) + 2 * (bs : Int) = 2 * (bs : Int) by omega], hide ⟨by simp, hL.out.2.1, hL.out.1, rfl, hL.out.2.2⟩, HX7.out, HG7.out⟩
          case round =>
            obtain ⟨a, D, E, han, rfl, rfl, hD, hx, hg⟩ := hrel
            have HX8 := hide hx
            have HG8 := hide hg
            clear hx hg
            have hEl : a + E.flatten.length = n := by
              have h1 := hD.out.2.2.2.1
              have h2 := hD.out.2.2.2.2.length_eq
              have h3 := HL.out
              rw [List.flatten_append, List.length_append] at h2
              omega
            by_cases hb2 : a + 2 * bs ≤ n
            · obtain ⟨e1, e2, t, hE⟩ : ∃ e1 e2 t, E = e1 :: e2 :: t := by
                have h4 := hD.out.2.1
                match E, h4, hEl with
                | [], _, h => simp at h; omega
                | [e], h4, h =>
                  have := h4.2.1 rfl
                  simp at h; omega
                | e1 :: e2 :: t, _, _ => exact ⟨e1, e2, t, rfl⟩
              rw [hE] at hD HX8 hEl
              have hD2 := hD.out
              obtain ⟨g1, g2, g3, g4, g5⟩ := fullB_head hD2.2.1
              have g6 : e2.length = bs := by
                by_cases ht : t = []
                · rw [ht] at hEl; simp at hEl; omega
                · exact g4 ht
              have hbe := hD2.2.2.1
              have hpok := perm_ok hD2.2.2.2.2 HOK.out
              have hfl := flat_app2 D t e1 e2
              rw [hfl] at hpok
              have HCR := hide (show ∀ x ∈ e1, ∀ y ∈ e2, Fits f R x y by
                have h := hbe.2
                rw [List.pairwise_append, List.pairwise_cons] at h
                exact h.2.1.1 e2 (by simp))
              have HE1 := hide (hbe.1 e1 (by simp))
              have HE2 := hide (hbe.1 e2 (by simp))
              have HO1 := hide (fun x (hx : x ∈ e1) => hpok x (by simp [hx]))
              have HO2 := hide (fun x (hx : x ∈ e2) => hpok x (by simp [hx]))
              have HX9 := hide (show IRow wr g (D.flatten ++ (e1 ++ (e2 ++ t.flatten))) by rw [← hfl]; exact HX8.out)
              have HDD := hide hD2
              have HGG := hide (show e1.length = bs ∧ e2.length = bs ∧ FullB bs t ∧ a + 2 * bs + t.flatten.length = n from ⟨g1, g6, g5, by rw [List.flatten_cons, List.flatten_cons, List.length_append, List.length_append] at hEl; omega⟩)
              have hb3 : (a : Int) + 2 * (bs : Int) ≤ (n : Int) := by omega
              clear hD2 g1 g2 g3 g4 g5 g6 hbe hpok hfl hE hEl
              go_wp2_with fail
              refine (HM.out (bs + bs + 1) a (a + bs) (a + 2 * bs) _ _ _ rfl (by omega) (by omega) D.flatten e1 e2 t.flatten HDD.out.2.2.2.1 (by rw [HGG.out.1]) (by rw [HGG.out.2.1]; omega) HGG.out.2.2.2 (by rw [HGG.out.1]; omega) (by rw [HGG.out.2.1]; omega) (by rw [HGG.out.1, HGG.out.2.1]; omega) HO1.out HO2.out HE1.out HE2.out HCR.out _ (grown_trans hw HG8.out) HX9.out).mono ?_
              rintro ex wz ⟨Z, rfl, z1, z2, z3, z4⟩
              have HZ := hide (show (∀ d ∈ D ++ [Z], d.length = 2 * bs) ∧ FullB bs t ∧ BlkOk f R ((D ++ [Z]) ++ t) ∧ (D ++ [Z]).flatten.length = a + 2 * bs ∧ ((D ++ [Z]) ++ t).flatten.Perm xs by
                have zl : Z.length = 2 * bs := by rw [z1.length_eq, List.length_append, HGG.out.1, HGG.out.2.1]; omega
                refine ⟨fun d hd => ?_, HGG.out.2.2.1, blkOk_merge HDD.out.2.2.1 z1 z2, by rw [flat_app, List.length_append, HDD.out.2.2.2.1, zl], ?_⟩
                · rcases List.mem_append.1 hd with h | h
                  · exact HDD.out.1 d h
                  · rw [List.mem_singleton] at h; subst h; exact zl
                · refine List.Perm.trans ?_ HDD.out.2.2.2.2
                  rw [flat_app2, List.flatten_append, flat_app, List.append_assoc]
                  refine List.Perm.append_left _ ?_
                  rw [← List.append_assoc e1]
                  exact z1.append_right _)
              have HXZ := hide (show IRow wz g ((D ++ [Z]) ++ t).flatten by rw [List.flatten_append, flat_app, List.append_assoc]; exact z3)
              have HGZ := hide (grown_trans HG8.out z4)
              clear z1 z2 z3 z4
              go_wp2
              go_roundw
              case rel => exact ⟨a + 2 * bs, D ++ [Z], t, by omega, by go_num, by rw [show ((a + 2 * bs : Nat) : Int) + 2 * (bs : Int) = (a : Int) + 2 * (bs : Int) + 2 * (bs : Int) by omega], HZ, HXZ.out, HGZ.out⟩
              case measure => simp [intOf]; omega
            · have hb3 : ¬ (a : Int) + 2 * (bs : Int) ≤ (n : Int) := by omega
              by_cases hm : a + bs < n
              · obtain ⟨e1, e2, hE⟩ : ∃ e1 e2, E = [e1, e2] := by
                  have h4 := hD.out.2.1
                  match E, h4, hEl with
                  | [], _, h => simp at h; omega
                  | [e], h4, h =>
                    have := h4.2.1 rfl
                    simp at h; omega
                  | [e1, e2], _, _ => exact ⟨e1, e2, rfl⟩
                  | e1 :: e2 :: e3 :: t, h4, h =>
                    obtain ⟨k1, k2, k3, k4, k5⟩ := fullB_head h4
                    have := k4 (by simp)
                    simp at h; omega
                rw [hE] at hD HX8 hEl
                have hD2 := hD.out
                obtain ⟨g1, g2, g3, g4, g5⟩ := fullB_head hD2.2.1
                have hbe := hD2.2.2.1
                have hpok := perm_ok hD2.2.2.2.2 HOK.out
                have hfl := flat_app2 D [] e1 e2
                rw [hfl] at hpok
                have HCR := hide (show ∀ x ∈ e1, ∀ y ∈ e2, Fits f R x y by
                  have h := hbe.2
                  rw [List.pairwise_append, List.pairwise_cons] at h
                  exact h.2.1.1 e2 (by simp))
                have HE1 := hide (hbe.1 e1 (by simp))
                have HE2 := hide (hbe.1 e2 (by simp))
                have HO1 := hide (fun x (hx : x ∈ e1) => hpok x (by simp [hx]))
                have HO2 := hide (fun x (hx : x ∈ e2) => hpok x (by simp [hx]))
                have HX9 := hide (show IRow wr g (D.flatten ++ (e1 ++ (e2 ++ []))) by have h := HX8.out; rw [hfl] at h; exact h)
                have HDD := hide hD2
                have HGG := hide (show e1.length = bs ∧ 0 < e2.length ∧ e2.length ≤ bs ∧ a + bs + e2.length = n from ⟨g1, g2, g3, by simp at hEl; omega⟩)
                have hmi : (a : Int) + (bs : Int) < (n : Int) := by omega
                clear hD2 g1 g2 g3 g4 g5 hbe hpok hfl hE hEl
                go_wp2_with fail
                refine (HM.out (bs + bs + 1) a (a + bs) n _ _ _ rfl (by omega) rfl D.flatten e1 e2 [] HDD.out.2.2.2.1 (by rw [HGG.out.1]) HGG.out.2.2.2 rfl (by rw [HGG.out.1]; omega) HGG.out.2.1 (by rw [HGG.out.1]; have := HGG.out.2.2.1; omega) HO1.out HO2.out HE1.out HE2.out HCR.out _ (grown_trans hw HG8.out) HX9.out).mono ?_
                rintro ex wz ⟨Z, rfl, z1, z2, z3, z4⟩
                have HZ := hide (show BlkOk f R (D ++ [Z]) ∧ FullB (bs * 2) (D ++ [Z]) ∧ (D ++ [Z]).flatten.Perm xs by
                  have zl : Z.length = bs + e2.length := by rw [z1.length_eq, List.length_append, HGG.out.1]
                  have h := blkOk_merge HDD.out.2.2.1 z1 z2
                  rw [List.append_nil] at h
                  refine ⟨h, fullB_snoc (by omega) (fun d hd => by rw [HDD.out.1 d hd]; omega) (by omega) (by have := HGG.out.2.2.1; omega), ?_⟩
                  refine List.Perm.trans ?_ HDD.out.2.2.2.2
                  rw [flat_app2, flat_app]
                  simp only [List.flatten_nil, List.append_nil]
                  exact z1.append_left _)
                have HXZ := hide (show IRow wz g (D ++ [Z]).flatten by rw [flat_app]; simpa using z3)
                have HGZ := hide (grown_trans HG8.out z4)
                clear z1 z2 z3 z4
                go_wp2
                go_roundw
                case rel => exact ⟨bs * 2, D ++ [Z], by omega, by omega, by go_num, HZ, HXZ.out, HGZ.out⟩
                case measure => simp [intOf]; omega
              · have HZ := hide (show BlkOk f R (D ++ E) ∧ FullB (bs * 2) (D ++ E) ∧ (D ++ E).flatten.Perm xs by
                  refine ⟨hD.out.2.2.1, ?_, hD.out.2.2.2.2⟩
                  have h4 := hD.out.2.1
                  have hdl : ∀ d ∈ D, d.length = bs * 2 := fun d hd => by rw [hD.out.1 d hd]; omega
                  clear hD HX8
                  match E, h4, hEl with
                  | [], _, _ => rw [List.append_nil]; exact fullB_of (by omega) hdl
                  | [e], h4, _ => exact fullB_snoc (by omega) hdl h4.1 (by have := h4.2.1 rfl; omega)
                  | e1 :: e2 :: t, h4, h =>
                    obtain ⟨k1, k2, k3, k4, k5⟩ := fullB_head h4
                    simp at h; omega)
                have hmi : ¬ (a : Int) + (bs : Int) < (n : Int) := by omega
                clear hEl
                go_wp2
                go_roundw
                case rel => exact ⟨bs * 2, D ++ E, by omega, by omega, by go_num, HZ, HX8.out, HG8.out⟩
                case measure => simp [intOf]; omega
        · have HS := hide (show L.flatten.Pairwise R by
            rcases fullB_one hL.out.2.1 (by rw [HLn.out]; omega) with h | ⟨e, h⟩
            · rw [h]; exact List.Pairwise.nil
            · rw [h]
              have := hL.out.1.1 e (by rw [h]; simp)
              simpa using this)
          go_wp2
          go_end0
          exact ⟨L.flatten, rfl, hL.out.2.2, HS.out, HX7.out, HG7.out⟩
/-- The same through SortStableFunc. -/
theorem sortstable_any (w0 : World) (g : Nat) (kc : FuncId) (cap : Array Value) (f : Int → Int → Int) (ok : Int → Prop) (hf : CmpSays w0 g kc cap f ok) (R : Int → Int → Prop) (hT : ∀ x y z, R x y → R y z → R x z) (n c : Nat) (hn : n ≤ 1048576) (xs : List Int) (hl : xs.length = n) (hok : ∀ x ∈ xs, ok x) (hp : xs.Pairwise (Fits f R)) (w : World) (hw : w0.grownBy w (some g)) (hx : IRow w g xs) :
    Calls Try.prog 46 #[.slice (some ⟨g, 0, none⟩) n c, .func (.func kc) #[] cap] w (StablePost R g xs w) := by
  have H := hide (stable_any w0 g kc cap f ok hf R hT n c hn xs hl hok hp w hw hx)
  clear hf hl hok hx hp
  go_enter Try.func46, Try.ntmps46
  go_wp2_with fail
  refine H.out.mono ?_
  rintro e w1 ⟨zs, rfl, h1, h2, h3, h4⟩
  have H1 := hide h1
  have H2 := hide h2
  have H3 := hide h3
  have H4 := hide h4
  clear h1 h2 h3 h4
  go_wp2
  go_end0
  exact ⟨zs, rfl, H1.out, H2.out, H3.out, H4.out⟩
end Go.Proofs.Ytfcmgmcidngjeaa
