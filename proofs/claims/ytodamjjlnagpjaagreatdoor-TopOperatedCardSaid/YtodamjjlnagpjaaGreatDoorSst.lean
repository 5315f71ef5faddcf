/-
  The contract of slices.SortStableFunc over an own row of integers, whatever its length: the result is made of the same elements, and is in order. Condition: the comparing function answers f, writes nothing that was there, and fits a transitive relation.
  The contract of Order: the numbers of at most 1000 conditions, sorted stably by rank. Condition: the list can be read.
  The contract of slices.SortStableFunc at no more than 20 integers of an own row. Condition: the comparing function answers f and writes nothing that was there.
-/
import Derived.Test.YtodamjjlnagpjaaGreatDoorProg
import Derived.Test.YtodamjjlnagpjaaGreatDoorSymm
import Derived.Test.YtodamjjlnagpjaaGreatDoorSrt
import Derived.Test.YtodamjjlnagpjaaGreatDoorTpd
import Derived.Laws.OwnMore
namespace Go.Proofs.YtodamjjlnagpjaaGreatDoor
open Go.RowKit

theorem merges_to (w0 : World) (g : Nat) (kc : FuncId) (cap : Array Value) (f : Int → Int → Int) (ok : Int → Prop) (hf : CmpSays w0 g kc cap f ok) (R : Int → Int → Prop) (hT : ∀ x y z, R x y → R y z → R x z) (n c : Nat) (hn : n ≤ 1048576) : ∀ N : Nat, MergesTo w0 g kc cap f ok R n c N
  | 0 => fun a m b ia im ib _ _ _ A U V B _ _ _ _ _ _ h => absurd h (Nat.not_lt_zero _)
  | N + 1 => by
    intro a m b ia im ib hia him hib A U V B hA hU hV hB hU0 hV0 hN hoU hoV hUR hVR hC w hw hx
    rcases Nat.lt_or_ge 1 U.length with h1 | h1
    · rcases Nat.lt_or_ge 1 V.length with h2 | h2
      · exact sym_mid w0 g kc cap f ok hf R hT n c hn N (merges_to w0 g kc cap f ok hf R hT n c hn N) a m b ia im ib hia him hib A U V B hA hU hV hB h1 h2 (by omega) hoU hoV hUR hVR hC w hw hx
      · obtain ⟨y, rfl⟩ : ∃ y, V = [y] := List.length_eq_one_iff.1 (by omega)
        have hb : b = m + 1 := by simpa using hV.symm
        subst hb
        exact sym_right w0 g kc cap f ok hf R hT n c hn a m ia im ib hia him hib A U y B hA hU hB h1 hoU (hoV y (by simp)) hUR (fun x hx => hC x hx y (by simp)) w hw hx
    · obtain ⟨x, rfl⟩ : ∃ x, U = [x] := List.length_eq_one_iff.1 (by omega)
      have hm : m = a + 1 := by simpa using hU.symm
      subst hm
      exact sym_left w0 g kc cap f ok hf R hT n c hn a b ia im ib hia him hib A x V B hA hV hB hV0 (hoU x (by simp)) hoV hVR (fun y hy => hC x (by simp) y hy) w hw hx
def StablePost (R : Int → Int → Prop) (g : Nat) (xs : List Int) (w : World) (e : Ending) (w' : World) : Prop := ∃ zs : List Int, e = .returned (.tuple #[]) ∧ zs.Perm xs ∧ zs.Pairwise R ∧ IRow w' g zs ∧ w.grownBy w' (some g)
theorem perm_ok {ok : Int → Prop} {xs zs : List Int} (h : zs.Perm xs) (hx : ∀ x ∈ xs, ok x) : ∀ x ∈ zs, ok x := fun x hz => hx x (h.mem_iff.1 hz)
theorem flat_app (D : List (List Int)) (e : List Int) : (D ++ [e]).flatten = D.flatten ++ e := by simp
theorem flat_app2 (D T : List (List Int)) (e1 e2 : List Int) : (D ++ e1 :: e2 :: T).flatten = D.flatten ++ (e1 ++ (e2 ++ T.flatten)) := by simp
theorem fullB_head {bs : Nat} {e1 e2 : List Int} {t : List (List Int)} (h : FullB bs (e1 :: e2 :: t)) : e1.length = bs ∧ 0 < e2.length ∧ e2.length ≤ bs ∧ (t ≠ [] → e2.length = bs) ∧ FullB bs t := by
  obtain ⟨h1, h2, h3, h4, h5, h6, h7⟩ := h
  refine ⟨h3 (by simp), h4, ?_, h6, h7⟩
  by_cases ht : t = []
  · exact h5 ht
  · rw [h6 ht]; exact Nat.le_refl _
set_option maxHeartbeats 3200000 in
set_option maxRecDepth 20000 in
theorem stable_any (w0 : World) (g : Nat) (kc : FuncId) (cap : Array Value) (f : Int → Int → Int) (ok : Int → Prop) (hf : CmpSays w0 g kc cap f ok) (R : Int → Int → Prop) (hT : ∀ x y z, R x y → R y z → R x z) (n c : Nat) (hn : n ≤ 1048576) (xs : List Int) (hl : xs.length = n) (hok : ∀ x ∈ xs, ok x) (hp : xs.Pairwise (Fits f R)) (w : World) (hw : w0.grownBy w (some g)) (hx : IRow w g xs) :
    Calls Tryz.prog 121 #[.slice (some ⟨g, 0, none⟩) n c, .int .i64 n, .func (.func kc) #[] cap] w (StablePost R g xs w) := by
  have HI := hide (fun (a b : Nat) (hab : b ≤ n) (han : a ≤ n) (ys : List Int) (hly : ys.length = n) (hoky : ∀ x ∈ ys, ok x) (W : World) (hW : w0.grownBy W (some g)) (hX : IRow W g ys) => ins_any w0 g kc cap f ok hf n c a b hab han hn ys hly hoky W hW hX)
  have HM := hide (fun N => merges_to w0 g kc cap f ok hf R hT n c hn N)
  have HX := hide hx
  have HL := hide hl
  have HOK := hide hok
  have HP := hide hp
  clear hx hl hok hp hf
  go_enter Tryz.func121, Tryz.ntmps121
  go_wp2
  go_loopw [7, 8] (fun va vb wr => ∃ (a : Nat) (D : List (List Int)), a ≤ n ∧ va = .int .i64 a ∧ vb = .int .i64 (a + 20 : Nat) ∧ Hid (BlkOk f R D ∧ (∀ d ∈ D, d.length = 20) ∧ D.flatten.length = a ∧ (∀ x ∈ D.flatten, ∀ y ∈ xs.drop a, Fits f R x y) ∧ D.flatten.Perm (xs.take a)) ∧ IRow wr g (D.flatten ++ xs.drop a) ∧ w.grownBy wr (some g)) (fun va _ _ => n - (intOf va).toNat)
  case atStart => exact ⟨0, [], by omega, rfl, rfl, hide ⟨⟨by simp, List.Pairwise.nil⟩, by simp, rfl, by simp, by simp⟩, HX.out, grown_refl _ _⟩
  case round =>
    obtain ⟨a, D, ha, rfl, rfl, hD, hx, hg⟩ := hrel
    have hlen : (D.flatten ++ xs.drop a).length = n := by
      have h1 := hD.out.2.2.1
      have h2 := HL.out
      rw [List.length_append, List.length_drop]; omega
    have HLN := hide hlen
    have HOA := hide (show ∀ x ∈ D.flatten ++ xs.drop a, ok x by
      intro x hx
      rcases List.mem_append.1 hx with h | h
      · exact HOK.out x (List.mem_of_mem_take (hD.out.2.2.2.2.mem_iff.1 h))
      · exact HOK.out x (List.mem_of_mem_drop h))
    have HX2 := hide hx
    clear hx hlen
    by_cases hlt : a + 20 ≤ n
    · obtain ⟨r, r1, r2, r3, r4, r5⟩ := blk_step (k := 19) hT HP.out hD.out.1 hD.out.2.2.2.1 (by have := HL.out; omega) hD.out.2.2.1 hD.out.2.2.2.2
      have R1 := hide r1
      have HD2 := hide (show BlkOk f R (D ++ [r]) ∧ (∀ d ∈ D ++ [r], d.length = 20) ∧ (D ++ [r]).flatten.length = a + 20 ∧ (∀ x ∈ (D ++ [r]).flatten, ∀ y ∈ xs.drop (a + 20), Fits f R x y) ∧ (D ++ [r]).flatten.Perm (xs.take (a + 20)) from
        ⟨r3, fun d hd => by
          rcases List.mem_append.1 hd with h | h
          · exact hD.out.2.1 d h
          · rw [List.mem_singleton] at h; subst h; exact r2, by rw [flat_app, List.length_append, hD.out.2.2.1, r2], r4, r5⟩)
      have hlt2 : ((a + 20 : Nat) : Int) ≤ (n : Int) := by omega
      clear r1 r2 r3 r4 r5
      go_wp2_with fail
      refine (HI.out a (a + 20) (by omega) (by omega) _ HLN.out HOA.out _ (grown_trans hw hg) HX2.out).mono ?_
      rintro e w5 ⟨rfl, hx5, hg5⟩
      rw [show a + 20 - (a + 1) = 19 by omega, R1.out] at hx5
      have HX5 := hide hx5
      have HG5 := hide (grown_trans hg hg5)
      clear hx5 hg5
      go_wp2
      go_roundw
      case rel => exact ⟨a + 20, D ++ [r], by omega, rfl, by go_num, hide HD2.out, HX5.out, HG5.out⟩
      case measure => simp [intOf]; omega
    · have han : a ≤ n := ha
      go_wp2_with fail
      refine (HI.out a n (Nat.le_refl _) ha _ HLN.out HOA.out _ (grown_trans hw hg) HX2.out).mono ?_
      rintro e w5 ⟨rfl, hx5, hg5⟩
      obtain ⟨L, hL, hx6⟩ : ∃ L : List (List Int), (BlkOk f R L ∧ FullB 20 L ∧ L.flatten.Perm xs) ∧ IRow w5 g L.flatten := by
        by_cases han2 : a < n
        · obtain ⟨r, r1, r2, r3, r4, r5⟩ := blk_step (k := n - (a + 1)) hT HP.out hD.out.1 hD.out.2.2.2.1 (by have := HL.out; omega) hD.out.2.2.1 hD.out.2.2.2.2
          rw [show a + (n - (a + 1)) + 1 = n by omega] at r1 r5
          rw [List.take_of_length_le (by have := HL.out; omega)] at r5
          rw [r1, List.drop_of_length_le (by have := HL.out; omega), List.append_nil] at hx5
          exact ⟨D ++ [r], ⟨r3, fullB_snoc (by omega) hD.out.2.1 (by omega) (by omega), r5⟩, hx5⟩
        · have e1 : a = n := by omega
          rw [e1, show n - (n + 1) = 0 by omega, List.drop_of_length_le (by have := HL.out; omega), List.append_nil] at hx5
          have h5 := hD.out.2.2.2.2
          rw [e1, List.take_of_length_le (by have := HL.out; omega)] at h5
          exact ⟨D, ⟨hD.out.1, fullB_of (by omega) hD.out.2.1, h5⟩, hx5⟩
      have HLL := hide hL
      have HX6 := hide hx6
      have HG6 := hide (grown_trans hg hg5)
      clear hx5 hg5 hg hL hx6 HX2 HLN HOA hD
      go_wp2
      go_loopw [6] (fun vb wr => ∃ (bs : Nat) (L : List (List Int)), 20 ≤ bs ∧ bs ≤ 2 * n + 40 ∧ vb = .int .i64 bs ∧ Hid (BlkOk f R L ∧ FullB bs L ∧ L.flatten.Perm xs) ∧ IRow wr g L.flatten ∧ w.grownBy wr (some g)) (fun vb _ => n - (intOf vb).toNat)
      case atStart => exact ⟨20, L, by omega, by omega, rfl, HLL, HX6.out, HG6.out⟩
      case round =>
        obtain ⟨bs, L, hb0, hb1, rfl, hL, hx, hg⟩ := hrel
        have HX7 := hide hx
        have HG7 := hide hg
        have HLn := hide (show L.flatten.length = n by rw [hL.out.2.2.length_eq, HL.out])
        clear hx hg
        by_cases hlt3 : bs < n
        · go_wp2
          go_loopw [7, 8] (fun va vb wq => ∃ (a : Nat) (D E : List (List Int)), a ≤ n ∧ va = .int .i64 a ∧ vb = .int .i64 ((a : Int) + 2 * (bs : Int)) ∧ Hid ((∀ d ∈ D, d.length = 2 * bs) ∧ FullB bs E ∧ BlkOk f R (D ++ E) ∧ D.flatten.length = a ∧ (D ++ E).flatten.Perm xs) ∧ IRow wq g (D ++ E).flatten ∧ w.grownBy wq (some g)) (fun va _ _ => n - (intOf va).toNat)
          case atStart => exact ⟨0, [], L, by omega, rfl, by rw [show ((0 : Nat) : Int) + 2 * (bs : Int) = 2 * (bs : Int) by omega], hide ⟨by simp, hL.out.2.1, hL.out.1, rfl, hL.out.2.2⟩, HX7.out, HG7.out⟩
          case round =>
            obtain ⟨a, D, E, han, rfl, rfl, hD, hx, hg⟩ := hrel
            have HX8 := hide hx
            have HG8 := hide hg
            clear hx hg
            have hEl : a + E.flatten.length = n := by
              have h1 := hD.out.2.2.2.1
              have h2 := hD.out.2.2.2.2.length_eq
              have h3 := HL.out
              rw [List.flatten_append, List.length_append] at h2
              omega
            by_cases hb2 : a + 2 * bs ≤ n
            · obtain ⟨e1, e2, t, hE⟩ : ∃ e1 e2 t, E = e1 :: e2 :: t := by
                have h4 := hD.out.2.1
                match E, h4, hEl with
                | [], _, h => simp at h; omega
                | [e], h4, h =>
                  have := h4.2.1 rfl
                  simp at h; omega
                | e1 :: e2 :: t, _, _ => exact ⟨e1, e2, t, rfl⟩
              rw [hE] at hD HX8 hEl
              have hD2 := hD.out
              obtain ⟨g1, g2, g3, g4, g5⟩ := fullB_head hD2.2.1
              have g6 : e2.length = bs := by
                by_cases ht : t = []
                · rw [ht] at hEl; simp at hEl; omega
                · exact g4 ht
              have hbe := hD2.2.2.1
              have hpok := perm_ok hD2.2.2.2.2 HOK.out
              have hfl := flat_app2 D t e1 e2
              rw [hfl] at hpok
              have HCR := hide (show ∀ x ∈ e1, ∀ y ∈ e2, Fits f R x y by
                have h := hbe.2
                rw [List.pairwise_append, List.pairwise_cons] at h
                exact h.2.1.1 e2 (by simp))
              have HE1 := hide (hbe.1 e1 (by simp))
              have HE2 := hide (hbe.1 e2 (by simp))
              have HO1 := hide (fun x (hx : x ∈ e1) => hpok x (by simp [hx]))
              have HO2 := hide (fun x (hx : x ∈ e2) => hpok x (by simp [hx]))
              have HX9 := hide (show IRow wr g (D.flatten ++ (e1 ++ (e2 ++ t.flatten))) by rw [← hfl]; exact HX8.out)
              have HDD := hide hD2
              have HGG := hide (show e1.length = bs ∧ e2.length = bs ∧ FullB bs t ∧ a + 2 * bs + t.flatten.length = n from ⟨g1, g6, g5, by rw [List.flatten_cons, List.flatten_cons, List.length_append, List.length_append] at hEl; omega⟩)
              have hb3 : (a : Int) + 2 * (bs : Int) ≤ (n : Int) := by omega
              clear hD2 g1 g2 g3 g4 g5 g6 hbe hpok hfl hE hEl
              go_wp2_with fail
              refine (HM.out (bs + bs + 1) a (a + bs) (a + 2 * bs) _ _ _ rfl (by omega) (by omega) D.flatten e1 e2 t.flatten HDD.out.2.2.2.1 (by rw [HGG.out.1]) (by rw [HGG.out.2.1]; omega) HGG.out.2.2.2 (by rw [HGG.out.1]; omega) (by rw [HGG.out.2.1]; omega) (by rw [HGG.out.1, HGG.out.2.1]; omega) HO1.out HO2.out HE1.out HE2.out HCR.out _ (grown_trans hw HG8.out) HX9.out).mono ?_
              rintro ex wz ⟨Z, rfl, z1, z2, z3, z4⟩
              have HZ := hide (show (∀ d ∈ D ++ [Z], d.length = 2 * bs) ∧ FullB bs t ∧ BlkOk f R ((D ++ [Z]) ++ t) ∧ (D ++ [Z]).flatten.length = a + 2 * bs ∧ ((D ++ [Z]) ++ t).flatten.Perm xs by
                have zl : Z.length = 2 * bs := by rw [z1.length_eq, List.length_append, HGG.out.1, HGG.out.2.1]; omega
                refine ⟨fun d hd => ?_, HGG.out.2.2.1, blkOk_merge HDD.out.2.2.1 z1 z2, by rw [flat_app, List.length_append, HDD.out.2.2.2.1, zl], ?_⟩
                · rcases List.mem_append.1 hd with h | h
                  · exact HDD.out.1 d h
                  · rw [List.mem_singleton] at h; subst h; exact zl
                · refine List.Perm.trans ?_ HDD.out.2.2.2.2
                  rw [flat_app2, List.flatten_append, flat_app, List.append_assoc]
                  refine List.Perm.append_left _ ?_
                  rw [← List.append_assoc e1]
                  exact z1.append_right _)
              have HXZ := hide (show IRow wz g ((D ++ [Z]) ++ t).flatten by rw [List.flatten_append, flat_app, List.append_assoc]; exact z3)
              have HGZ := hide (grown_trans HG8.out z4)
              clear z1 z2 z3 z4
              go_wp2
              go_roundw
              case rel => exact ⟨a + 2 * bs, D ++ [Z], t, by omega, by go_num, by rw [show ((a + 2 * bs : Nat) : Int) + 2 * (bs : Int) = (a : Int) + 2 * (bs : Int) + 2 * (bs : Int) by omega], HZ, HXZ.out, HGZ.out⟩
              case measure => simp [intOf]; omega
            · have hb3 : ¬ (a : Int) + 2 * (bs : Int) ≤ (n : Int) := by omega
              by_cases hm : a + bs < n
              · obtain ⟨e1, e2, hE⟩ : ∃ e1 e2, E = [e1, e2] := by
                  have h4 := hD.out.2.1
                  match E, h4, hEl with
                  | [], _, h => simp at h; omega
                  | [e], h4, h =>
                    have := h4.2.1 rfl
                    simp at h; omega
                  | [e1, e2], _, _ => exact ⟨e1, e2, rfl⟩
                  | e1 :: e2 :: e3 :: t, h4, h =>
                    obtain ⟨k1, k2, k3, k4, k5⟩ := fullB_head h4
                    have := k4 (by simp)
                    simp at h; omega
                rw [hE] at hD HX8 hEl
                have hD2 := hD.out
                obtain ⟨g1, g2, g3, g4, g5⟩ := fullB_head hD2.2.1
                have hbe := hD2.2.2.1
                have hpok := perm_ok hD2.2.2.2.2 HOK.out
                have hfl := flat_app2 D [] e1 e2
                rw [hfl] at hpok
                have HCR := hide (show ∀ x ∈ e1, ∀ y ∈ e2, Fits f R x y by
                  have h := hbe.2
                  rw [List.pairwise_append, List.pairwise_cons] at h
                  exact h.2.1.1 e2 (by simp))
                have HE1 := hide (hbe.1 e1 (by simp))
                have HE2 := hide (hbe.1 e2 (by simp))
                have HO1 := hide (fun x (hx : x ∈ e1) => hpok x (by simp [hx]))
                have HO2 := hide (fun x (hx : x ∈ e2) => hpok x (by simp [hx]))
                have HX9 := hide (show IRow wr g (D.flatten ++ (e1 ++ (e2 ++ []))) by have h := HX8.out; rw [hfl] at h; exact h)
                have HDD := hide hD2
                have HGG := hide (show e1.length = bs ∧ 0 < e2.length ∧ e2.length ≤ bs ∧ a + bs + e2.length = n from ⟨g1, g2, g3, by simp at hEl; omega⟩)
                have hmi : (a : Int) + (bs : Int) < (n : Int) := by omega
                clear hD2 g1 g2 g3 g4 g5 hbe hpok hfl hE hEl
                go_wp2_with fail
                refine (HM.out (bs + bs + 1) a (a + bs) n _ _ _ rfl (by omega) rfl D.flatten e1 e2 [] HDD.out.2.2.2.1 (by rw [HGG.out.1]) HGG.out.2.2.2 rfl (by rw [HGG.out.1]; omega) HGG.out.2.1 (by rw [HGG.out.1]; have := HGG.out.2.2.1; omega) HO1.out HO2.out HE1.out HE2.out HCR.out _ (grown_trans hw HG8.out) HX9.out).mono ?_
                rintro ex wz ⟨Z, rfl, z1, z2, z3, z4⟩
                have HZ := hide (show BlkOk f R (D ++ [Z]) ∧ FullB (bs * 2) (D ++ [Z]) ∧ (D ++ [Z]).flatten.Perm xs by
                  have zl : Z.length = bs + e2.length := by rw [z1.length_eq, List.length_append, HGG.out.1]
                  have h := blkOk_merge HDD.out.2.2.1 z1 z2
                  rw [List.append_nil] at h
                  refine ⟨h, fullB_snoc (by omega) (fun d hd => by rw [HDD.out.1 d hd]; omega) (by omega) (by have := HGG.out.2.2.1; omega), ?_⟩
                  refine List.Perm.trans ?_ HDD.out.2.2.2.2
                  rw [flat_app2, flat_app]
                  simp only [List.flatten_nil, List.append_nil]
                  exact z1.append_left _)
                have HXZ := hide (show IRow wz g (D ++ [Z]).flatten by rw [flat_app]; simpa using z3)
                have HGZ := hide (grown_trans HG8.out z4)
                clear z1 z2 z3 z4
                go_wp2
                go_roundw
                case rel => exact ⟨bs * 2, D ++ [Z], by omega, by omega, by go_num, HZ, HXZ.out, HGZ.out⟩
                case measure => simp [intOf]; omega
              · have HZ := hide (show BlkOk f R (D ++ E) ∧ FullB (bs * 2) (D ++ E) ∧ (D ++ E).flatten.Perm xs by
                  refine ⟨hD.out.2.2.1, ?_, hD.out.2.2.2.2⟩
                  have h4 := hD.out.2.1
                  have hdl : ∀ d ∈ D, d.length = bs * 2 := fun d hd => by rw [hD.out.1 d hd]; omega
                  clear hD HX8
                  match E, h4, hEl with
                  | [], _, _ => rw [List.append_nil]; exact fullB_of (by omega) hdl
                  | [e], h4, _ => exact fullB_snoc (by omega) hdl h4.1 (by have := h4.2.1 rfl; omega)
                  | e1 :: e2 :: t, h4, h =>
                    obtain ⟨k1, k2, k3, k4, k5⟩ := fullB_head h4
                    simp at h; omega)
                have hmi : ¬ (a : Int) + (bs : Int) < (n : Int) := by omega
                clear hEl
                go_wp2
                go_roundw
                case rel => exact ⟨bs * 2, D ++ E, by omega, by omega, by go_num, HZ, HX8.out, HG8.out⟩
                case measure => simp [intOf]; omega
        · have HS := hide (show L.flatten.Pairwise R by
            rcases fullB_one hL.out.2.1 (by rw [HLn.out]; omega) with h | ⟨e, h⟩
            · rw [h]; exact List.Pairwise.nil
            · rw [h]
              have := hL.out.1.1 e (by rw [h]; simp)
              simpa using this)
          go_wp2
          go_end0
          exact ⟨L.flatten, rfl, hL.out.2.2, HS.out, HX7.out, HG7.out⟩
/-- The same through SortStableFunc. -/
theorem sortstable_any (w0 : World) (g : Nat) (kc : FuncId) (cap : Array Value) (f : Int → Int → Int) (ok : Int → Prop) (hf : CmpSays w0 g kc cap f ok) (R : Int → Int → Prop) (hT : ∀ x y z, R x y → R y z → R x z) (n c : Nat) (hn : n ≤ 1048576) (xs : List Int) (hl : xs.length = n) (hok : ∀ x ∈ xs, ok x) (hp : xs.Pairwise (Fits f R)) (w : World) (hw : w0.grownBy w (some g)) (hx : IRow w g xs) :
    Calls Tryz.prog 100 #[.slice (some ⟨g, 0, none⟩) n c, .func (.func kc) #[] cap] w (StablePost R g xs w) := by
  have H := hide (stable_any w0 g kc cap f ok hf R hT n c hn xs hl hok hp w hw hx)
  clear hf hl hok hx hp
  go_enter Tryz.func100, Tryz.ntmps100
  go_wp2_with fail
  refine H.out.mono ?_
  rintro e w1 ⟨zs, rfl, h1, h2, h3, h4⟩
  have H1 := hide h1
  have H2 := hide h2
  have H3 := hide h3
  have H4 := hide h4
  clear h1 h2 h3 h4
  go_wp2
  go_end0
  exact ⟨zs, rfl, H1.out, H2.out, H3.out, H4.out⟩
end Go.Proofs.YtodamjjlnagpjaaGreatDoor
namespace Go.Proofs.YtodamjjlnagpjaaGreatDoor
open Go.RowKit

theorem isnan_any (x : Int) (w : World) : Calls Tryz.prog 122 #[.int .i64 x] w fun e w' => e = .returned (.bool false) ∧ w = w' := by
  go_enter Tryz.func122, Tryz.ntmps122
  go_wp2
  go_ret
  exact ⟨rfl, rfl⟩
def cmp3 (x y : Int) : Int := if x < y then -1 else if y < x then 1 else 0
theorem compare_any (x y : Int) (w : World) : Calls Tryz.prog 102 #[.int .i64 x, .int .i64 y] w fun e w' => e = .returned (.int .i64 (cmp3 x y)) ∧ w = w' := by
  have HC := hide (show (x < y → cmp3 x y = -1) ∧ (¬ x < y → y < x → cmp3 x y = 1) ∧ (¬ x < y → ¬ y < x → cmp3 x y = 0) by
    unfold cmp3; refine ⟨fun h => if_pos h, fun h h2 => by rw [if_neg h, if_pos h2], fun h h2 => by rw [if_neg h, if_neg h2]⟩)
  by_cases h1 : x < y
  · have HE := hide (HC.out.1 h1)
    go_enter Tryz.func102, Tryz.ntmps102
    go_wp2_with (go_at_call 122; refine (isnan_any _ _).mono ?_; rintro e w' ⟨rfl, rfl⟩)
    go_ret
    exact ⟨ret_int HE.out.symm, rfl⟩
  · by_cases h2 : y < x
    · have HE := hide (HC.out.2.1 h1 h2)
      go_enter Tryz.func102, Tryz.ntmps102
      go_wp2_with (go_at_call 122; refine (isnan_any _ _).mono ?_; rintro e w' ⟨rfl, rfl⟩)
      go_ret
      exact ⟨ret_int HE.out.symm, rfl⟩
    · have HE := hide (HC.out.2.2 h1 h2)
      go_enter Tryz.func102, Tryz.ntmps102
      go_wp2_with (go_at_call 122; refine (isnan_any _ _).mono ?_; rintro e w' ⟨rfl, rfl⟩)
      go_ret
      exact ⟨ret_int HE.out.symm, rfl⟩
def cd0 : Cd := ⟨0, 0, 0, 0, 0, 0, 0⟩
def rankC (cs : List Cd) (i : Int) : Int := (cs.getD i.toNat cd0).rank
def cmpC (cs : List Cd) (i k : Int) : Int := cmp3 (rankC cs i) (rankC cs k)
def idxs (n : Nat) : List Int := (List.range n).map fun k : Nat => (k : Int)
def ordC (cs : List Cd) : List Int := sortK (cmpC cs) (idxs cs.length)
theorem cfO1 : ∀ (a : Array Value) (W : World), (callFunc 101 a).run Tryz.prog W = .ok (.enter 101 a) W := fun _ _ => by kernel_rfl
set_option maxRecDepth 20000 in
theorem ocmp_any (cs : List Cd) (A : Option Addr) (n c g1 B : Nat) (x y : Int) (W : World) (hs : Sl W B 7 A n c (cdCells cs)) (hx : 0 ≤ x ∧ x < n) (hy : 0 ≤ y ∧ y < n) (c1 : W.cell? ⟨g1, 0, none⟩ = some (.slice A n c)) :
    Calls Tryz.prog 101 #[.int .i64 x, .int .i64 y, .pointer (some ⟨g1, 0, none⟩)] W fun e w' => e = .returned (.int .i64 (cmpC cs x y)) ∧ Below W.heap.size W w' := by
  have hl : n = cs.length := by have := hs.1; rw [cdCells_length] at this; omega
  obtain ⟨i, rfl⟩ : ∃ i : Nat, x = (i : Int) := ⟨x.toNat, by omega⟩
  obtain ⟨j, rfl⟩ : ∃ j : Nat, y = (j : Int) := ⟨y.toNat, by omega⟩
  obtain ⟨b, o, rfl, _, hc⟩ := hs.at_ (k := i) (by omega)
  have hi : i < cs.length := by omega
  have hj : j < cs.length := by omega
  have HR := hide (show cmpC cs i j = cmp3 (cs[i]'hi).rank (cs[j]'hj).rank by
    unfold cmpC rankC; simp [List.getD_eq_getElem?_getD, hi, hj])
  rcases ei : cs[i]'hi with ⟨r, k1, v1, f1, t1, x1, y1⟩
  rcases ej : cs[j]'hj with ⟨s, k2, v2, f2, t2, x2, y2⟩
  rw [ei, ej] at HR
  have ci := (cd_cells (B := 0) (n := 0) (c := 0) hc hi ei).1
  have cj := (cd_cells (B := 0) (n := 0) (c := 0) hc hj ej).1
  have HE := hide HR.out
  obtain ⟨hx0, hx1⟩ := hx
  obtain ⟨hy0, hy1⟩ := hy
  clear hs hc ei ej HR hl
  have hne : Nonempty (InW fun w => Below W.heap.size W w) := ⟨⟨W, Below.refl _ _⟩⟩
  replace ci := inv_cell ci
  replace cj := inv_cell cj
  replace c1 := inv_cell c1
  go_enter Tryz.func101, Tryz.ntmps101
  go_wp2_with fail
  refine wp_region_inv (I := fun w => Below W.heap.size W w) (by kernel_rfl) (by kernel_rfl) (Below.refl _ _).drew ?_
  repeat (go_big_quiet_step (first | (go_at_call 102; refine inv_same (compare_any _ _ _))))
  refine wpQuiet_nil ?_
  rintro _ ⟨⟨w9, h9⟩, rfl⟩
  go_wp2
  go_ret
  exact ⟨ret_int HE.out.symm, h9⟩
theorem ins_nil (kc : FuncId) (cap : Array Value) (w : World) : Calls Tryz.prog 141 #[.slice none 0 0, .int .i64 0, .int .i64 0, .func (.func kc) #[] cap] w fun e w' => e = .returned (.tuple #[]) ∧ w = w' := by
  go_enter Tryz.func141, Tryz.ntmps141
  go_wp2
  refine wp_loop_rounds 1 ?_
  rw [rounds_succ]
  go_wp2
  go_end0
  exact ⟨rfl, rfl⟩
theorem stb_nil (kc : FuncId) (cap : Array Value) (w : World) : Calls Tryz.prog 121 #[.slice none 0 0, .int .i64 0, .func (.func kc) #[] cap] w fun e w' => e = .returned (.tuple #[]) ∧ w = w' := by
  go_enter Tryz.func121, Tryz.ntmps121
  go_wp2
  refine wp_loop_rounds 1 ?_
  rw [rounds_succ]
  go_wp2_with fail
  refine (ins_nil _ _ _).mono ?_
  rintro e w1 ⟨rfl, rfl⟩
  go_wp2
  refine wp_loop_rounds 1 ?_
  rw [rounds_succ]
  go_wp2
  go_end0
  exact ⟨rfl, rfl⟩
theorem sst_nil (kc : FuncId) (cap : Array Value) (w : World) : Calls Tryz.prog 100 #[.slice none 0 0, .func (.func kc) #[] cap] w fun e w' => e = .returned (.tuple #[]) ∧ w = w' := by
  go_enter Tryz.func100, Tryz.ntmps100
  go_wp2_with fail
  refine (stb_nil _ _ _).mono ?_
  rintro e w1 ⟨rfl, rfl⟩
  go_wp2
  go_end0
  exact ⟨rfl, rfl⟩
theorem idxs_len (n : Nat) : (idxs n).length = n := by simp [idxs]
theorem idxs_mem {n : Nat} {i : Int} : i ∈ idxs n ↔ 0 ≤ i ∧ i < n := by
  unfold idxs
  rw [List.mem_map]
  constructor
  · rintro ⟨k, hk, rfl⟩; rw [List.mem_range] at hk; omega
  · rintro ⟨h1, h2⟩; exact ⟨i.toNat, by rw [List.mem_range]; omega, by omega⟩
theorem own_cap {w : World} {base n c : Nat} {e : TypeId} {size : Nat} {A : Option Addr} {xs : List Value} (h : w.ownsRow base e size (.slice A n c) n xs) : n ≤ c ∧ c ≤ maxLen := by
  obtain ⟨A', c', he, hs⟩ := own_sl h
  injection he with _ _ h3
  subst h3
  exact ⟨hs.2.1, hs.2.2.1⟩
/-- A row of integers at a block's head, beyond block number B; nil where it is empty. -/
def Row0 (w : World) (B : Nat) (v : Value) (n : Nat) (xs : List Int) : Prop := xs.length = n ∧ ((n = 0 ∧ v = .slice none 0 0) ∨ (0 < n ∧ ∃ g c, v = .slice (some ⟨g, 0, none⟩) n c ∧ n ≤ c ∧ c ≤ maxLen ∧ B ≤ g ∧ IRow w g xs))
theorem Row0.sl {w : World} {B n : Nat} {v : Value} {xs : List Int} (h : Row0 w B v n xs) : ∃ A c, v = .slice A n c ∧ Sl w w.heap.size 1 A n c (ints xs) := by
  obtain ⟨hl, ⟨rfl, rfl⟩ | ⟨_, g, c, rfl, h1, h2, _, hr⟩⟩ := h
  · obtain rfl := List.eq_nil_of_length_eq_zero hl
    exact ⟨none, 0, rfl, Sl.none_ _ _ _⟩
  · refine ⟨_, c, rfl, by rw [ints_length]; omega, h1, h2, fun _ => ⟨g, 0, rfl, hr.lt, fun j u hu => ?_⟩⟩
    have hj : j < xs.length := by have := (List.getElem?_eq_some_iff.1 hu).1; rwa [ints_length] at this
    rw [ints_get xs j hj] at hu
    injection hu with hu
    subst hu
    rw [Nat.zero_add]; exact hr.cell hj
theorem Row0.below {w w' : World} {B n : Nat} {v : Value} {xs : List Int} (h : Row0 w B v n xs) (hb : Below w.heap.size w w') : Row0 w' B v n xs := by
  obtain ⟨hl, h | ⟨h0, g, c, e, h1, h2, h3, hr⟩⟩ := h
  · exact ⟨hl, .inl h⟩
  · exact ⟨hl, .inr ⟨h0, g, c, e, h1, h2, h3, hr.below hb⟩⟩
theorem ordC_length (cs : List Cd) : (ordC cs).length = cs.length := by unfold ordC sortK; rw [insK_length, idxs_len]
def Rk (cs : List Cd) (x y : Int) : Prop := rankC cs x < rankC cs y ∨ rankC cs x = rankC cs y ∧ x < y
theorem idxs_lt (n : Nat) : (idxs n).Pairwise fun x z => x < z := by
  unfold idxs
  rw [List.pairwise_map]
  exact List.pairwise_lt_range.imp fun h => by omega
theorem cmp3_neg {x y : Int} : cmp3 x y < 0 ↔ x < y := by
  unfold cmp3
  split
  · omega
  · split <;> omega
theorem ordC_fits (cs : List Cd) (n : Nat) : (idxs n).Pairwise (Fits (cmpC cs) (Rk cs)) := (idxs_lt n).imp fun {x z} h => by
  simp only [Fits, Rk, cmpC, cmp3_neg]; omega
theorem ordC_spec (cs : List Cd) : (ordC cs).Pairwise (Rk cs) ∧ (ordC cs).Perm (idxs cs.length) := by
  refine sortK_sorted (fun x y z _ _ _ h1 h2 => ?_) (ordC_fits cs _)
  simp only [Rk] at *; omega
theorem ordC_one {cs : List Cd} {zs : List Int} {n : Nat} (hn : n = cs.length) (h1 : zs.Perm (idxs n)) (h2 : zs.Pairwise (Rk cs)) : zs = ordC cs := by
  subst hn
  exact perm_sorted_eq (R := Rk cs) (fun x y a b => by simp only [Rk] at a b; omega) (h1.trans (ordC_spec cs).2.symm) h2 (ordC_spec cs).1
def OrdPost (w : World) (n : Nat) (cs : List Cd) (e : Ending) (w' : World) : Prop := ∃ v, e = .returned v ∧ Row0 w' w.heap.size v n (ordC cs) ∧ Below w.heap.size w w'
set_option maxHeartbeats 1600000 in
set_option maxRecDepth 20000 in
theorem order_any (A : Option Addr) (n c : Nat) (cs : List Cd) (w : World) (hn : n ≤ 1000) (hs : Sl w w.heap.size 7 A n c (cdCells cs)) : Calls Tryz.prog 79 #[.slice A n c] w (OrdPost w n cs) := by
  have hmf : ∀ (fn : Fn) (first cap : Array Value) (w : World), (Instr.makeFunc fn first cap).run Tryz.prog w = .ok (.func fn first cap) w := fun _ _ _ _ => rfl
  have hl : n = cs.length := by have := hs.1; rw [cdCells_length] at this; omega
  have HS := hide hs
  have HL := hide hl
  have h1 := Blk.new w 38 #[.slice A n c]
  have hB := bel1 (w := w) (o := .cells #[.slice A n c] 38)
  clear hs hl
  go_enter Tryz.func79, Tryz.ntmps79
  have c1 := h1.facts.1 0
  simp only [List.getElem?_toArray, List.getElem?_cons_zero] at c1
  go_wp2
  generalize w.alloc _ = w2 at *
  go_loopw [3, 7] (fun v i wr => ∃ k : Nat, k ≤ n ∧ i = .int .i64 k ∧ wr.ownsRow w2.heap.size 3 1 v k (ints ((idxs n).take k)) ∧ (k = 0 → v = .slice none 0 0) ∧ Below w2.heap.size w2 wr) (fun _ i _ => n - (intOf i).toNat)
  case atStart => exact ⟨0, by omega, rfl, World.ownsRow_nil _ _ _ _, fun _ => rfl, Below.refl _ _⟩
  case round =>
    obtain ⟨k, hk, rfl, hv, hv0, hb⟩ := hrel
    by_cases hlt : k < n
    · have HN := hide (show (idxs n).take (k + 1) = (idxs n).take k ++ [(k : Int)] by
        rw [List.take_succ_eq_append_getElem (by rw [idxs_len]; omega)]
        simp [idxs])
      have hz := hb.size
      go_wp2_with (at_builtin; refine wpList_push rfl _ _ _ rfl w2.heap.size _ _ slInt _ _ _ rfl hv _ _ rfl rfl rfl (by omega) hz ?_)
      intro v' w5 hv5 hg5 _
      have hb5 := hb.trans (below_push hv hg5 hz)
      have hv6 := hide (own_cells hv5 (ys := ints ((idxs n).take (k + 1))) (by rw [HN.out, ints_append]; rfl))
      clear hv hv5 hg5 hb
      go_wp2
      go_roundw
      case rel => exact ⟨k + 1, by omega, by go_num, hv6.out, fun h => by omega, hb5⟩
      case measure => simp [intOf]; omega
    · obtain rfl : n = k := by omega
      rw [List.take_of_length_le (by rw [idxs_len]; omega)] at hv
      have d1 := cell_thr hb c1
      have hB5 := bthr hB hb hB.size
      have HSl := hide (HS.out.below hB5)
      have hzz := hB.size
      have hL := HL.out
      by_cases hn0 : n = 0
      · obtain rfl := hv0 hn0
        subst hn0
        have HB5 := hide hB5
        clear hv hb hL
        go_wp2_with fail
        refine (sst_nil _ _ _).mono ?_
        rintro e w5 ⟨rfl, rfl⟩
        go_wp2
        go_ret
        exact ⟨_, rfl, ⟨by rw [ordC_length]; exact HL.out.symm, .inl ⟨rfl, rfl⟩⟩, HB5.out⟩
      · obtain ⟨g, cq, rfl, g0, g1⟩ := hv.form (by omega)
        have HC := hide (show CmpSays wr g 101 #[.pointer (some ⟨w.heap.size, 0, none⟩)] (cmpC cs) (fun i => 0 ≤ i ∧ i < n) from ⟨cfO1, fun x y W hx hy hW => by
          have hW4 := below_grown hb hW hb.size g0
          exact ocmp_any cs A n c w.heap.size w.heap.size x y W (HS.out.below (bthr hB hW4 hB.size)) hx hy ((hW4.cell (p := ⟨w.heap.size, 0, none⟩) (World.block_lt_of_cell? _ _ c1)).trans c1)⟩)
        have HR := hide (IRow.of_own hv)
        have hcq := own_cap hv
        have HBR := hide hb
        have HO := hide (fun (zs : List Int) h1 h2 => ordC_one (zs := zs) hL h1 h2)
        clear hL hv hb
        go_wp2_with fail
        refine (sortstable_any wr g _ _ (cmpC cs) _ HC.out (Rk cs) (fun x y z h1 h2 => by simp only [Rk] at *; omega) n cq (by omega) (idxs n) (idxs_len n) (fun x hx => idxs_mem.1 hx) (ordC_fits cs n) wr (grown_refl _ _) HR.out).mono ?_
        rintro e w5 ⟨zs, rfl, hz1, hz2, hr5, hg5⟩
        rw [HO.out zs hz1 hz2] at hr5
        clear hz1 hz2
        have HB5 := hide (below_grown HBR.out hg5 HBR.out.size g0)
        have HR5 := hide hr5
        have HG5 := hide hg5
        clear hr5 hg5
        go_wp2
        go_ret
        exact ⟨_, rfl, ⟨by rw [ordC_length]; exact HL.out.symm, .inr ⟨by omega, g, cq, rfl, hcq.1, hcq.2, by omega, HR5.out⟩⟩, bthr hB HB5.out hB.size⟩
end Go.Proofs.YtodamjjlnagpjaaGreatDoor
namespace Go.Proofs.YtodamjjlnagpjaaGreatDoor
open Go.RowKit

set_option maxRecDepth 20000 in
/-- SortStableFunc at no more than 20 integers. -/
theorem sstable_any (w0 : World) (g : Nat) (kc : FuncId) (cap : Array Value) (f : Int → Int → Int) (ok : Int → Prop) (hf : CmpSays w0 g kc cap f ok) (n c : Nat) (hn : n ≤ 20) (xs : List Int) (hl : xs.length = n) (hok : ∀ x ∈ xs, ok x) (w : World) (hw : w0.grownBy w (some g)) (hx : IRow w g xs) :
    Calls Tryz.prog 100 #[.slice (some ⟨g, 0, none⟩) n c, .func (.func kc) #[] cap] w fun e w' => e = .returned (.tuple #[]) ∧ IRow w' g (sortK f xs) ∧ w.grownBy w' (some g) := by
  have H := hide (stb_any w0 g kc cap f ok hf n c hn xs hl hok w hw hx)
  clear hf hl hok hx
  go_enter Tryz.func100, Tryz.ntmps100
  go_wp2_with fail
  refine H.out.mono ?_
  rintro e w1 ⟨rfl, hx1, hg1⟩
  go_wp2
  go_end0
  exact ⟨rfl, hx1, hg1⟩
end Go.Proofs.YtodamjjlnagpjaaGreatDoor
