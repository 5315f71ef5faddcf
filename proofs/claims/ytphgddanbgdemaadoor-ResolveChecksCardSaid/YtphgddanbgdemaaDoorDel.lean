/-
  Contracts of slices.IndexFunc and slices.DeleteFunc over an own row of integers. Condition: the function answers p and writes nothing that was there.
-/
import Derived.Test.YtphgddanbgdemaaDoorProg
import Derived.Test.YtphgddanbgdemaaDoorSrt
import Derived.Lib.SliceRun
namespace Go.Proofs.YtphgddanbgdemaaDoor
open Go.RowKit

def PredSays (w0 : World) (g : Nat) (kf : FuncId) (cap : Array Value) (p : Int → Bool) (ok : Int → Prop) : Prop :=
  (∀ (a : Array Value) (W : World), (callFunc kf a).run Tryd.prog W = .ok (.enter kf a) W) ∧
  ∀ (x : Int) (W : World), ok x → w0.grownBy W (some g) → Calls Tryd.prog kf (#[.int .i64 x] ++ cap) W fun e w' => e = .returned (.bool (p x)) ∧ Below W.heap.size W w'
def keepL (p : Int → Bool) (xs : List Int) : List Int := xs.filter fun x => !p x
theorem keepL_snoc_in {p : Int → Bool} {xs : List Int} {k : Nat} (h : k < xs.length) (hp : p (xs.getD k 0) = false) : keepL p (xs.take (k + 1)) = keepL p (xs.take k) ++ [xs.getD k 0] := by
  have e : xs.getD k 0 = xs[k] := by simp [List.getD_eq_getElem?_getD, h]
  rw [e] at hp ⊢
  unfold keepL
  rw [List.take_succ_eq_append_getElem h, List.filter_append]
  simp [hp]
theorem keepL_snoc_out {p : Int → Bool} {xs : List Int} {k : Nat} (h : k < xs.length) (hp : p (xs.getD k 0) = true) : keepL p (xs.take (k + 1)) = keepL p (xs.take k) := by
  have e : xs.getD k 0 = xs[k] := by simp [List.getD_eq_getElem?_getD, h]
  rw [e] at hp
  unfold keepL
  rw [List.take_succ_eq_append_getElem h, List.filter_append]
  simp [hp]
def IdxPost (p : Int → Bool) (xs : List Int) (w : World) (e : Ending) (w' : World) : Prop := ∃ r : Int, e = .returned (.int .i64 r) ∧ ((r = -1 ∧ keepL p xs = xs) ∨ ∃ k : Nat, k < xs.length ∧ r = k ∧ p (xs.getD k 0) = true ∧ keepL p (xs.take k) = xs.take k) ∧ Below w.heap.size w w'
set_option maxHeartbeats 1600000 in
set_option maxRecDepth 20000 in
theorem index_any (w0 : World) (g : Nat) (kf : FuncId) (cap : Array Value) (p : Int → Bool) (ok : Int → Prop) (hf : PredSays w0 g kf cap p ok) (n c : Nat) (hn : n ≤ 1048576) (xs : List Int) (hl : xs.length = n) (hok : ∀ x ∈ xs, ok x) (w : World) (hw : w0.grownBy w (some g)) (hx : IRow w g xs) :
    Calls Tryd.prog 64 #[.slice (some ⟨g, 0, none⟩) n c, .func (.func kf) #[] cap] w (IdxPost p xs w) := by
  have HF := hide hf.2
  have hcf := hf.1
  have HOK := hide hok
  have HX := hide hx
  have HL := hide hl
  clear hf hok hx hl
  go_enter Tryd.func64, Tryd.ntmps64
  go_wp2
  go_loopw [8] (fun i wr => ∃ k : Nat, k ≤ n ∧ i = .int .i64 k ∧ Hid (keepL p (xs.take k) = xs.take k) ∧ Below w.heap.size w wr) (fun i _ => n - (intOf i).toNat)
  case atStart => exact ⟨0, by omega, rfl, hide (by simp [keepL]), Below.refl _ _⟩
  case round =>
    obtain ⟨k, hk, rfl, hno, hb⟩ := hrel
    by_cases hlt : k < n
    · have hL := HL.out
      have x0 := (HX.out.below hb).cell (j := k) (by omega)
      have p0 : ok (xs.getD k 0) := by
        rw [List.getD_eq_getElem?_getD, List.getElem?_eq_getElem (by omega)]; exact HOK.out _ (List.getElem_mem _)
      have HC := hide (HF.out (xs.getD k 0) wr p0 (grown_of_below hw hb))
      have HS := hide (show xs.take (k + 1) = xs.take k ++ [xs.getD k 0] by
        rw [List.take_succ_eq_append_getElem (by omega)]; simp [List.getD_eq_getElem?_getD, show k < xs.length by omega])
      have HB := hide hb
      have hbz := hb.size
      cases hp : p (xs.getD k 0)
      · have HK := hide (keepL_snoc_in (show k < xs.length by omega) hp)
        have HP := hide hp
        clear hb hp p0 hL
        generalize xs.getD k 0 = x at *
        go_wp2_with fail
        refine HC.out.mono ?_
        rintro e w1 ⟨rfl, hb1⟩
        rw [HP.out]
        have HB1 := hide (bthr HB.out hb1 hbz)
        clear hb1 x0
        go_wp2
        go_roundw
        case rel => exact ⟨k + 1, by omega, by go_num, hide (by rw [HK.out, hno.out, HS.out]), HB1.out⟩
        case measure => simp [intOf]; omega
      · have HK := hide (show k < xs.length by omega)
        have HP := hide hp
        clear hb hp p0 hL
        obtain ⟨x, hxe⟩ : ∃ x, x = xs.getD k 0 := ⟨_, rfl⟩
        have HXE := hide hxe
        rw [← hxe] at x0 HC
        clear hxe HS
        go_wp2_with fail
        refine HC.out.mono ?_
        rintro e w1 ⟨rfl, hb1⟩
        rw [HXE.out, HP.out]
        have HB1 := hide (bthr HB.out hb1 hbz)
        clear hb1 x0
        go_wp2
        go_ret
        exact ⟨_, rfl, .inr ⟨k, HK.out, rfl, HP.out, hno.out⟩, HB1.out⟩
    · obtain rfl : k = n := by omega
      have h := hno.out
      rw [List.take_of_length_le (by have := HL.out; omega)] at h
      have H := hide h
      clear h
      go_wp2
      go_ret
      exact ⟨-1, rfl, .inl ⟨rfl, H.out⟩, hb⟩
theorem irow_clear {w : World} {g : Nat} : ∀ (k o : Nat) (ys : List Int), IRow w g ys → ∃ zs, zs.length = ys.length ∧ zs.take o = ys.take o ∧ IRow (w.setCells g o (List.replicate k (.int .i64 0))) g zs ∧ w.grownBy (w.setCells g o (List.replicate k (.int .i64 0))) (some g)
  | 0, o, ys, h => ⟨ys, rfl, rfl, h, grown_refl _ _⟩
  | k + 1, o, ys, h => by
    have h1 := h.set_ o 0
    have hg := grown_set (grown_refl w (some g)) (p := ⟨g, o, none⟩) (.inl rfl) (.int .i64 0)
    obtain ⟨zs, a, b, c, d⟩ := irow_clear k (o + 1) _ h1
    refine ⟨zs, by rw [a, List.length_set], ?_, c, grown_trans hg d⟩
    have := congrArg (List.take o) b
    rw [List.take_take, List.take_take, Nat.min_eq_left (by omega)] at this
    rw [this, List.take_set, List.set_eq_of_length_le (by rw [List.length_take]; omega)]
def DelPost (p : Int → Bool) (g c : Nat) (xs : List Int) (w : World) (e : Ending) (w' : World) : Prop := ∃ ys : List Int, e = .returned (.slice (some ⟨g, 0, none⟩) (keepL p xs).length c) ∧ IRow w' g ys ∧ ys.length = xs.length ∧ ys.take (keepL p xs).length = keepL p xs ∧ w.grownBy w' (some g)
theorem keepL_le (p : Int → Bool) (xs : List Int) : (keepL p xs).length ≤ xs.length := List.length_filter_le _ _
theorem take_set_app {ys : List Int} {i : Nat} {v : Int} (h : i < ys.length) : (ys.set i v).take (i + 1) = ys.take i ++ [v] := by
  rw [List.take_succ_eq_append_getElem (by simpa using h), List.take_set, List.set_eq_of_length_le (by rw [List.length_take]; omega)]
  simp
theorem drop_get {xs ys : List Int} {j : Nat} (h : ys.drop j = xs.drop j) : ys.getD j 0 = xs.getD j 0 := by
  have := congrArg (fun l => l.getD 0 0) h
  simpa [List.getD_eq_getElem?_getD, List.getElem?_drop] using this
set_option maxHeartbeats 1600000 in
set_option maxRecDepth 20000 in
theorem delete_any (w0 : World) (g : Nat) (kf : FuncId) (cap : Array Value) (p : Int → Bool) (ok : Int → Prop) (hf : PredSays w0 g kf cap p ok) (n c : Nat) (hn : n ≤ 1048576) (hnc : n ≤ c) (xs : List Int) (hl : xs.length = n) (hok : ∀ x ∈ xs, ok x) (w : World) (hw : w0.grownBy w (some g)) (hx : IRow w g xs) :
    Calls Tryd.prog 45 #[.slice (some ⟨g, 0, none⟩) n c, .func (.func kf) #[] cap] w (DelPost p g c xs w) := by
  have H1 := hide (index_any w0 g kf cap p ok hf n c hn xs hl hok w hw hx)
  have HF := hide hf.2
  have hcf := hf.1
  have HOK := hide hok
  have HX := hide hx
  have HL := hide hl
  clear hf hok hx hl
  go_enter Tryd.func45, Tryd.ntmps45
  go_wp2_with fail
  refine H1.out.mono ?_
  rintro e w1 ⟨r, rfl, hr, hb1⟩
  rcases hr with ⟨rfl, hall⟩ | ⟨i0, hi0, rfl, hp0, hk0⟩
  · have HA := hide hall
    have hX1 := hide (HX.out.below hb1)
    have HB1 := hide hb1
    clear hall hb1 H1
    go_wp2
    go_ret
    exact ⟨xs, by rw [HA.out, HL.out]; rfl, hX1.out, rfl, by rw [HA.out, List.take_length], grown_below HB1.out _⟩
  · have hi1 : i0 < n := by have := HL.out; omega
    have H0 := hide (show keepL p (xs.take (i0 + 1)) = xs.take i0 by rw [keepL_snoc_out hi0 hp0, hk0])
    have HX1 := hide (HX.out.below hb1)
    have HB1 := hide hb1
    clear hp0 hk0 hb1 H1 hi0
    have hb0 : ((i0 : Int) == -1) = false := beq_false_of_ne (by omega)
    go_wp2
    (try simp only [hb0])
    go_loopw [5, 6] (fun vi vj wr => ∃ (i j : Nat) (ys : List Int), i < j ∧ j ≤ n ∧ vi = .int .i64 i ∧ vj = .int .i64 j ∧ ys.length = n ∧ Hid (ys.take i = keepL p (xs.take j)) ∧ Hid (ys.drop j = xs.drop j) ∧ IRow wr g ys ∧ w.grownBy wr (some g)) (fun _ vj _ => n - (intOf vj).toNat)
    case atStart => exact ⟨i0, i0 + 1, xs, by omega, by omega, rfl, by go_num, HL.out, hide H0.out.symm, hide rfl, HX1.out, grown_below HB1.out _⟩
    case round =>
      obtain ⟨i, j, ys, hij, hjn, rfl, rfl, hyl, hT, hD, hx, hg⟩ := hrel
      by_cases hlt : j < n
      · have x0 := hx.cell (j := j) (by omega)
        have hL := HL.out
        have e0 := drop_get hD.out
        have p0 : ok (ys.getD j 0) := by
          rw [e0, List.getD_eq_getElem?_getD, List.getElem?_eq_getElem (by omega)]; exact HOK.out _ (List.getElem_mem _)
        have HC := hide (HF.out (ys.getD j 0) wr p0 (grown_trans hw hg))
        have HIn := hide (fun (h : p (xs.getD j 0) = false) => keepL_snoc_in (show j < xs.length by omega) h)
        have HOut := hide (fun (h : p (xs.getD j 0) = true) => keepL_snoc_out (show j < xs.length by omega) h)
        have HDr := hide (show ys.drop (j + 1) = xs.drop (j + 1) by
          have := congrArg (List.drop 1) hD.out
          rwa [List.drop_drop, List.drop_drop] at this)
        have HX2 := hide hx
        have HG2 := hide hg
        have HY := hide hyl
        have hz := hx.frozen i
        have hgl := hx.lt
        have hci := hx.cell (j := i) (by omega)
        rw [← e0] at HIn HOut
        clear hx hg p0 e0 hL hyl
        generalize ys.getD j 0 = x at *
        generalize ys.getD i 0 = y at *
        cases hp : p x
        · have HP := hide hp
          have HK := hide (HIn.out hp)
          clear hp HIn HOut
          go_wp2_with fail
          refine HC.out.mono ?_
          rintro e w2 ⟨rfl, hb2⟩
          rw [HP.out]
          have hci2 := cell_thr hb2 hci
          have hz2 := frozen_thr hb2 hgl hz
          have HX3 := hide (HX2.out.below hb2)
          have HG3 := hide (grown_of_below HG2.out hb2)
          clear hb2 x0 hci hz
          go_wp2
          go_roundw
          case rel =>
            refine ⟨i + 1, j + 1, ys.set i x, by omega, by omega, by go_num, by go_num, by rw [List.length_set]; exact HY.out, hide ?_, hide ?_, HX3.out.set_ i x, grown_set HG3.out (.inl rfl) _⟩
            · rw [take_set_app (by have := HY.out; omega), HK.out, hT.out]
            · rw [List.drop_set_of_lt (by omega)]; exact HDr.out
          case measure => simp [intOf]; omega
        · have HP := hide hp
          have HK := hide (HOut.out hp)
          clear hp HIn HOut
          go_wp2_with fail
          refine HC.out.mono ?_
          rintro e w2 ⟨rfl, hb2⟩
          rw [HP.out]
          have HX3 := hide (HX2.out.below hb2)
          have HG3 := hide (grown_of_below HG2.out hb2)
          clear hb2 x0 hci hz
          go_wp2
          go_roundw
          case rel => exact ⟨i, j + 1, ys, by omega, by omega, rfl, by go_num, HY.out, hide (by rw [HK.out, hT.out]), HDr, HX3.out, HG3.out⟩
          case measure => simp [intOf]; omega
      · obtain rfl : j = n := by omega
        have hkl := hT.out
        rw [List.take_of_length_le (l := xs) (by have := HL.out; omega)] at hkl
        have hlen : (keepL p xs).length = i := by rw [← hkl, List.length_take]; omega
        obtain ⟨zs, z1, z2, z3, z4⟩ := irow_clear (j - i) i ys hx
        have hcl : ∀ ty, (Builtin.clear_ #[27] ty #[.slice (some ⟨g, i, none⟩) (j - i) (c - i)]).run Tryd.prog wr = .ok (.tuple #[]) (wr.setCells g i (List.replicate (j - i) (.int .i64 0))) := fun ty =>
          Lib.run_clear_slice wr _ _ ty (.int .i64 0) Tryd.underlying27 Tryd.zeroValue3 rfl rfl g i _ _ (by omega) (fun m hm => by rw [hx.cell (by omega)]; rfl) (fun m hm => hx.frozen _)
        have Z1 := hide (z1.trans (hyl.trans HL.out.symm))
        have Z2 := hide (z2.trans hkl)
        have Z3 := hide z3
        have Z4 := hide (grown_trans hg z4)
        have HLN := hide hlen
        clear z1 z2 z3 z4 hkl hlen hx hg
        go_wp2
        go_ret
        exact ⟨zs, by rw [HLN.out]; rfl, Z3.out, Z1.out, by rw [HLN.out]; exact Z2.out, Z4.out⟩
end Go.Proofs.YtphgddanbgdemaaDoor
