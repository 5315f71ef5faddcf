/-
  Contracts of slices.IndexFunc and slices.DeleteFunc over an own row of integers. Condition: the function answers p and writes nothing that was there.
  Contracts of Asked and Active at valid conditions, 20 at most. Conditions: these, and a valid day and level.
  The contract of Active at valid conditions, 200 at most: the part of the order that applies. Conditions: these, and a valid day and level.
-/
import Derived.Test.YtodamjjlnagpjaaGreatDoorProg
import Derived.Test.YtodamjjlnagpjaaGreatDoorSst
import Derived.Lib.SliceRun
import Derived.Test.YtodamjjlnagpjaaGreatDoorFind
namespace Go.Proofs.YtodamjjlnagpjaaGreatDoor
open Go.RowKit

def PredSays (w0 : World) (g : Nat) (kf : FuncId) (cap : Array Value) (p : Int → Bool) (ok : Int → Prop) : Prop :=
  (∀ (a : Array Value) (W : World), (callFunc kf a).run Tryz.prog W = .ok (.enter kf a) W) ∧
  ∀ (x : Int) (W : World), ok x → w0.grownBy W (some g) → Calls Tryz.prog kf (#[.int .i64 x] ++ cap) W fun e w' => e = .returned (.bool (p x)) ∧ Below W.heap.size W w'
def keepL (p : Int → Bool) (xs : List Int) : List Int := xs.filter fun x => !p x
theorem keepL_snoc_in {p : Int → Bool} {xs : List Int} {k : Nat} (h : k < xs.length) (hp : p (xs.getD k 0) = false) : keepL p (xs.take (k + 1)) = keepL p (xs.take k) ++ [xs.getD k 0] := by
  have e : xs.getD k 0 = xs[k] := by simp [List.getD_eq_getElem?_getD, h]
  rw [e] at hp ⊢
  unfold keepL
  rw [List.take_succ_eq_append_getElem h, List.filter_append]
  simp [hp]
theorem keepL_snoc_out {p : Int → Bool} {xs : List Int} {k : Nat} (h : k < xs.length) (hp : p (xs.getD k 0) = true) : keepL p (xs.take (k + 1)) = keepL p (xs.take k) := by
  have e : xs.getD k 0 = xs[k] := by simp [List.getD_eq_getElem?_getD, h]
  rw [e] at hp
  unfold keepL
  rw [List.take_succ_eq_append_getElem h, List.filter_append]
  simp [hp]
def IdxPost (p : Int → Bool) (xs : List Int) (w : World) (e : Ending) (w' : World) : Prop := ∃ r : Int, e = .returned (.int .i64 r) ∧ ((r = -1 ∧ keepL p xs = xs) ∨ ∃ k : Nat, k < xs.length ∧ r = k ∧ p (xs.getD k 0) = true ∧ keepL p (xs.take k) = xs.take k) ∧ Below w.heap.size w w'
set_option maxHeartbeats 1600000 in
set_option maxRecDepth 20000 in
theorem index_any (w0 : World) (g : Nat) (kf : FuncId) (cap : Array Value) (p : Int → Bool) (ok : Int → Prop) (hf : PredSays w0 g kf cap p ok) (n c : Nat) (hn : n ≤ 1048576) (xs : List Int) (hl : xs.length = n) (hok : ∀ x ∈ xs, ok x) (w : World) (hw : w0.grownBy w (some g)) (hx : IRow w g xs) :
    Calls Tryz.prog 54 #[.slice (some ⟨g, 0, none⟩) n c, .func (.func kf) #[] cap] w (IdxPost p xs w) := by
  have HF := hide hf.2
  have hcf := hf.1
  have HOK := hide hok
  have HX := hide hx
  have HL := hide hl
  clear hf hok hx hl
  go_enter Tryz.func54, Tryz.ntmps54
  go_wp2
  go_loopw [8] (fun i wr => ∃ k : Nat, k ≤ n ∧ i = .int .i64 k ∧ Hid (keepL p (xs.take k) = xs.take k) ∧ Below w.heap.size w wr) (fun i _ => n - (intOf i).toNat)
  case atStart => exact ⟨0, by omega, rfl, hide (by simp [keepL]), Below.refl _ _⟩
  case round =>
    obtain ⟨k, hk, rfl, hno, hb⟩ := hrel
    by_cases hlt : k < n
    · have hL := HL.out
      have x0 := (HX.out.below hb).cell (j := k) (by omega)
      have p0 : ok (xs.getD k 0) := by
        rw [List.getD_eq_getElem?_getD, List.getElem?_eq_getElem (by omega)]; exact HOK.out _ (List.getElem_mem _)
      have HC := hide (HF.out (xs.getD k 0) wr p0 (grown_of_below hw hb))
      have HS := hide (show xs.take (k + 1) = xs.take k ++ [xs.getD k 0] by
        rw [List.take_succ_eq_append_getElem (by omega)]; simp [List.getD_eq_getElem?_getD, show k < xs.length by omega])
      have HB := hide hb
      have hbz := hb.size
      cases hp : p (xs.getD k 0)
      · have HK := hide (keepL_snoc_in (show k < xs.length by omega) hp)
        have HP := hide hp
        clear hb hp p0 hL
        generalize xs.getD k 0 = x at *
        go_wp2_with fail
        refine HC.out.mono ?_
        rintro e w1 ⟨rfl, hb1⟩
        rw [HP.out]
        have HB1 := hide (bthr HB.out hb1 hbz)
        clear hb1 x0
        go_wp2
        go_roundw
        case rel => exact ⟨k + 1, by omega, by go_num, hide (by rw [HK.out, hno.out, HS.out]), HB1.out⟩
        case measure => simp [intOf]; omega
      · have HK := hide (show k < xs.length by omega)
        have HP := hide hp
        clear hb hp p0 hL
        obtain ⟨x, hxe⟩ : ∃ x, x = xs.getD k 0 := ⟨_, rfl⟩
        have HXE := hide hxe
        rw [← hxe] at x0 HC
        clear hxe HS
        go_wp2_with fail
        refine HC.out.mono ?_
        rintro e w1 ⟨rfl, hb1⟩
        rw [HXE.out, HP.out]
        have HB1 := hide (bthr HB.out hb1 hbz)
        clear hb1 x0
        go_wp2
        go_ret
        exact ⟨_, rfl, .inr ⟨k, HK.out, rfl, HP.out, hno.out⟩, HB1.out⟩
    · obtain rfl : k = n := by omega
      have h := hno.out
      rw [List.take_of_length_le (by have := HL.out; omega)] at h
      have H := hide h
      clear h
      go_wp2
      go_ret
      exact ⟨-1, rfl, .inl ⟨rfl, H.out⟩, hb⟩
theorem irow_clear {w : World} {g : Nat} : ∀ (k o : Nat) (ys : List Int), IRow w g ys → ∃ zs, zs.length = ys.length ∧ zs.take o = ys.take o ∧ IRow (w.setCells g o (List.replicate k (.int .i64 0))) g zs ∧ w.grownBy (w.setCells g o (List.replicate k (.int .i64 0))) (some g)
  | 0, o, ys, h => ⟨ys, rfl, rfl, h, grown_refl _ _⟩
  | k + 1, o, ys, h => by
    have h1 := h.set_ o 0
    have hg := grown_set (grown_refl w (some g)) (p := ⟨g, o, none⟩) (.inl rfl) (.int .i64 0)
    obtain ⟨zs, a, b, c, d⟩ := irow_clear k (o + 1) _ h1
    refine ⟨zs, by rw [a, List.length_set], ?_, c, grown_trans hg d⟩
    have := congrArg (List.take o) b
    rw [List.take_take, List.take_take, Nat.min_eq_left (by omega)] at this
    rw [this, List.take_set, List.set_eq_of_length_le (by rw [List.length_take]; omega)]
def DelPost (p : Int → Bool) (g c : Nat) (xs : List Int) (w : World) (e : Ending) (w' : World) : Prop := ∃ ys : List Int, e = .returned (.slice (some ⟨g, 0, none⟩) (keepL p xs).length c) ∧ IRow w' g ys ∧ ys.length = xs.length ∧ ys.take (keepL p xs).length = keepL p xs ∧ w.grownBy w' (some g)
theorem keepL_le (p : Int → Bool) (xs : List Int) : (keepL p xs).length ≤ xs.length := List.length_filter_le _ _
theorem take_set_app {ys : List Int} {i : Nat} {v : Int} (h : i < ys.length) : (ys.set i v).take (i + 1) = ys.take i ++ [v] := by
  rw [List.take_succ_eq_append_getElem (by simpa using h), List.take_set, List.set_eq_of_length_le (by rw [List.length_take]; omega)]
  simp
theorem drop_get {xs ys : List Int} {j : Nat} (h : ys.drop j = xs.drop j) : ys.getD j 0 = xs.getD j 0 := by
  have := congrArg (fun l => l.getD 0 0) h
  simpa [List.getD_eq_getElem?_getD, List.getElem?_drop] using this
set_option maxHeartbeats 1600000 in
set_option maxRecDepth 20000 in
theorem delete_any (w0 : World) (g : Nat) (kf : FuncId) (cap : Array Value) (p : Int → Bool) (ok : Int → Prop) (hf : PredSays w0 g kf cap p ok) (n c : Nat) (hn : n ≤ 1048576) (hnc : n ≤ c) (xs : List Int) (hl : xs.length = n) (hok : ∀ x ∈ xs, ok x) (w : World) (hw : w0.grownBy w (some g)) (hx : IRow w g xs) :
    Calls Tryz.prog 78 #[.slice (some ⟨g, 0, none⟩) n c, .func (.func kf) #[] cap] w (DelPost p g c xs w) := by
  have H1 := hide (index_any w0 g kf cap p ok hf n c hn xs hl hok w hw hx)
  have HF := hide hf.2
  have hcf := hf.1
  have HOK := hide hok
  have HX := hide hx
  have HL := hide hl
  clear hf hok hx hl
  go_enter Tryz.func78, Tryz.ntmps78
  go_wp2_with fail
  refine H1.out.mono ?_
  rintro e w1 ⟨r, rfl, hr, hb1⟩
  rcases hr with ⟨rfl, hall⟩ | ⟨i0, hi0, rfl, hp0, hk0⟩
  · have HA := hide hall
    have hX1 := hide (HX.out.below hb1)
    have HB1 := hide hb1
    clear hall hb1 H1
    go_wp2
    go_ret
    exact ⟨xs, by rw [HA.out, HL.out]; rfl, hX1.out, rfl, by rw [HA.out, List.take_length], grown_below HB1.out _⟩
  · have hi1 : i0 < n := by have := HL.out; omega
    have H0 := hide (show keepL p (xs.take (i0 + 1)) = xs.take i0 by rw [keepL_snoc_out hi0 hp0, hk0])
    have HX1 := hide (HX.out.below hb1)
    have HB1 := hide hb1
    clear hp0 hk0 hb1 H1 hi0
    have hb0 : ((i0 : Int) == -1) = false := beq_false_of_ne (by omega)
    go_wp2
    (try simp only [hb0])
    go_loopw [5, 6] (fun vi vj wr => ∃ (i j : Nat) (ys : List Int), i < j ∧ j ≤ n ∧ vi = .int .i64 i ∧ vj = .int .i64 j ∧ ys.length = n ∧ Hid (ys.take i = keepL p (xs.take j)) ∧ Hid (ys.drop j = xs.drop j) ∧ IRow wr g ys ∧ w.grownBy wr (some g)) (fun _ vj _ => n - (intOf vj).toNat)
    case atStart => exact ⟨i0, i0 + 1, xs, by omega, by omega, rfl, by go_num, HL.out, hide H0.out.symm, hide rfl, HX1.out, grown_below HB1.out _⟩
    case round =>
      obtain ⟨i, j, ys, hij, hjn, rfl, rfl, hyl, hT, hD, hx, hg⟩ := hrel
      by_cases hlt : j < n
      · have x0 := hx.cell (j := j) (by omega)
        have hL := HL.out
        have e0 := drop_get hD.out
        have p0 : ok (ys.getD j 0) := by
          rw [e0, List.getD_eq_getElem?_getD, List.getElem?_eq_getElem (by omega)]; exact HOK.out _ (List.getElem_mem _)
        have HC := hide (HF.out (ys.getD j 0) wr p0 (grown_trans hw hg))
        have HIn := hide (fun (h : p (xs.getD j 0) = false) => keepL_snoc_in (show j < xs.length by omega) h)
        have HOut := hide (fun (h : p (xs.getD j 0) = true) => keepL_snoc_out (show j < xs.length by omega) h)
        have HDr := hide (show ys.drop (j + 1) = xs.drop (j + 1) by
          have := congrArg (List.drop 1) hD.out
          rwa [List.drop_drop, List.drop_drop] at this)
        have HX2 := hide hx
        have HG2 := hide hg
        have HY := hide hyl
        have hz := hx.frozen i
        have hgl := hx.lt
        have hci := hx.cell (j := i) (by omega)
        rw [← e0] at HIn HOut
        clear hx hg p0 e0 hL hyl
        generalize ys.getD j 0 = x at *
        generalize ys.getD i 0 = y at *
        cases hp : p x
        · have HP := hide hp
          have HK := hide (HIn.out hp)
          clear hp HIn HOut
          go_wp2_with fail
          refine HC.out.mono ?_
          rintro e w2 ⟨rfl, hb2⟩
          rw [HP.out]
          have hci2 := cell_thr hb2 hci
          have hz2 := frozen_thr hb2 hgl hz
          have HX3 := hide (HX2.out.below hb2)
          have HG3 := hide (grown_of_below HG2.out hb2)
          clear hb2 x0 hci hz
          go_wp2
          go_roundw
          case rel =>
            refine ⟨i + 1, j + 1, ys.set i x, by omega, by omega, by go_num, by go_num, by rw [List.length_set]; exact HY.out, hide ?_, hide ?_, HX3.out.set_ i x, grown_set HG3.out (.inl rfl) _⟩
            · rw [take_set_app (by have := HY.out; omega), HK.out, hT.out]
            · rw [List.drop_set_of_lt (by omega)]; exact HDr.out
          case measure => simp [intOf]; omega
        · have HP := hide hp
          have HK := hide (HOut.out hp)
          clear hp HIn HOut
          go_wp2_with fail
          refine HC.out.mono ?_
          rintro e w2 ⟨rfl, hb2⟩
          rw [HP.out]
          have HX3 := hide (HX2.out.below hb2)
          have HG3 := hide (grown_of_below HG2.out hb2)
          clear hb2 x0 hci hz
          go_wp2
          go_roundw
          case rel => exact ⟨i, j + 1, ys, by omega, by omega, rfl, by go_num, HY.out, hide (by rw [HK.out, hT.out]), HDr, HX3.out, HG3.out⟩
          case measure => simp [intOf]; omega
      · obtain rfl : j = n := by omega
        have hkl := hT.out
        rw [List.take_of_length_le (l := xs) (by have := HL.out; omega)] at hkl
        have hlen : (keepL p xs).length = i := by rw [← hkl, List.length_take]; omega
        obtain ⟨zs, z1, z2, z3, z4⟩ := irow_clear (j - i) i ys hx
        have hcl : ∀ ty, (Builtin.clear_ #[22] ty #[.slice (some ⟨g, i, none⟩) (j - i) (c - i)]).run Tryz.prog wr = .ok (.tuple #[]) (wr.setCells g i (List.replicate (j - i) (.int .i64 0))) := fun ty =>
          Lib.run_clear_slice wr _ _ ty (.int .i64 0) Tryz.underlying22 Tryz.zeroValue3 rfl rfl g i _ _ (by omega) (fun m hm => by rw [hx.cell (by omega)]; rfl) (fun m hm => hx.frozen _)
        have Z1 := hide (z1.trans (hyl.trans HL.out.symm))
        have Z2 := hide (z2.trans hkl)
        have Z3 := hide z3
        have Z4 := hide (grown_trans hg z4)
        have HLN := hide hlen
        clear z1 z2 z3 z4 hkl hlen hx hg
        go_wp2
        go_ret
        exact ⟨zs, by rw [HLN.out]; rfl, Z3.out, Z1.out, by rw [HLN.out]; exact Z2.out, Z4.out⟩
end Go.Proofs.YtodamjjlnagpjaaGreatDoor
namespace Go.Proofs.YtodamjjlnagpjaaGreatDoor
open Go.RowKit

theorem cfA1 : ∀ (a : Array Value) (W : World), (callFunc 77 a).run Tryz.prog W = .ok (.enter 77 a) W := fun _ _ => by kernel_rfl
theorem cfV1 : ∀ (a : Array Value) (W : World), (callFunc 80 a).run Tryz.prog W = .ok (.enter 80 a) W := fun _ _ => by kernel_rfl
theorem aflow_any (v : Int) (w : World) : Calls Tryz.prog 77 #[.int .i64 v] w fun e w' => e = .returned (.bool (!wit v 1073741824)) ∧ w = w' := by
  go_enter Tryz.func77, Tryz.ntmps77
  go_wp2_with (go_at_call 30; refine (within_any _ _ _).mono ?_; rintro e w' ⟨rfl, rfl⟩)
  go_ret
  exact ⟨rfl, rfl⟩
set_option maxRecDepth 20000 in
theorem asked_ok (A : Option Addr) (n c : Nat) (cs : List Cd) (d lv : Int) (F : Option Addr) (m k : Nat) (zs : List Int) (w : World) (hn : n ≤ 200) (hg : ∀ x ∈ cs, x.err = 0) (hd : wit d 364 = true) (hv : wit lv 16777216 = true) (hz : ∀ z ∈ zs, 0 ≤ z ∧ z ≤ 1073741824) (hs : Sl w w.heap.size 7 A n c (cdCells cs)) (hf : Sl w w.heap.size 1 F m k (ints zs)) :
    Calls Tryz.prog 50 #[.slice A n c, .int .i64 d, .int .i64 lv, .slice F m k] w fun e w' => e = .returned (.int .i64 0) ∧ Below w.heap.size w w' := by
  have HZ := hide (show zs.any (fun v => !wit v 1073741824) = false by
    rw [Bool.eq_false_iff]; intro h
    obtain ⟨x, hx, h2⟩ := List.any_eq_true.1 h
    simp [wit_of (hz x hx).1 (hz x hx).2] at h2)
  have HD := hide hd
  have HV := hide hv
  have HF := hide hf
  have HC := hide (check_ok A n c cs w hn hg hs)
  clear hz hd hv hf hs hg
  go_enter Tryz.func50, Tryz.ntmps50
  go_wp2_with fail
  refine HC.out.mono ?_
  rintro e w1 ⟨rfl, hb1⟩
  have HB := hide hb1
  have HF1 := hide (HF.out.thr hb1)
  clear hb1
  go_wp2_with (first | (go_at_call 76; refine (is_any _ _).mono ?_; rintro e w' ⟨rfl, rfl⟩; rw [HD.out]) | (go_at_call 30; refine (within_any _ _ _).mono ?_; rintro e w' ⟨rfl, rfl⟩; rw [HV.out]))
  refine (contains_func0 _ cfA1 (fun v => !wit v 1073741824) F m k zs _ HF1.out (fun v => aflow_any v _)).mono ?_
  rintro e w2 ⟨rfl, rfl⟩
  rw [HZ.out]
  go_wp2
  go_ret
  exact ⟨rfl, HB.out⟩
def appC (cs : List Cd) (d lv : Int) (x : Int) : Bool := inB (cs.getD x.toNat cd0).from_ (cs.getD x.toNat cd0).to_ d && decide ((cs.getD x.toNat cd0).above ≤ lv) && decide (lv ≤ (cs.getD x.toNat cd0).below)
def actC (cs : List Cd) (d lv : Int) : List Int := keepL (fun x => !appC cs d lv x) (ordC cs)
set_option maxRecDepth 20000 in
theorem apred_any (cs : List Cd) (hg : ∀ x ∈ cs, x.err = 0) (A : Option Addr) (n c g3 g4 g5 B : Nat) (d lv x : Int) (W : World) (hs : Sl W B 7 A n c (cdCells cs)) (hx : 0 ≤ x ∧ x < n)
    (c3 : W.cell? ⟨g3, 0, none⟩ = some (.slice A n c)) (c4 : W.cell? ⟨g4, 0, none⟩ = some (.int .i64 d)) (c5 : W.cell? ⟨g5, 0, none⟩ = some (.int .i64 lv)) :
    Calls Tryz.prog 80 #[.int .i64 x, .pointer (some ⟨g3, 0, none⟩), .pointer (some ⟨g4, 0, none⟩), .pointer (some ⟨g5, 0, none⟩)] W fun e w' => e = .returned (.bool (!appC cs d lv x)) ∧ Below W.heap.size W w' := by
  have hl : n = cs.length := by have := hs.1; rw [cdCells_length] at this; omega
  obtain ⟨i, rfl⟩ : ∃ i : Nat, x = (i : Int) := ⟨x.toNat, by omega⟩
  obtain ⟨b, o, rfl, _, hc⟩ := hs.at_ (k := i) (by omega)
  have hi : i < cs.length := by omega
  have he := hg _ (List.getElem_mem hi)
  have HR := hide (show appC cs d lv i = (inB (cs[i]'hi).from_ (cs[i]'hi).to_ d && decide ((cs[i]'hi).above ≤ lv) && decide (lv ≤ (cs[i]'hi).below)) by
    unfold appC; simp [List.getD_eq_getElem?_getD, hi])
  rcases ei : cs[i]'hi with ⟨r, k1, v1, f1, t1, x1, y1⟩
  rw [ei] at HR he
  obtain ⟨e0, e1, e2, e3, e4, e5, e6⟩ := cd_cells (B := 0) (n := 0) (c := 0) hc hi ei
  have HA := hide (fun W => applies_ok ⟨r, k1, v1, f1, t1, x1, y1⟩ d lv W he)
  unfold Cd.arr at HA
  obtain ⟨bb, hbb⟩ : ∃ bb, bb = (inB f1 t1 d && decide (x1 ≤ lv) && decide (lv ≤ y1)) := ⟨_, rfl⟩
  have HE := hide (HR.out.trans hbb.symm)
  have HA2 := hide (fun W => show Calls Tryz.prog 81 #[.agg #[.int .i64 r, .int .i64 k1, .int .i64 v1, .int .i64 f1, .int .i64 t1, .int .i64 x1, .int .i64 y1], .int .i64 d, .int .i64 lv] W fun e w' => e = .returned (.bool bb) ∧ Below W.heap.size W w' by
    rw [hbb]; exact HA.out W)
  obtain ⟨hx0, hx1⟩ := hx
  clear hs hc ei HR hl HA hbb he hg
  have hne : Nonempty (InW fun w => Below W.heap.size W w) := ⟨⟨W, Below.refl _ _⟩⟩
  replace c3 := inv_cell c3
  replace c4 := inv_cell c4
  replace c5 := inv_cell c5
  replace e0 := inv_cell e0
  replace e1 := inv_cell e1
  replace e2 := inv_cell e2
  replace e3 := inv_cell e3
  replace e4 := inv_cell e4
  replace e5 := inv_cell e5
  replace e6 := inv_cell e6
  go_enter Tryz.func80, Tryz.ntmps80
  go_wp2_with fail
  refine wp_region_inv (I := fun w => Below W.heap.size W w) (by kernel_rfl) (by kernel_rfl) (Below.refl _ _).drew ?_
  repeat (go_big_quiet_step (first | (go_at_call 81; refine inv_call (inv_closed W) (HA2.out _))))
  refine wpQuiet_nil ?_
  rintro _ ⟨⟨w9, h9⟩, rfl⟩
  clear c3 c4 c5 e0 e1 e2 e3 e4 e5 e6 hne
  go_wp2
  go_ret
  exact ⟨ret_bool (by rw [HE.out]), h9⟩
end Go.Proofs.YtodamjjlnagpjaaGreatDoor
namespace Go.Proofs.YtodamjjlnagpjaaGreatDoor
open Go.RowKit

theorem index_nil (kf : FuncId) (cap : Array Value) (w : World) : Calls Tryz.prog 54 #[.slice none 0 0, .func (.func kf) #[] cap] w fun e w' => e = .returned (.int .i64 (-1)) ∧ w = w' := by
  go_enter Tryz.func54, Tryz.ntmps54
  go_wp2
  refine wp_loop_rounds 1 ?_
  rw [rounds_succ]
  go_wp2
  go_ret
  exact ⟨rfl, rfl⟩
theorem delete_nil (kf : FuncId) (cap : Array Value) (w : World) : Calls Tryz.prog 78 #[.slice none 0 0, .func (.func kf) #[] cap] w fun e w' => e = .returned (.slice none 0 0) ∧ w = w' := by
  go_enter Tryz.func78, Tryz.ntmps78
  go_wp2_with fail
  refine (index_nil _ _ _).mono ?_
  rintro e w1 ⟨rfl, rfl⟩
  go_wp2
  go_ret
  exact ⟨rfl, rfl⟩
theorem irow_sl {w : World} {g m c : Nat} {ys zs : List Int} (h : IRow w g ys) (ht : ys.take m = zs) (hz : zs.length = m) (hc : m ≤ c) (hm : c ≤ maxLen) : Sl w w.heap.size 1 (some ⟨g, 0, none⟩) m c (ints zs) := by
  refine ⟨by rw [ints_length]; omega, hc, hm, fun _ => ⟨g, 0, rfl, h.lt, fun j u hu => ?_⟩⟩
  have hj : j < zs.length := by have := (List.getElem?_eq_some_iff.1 hu).1; rwa [ints_length] at this
  rw [ints_get zs j hj] at hu
  injection hu with hu
  subst hu
  have hjy : j < ys.length := by
    rw [← ht, List.length_take] at hj; omega
  rw [Nat.zero_add, h.cell hjy, ← ht]
  simp [List.getD_eq_getElem?_getD, show j < m by omega]
theorem ordC_mem {cs : List Cd} : ∀ x ∈ ordC cs, 0 ≤ x ∧ x < cs.length := by
  unfold ordC sortK
  rcases Nat.eq_zero_or_pos cs.length with h | h
  · rw [h]; intro x hx; simp [idxs, insK] at hx
  · exact insK_ok (ok := fun x => 0 ≤ x ∧ x < cs.length) (fun x hx => idxs_mem.1 hx) (by rw [idxs_len]; omega)
def ActPost (w : World) (cs : List Cd) (d lv : Int) (e : Ending) (w' : World) : Prop := ∃ (A : Option Addr) (c : Nat), e = .returned (.tuple #[.slice A (actC cs d lv).length c, .int .i64 0]) ∧ Sl w' w'.heap.size 1 A (actC cs d lv).length c (ints (actC cs d lv)) ∧ Below w.heap.size w w'
/-- The same, and the row is the call's own. -/
def ActOwn (w : World) (cs : List Cd) (d lv : Int) (e : Ending) (w' : World) : Prop := ∃ (A : Option Addr) (c : Nat), e = .returned (.tuple #[.slice A (actC cs d lv).length c, .int .i64 0]) ∧ Sl w' w'.heap.size 1 A (actC cs d lv).length c (ints (actC cs d lv)) ∧ Below w.heap.size w w' ∧ ∀ b o, A = some ⟨b, o, none⟩ → w.heap.size ≤ b
set_option maxHeartbeats 1600000 in
set_option maxRecDepth 20000 in
theorem active_own (A : Option Addr) (n c : Nat) (cs : List Cd) (d lv : Int) (w : World) (hn : n ≤ 200) (hg : ∀ x ∈ cs, x.err = 0) (hd : wit d 364 = true) (hv : wit lv 16777216 = true) (hs : Sl w w.heap.size 7 A n c (cdCells cs)) :
    Calls Tryz.prog 51 #[.slice A n c, .int .i64 d, .int .i64 lv] w (ActOwn w cs d lv) := by
  have hmf : ∀ (fn : Fn) (first cap : Array Value) (w : World), (Instr.makeFunc fn first cap).run Tryz.prog w = .ok (.func fn first cap) w := fun _ _ _ _ => rfl
  have hl : n = cs.length := by have := hs.1; rw [cdCells_length] at this; omega
  have HL := hide hl
  have HG := hide hg
  have HD := hide hd
  have HV := hide hv
  have h3 := ((Blk.new w 38 #[.slice A n c]).alloc (.cells #[.int .i64 d] 3)).alloc (.cells #[.int .i64 lv] 3)
  have h4 := (Blk.new (w.alloc (.cells #[.slice A n c] 38)) 3 #[.int .i64 d]).alloc (.cells #[.int .i64 lv] 3)
  have h5 := Blk.new ((w.alloc (.cells #[.slice A n c] 38)).alloc (.cells #[.int .i64 d] 3)) 3 #[.int .i64 lv]
  have hB := ((bel1 (w := w) (o := .cells #[.slice A n c] 38)).alloc (by simp) (.cells #[.int .i64 d] 3)).alloc (by simp only [World.size_alloc]; omega) (.cells #[.int .i64 lv] 3)
  simp only [World.size_alloc] at h4 h5
  have HS := hide hs
  have hs2 := hs.thr hB
  clear hs hg hd hv hl
  have c3 := h3.facts.1 0
  have c4 := h4.facts.1 0
  have c5 := h5.facts.1 0
  simp only [List.getElem?_toArray, List.getElem?_cons_zero] at c3 c4 c5
  go_enter Tryz.func51, Tryz.ntmps51
  go_wp2_with fail
  generalize (((w.alloc _).alloc _).alloc _) = w2 at *
  refine (asked_ok A n c cs d lv none 0 0 [] w2 (by omega) HG.out HD.out HV.out (by simp) hs2 (Sl.none_ _ _ _)).mono ?_
  rintro e w3 ⟨rfl, hb3⟩
  have hB3 := bthr hB hb3 hB.size
  replace c3 := cell_thr hb3 c3
  replace c4 := cell_thr hb3 c4
  replace c5 := cell_thr hb3 c5
  have hs3 := hs2.thr hb3
  clear h3 h4 h5 hB hb3 hs2
  go_wp2_with fail
  refine (order_any A n c cs w3 (Nat.le_trans hn (by omega)) hs3).mono ?_
  rintro e w4 ⟨v, rfl, hrow, hb4⟩
  have hB4 := bthr hB3 hb4 hB3.size
  have hz4 := hB3.size
  have k3 : w.heap.size < w3.heap.size := World.block_lt_of_cell? _ _ c3
  have k4 : w.heap.size + 1 < w3.heap.size := World.block_lt_of_cell? _ _ c4
  have k5 : w.heap.size + 1 + 1 < w3.heap.size := World.block_lt_of_cell? _ _ c5
  have hz34 := hb4.size
  replace c3 := cell_thr hb4 c3
  replace c4 := cell_thr hb4 c4
  replace c5 := cell_thr hb4 c5
  have hs4 := hs3.thr hb4
  obtain ⟨hlen, ⟨rfl, rfl⟩ | ⟨h0, g, cq, rfl, q1, q2, q3, hr⟩⟩ := hrow
  · have hnil : ordC cs = [] := List.eq_nil_of_length_eq_zero hlen
    have HN := hide (show actC cs d lv = [] by unfold actC; rw [hnil]; rfl)
    have HB4 := hide hB4
    clear hs4 hs3 hlen hnil c3 c4 c5 hB4 hb4 hB3
    go_wp2_with fail
    refine (delete_nil _ _ _).mono ?_
    rintro e w5 ⟨rfl, rfl⟩
    go_wp2
    go_ret2
    exact ⟨none, 0, by rw [HN.out]; rfl, by rw [HN.out]; exact Sl.none_ _ _ _, HB4.out, fun _ _ h => by cases h⟩
  · have HC := hide (show PredSays w4 g 80 #[.pointer (some ⟨w.heap.size, 0, none⟩), .pointer (some ⟨w.heap.size + 1, 0, none⟩), .pointer (some ⟨w.heap.size + 1 + 1, 0, none⟩)] (fun x => !appC cs d lv x) (fun i => 0 ≤ i ∧ i < n) from ⟨cfV1, fun x W hx hW => by
      have hW3 : Below w3.heap.size w4 W := below_grown (Below.refl _ _) hW hz34 q3
      exact apred_any cs HG.out A n c _ _ _ w.heap.size d lv x W (HS.out.below (below_grown hB4 hW hB4.size (by omega))) hx ((hW3.cell (p := ⟨w.heap.size, 0, none⟩) k3).trans c3) ((hW3.cell (p := ⟨w.heap.size + 1, 0, none⟩) k4).trans c4) ((hW3.cell (p := ⟨w.heap.size + 1 + 1, 0, none⟩) k5).trans c5)⟩)
    have HR := hide hr
    have HLen := hide hlen
    have HB4 := hide hB4
    have hgs : w.heap.size ≤ g := by omega
    have HOK := hide (show ∀ x ∈ ordC cs, 0 ≤ x ∧ x < (n : Int) by
      intro x hx
      have := ordC_mem x hx
      have h := HL.out
      omega)
    clear hr hlen hs4 hs3 c3 c4 c5 hB3 hb4 hB4
    go_wp2_with fail
    refine (delete_any w4 g _ _ (fun x => !appC cs d lv x) _ HC.out n cq (by omega) q1 (ordC cs) HLen.out HOK.out w4 (grown_refl _ _) HR.out).mono ?_
    rintro e w5 ⟨ys, rfl, hr5, hl5, ht5, hg5⟩
    have hkl := keepL_le (fun x => !appC cs d lv x) (ordC cs)
    have HSL := hide (irow_sl hr5 ht5 rfl (by have := HLen.out; omega) q2)
    have HB5 := hide (below_grown HB4.out hg5 HB4.out.size hgs)
    clear hr5 hl5 ht5 hg5 hkl HC
    go_wp2
    go_ret2
    exact ⟨_, cq, rfl, HSL.out, HB5.out, fun b o h => by injection h with h; injection h with h1; omega⟩
theorem active_ok (A : Option Addr) (n c : Nat) (cs : List Cd) (d lv : Int) (w : World) (hn : n ≤ 200) (hg : ∀ x ∈ cs, x.err = 0) (hd : wit d 364 = true) (hv : wit lv 16777216 = true) (hs : Sl w w.heap.size 7 A n c (cdCells cs)) :
    Calls Tryz.prog 51 #[.slice A n c, .int .i64 d, .int .i64 lv] w (ActPost w cs d lv) :=
  (active_own A n c cs d lv w hn hg hd hv hs).mono fun _ _ ⟨A, c, h1, h2, h3, _⟩ => ⟨A, c, h1, h2, h3⟩
end Go.Proofs.YtodamjjlnagpjaaGreatDoor
