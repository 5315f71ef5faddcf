/-
  The contract of inflow.Smooth: the smoothed values, or the error. Condition: the slice can be read.
-/
import Derived.Test.YtbfflggoffmnmaaSmw
import Derived.Maps.AppendAt
namespace Go.Proofs.Ytbfflggoffmnmaa
open Go.RowKit Go.Shelf
attribute [local go_sem] Oper.semAt_some

theorem infoInt : (Try.prog.info? 3).map (fun i => (i.zero, i.size, i.bytes)) = some (some (.int .i64 0), 1, 8) := by kernel_rfl
def SmoI (w : World) (wd : Nat) (xs : List Int) (s : Nat) (W : World) : Prop :=
  (∃ v, Boxed W w.heap.size 22 v ∧ W.ownsRow (w.heap.size + 3) 3 1 v s (ints (smoK wd xs s)) ∧ True) ∧ (Below w.heap.size w W ∧ w.heap.size + 3 ≤ W.heap.size ∧ s ≤ xs.length ∧ (s % wd = 0 ∨ s = xs.length))
theorem own_eqI {w : World} {base : Nat} {e : TypeId} {size n : Nat} {v : Value} {xs ys : List Value} (h : w.ownsRow base e size v n xs) (he : xs = ys) : w.ownsRow base e size v n ys := he ▸ h
theorem hr_other {W : World} {base size n g : Nat} {e : TypeId} {v : Value} {xs : List Value} (h : W.ownsRow base e size v n xs) (hg : g < base) : v.ownBlock = none ∨ v.ownBlock ≠ some g := by
  right; intro he; have := (h.lt g he).1; omega
set_option maxHeartbeats 600000 in
set_option maxRecDepth 20000 in
theorem smooth_ok (A : Option Addr) (n c : Nat) (xs : List Int) (wd : Nat) (w : World) (hs : Sl w w.heap.size 1 A n c (ints xs)) (hw1 : 1 ≤ wd) (hw2 : wd ≤ 4096) (hbig : xs.any bigB = false) (hlen : xs.length ≤ 4096) :
    Calls Try.prog 11 #[.slice A n c, .int .i64 wd] w fun e w' => ∃ v, e = .returned (.tuple #[v, .int .i64 0]) ∧ w'.ownsRow w.heap.size 3 1 v n (ints (smoK wd xs n)) ∧ Below w.heap.size w w' := by
  have hl : n = xs.length := by have := hs.1; rw [ints_length] at this; omega
  have hnc : n ≤ c := hs.2.1
  have hcm : c ≤ maxLen := hs.2.2.1
  have hm : (n : Int) ≤ 4096 := by omega
  have hw1i : (1 : Int) ≤ (wd : Int) := by omega
  have hw2i : (wd : Int) ≤ 4096 := by omega
  obtain ⟨bb, o, hA, hbb, hcells⟩ : ∃ bb o, RowAt A bb o 0 n ∧ (0 < n → bb < w.heap.size) ∧ (∀ j, j < n → w.cell? ⟨bb, o + j, none⟩ = some (.int .i64 (xs.getD j 0))) := by
    by_cases h : 0 < n
    · obtain ⟨bb, o, rfl, hb, hc⟩ := hs.at_ h
      exact ⟨bb, o, fun _ => rfl, fun _ => hb, fun j hj => hc j _ (ints_get xs j (by omega))⟩
    · exact ⟨0, 0, fun hx => absurd hx h, fun hx => absurd hx h, fun j hj => by omega⟩
  have HC := hide (cont_big hs)
  have HB := hide hbig
  have HL := hide hl
  have HX := hide hcells
  have HBB := hide hbb
  have HA := hide hA
  clear hbig hl hs hcells hbb hA
  have h1 : 1 ≤ 6 := by omega
  refine (callsIn_wide (n := 6)).1 ?_
  refine callsIn_of_wp_marks Try.func11 rfl trivial ?_ rfl
  simp only [Try.ntmps11, List.size_toArray, List.length_cons, List.length_nil, Nat.reduceAdd, Nat.reduceSub, Array.replicate_succ, Array.replicate_zero, List.push_toArray, List.append_toArray, List.nil_append, List.cons_append]
  gi_wp2_with (first
    | (refine ⟨trivial, ?_⟩; gi_at_call 26; refine (callsIn_wide.2 HC.out).mono ?_; rintro e w' ⟨rfl, rfl⟩; rw [HB.out])
    | (refine ⟨trivial, ?_⟩; gi_at_call 28; refine (callsIn_wide.2 (groups_any _ _ _ _ _)).mono ?_; rintro e w' ⟨rfl, rfl⟩))
  obtain ⟨i0, hi, hz0, hz1, hz2⟩ := info_parts infoInt
  have bO := Boxed.new w 22 (.slice none 0 0)
  have bL := Boxed.new (w.alloc (.cells #[.slice none 0 0] 22)) 22 (.slice A n c)
  have bW := Boxed.new ((w.alloc (.cells #[.slice none 0 0] 22)).alloc (.cells #[.slice A n c] 22)) 3 (.int .i64 wd)
  rw [World.size_alloc] at bL
  rw [World.size_alloc, World.size_alloc] at bW
  have bO2 := (bO.alloc (.cells #[.slice A n c] 22)).alloc (.cells #[.int .i64 wd] 3)
  have bL2 := bL.alloc (.cells #[.int .i64 wd] 3)
  have hB0 : Below w.heap.size w (((w.alloc (.cells #[.slice none 0 0] 22)).alloc (.cells #[.slice A n c] 22)).alloc (.cells #[.int .i64 wd] 3)) := (((Below.refl _ w).alloc (Nat.le_refl _) _).alloc (by simp) _).alloc (by simp; omega) _
  have hz3 : (((w.alloc (.cells #[.slice none 0 0] 22)).alloc (.cells #[.slice A n c] 22)).alloc (.cells #[.int .i64 wd] 3)).heap.size = w.heap.size + 3 := by simp
  clear bO bL
  generalize ((w.alloc (.cells #[.slice none 0 0] 22)).alloc (.cells #[.slice A n c] 22)).alloc (.cells #[.int .i64 wd] 3) = W0 at *
  refine range_box (by omega) (gf := 38) (lb := #[.pointer (some ⟨w.heap.size + 1, 0, none⟩), .pointer (some ⟨w.heap.size + 1 + 1, 0, none⟩)]) rfl cf38
    (fun s => grpV bb o wd n c s) (fun s => grpNx wd n s) n (KeepB w.heap.size (w.heap.size + 1) (w.heap.size + 1 + 1)) (w.heap.size + 1) (by omega) rfl ?seq ?kt ?kb
    (SmoI w wd xs) ?is ?own ?start
    (fun s => { tmps := #[.slice A n c, .int .i64 wd, undef, undef, .slice none 0 0, .int .i64 0, .pointer (some ⟨w.heap.size, 0, none⟩), grpV bb o wd n c s, undef, undef, undef, undef, undef, undef, undef, .int .i64 wd,
      .bool (decide ((wd : Int) < 1)), .bool (decide ((wd : Int) < 1)), .int .i64 wd, .bool (decide (4096 < (wd : Int))), .bool (decide ((wd : Int) < 1) || decide (4096 < (wd : Int))), .bool (decide ((wd : Int) < 1) || decide (4096 < (wd : Int))), .slice A n c, .bool false,
      .bool (decide ((wd : Int) < 1) || decide (4096 < (wd : Int))), .slice A n c, .int .i64 n, .bool (decide (4096 < (n : Int))), .slice A n c, .int .i64 wd, .func (.func 38) #[] #[.pointer (some ⟨w.heap.size + 1, 0, none⟩), .pointer (some ⟨w.heap.size + 1 + 1, 0, none⟩)], grpV bb o wd n c s,
      undef, undef, undef, undef, undef, undef, undef, undef, undef, undef, undef, undef, undef, undef, undef, undef, undef, undef, undef, undef, undef, undef, undef, undef, undef, undef, undef, undef, undef, undef, undef, undef, undef, undef, undef, undef, undef], defers := [] }) ?assign ?body ?done
  case seq =>
    intro l J W hW hJ hY h0
    exact groups1_in 5 (by omega) l (w.heap.size + 1) (w.heap.size + 1 + 1) w.heap.size bb o n c wd A HA.out (by omega) hnc (by unfold maxLen at hcm; omega) hw1 hw2 J hJ hY W ((hW.block _ (by omega)).trans bL2) ((hW.block _ (by omega)).trans bW) h0
  case kt => rintro X Y Z ⟨a1, a2, a3⟩ ⟨b1, b2, b3⟩; exact ⟨a1.trans b1, b2.trans a2, b3.trans a3⟩
  case kb =>
    intro W l o o' hl ho hc
    have hlt := (Array.getElem?_eq_some_iff.1 ho).1
    exact ⟨(Below.refl _ W).grown (grownBy_putObj' W l o') (by omega) (fun k e => by cases e; omega), World.putObj_heap_other (by omega), World.putObj_heap_other (by omega)⟩
  case is => 
    rintro s W v ⟨⟨u, hu, hr, -⟩, hb, hz, hle⟩
    have hg := grownBy_setCell' W (w.heap.size + 1) v
    exact ⟨⟨u, hu.kept hg (by simp), hr.kept hg (hr_other hr (by omega)), trivial⟩, hb.setCell (p := ⟨w.heap.size + 1, 0, none⟩) (by simp) _, by have := hg.size; omega, hle⟩
  case own =>
    refine OwnFrom.and (Own.from (holdsRow_own (w.heap.size + 3) w.heap.size 22 3 1 (fun s => s) (fun s => ints (smoK wd xs s)) (fun _ _ => True)) _) ?_
    rintro s X Y row ⟨hb, hz, r⟩ hg hr
    exact ⟨hb.grown hg hb.size (fun k e => by have := (hr k e).1; omega), by have := hg.size; omega, r⟩
  case start => exact ⟨⟨_, bO2, World.ownsRow_nil _ _ _ _, trivial⟩, hB0, by omega, by omega, .inl (Nat.zero_mod _)⟩
  case assign =>
    intro l s W K hK
    gi_wp2
    exact hK
  case body =>
    rintro l s W ⟨⟨v, hv, hrow, -⟩, hB, hsz, hle, hmod⟩ hsn
    have hl := HL.out
    have hmod0 : s % wd = 0 := by rcases hmod with h | h; exact h; omega
    obtain ⟨m, hm⟩ : ∃ m, min wd (n - s) = m := ⟨_, rfl⟩
    have hgv : grpV bb o wd n c s = .slice (some ⟨bb, o + s, none⟩) m (c - s) := by unfold grpV; rw [hm]
    have HGL := hide (show grpLen wd xs.length s = m by unfold grpLen; rw [← hl]; exact hm)
    have HNX := hide (show grpNx wd n s = s + m by unfold grpNx; rw [hm])
    have hm0 : 0 < m := by omega
    have hmn : s + m ≤ n := by omega
    have hmw : m ≤ wd := by omega
    have HM := hide (show (s + m) % wd = 0 ∨ s + m = xs.length by rw [← hl, ← hm]; exact next_mod hw1 hmod0 hsn)
    have HX2 := hide (fun (j : Nat) (hj : j < m) => (hB.cell (p := ⟨bb, o + s + j, none⟩) (HBB.out (by omega))).trans (show w.cell? ⟨bb, o + s + j, none⟩ = some (.int .i64 (xs.getD (s + j) 0)) by rw [Nat.add_assoc]; exact HX.out (s + j) (by omega)))
    have HAT := hide (fun (j : Nat) (hj : j < m) => smoAt_grp (xs := xs) (s := s) (j := j) hw1 hmod0 (by omega))
    have HSB := hide (sumTo_bound HB.out s)
    have hm0i : (0 : Int) < (m : Int) := by omega
    have hmi : (m : Int) ≤ 4096 := by omega
    have hci : (m : Int) ≤ ((c - s : Nat) : Int) := by omega
    obtain ⟨d, hd⟩ : ∃ d, c - s = d := ⟨_, rfl⟩
    rw [hd] at hgv hci
    dsimp only
    rw [hgv]
    have hl5 : 1 ≤ 6 - 1 - 1 := by omega
    clear hm hgv hmod hd hl
    gi_wp2
    gi_loopw [8, 34] (fun t i wr => ∃ j : Nat, j ≤ m ∧ i = .int .i64 j ∧ t = .int .i64 (sumTo xs s j) ∧ wr = W) (fun _ i _ => m - (intOf i).toNat)
    case atStart => exact ⟨0, by omega, rfl, rfl, rfl⟩
    case round =>
      obtain ⟨j, hj, rfl, rfl, rfl⟩ := hrel
      obtain ⟨t, ht⟩ : ∃ t, sumTo xs s j = t := ⟨_, rfl⟩
      have hb1 := HSB.out j
      rw [ht] at hb1 ⊢
      by_cases hlt : j < m
      · have hx := HX2.out j hlt
        have hxb := big_at HB.out (s + j)
        have HS := hide (show sumTo xs s (j + 1) = t + xs.getD (s + j) 0 by rw [← ht]; rfl)
        clear ht
        generalize xs.getD (s + j) 0 = x at *
        obtain ⟨hb1, hb2⟩ := hb1
        obtain ⟨hx1, hx2⟩ := hxb
        have hji : (j : Int) < (m : Int) := by omega
        have ht1 : -1125899906842624 ≤ t := by omega
        have ht2 : t ≤ 1125899906842624 := by omega
        gi_wp2
        go_roundw
        case rel => exact ⟨j + 1, by omega, by go_num, by rw [HS.out], by trivial⟩
        case measure => simp [intOf]; omega
      · obtain rfl : j = m := by omega
        obtain ⟨hb1, hb2⟩ := hb1
        have ht1 : -1125899906842624 ≤ t := by omega
        have ht2 : t ≤ 1125899906842624 := by omega
        obtain ⟨q, hq⟩ : ∃ q, t / (j : Int) = q := ⟨_, rfl⟩
        obtain ⟨p, hp⟩ : ∃ p, q * (j : Int) = p := ⟨_, rfl⟩
        have hp1 : p ≤ t := by rw [← hp, ← hq]; exact Int.ediv_mul_le t (by omega)
        have hp2 : t < p + j := by have := Int.lt_ediv_add_one_mul_self t hm0i; rw [hq, Int.add_mul, hp, Int.one_mul] at this; exact this
        have hq1 : -1125899906842624 ≤ q ∧ q ≤ 1125899906842624 := by
          constructor
          · rw [← hq, Int.le_ediv_iff_mul_le hm0i]; have := Int.mul_le_mul_of_nonpos_left (a := -1125899906842624) (b := (j : Int)) (c := 1) (by omega) (by omega); omega
          · have : q < 1125899906842625 := by rw [← hq, Int.ediv_lt_iff_lt_mul hm0i]; omega
            omega
        obtain ⟨hq1, hq2⟩ := hq1
        have HAT2 := hide (fun (k : Nat) (hk : k < j) => show smoAt wd xs (s + k) = q + if (k : Int) < t - p then 1 else 0 by rw [HAT.out k hk]; rw [HGL.out, ht]; unfold evenV; rw [hq, hp])
        have HD := hide (down_any t (j : Int) wr ht1 ht2 hm0i hmi)
        rw [hq] at HD
        have hpr : q * (j : Int) = p := hp
        clear ht hq hp HAT HSB HGL
        gi_wp2_with (first | (refine ⟨trivial, ?_⟩; gi_at_call 29; refine (CallsIn.inRound l (callsIn_wide.2 HD.out)).mono ?_; rintro e w' ⟨rfl, rfl⟩))
        obtain ⟨lf, hlf⟩ : ∃ lf, t - p = lf := ⟨_, rfl⟩
        have hlf0 : 0 ≤ lf := by omega
        have hlf1 : lf < (j : Int) := by omega
        rw [hlf] at HAT2
        simp only [hlf]
        gi_loopw [54] (fun i wr' => ∃ k : Nat, k ≤ j ∧ i = .int .i64 k ∧ (∃ v, Boxed wr' w.heap.size 22 v ∧ wr'.ownsRow (w.heap.size + 3) 3 1 v (s + k) (ints (smoK wd xs (s + k)))) ∧ KeepsFrom W0.heap.size wr wr' ∧ KeepB w.heap.size (w.heap.size + 1) (w.heap.size + 1 + 1) wr wr' ∧ w.heap.size + 3 ≤ wr'.heap.size) (fun i _ => j - (intOf i).toNat)
        case atStart => exact ⟨0, by omega, rfl, ⟨v, hv, hrow⟩, KeepsFrom.refl _ _, ⟨Below.refl _ _, rfl, rfl⟩, hsz⟩
        case round =>
          clear hv hrow
          obtain ⟨k, hk, rfl, ⟨v, hv, hrow⟩, hkf, hkb, hz⟩ := hrel
          have hcell := hv.cell
          have hfrz := hv.frozen
          by_cases hlt : k < j
          · have HA3 := HAT2.out k hlt
            have HS := hide (smoK_succ wd xs (s + k))
            have hkj : (k : Int) < (j : Int) := by omega
            by_cases hkl : (k : Int) < lf
            · rw [if_pos hkl] at HA3
              have HA4 := hide HA3
              clear HA3
              gi_wp2_with (first | (gi_at_builtin; refine wpListIn_append_own _ rfl _ _ 22 rfl (w.heap.size + 3) 3 i0 (.int .i64 0) 1 8 Try.underlying22 hi hz0 hz1 hz2 rfl (by decide) _ _ _ rfl (hrow.alloc _) ⟨wr.heap.size, 0, none⟩ 1 1 [.int .i64 (q + 1)] rfl rfl (cell_one_new _ _ _) (by simp [Value.oneCell']) (by unfold maxLen; omega) (by omega) (by simp; omega) ?_; intro v' w1 hown' hgrow _; obtain ⟨g', cap', rfl⟩ := ownsRow_succ hown'; obtain ⟨hv1, hv2, hr2, hk2, hb2, ho2⟩ := pushed_box hv hrow (by omega) (Nat.le_refl _) hz hown' hgrow; have hc1 := hv1.cell; have hf1 := hv1.frozen))
              have hr3 := own_eqI hr2 (ys := ints (smoK wd xs (s + (k + 1)))) (by show _ = ints (smoK wd xs (s + k + 1)); rw [HS.out, ints_append, HA4.out]; rfl)
              go_roundw
              case rel => exact ⟨k + 1, by omega, by go_num, ⟨_, hv2, hr3⟩, hkf.trans (hk2.from _), ⟨hkb.1.trans hb2, (ho2 _ (by omega) (by omega)).trans hkb.2.1, (ho2 _ (by omega) (by omega)).trans hkb.2.2⟩, Nat.le_trans hz hk2.size⟩
              case measure => simp [intOf]; omega
            · have hkl' : lf ≤ (k : Int) := by omega
              rw [if_neg hkl, Int.add_zero] at HA3
              have HA4 := hide HA3
              clear HA3
              gi_wp2_with (first | (gi_at_builtin; refine wpListIn_append_own _ rfl _ _ 22 rfl (w.heap.size + 3) 3 i0 (.int .i64 0) 1 8 Try.underlying22 hi hz0 hz1 hz2 rfl (by decide) _ _ _ rfl (hrow.alloc _) ⟨wr.heap.size, 0, none⟩ 1 1 [.int .i64 q] rfl rfl (cell_one_new _ _ _) (by simp [Value.oneCell']) (by unfold maxLen; omega) (by omega) (by simp; omega) ?_; intro v' w1 hown' hgrow _; obtain ⟨g', cap', rfl⟩ := ownsRow_succ hown'; obtain ⟨hv1, hv2, hr2, hk2, hb2, ho2⟩ := pushed_box hv hrow (by omega) (Nat.le_refl _) hz hown' hgrow; have hc1 := hv1.cell; have hf1 := hv1.frozen))
              have hr3 := own_eqI hr2 (ys := ints (smoK wd xs (s + (k + 1)))) (by show _ = ints (smoK wd xs (s + k + 1)); rw [HS.out, ints_append, HA4.out]; rfl)
              go_roundw
              case rel => exact ⟨k + 1, by omega, by go_num, ⟨_, hv2, hr3⟩, hkf.trans (hk2.from _), ⟨hkb.1.trans hb2, (ho2 _ (by omega) (by omega)).trans hkb.2.1, (ho2 _ (by omega) (by omega)).trans hkb.2.2⟩, Nat.le_trans hz hk2.size⟩
              case measure => simp [intOf]; omega
          · obtain rfl : k = j := by omega
            gi_wp2
            refine ⟨hkf, hkb, ?_⟩
            show SmoI w wd xs (grpNx wd n s) _
            rw [HNX.out]
            exact ⟨⟨v, hv, hrow, trivial⟩, hB.trans hkb.1, hz, by have := HL.out; omega, HM.out⟩
  case done =>
    rintro D W hD ⟨⟨v, hv, hrow, -⟩, hB, hsz, -⟩ hK
    have hc := hv.cell
    gi_wp2
    refine ⟨by simp, .inl ⟨_, _, rfl, run_takeDeferred hK, ?_⟩⟩
    have hlt := (Array.getElem?_eq_some_iff.1 hK).1
    exact ⟨_, results_tmp2 rfl _ _ _, v, rfl, ownsRow_base (ownsRow_putObj hrow _ hK rfl) (by omega), hB.trans ((Below.refl _ W).grown (grownBy_putObj' W D _) (by omega) (fun k e => by cases e; omega))⟩
/-- inflow.Smooth: the smoothed values, or the error -/
theorem smooth_any (A : Option Addr) (n c : Nat) (xs : List Int) (wd : Int) (w : World) (hs : Sl w w.heap.size 1 A n c (ints xs)) :
    Calls Try.prog 11 #[.slice A n c, .int .i64 wd] w (SmoOut w wd xs) := by
  by_cases he : smoE wd xs = 0
  · have hl : n = xs.length := by have := hs.1; rw [ints_length] at this; omega
    have h1 : ¬ (wd < 1 ∨ 4096 < wd ∨ xs.any bigB = true) := by intro h; simp only [smoE] at he; rw [if_pos h] at he; omega
    have h2 : ¬ 4096 < xs.length := by intro h; simp only [smoE] at he; rw [if_neg h1, if_pos h] at he; omega
    have hb : xs.any bigB = false := by
      cases h : xs.any bigB
      · rfl
      · exact absurd (.inr (.inr h)) h1
    obtain ⟨m, rfl⟩ : ∃ m : Nat, wd = (m : Int) := ⟨wd.toNat, by omega⟩
    refine (smooth_ok A n c xs m w hs (by omega) (by omega) hb (by omega)).mono ?_
    rintro e w' ⟨v, rfl, hown, hbl⟩
    refine ⟨v, by rw [he], ?_, hbl⟩
    have hL : smoL (m : Int) xs = smoK m xs n := by rw [smoL, if_pos he, Int.toNat_natCast, hl]
    rw [hL, smoK_length]
    exact hown
  · exact smooth_err A n c xs wd w hs he
end Go.Proofs.Ytbfflggoffmnmaa
