/-
  The contract of the program's choose where its arguments are right: the choice is the plain one. Conditions: each condition is valid, there are 200 at most, the table of kinds, and a valid day, level, releases and bounds.
  The contract of the program's Choose where its arguments are right: the choice is the plain one. Conditions: each condition is valid, there are 200 at most, the table of kinds, and a valid day, level, releases and bounds.
-/
import Derived.Test.YtodamjjlnagpjaaGreatDoorProg
import Derived.Test.YtodamjjlnagpjaaGreatDoorRsk
import Derived.Deep.DeepCutAuto
namespace Go.Proofs.YtodamjjlnagpjaaGreatDoor
open Go.RowKit

theorem actC_ract (cs : List Cd) (d lv : Int) : actC cs d lv = ractL cs d lv (ordC cs) := by
  unfold actC ractL keepL
  refine List.filter_congr fun x hx => ?_
  obtain ⟨h0, h1⟩ := ordC_mem x hx
  have hl : x.toNat < cs.length := by omega
  unfold appC apyB
  simp [List.getD_eq_getElem?_getD, hl]
/-- Whether the first that yields lies above what is left. -/
def UpOk (ys : List (Int × Int)) (lo hi f0 f1 : Int) (up : Bool) : Prop := (ys = [] → up = false) ∧ (ys ≠ [] → (up = true → hi < f0 ∧ f0 ≤ f1) ∧ (up = false → f1 < lo))
theorem up_no1 {ys : List (Int × Int)} {lo hi f0 f1 b0 b1 : Int} {up : Bool} {z : Int × Int} (h : UpOk ys lo hi f0 f1 up) (h1 : b1 < lo) : UpOk (ys ++ [z]) lo hi (if ys = [] then b0 else f0) (if ys = [] then b1 else f1) up := by
  refine ⟨fun e => by simp at e, fun _ => ?_⟩
  by_cases e : ys = []
  · rw [if_pos e, if_pos e, h.1 e]
    exact ⟨(fun h => by cases h), fun _ => h1⟩
  · rw [if_neg e, if_neg e]; exact h.2 e
theorem up_no2 {ys : List (Int × Int)} {lo hi f0 f1 b0 b1 : Int} {up : Bool} {z : Int × Int} (h : UpOk ys lo hi f0 f1 up) (h1 : hi < b0) (h2 : b0 ≤ b1) : UpOk (ys ++ [z]) lo hi (if ys = [] then b0 else f0) (if ys = [] then b1 else f1) (up || decide (ys = [])) := by
  refine ⟨fun e => by simp at e, fun _ => ?_⟩
  by_cases e : ys = []
  · rw [if_pos e, if_pos e, decide_eq_true e, Bool.or_true]
    exact ⟨fun _ => ⟨h1, h2⟩, (fun h => by cases h)⟩
  · rw [if_neg e, if_neg e, decide_eq_false e, Bool.or_false]; exact h.2 e
theorem up_yes {ys : List (Int × Int)} {lo hi f0 f1 lo' hi' : Int} {up : Bool} (h : UpOk ys lo hi f0 f1 up) (h1 : lo ≤ lo') (h2 : hi' ≤ hi) : UpOk ys lo' hi' f0 f1 up :=
  ⟨h.1, fun e => ⟨fun hu => by have := (h.2 e).1 hu; omega, fun hu => by have := (h.2 e).2 hu; omega⟩⟩
def EndsCut (w0 : World) (lo hi : Int) (v13 v14 : Value) (wx : World) : Prop := ∃ g h : Nat, v13 = .pointer (some ⟨g, 0, none⟩) ∧ v14 = .pointer (some ⟨h, 0, none⟩) ∧ g ≠ h ∧ w0.heap.size ≤ g ∧ w0.heap.size ≤ h ∧ Blk wx g 124 #[.int .i64 lo, .int .i64 (-1)] ∧ Blk wx h 124 #[.int .i64 hi, .int .i64 (-1)] ∧ Below w0.heap.size w0 wx
theorem ends_ab {w1 : World} {N : Nat} (lo hi : Int) (hN : w1.heap.size = N) : EndsCut w1 lo hi (.pointer (some ⟨N, 0, none⟩)) (.pointer (some ⟨N + 1, 0, none⟩)) ((w1.alloc (.cells #[.int .i64 lo, .int .i64 (-1)] 124)).alloc (.cells #[.int .i64 hi, .int .i64 (-1)] 124)).drew := by
  subst hN
  have e1 := (Blk.new w1 124 #[.int .i64 lo, .int .i64 (-1)]).alloc (.cells #[.int .i64 hi, .int .i64 (-1)] 124)
  have e2 := Blk.new (w1.alloc (.cells #[.int .i64 lo, .int .i64 (-1)] 124)) 124 #[.int .i64 hi, .int .i64 (-1)]
  rw [World.size_alloc] at e2
  exact ⟨_, _, rfl, rfl, by omega, by omega, by omega, e1, e2, (bel1.alloc (by simp) _).drew⟩
theorem ends_ba {w1 : World} {N : Nat} (lo hi : Int) (hN : w1.heap.size = N) : EndsCut w1 lo hi (.pointer (some ⟨N + 1, 0, none⟩)) (.pointer (some ⟨N, 0, none⟩)) ((w1.alloc (.cells #[.int .i64 hi, .int .i64 (-1)] 124)).alloc (.cells #[.int .i64 lo, .int .i64 (-1)] 124)).drew := by
  subst hN
  have e1 := (Blk.new w1 124 #[.int .i64 hi, .int .i64 (-1)]).alloc (.cells #[.int .i64 lo, .int .i64 (-1)] 124)
  have e2 := Blk.new (w1.alloc (.cells #[.int .i64 hi, .int .i64 (-1)] 124)) 124 #[.int .i64 lo, .int .i64 (-1)]
  rw [World.size_alloc] at e2
  exact ⟨_, _, rfl, rfl, by omega, by omega, by omega, e2, e1, (bel1.alloc (by simp) _).drew⟩
/-- what the program's choose answers -/
def PChP (w : World) (cs : List Cd) (d lv bf g0 g1 wn : Int) (e : Ending) (w' : World) : Prop := ∃ (s : Chs) (A : Option Addr) (c : Nat), s = chAll bf cs g0 g1 (actC cs d lv) ∧ e = .returned (.agg #[.int .i64 (chRel wn s), .int .i64 s.lo, .int .i64 s.hi, .slice A s.ys.length c]) ∧ w'.ownsRow w.heap.size 130 2 (.slice A s.ys.length c) s.ys.length (yCells s.ys) ∧ Below w.heap.size w w'
theorem own_setN {w : World} {base n : Nat} {e : TypeId} {size : Nat} {v : Value} {xs : List Value} (h : w.ownsRow base e size v n xs) {g i : Nat} (hg : v.ownBlock ≠ some g) (u : Value) : (w.setCell ⟨g, i, none⟩ u).ownsRow base e size v n xs :=
  h.kept (row := some g) ⟨rfl, rfl, rfl, by simp [World.setCell], fun j _ hne => Below.heap_setCell _ _ u j (fun e => hne (by rw [e]))⟩ (.inr hg)
/-- what a round of the choice holds behind its tests -/
def ChW (w1 wc w4 : World) (g h b : Nat) (lo lb hi mb b0 b1 : Int) (vy : Value) (ys : List (Int × Int)) (wx : World) : Prop :=
  Blk wx g 124 #[.int .i64 lo, .int .i64 lb] ∧ Blk wx h 124 #[.int .i64 hi, .int .i64 mb] ∧ Blk wx b 45 #[.int .i64 b0, .int .i64 b1] ∧ wx.ownsRow w4.heap.size 130 2 vy ys.length (yCells ys) ∧ Stays w1 wc w4 wx
def ChP (w1 wc w4 : World) (g h b : Nat) : Prop := g ≠ h ∧ g ≠ b ∧ h ≠ b ∧ g < wc.heap.size ∧ h < wc.heap.size ∧ w1.heap.size ≤ g ∧ w1.heap.size ≤ h ∧ wc.heap.size ≤ w4.heap.size ∧ w4.heap.size ≤ b
def Cut1 (w1 wc w4 : World) (g h b : Nat) (m p lo lb hi mb b0 b1 : Int) (vy : Value) (ys : List (Int × Int)) (v : Value) (wx : World) : Prop :=
  ∃ gx, v = .pointer (some ⟨gx, 0, none⟩) ∧ gx ≠ g ∧ gx ≠ h ∧ gx ≠ b ∧ Blk wx gx 124 #[.int .i64 m, .int .i64 p] ∧ ChW w1 wc w4 g h b lo lb hi mb b0 b1 vy ys wx
section
variable {w1 wc w4 wx : World} {g h b : Nat} {lo lb hi mb b0 b1 m m' p : Int} {vy : Value} {ys : List (Int × Int)}
theorem ChW.alloc (H : ChW w1 wc w4 g h b lo lb hi mb b0 b1 vy ys wx) (o : Obj) : ChW w1 wc w4 g h b lo lb hi mb b0 b1 vy ys (wx.alloc o) := ⟨H.1.alloc o, H.2.1.alloc o, H.2.2.1.alloc o, H.2.2.2.1.alloc o, H.2.2.2.2.alloc o⟩
theorem ChW.setG (P : ChP w1 wc w4 g h b) (H : ChW w1 wc w4 g h b lo lb hi mb b0 b1 vy ys wx) (x y : Int) : ChW w1 wc w4 g h b x y hi mb b0 b1 vy ys ((wx.setCell ⟨g, 0, none⟩ (.int .i64 x)).setCell ⟨g, 1, none⟩ (.int .i64 y)) := by
  obtain ⟨p1, p2, p3, p4, p5, p6, p7, p8, p9⟩ := P
  obtain ⟨h1, h2, h3, h4, h5⟩ := H
  exact ⟨(h1.setB 0 (.int .i64 x)).setB 1 (.int .i64 y), (h2.farB (p := ⟨g, 0, none⟩) (fun e => p1 e.symm) _).farB (p := ⟨g, 1, none⟩) (fun e => p1 e.symm) _, (h3.farB (p := ⟨g, 0, none⟩) (fun e => p2 e.symm) _).farB (p := ⟨g, 1, none⟩) (fun e => p2 e.symm) _,
    own_setc (own_setc h4 (p := ⟨g, 0, none⟩) (Nat.lt_of_lt_of_le p4 p8) _) (p := ⟨g, 1, none⟩) (Nat.lt_of_lt_of_le p4 p8) _, (h5.set_ (p := ⟨g, 0, none⟩) p6 (.inl p4) _).set_ (p := ⟨g, 1, none⟩) p6 (.inl p4) _⟩
theorem ChW.setH (P : ChP w1 wc w4 g h b) (H : ChW w1 wc w4 g h b lo lb hi mb b0 b1 vy ys wx) (x y : Int) : ChW w1 wc w4 g h b lo lb x y b0 b1 vy ys ((wx.setCell ⟨h, 0, none⟩ (.int .i64 x)).setCell ⟨h, 1, none⟩ (.int .i64 y)) := by
  obtain ⟨p1, p2, p3, p4, p5, p6, p7, p8, p9⟩ := P
  obtain ⟨h1, h2, h3, h4, h5⟩ := H
  exact ⟨(h1.farB (p := ⟨h, 0, none⟩) p1 _).farB (p := ⟨h, 1, none⟩) p1 _, (h2.setB 0 (.int .i64 x)).setB 1 (.int .i64 y), (h3.farB (p := ⟨h, 0, none⟩) (fun e => p3 e.symm) _).farB (p := ⟨h, 1, none⟩) (fun e => p3 e.symm) _,
    own_setc (own_setc h4 (p := ⟨h, 0, none⟩) (Nat.lt_of_lt_of_le p5 p8) _) (p := ⟨h, 1, none⟩) (Nat.lt_of_lt_of_le p5 p8) _, (h5.set_ (p := ⟨h, 0, none⟩) p7 (.inl p5) _).set_ (p := ⟨h, 1, none⟩) p7 (.inl p5) _⟩
theorem cut1_of (H : ChW w1 wc w4 g h b lo lb hi mb b0 b1 vy ys wx) (hm : m' = m) {N : Nat} (hN : N = wx.heap.size) : Cut1 w1 wc w4 g h b m p lo lb hi mb b0 b1 vy ys (.pointer (some ⟨N, 0, none⟩)) (wx.alloc (.cells #[.int .i64 m', .int .i64 p] 124)) := by
  subst hm hN
  exact ⟨_, rfl, Nat.ne_of_gt H.1.lt, Nat.ne_of_gt H.2.1.lt, Nat.ne_of_gt H.2.2.1.lt, Blk.new _ _ _, H.alloc _⟩
end
set_option maxHeartbeats 64000000 in
set_option maxRecDepth 20000 in
theorem choose_ok (A : Option Addr) (n c : Nat) (cs : List Cd) (d lv bf g0 g1 wn : Int) (w : World) (hT : KT w) (hn : n ≤ 200) (hg : ∀ x ∈ cs, x.err = 0) (hd : wit d 364 = true) (hv : wit lv 16777216 = true) (hbf : wit bf 1073741824 = true) (hgg : g0 ≤ g1) (hs : Sl w w.heap.size 7 A n c (cdCells cs)) :
    Calls Tryz.prog 26 #[.slice A n c, .int .i64 d, .int .i64 lv, .int .i64 bf, .agg #[.int .i64 g0, .int .i64 g1], .int .i64 wn] w (PChP w cs d lv bf g0 g1 wn) := by
  have hl : n = cs.length := by have := hs.1; rw [cdCells_length] at this; omega
  have hw0 := hT.pos
  have HL := hide hl
  have HG := hide hg
  have HD := hide hd
  have HV := hide hv
  have HBF := hide hbf
  have HGG := hide hgg
  have q0 := (Blk.new w 45 #[.int .i64 g0, .int .i64 g1]).alloc (.cells #[.int .i64 0, .int .i64 0, .int .i64 0, .slice none 0 0] 48)
  have q1 := Blk.new (w.alloc (.cells #[.int .i64 g0, .int .i64 g1] 45)) 48 #[.int .i64 0, .int .i64 0, .int .i64 0, .slice none 0 0]
  rw [World.size_alloc] at q1
  have hB := (bel1 (w := w) (o := .cells #[.int .i64 g0, .int .i64 g1] 45)).alloc (by simp) (.cells #[.int .i64 0, .int .i64 0, .int .i64 0, .slice none 0 0] 48)
  have hs1 := hs.thr hB
  have HS0 := hide hs
  clear hl hg hd hv hbf hs hgg
  obtain ⟨y0, y1, _⟩ := q0.facts2
  go_enter Tryz.func26, Tryz.ntmps26
  go_upto_region 1 with fail
  generalize hw1 : ((w.alloc _).alloc _) = w1 at *
  have hz0 : w1.heap.size = w.heap.size + 2 := by rw [← hw1]; simp
  clear hw1
  go_cut [13, 14] (fun v13 v14 wx => EndsCut w1 g0 g1 v13 v14 wx)
  case first =>
    go_region_with (fail)
    all_goals
      go_wp2_with fail
      go_meet
      first | exact ends_ab _ _ hz0 | exact ends_ba _ _ hz0
  case rest =>
    obtain ⟨g, h, rfl, rfl, hne, hg0, hh0, bg, bh, hBc⟩ := hcut
    have hs2 := hs1.thr hBc
    have HBw := hide (bthr hB hBc hB.size)
    have HBC := hide hBc
    have HQ1 := hide (q1.below hBc q1.lt)
    have HQ0 := hide q1
    have HBA := hide hB
    have hgc := bg.lt
    have hhc := bh.lt
    have hz1 := hB.size
    clear q0 q1 hB hs1 y0 y1
    go_wp2_with fail
    refine (active_own A n c cs d lv wc hn HG.out HD.out HV.out hs2).mono ?_
    rintro e w4 ⟨A4, c4, rfl, ha, hb4, hA4⟩
    have bg4 := bg.below hb4 bg.lt
    have bh4 := bh.below hb4 bh.lt
    have hzc := hb4.size
    have HST := hide (show Stays w1 wc w4 w4 from ⟨hBc.trans (hb4.mono hBc.size), Nat.le_refl _, fun _ _ _ => rfl⟩)
    have HS1 := hide hs2
    have HX := hide (fun (k : Nat) (h : k < (actC cs d lv).length) => actC_in (cs := cs) (d := d) (lv := lv) h)
    obtain ⟨xs, hxs⟩ : ∃ xs, xs = actC cs d lv := ⟨_, rfl⟩
    rw [← hxs] at ha HX ⊢
    have HXS := hide hxs
    obtain ⟨q, hq⟩ : ∃ q, q = xs.length := ⟨_, rfl⟩
    rw [← hq] at ha HX ⊢
    have HQ := hide hq
    have HSA := hide (fun (wr : World) (hst : Stays w1 wc w4 wr) (k : Nat) (hk : k < q) => show ∃ b o, A4 = some ⟨b, o, none⟩ ∧ wr.cell? ⟨b, o + k, none⟩ = some (.int .i64 (xs.getD k 0)) by
      obtain ⟨b, o, hA, hb, hc⟩ := ha.at_ hk
      exact ⟨b, o, hA, (hst.cell (hA4 b o hA) hb).trans (hc k _ (ints_get xs k (by rw [← hq]; exact hk)))⟩)
    have hq20 : q ≤ 200 := by
      have h1 := keepL_le (fun i => !appC cs d lv i) (ordC cs)
      rw [ordC_length] at h1
      have h3 := HL.out
      rw [hq, hxs]; unfold actC; omega
    clear ha hA4 hb4 hxs hq hs2 bg bh hBc
    go_wp2
    go_loopw [15, 16, 41] (fun vy vu vi wr => ∃ (k : Nat) (lo hi lb mb f0 f1 : Int) (ys : List (Int × Int)) (up : Bool), k ≤ q ∧ vi = .int .i64 k ∧ vu = .bool up ∧ Hid (chAll bf cs g0 g1 (xs.take k) = ⟨lo, hi, lb, mb, ys, f0, f1⟩) ∧ Hid (UpOk ys lo hi f0 f1 up) ∧ Blk wr g 124 #[.int .i64 lo, .int .i64 lb] ∧ Blk wr h 124 #[.int .i64 hi, .int .i64 mb] ∧ wr.ownsRow w4.heap.size 130 2 vy ys.length (yCells ys) ∧ Hid (ys.length ≤ k) ∧ Stays w1 wc w4 wr) (fun _ _ vi _ => q - (intOf vi).toNat)
    case atStart => exact ⟨0, g0, g1, -1, -1, 0, 0, [], false, by omega, rfl, rfl, hide rfl, hide ⟨fun _ => rfl, fun h => absurd rfl h⟩, bg4, bh4, World.ownsRow_nil _ _ _ _, hide (Nat.le_refl 0), HST.out⟩
    case round =>
      obtain ⟨k, lo, hi, lb, mb, f0, f1, ys, up, hk, rfl, rfl, hst, hup, b2, b3, hy, hyl, stay⟩ := hrel
      have hlh := chAll_le (bf := bf) (cs := cs) HGG.out (xs.take k)
      rw [hst.out] at hlh
      simp only at hlh
      obtain ⟨Ay, cy, rfl, _⟩ := own_sl hy
      by_cases hlt : k < q
      · obtain ⟨bA, oA, rfl, ca⟩ := HSA.out _ stay k hlt
        obtain ⟨p0, p1⟩ := HX.out k hlt
        obtain ⟨p, hp⟩ : ∃ p : Nat, xs.getD k 0 = (p : Int) := ⟨(xs.getD k 0).toNat, by omega⟩
        rw [hp] at ca
        have hL := HL.out
        have hBr := HBA.out.trans (stay.1.mono hz1)
        obtain ⟨bl, ol, rfl, _, hcl⟩ := (HS0.out.below hBr).at_ (show p < n by omega)
        have hTr := hT.below hBr hw0
        rcases ep : cs[p]'(by omega) with ⟨r, kd, vv, f, t, x, y⟩
        obtain ⟨e0, e1, e2, e3, e4, e5, e6⟩ := cd_cells (B := 0) (n := 0) (c := 0) hcl (by omega) ep
        have hek := HG.out _ (List.getElem_mem (show p < cs.length by omega))
        rw [ep] at hek
        have hgd : cs.getD ((p : Int)).toNat cdz = ⟨r, kd, vv, f, t, x, y⟩ := by simp [List.getD_eq_getElem?_getD, show p < cs.length by omega, ep]
        have HBN := hide (show Calls Tryz.prog 52 #[.agg #[.int .i64 r, .int .i64 kd, .int .i64 vv, .int .i64 f, .int .i64 t, .int .i64 x, .int .i64 y], .int .i64 bf] wr fun e w' => e = .returned (.tuple #[.agg #[.int .i64 (bLeast ⟨r, kd, vv, f, t, x, y⟩ bf), .int .i64 (bMost ⟨r, kd, vv, f, t, x, y⟩ bf)], .bool true]) ∧ Below wr.heap.size wr w' from
          lbnd_ok ⟨r, kd, vv, f, t, x, y⟩ bf wr hTr (by unfold bOk; rw [HBF.out, hek]; rfl))
        obtain ⟨hb0, hb01, hb1⟩ := bnd_le hek (wit_iff.1 HBF.out)
        have HYY := hide (fun (h : max lo (bLeast ⟨r, kd, vv, f, t, x, y⟩ bf) ≤ min hi (bMost ⟨r, kd, vv, f, t, x, y⟩ bf)) => show chAll bf cs g0 g1 (xs.take (k + 1)) = ⟨max lo (bLeast ⟨r, kd, vv, f, t, x, y⟩ bf), min hi (bMost ⟨r, kd, vv, f, t, x, y⟩ bf), if lo < bLeast ⟨r, kd, vv, f, t, x, y⟩ bf then (p : Int) else lb, if bMost ⟨r, kd, vv, f, t, x, y⟩ bf < hi then (p : Int) else mb, ys, f0, f1⟩ by
          rw [chAll_snoc (by rw [← HQ.out]; exact hlt), hst.out, hp]; unfold chStep; rw [hgd]; simp only; rw [if_pos h])
        have HNN := hide (fun (h : min hi (bMost ⟨r, kd, vv, f, t, x, y⟩ bf) < max lo (bLeast ⟨r, kd, vv, f, t, x, y⟩ bf)) => show chAll bf cs g0 g1 (xs.take (k + 1)) = ⟨lo, hi, lb, mb, ys ++ [((p : Int), if bMost ⟨r, kd, vv, f, t, x, y⟩ bf < lo then lb else mb)], if ys = [] then bLeast ⟨r, kd, vv, f, t, x, y⟩ bf else f0, if ys = [] then bMost ⟨r, kd, vv, f, t, x, y⟩ bf else f1⟩ by
          rw [chAll_snoc (by rw [← HQ.out]; exact hlt), hst.out, hp]; unfold chStep; rw [hgd]; simp only; rw [if_neg (Int.not_le.2 h)])
        generalize bLeast ⟨r, kd, vv, f, t, x, y⟩ bf = b0 at *
        generalize bMost ⟨r, kd, vv, f, t, x, y⟩ bf = b1 at *
        have i2 : (0 : Int) ≤ (p : Int) := by omega
        have i3 : (p : Int) < (n : Int) := by omega
        have HYL := hide (show ys.length ≤ k from hyl.out)
        clear hcl ep hek hgd hL p0 p1 hp hyl hst hTr hBr
        go_wp2_with fail
        refine HBN.out.mono ?_
        rintro e w5 ⟨rfl, hb5⟩
        have st5 := (stay.below hb5)
        have b25 := (b2.below hb5 b2.lt)
        have b35 := (b3.below hb5 b3.lt)
        have hy5 := (ownsRow_below hy hb5)
        have hlt5 := st5.2.1
        clear hb5 b2 b3 hy stay e0 e1 e2 e3 e4 e5 e6 ca HBN
        have st6 := st5.alloc (.cells #[.int .i64 b0, .int .i64 b1] 45)
        have b26 := b25.alloc (.cells #[.int .i64 b0, .int .i64 b1] 45)
        have b36 := b35.alloc (.cells #[.int .i64 b0, .int .i64 b1] 45)
        have hy6 := hy5.alloc (.cells #[.int .i64 b0, .int .i64 b1] 45)
        have q23 := Blk.new w5 45 #[.int .i64 b0, .int .i64 b1]
        obtain ⟨d0, d1, dF⟩ := b26.facts2
        obtain ⟨u0, u1, uF⟩ := b36.facts2
        obtain ⟨x0, x1, _⟩ := q23.facts2
        have hgw : g < w5.heap.size := b25.lt
        have hhw : h < w5.heap.size := b35.lt
        have hL20 : ys.length ≤ 200 := by have := HYL.out; omega
        have hz6 : w4.heap.size ≤ (w5.alloc (.cells #[.int .i64 b0, .int .i64 b1] 45)).heap.size := by simp; omega
        have m1 : ¬ g = h := hne
        have m2 : ¬ h = g := fun e => hne e.symm
        have m3 : ¬ g = w5.heap.size := by omega
        have m4 : ¬ w5.heap.size = g := by omega
        have m5 : ¬ h = w5.heap.size := by omega
        have m6 : ¬ w5.heap.size = h := by omega
        have m7 : ¬ g = w5.heap.size + 1 := by omega
        have m8 : ¬ w5.heap.size + 1 = g := by omega
        have m9 : ¬ h = w5.heap.size + 1 := by omega
        have m10 : ¬ w5.heap.size + 1 = h := by omega
        have HB26 := hide b26
        have HB36 := hide b36
        have HST6 := hide st6
        have HQ23 := hide q23
        clear b25 b35 hy5 st5 b26 b36 st6 q23
        by_cases c1 : b1 < lo
        · have HN2 := hide (show chAll bf cs g0 g1 (xs.take (k + 1)) = ⟨lo, hi, lb, mb, ys ++ [((p : Int), lb)], if ys = [] then b0 else f0, if ys = [] then b1 else f1⟩ by rw [HNN.out (by omega), if_pos c1])
          clear HYY HNN
          have HUP := hide (up_no1 (z := ((p : Int), lb)) (b0 := b0) hup.out c1)
          go_wp2_with (at_builtin; refine wpList_pushG (w5.heap.size + 1) (by simp) rfl _ _ _ rfl w4.heap.size _ _ slYield _ _ _ rfl hy6 _ _ rfl rfl rfl (by omega) hz6 ?_)
          intro v' w9 hv9 hg9 _
          obtain ⟨gv, cv, rfl, _, _⟩ := hv9.form (by omega)
          have B2A := hide (HB26.out.grownF hg9 (fun k hk => by have := (hy6.lt k hk).1; omega))
          have B3A := hide (HB36.out.grownF hg9 (fun k hk => by have := (hy6.lt k hk).1; omega))
          have STA := hide (HST6.out.grown hg9 (fun k hk => (hy6.lt k hk).1) (by omega))
          have HVA := hide (own_cells hv9 (ys := yCells (ys ++ [((p : Int), lb)])) (by rw [yCells_append]; rfl))
          clear d0 d1 dF u0 u1 uF x0 x1 hv9 hg9 hy6
          go_wp2
          go_roundw
          case rel => exact ⟨k + 1, lo, hi, lb, mb, _, _, ys ++ [((p : Int), lb)], up, by omega, by go_num, rfl, HN2, hide HUP.out, B2A.out, B3A.out, by rw [show (ys ++ [((p : Int), lb)]).length = ys.length + 1 by simp]; exact HVA.out, hide (by rw [show (ys ++ [((p : Int), lb)]).length = ys.length + 1 by simp]; exact Nat.succ_le_succ HYL.out), STA.out⟩
          case measure => simp [intOf]; omega
        · by_cases c2 : hi < b0
          · have HN2 := hide (show chAll bf cs g0 g1 (xs.take (k + 1)) = ⟨lo, hi, lb, mb, ys ++ [((p : Int), mb)], if ys = [] then b0 else f0, if ys = [] then b1 else f1⟩ by rw [HNN.out (by omega), if_neg c1])
            clear HYY HNN
            have HUP := hide (up_no2 (z := ((p : Int), mb)) hup.out c2 hb01)
            by_cases c3 : ys = []
            · have hbl : ((ys.length : Int) == 0) = true := by rw [c3]; rfl
              have hbl2 : (ys.length == 0) = true := by rw [c3]; rfl
              have hud : (up || decide (ys = [])) = true := by simp [c3]
              rw [hud] at HUP
              have HC3 := hide c3
              clear c3 hud
              cases up
              · go_wp2_with (at_builtin; refine wpList_pushG (w5.heap.size + 1) (by simp) rfl _ _ _ rfl w4.heap.size _ _ slYield _ _ _ rfl hy6 _ _ rfl rfl rfl (by omega) hz6 ?_)
                intro v' w9 hv9 hg9 _
                obtain ⟨gv, cv, rfl, _, _⟩ := hv9.form (by omega)
                have B2A := hide (HB26.out.grownF hg9 (fun k hk => by have := (hy6.lt k hk).1; omega))
                have B3A := hide (HB36.out.grownF hg9 (fun k hk => by have := (hy6.lt k hk).1; omega))
                have STA := hide (HST6.out.grown hg9 (fun k hk => (hy6.lt k hk).1) (by omega))
                have HVA := hide (own_cells hv9 (ys := yCells (ys ++ [((p : Int), mb)])) (by rw [yCells_append]; rfl))
                clear d0 d1 dF u0 u1 uF x0 x1 hv9 hg9 hy6
                go_wp2
                go_roundw
                case rel => exact ⟨k + 1, lo, hi, lb, mb, _, _, ys ++ [((p : Int), mb)], true, by omega, by go_num, rfl, HN2, hide HUP.out, B2A.out, B3A.out, by rw [show (ys ++ [((p : Int), mb)]).length = ys.length + 1 by simp]; exact HVA.out, hide (by rw [show (ys ++ [((p : Int), mb)]).length = ys.length + 1 by simp]; exact Nat.succ_le_succ HYL.out), STA.out⟩
                case measure => simp [intOf]; omega
              · go_wp2_with (at_builtin; refine wpList_pushG (w5.heap.size + 1) (by simp) rfl _ _ _ rfl w4.heap.size _ _ slYield _ _ _ rfl hy6 _ _ rfl rfl rfl (by omega) hz6 ?_)
                intro v' w9 hv9 hg9 _
                obtain ⟨gv, cv, rfl, _, _⟩ := hv9.form (by omega)
                have B2A := hide (HB26.out.grownF hg9 (fun k hk => by have := (hy6.lt k hk).1; omega))
                have B3A := hide (HB36.out.grownF hg9 (fun k hk => by have := (hy6.lt k hk).1; omega))
                have STA := hide (HST6.out.grown hg9 (fun k hk => (hy6.lt k hk).1) (by omega))
                have HVA := hide (own_cells hv9 (ys := yCells (ys ++ [((p : Int), mb)])) (by rw [yCells_append]; rfl))
                clear d0 d1 dF u0 u1 uF x0 x1 hv9 hg9 hy6
                go_wp2
                go_roundw
                case rel => exact ⟨k + 1, lo, hi, lb, mb, _, _, ys ++ [((p : Int), mb)], true, by omega, by go_num, rfl, HN2, hide HUP.out, B2A.out, B3A.out, by rw [show (ys ++ [((p : Int), mb)]).length = ys.length + 1 by simp]; exact HVA.out, hide (by rw [show (ys ++ [((p : Int), mb)]).length = ys.length + 1 by simp]; exact Nat.succ_le_succ HYL.out), STA.out⟩
                case measure => simp [intOf]; omega
            · have hl0 : ys.length ≠ 0 := fun e => c3 (List.eq_nil_of_length_eq_zero e)
              have hbl : ((ys.length : Int) == 0) = false := by simp; omega
              have hbl2 : (ys.length == 0) = false := beq_false_of_ne hl0
              have hud : (up || decide (ys = [])) = up := by simp [c3]
              rw [hud] at HUP
              have HC3 := hide c3
              clear c3 hud hl0
              cases up
              · go_wp2_with (at_builtin; refine wpList_pushG (w5.heap.size + 1) (by simp) rfl _ _ _ rfl w4.heap.size _ _ slYield _ _ _ rfl hy6 _ _ rfl rfl rfl (by omega) hz6 ?_)
                intro v' w9 hv9 hg9 _
                obtain ⟨gv, cv, rfl, _, _⟩ := hv9.form (by omega)
                have B2A := hide (HB26.out.grownF hg9 (fun k hk => by have := (hy6.lt k hk).1; omega))
                have B3A := hide (HB36.out.grownF hg9 (fun k hk => by have := (hy6.lt k hk).1; omega))
                have STA := hide (HST6.out.grown hg9 (fun k hk => (hy6.lt k hk).1) (by omega))
                have HVA := hide (own_cells hv9 (ys := yCells (ys ++ [((p : Int), mb)])) (by rw [yCells_append]; rfl))
                clear d0 d1 dF u0 u1 uF x0 x1 hv9 hg9 hy6
                go_wp2
                go_roundw
                case rel => exact ⟨k + 1, lo, hi, lb, mb, _, _, ys ++ [((p : Int), mb)], false, by omega, by go_num, rfl, HN2, hide HUP.out, B2A.out, B3A.out, by rw [show (ys ++ [((p : Int), mb)]).length = ys.length + 1 by simp]; exact HVA.out, hide (by rw [show (ys ++ [((p : Int), mb)]).length = ys.length + 1 by simp]; exact Nat.succ_le_succ HYL.out), STA.out⟩
                case measure => simp [intOf]; omega
              · go_wp2_with (at_builtin; refine wpList_pushG (w5.heap.size + 1) (by simp) rfl _ _ _ rfl w4.heap.size _ _ slYield _ _ _ rfl hy6 _ _ rfl rfl rfl (by omega) hz6 ?_)
                intro v' w9 hv9 hg9 _
                obtain ⟨gv, cv, rfl, _, _⟩ := hv9.form (by omega)
                have B2A := hide (HB26.out.grownF hg9 (fun k hk => by have := (hy6.lt k hk).1; omega))
                have B3A := hide (HB36.out.grownF hg9 (fun k hk => by have := (hy6.lt k hk).1; omega))
                have STA := hide (HST6.out.grown hg9 (fun k hk => (hy6.lt k hk).1) (by omega))
                have HVA := hide (own_cells hv9 (ys := yCells (ys ++ [((p : Int), mb)])) (by rw [yCells_append]; rfl))
                clear d0 d1 dF u0 u1 uF x0 x1 hv9 hg9 hy6
                go_wp2
                go_roundw
                case rel => exact ⟨k + 1, lo, hi, lb, mb, _, _, ys ++ [((p : Int), mb)], true, by omega, by go_num, rfl, HN2, hide HUP.out, B2A.out, B3A.out, by rw [show (ys ++ [((p : Int), mb)]).length = ys.length + 1 by simp]; exact HVA.out, hide (by rw [show (ys ++ [((p : Int), mb)]).length = ys.length + 1 by simp]; exact Nat.succ_le_succ HYL.out), STA.out⟩
                case measure => simp [intOf]; omega
          · clear HNN
            have hC : ChW w1 wc w4 g h w5.heap.size lo lb hi mb b0 b1 (.slice Ay ys.length cy) ys (w5.alloc (.cells #[.int .i64 b0, .int .i64 b1] 45)) := ⟨HB26.out, HB36.out, HQ23.out, hy6, HST6.out⟩
            have hP : ChP w1 wc w4 g h w5.heap.size := ⟨hne, by omega, by omega, hgc, hhc, hg0, hh0, hzc, by omega⟩
            clear HB26 HB36 HST6 HQ23 hy6 hz6 m3 m4 m5 m6 m7 m8 m9 m10
            obtain ⟨m, hm⟩ : ∃ m, m = max lo b0 := ⟨_, rfl⟩
            have HMX := hide hm
            obtain ⟨m2, hm2⟩ : ∃ m, m = min hi b1 := ⟨_, rfl⟩
            have HMN := hide hm2
            have HLM := hide (show max lo b0 ≤ min hi b1 by omega)
            clear hm hm2
            go_upto_region 14 with fail
            generalize w5.alloc _ = w6 at *
            generalize w5.heap.size = g5 at *
            have HC := hide hC
            have HP := hide hP
            clear hC hP
            go_cut [23] (fun v23 wx => Cut1 w1 wc w4 g h g5 m p lo lb hi mb b0 b1 (.slice Ay ys.length cy) ys v23 wx)
            case first =>
              go_wp2_with fail
              all_goals
                go_meet
                first | exact cut1_of HC.out (m' := b0) (by have := HMX.out; omega) rfl | exact cut1_of HC.out (m' := lo) (by have := HMX.out; omega) rfl
            case rest =>
              rename World => wa1
              obtain ⟨gx, rfl, n1, n2, n3, hX, hC⟩ := hcut
              clear HC d0 d1 dF u0 u1 uF x0 x1
              have HC := hide hC
              obtain ⟨x0, x1, xF⟩ := hX.facts2
              obtain ⟨d0, d1, dF⟩ := hC.1.facts2
              obtain ⟨u0, u1, uF⟩ := hC.2.1.facts2
              clear hC hX
              go_upto_region 15 with fail
              go_cut [98] (fun v98 wx => v98 = .bool (m != lo) ∧ wa1 = wx)
              case first =>
                by_cases c3 : m = lo
                · have hq : (m == lo) = true := by simp [c3]
                  have HV := hide (show Value.bool false = Value.bool (m != lo) by simp [c3])
                  clear c3
                  go_wp2_with fail
                  go_meet
                  exact ⟨HV.out, rfl⟩
                · have hq : (m == lo) = false := by simp [c3]
                  have HV := hide (show Value.bool true = Value.bool (m != lo) by simp [c3])
                  clear c3
                  go_wp2_with fail
                  go_meet
                  exact ⟨HV.out, rfl⟩
              case rest =>
              obtain ⟨rfl, rfl⟩ := hcut
              obtain ⟨bb, hbb⟩ : ∃ bb, (m != lo) = bb := ⟨_, rfl⟩
              have HBBB := hide hbb
              rw [hbb]
              clear hbb
              go_upto_if 98 with fail
              go_cut [] (fun wx => ChW w1 wc w4 g h g5 m (if lo < b0 then (p : Int) else lb) hi mb b0 b1 (.slice Ay ys.length cy) ys wx)
              case first =>
                cases bb
                · have hml : m = lo := by have := HBBB.out; simpa using this
                  have hC3 := hide (show ChW w1 wc w4 g h g5 m (if lo < b0 then (p : Int) else lb) hi mb b0 b1 (.slice Ay ys.length cy) ys wa1 by rw [if_neg (by have := HMX.out; omega), hml]; exact HC.out)
                  clear hml
                  go_wp2_with fail
                  go_meet
                  exact hC3.out
                · have hml : ¬ m = lo := by have := HBBB.out; simpa using this
                  have hC3 := hide (show ChW w1 wc w4 g h g5 m (if lo < b0 then (p : Int) else lb) hi mb b0 b1 (.slice Ay ys.length cy) ys ((wa1.setCell ⟨g, 0, none⟩ (.int .i64 m)).setCell ⟨g, 1, none⟩ (.int .i64 p)) by rw [if_pos (by have := HMX.out; omega)]; exact HC.out.setG HP.out m p)
                  clear hml
                  go_wp2_with fail
                  go_meet
                  exact hC3.out
              case rest =>
                rename World => wa2
                clear HC d0 d1 dF u0 u1 uF x0 x1 xF n1 n2 n3
                have HC := hide hcut
                obtain ⟨u0, u1, uF⟩ := hcut.2.1.facts2
                obtain ⟨z0, z1, _⟩ := hcut.2.2.1.facts2
                clear hcut
                go_upto_region 17 with fail
                go_cut [24] (fun v24 wx => Cut1 w1 wc w4 g h g5 m2 p m (if lo < b0 then (p : Int) else lb) hi mb b0 b1 (.slice Ay ys.length cy) ys v24 wx)
                case first =>
                  go_wp2_with fail
                  all_goals
                    go_meet
                    first | exact cut1_of HC.out (m' := b1) (by have := HMN.out; omega) rfl | exact cut1_of HC.out (m' := hi) (by have := HMN.out; omega) rfl
                case rest =>
                  rename World => wa3
                  obtain ⟨gy, rfl, n1, n2, n3, hX, hC⟩ := hcut
                  clear HC u0 u1 uF z0 z1
                  have HC := hide hC
                  obtain ⟨x0, x1, xF⟩ := hX.facts2
                  obtain ⟨u0, u1, uF⟩ := hC.2.1.facts2
                  clear hC hX
                  by_cases c4 : m2 = hi
                  · have hq : (m2 == hi) = true := by simp [c4]
                    have HY2 := hide (show chAll bf cs g0 g1 (xs.take (k + 1)) = ⟨m, hi, if lo < b0 then (p : Int) else lb, mb, ys, f0, f1⟩ by rw [HYY.out HLM.out, if_neg (show ¬ b1 < hi by have := HMN.out; omega), ← HMX.out, ← HMN.out, c4])
                    have HUP := hide (up_yes hup.out (show lo ≤ m by have := HMX.out; omega) (Int.le_refl hi))
                    clear c4 HYY
                    go_wp2
                    go_roundw
                    case rel => exact ⟨k + 1, _, _, _, _, f0, f1, ys, up, by omega, by go_num, rfl, HY2, hide HUP.out, HC.out.1, HC.out.2.1, HC.out.2.2.2.1, hide (Nat.le_succ_of_le HYL.out), HC.out.2.2.2.2⟩
                    case measure => simp [intOf]; omega
                  · have hq : (m2 == hi) = false := by simp [c4]
                    have HY2 := hide (show chAll bf cs g0 g1 (xs.take (k + 1)) = ⟨m, m2, if lo < b0 then (p : Int) else lb, (p : Int), ys, f0, f1⟩ by rw [HYY.out HLM.out, if_pos (show b1 < hi by have := HMN.out; omega), ← HMX.out, ← HMN.out])
                    have HUP := hide (up_yes hup.out (show lo ≤ m by have := HMX.out; omega) (show m2 ≤ hi by have := HMN.out; omega))
                    have hC3 := HC.out.setH HP.out m2 p
                    have HC3 := hide hC3
                    clear c4 HYY hC3
                    go_wp2
                    go_roundw
                    case rel => exact ⟨k + 1, _, _, _, _, f0, f1, ys, up, by omega, by go_num, rfl, HY2, hide HUP.out, HC3.out.1, HC3.out.2.1, HC3.out.2.2.2.1, hide (Nat.le_succ_of_le HYL.out), HC3.out.2.2.2.2⟩
                    case measure => simp [intOf]; omega
      · have HSS := hide (show (⟨lo, hi, lb, mb, ys, f0, f1⟩ : Chs) = chAll bf cs g0 g1 (actC cs d lv) by rw [← HXS.out, ← hst.out, List.take_of_length_le (by rw [← HQ.out]; omega)])
        have hkq : ¬ ((k : Int) < (q : Int)) := by omega
        have HUP := hide hup.out
        have HLH := hide hlh
        have hBr := HBA.out.trans (stay.1.mono hz1)
        have q1r := HQ0.out.below stay.1 (show w.heap.size + 1 < w1.heap.size by omega)
        obtain ⟨d0, d1, dF⟩ := b2.facts2
        obtain ⟨u0, u1, uF⟩ := b3.facts2
        have hyA := hy.alloc (.cells #[.int .i64 0, .int .i64 lo, .int .i64 hi, .slice Ay ys.length cy] 48)
        have hcA := Blk.new wr 48 #[.int .i64 0, .int .i64 lo, .int .i64 hi, .slice Ay ys.length cy]
        have hqA := q1r.alloc (.cells #[.int .i64 0, .int .i64 lo, .int .i64 hi, .slice Ay ys.length cy] 48)
        have hBA := hBr.alloc hBr.size (.cells #[.int .i64 0, .int .i64 lo, .int .i64 hi, .slice Ay ys.length cy] 48)
        have hzw : w4.heap.size ≤ wr.heap.size := stay.2.1
        have k1 : ¬ wr.heap.size = w.heap.size + 1 := by omega
        have k2 : ¬ w.heap.size + 1 = wr.heap.size := by omega
        have k3 : w.heap.size + 1 < w4.heap.size := by omega
        have k4 : w.heap.size ≤ w4.heap.size := by omega
        have hno : (Value.slice Ay ys.length cy).ownBlock ≠ some wr.heap.size := fun e => by have := (hy.lt _ e).2; omega
        clear hst hup hlh hyl hBr q1r b2 b3 hy stay
        go_upto_region 23 with fail
        clear d0 d1 dF u0 u1 uF
        generalize wr.alloc _ = wa at *
        generalize wr.heap.size = gc at *
        by_cases c2 : ys = []
        · have hlen : ((ys.length : Int) == 0) = true := by rw [c2]; rfl
          have HR := hide (show chRel wn ⟨lo, hi, lb, mb, ys, f0, f1⟩ = max (min wn hi) lo by unfold chRel; rw [if_pos c2]; have := HLH.out; simp only; omega)
          have HC2 := hide c2
          clear c2
          obtain ⟨c0, c1, c2, c3, cF⟩ := hcA.facts4c
          go_wp2_with fail
          refine (pclamp_any _ _ _ _).mono ?_
          rintro e w5 ⟨rfl, hb5⟩
          replace hcA := hcA.below hb5 hcA.lt
          replace hqA := hqA.below hb5 hqA.lt
          have HY := hide (ownsRow_below hyA hb5)
          have HBB := hide (bthr hBA hb5 hBA.size)
          generalize max (min wn hi) lo = rel at *
          clear c0 c1 c2 c3 cF hyA hBA hb5
          obtain ⟨c0, c1, c2, c3, cF⟩ := hcA.facts4c
          obtain ⟨v0, v1, v2, v3, vF⟩ := hqA.facts4c
          clear hcA hqA
          go_wp2
          refine bodyPost_ret (v := .agg #[.int .i64 rel, .int .i64 lo, .int .i64 hi, .slice Ay ys.length cy]) (by simp [results, Tryz.results26, go_sem, v0, v1, v2, v3]) rfl ⟨_, Ay, cy, HSS.out, by rw [HR.out], ownsRow_base (base := w4.heap.size) (base' := w.heap.size) ?_ k4, ?_⟩
          · repeat (first | with_reducible exact HY.out | with_reducible refine own_setN ?_ hno _ | with_reducible refine own_setc ?_ (by simp <;> omega) _)
          · repeat (first | with_reducible exact HBB.out | with_reducible refine Below.setCell ?_ (by simp <;> omega) _)
        · have hlen : ((ys.length : Int) == 0) = false := by
            have : ys.length ≠ 0 := fun e => c2 (List.eq_nil_of_length_eq_zero e)
            simp; omega
          have HY := hide hyA
          have HBB := hide hBA
          obtain ⟨c0, c1, c4, c3, cF⟩ := hcA.facts4c
          obtain ⟨v0, v1, v2, v3, vF⟩ := hqA.facts4c
          clear hcA hqA hyA hBA
          cases up
          · have HR := hide (show chRel wn ⟨lo, hi, lb, mb, ys, f0, f1⟩ = lo by unfold chRel; rw [if_neg c2, if_pos ((HUP.out.2 c2).2 rfl)])
            clear c2
            go_wp2
            refine bodyPost_ret (v := .agg #[.int .i64 lo, .int .i64 lo, .int .i64 hi, .slice Ay ys.length cy]) (by simp [results, Tryz.results26, go_sem, v0, v1, v2, v3]) rfl ⟨_, Ay, cy, HSS.out, by rw [HR.out], ownsRow_base (base := w4.heap.size) (base' := w.heap.size) ?_ k4, ?_⟩
            · repeat (first | with_reducible exact HY.out | with_reducible refine own_setN ?_ hno _ | with_reducible refine own_setc ?_ (by simp <;> omega) _)
            · repeat (first | with_reducible exact HBB.out | with_reducible refine Below.setCell ?_ (by simp <;> omega) _)
          · have HR := hide (show chRel wn ⟨lo, hi, lb, mb, ys, f0, f1⟩ = hi by unfold chRel; have h9 := (HUP.out.2 c2).1 rfl; rw [if_neg c2, if_neg (by have := HLH.out; simp only; omega)])
            clear c2
            go_wp2
            refine bodyPost_ret (v := .agg #[.int .i64 hi, .int .i64 lo, .int .i64 hi, .slice Ay ys.length cy]) (by simp [results, Tryz.results26, go_sem, v0, v1, v2, v3]) rfl ⟨_, Ay, cy, HSS.out, by rw [HR.out], ownsRow_base (base := w4.heap.size) (base' := w.heap.size) ?_ k4, ?_⟩
            · repeat (first | with_reducible exact HY.out | with_reducible refine own_setN ?_ hno _ | with_reducible refine own_setc ?_ (by simp <;> omega) _)
            · repeat (first | with_reducible exact HBB.out | with_reducible refine Below.setCell ?_ (by simp <;> omega) _)
end Go.Proofs.YtodamjjlnagpjaaGreatDoor
namespace Go.Proofs.YtodamjjlnagpjaaGreatDoor
open Go.RowKit

/-- what the program's Choose answers -/
def PChoP (w : World) (cs : List Cd) (d lv bf g0 g1 wn : Int) (e : Ending) (w' : World) : Prop := ∃ (s : Chs) (A : Option Addr) (c : Nat), s = chAll bf cs g0 g1 (actC cs d lv) ∧ e = .returned (.tuple #[.agg #[.int .i64 (chRel wn s), .int .i64 s.lo, .int .i64 s.hi, .slice A s.ys.length c], .int .i64 0]) ∧ w'.ownsRow w.heap.size 130 2 (.slice A s.ys.length c) s.ys.length (yCells s.ys) ∧ Below w.heap.size w w'
set_option maxHeartbeats 1600000 in
set_option maxRecDepth 20000 in
theorem Choose_ok (A : Option Addr) (n c : Nat) (cs : List Cd) (d lv bf g0 g1 wn : Int) (w : World) (hT : KT w) (hn : n ≤ 200) (hg : ∀ x ∈ cs, x.err = 0) (hd : wit d 364 = true) (hv : wit lv 16777216 = true) (hbf : wit bf 1073741824 = true) (hwn : wit wn 1073741824 = true) (h0 : wit g0 1073741824 = true) (h1 : wit g1 1073741824 = true) (hgg : g0 ≤ g1) (hs : Sl w w.heap.size 7 A n c (cdCells cs)) :
    Calls Tryz.prog 10 #[.slice A n c, .int .i64 d, .int .i64 lv, .int .i64 bf, .agg #[.int .i64 g0, .int .i64 g1], .int .i64 wn] w (PChoP w cs d lv bf g0 g1 wn) := by
  have hw0 := hT.pos
  have q0 := (Blk.new w 45 #[.int .i64 g0, .int .i64 g1]).alloc (.cells #[.int .i64 0, .int .i64 0, .int .i64 0, .slice none 0 0] 48)
  have q1 := Blk.new (w.alloc (.cells #[.int .i64 g0, .int .i64 g1] 45)) 48 #[.int .i64 0, .int .i64 0, .int .i64 0, .slice none 0 0]
  rw [World.size_alloc] at q1
  have hB := (bel1 (w := w) (o := .cells #[.int .i64 g0, .int .i64 g1] 45)).alloc (by simp) (.cells #[.int .i64 0, .int .i64 0, .int .i64 0, .slice none 0 0] 48)
  have hz1 : ((w.alloc (.cells #[.int .i64 g0, .int .i64 g1] 45)).alloc (.cells #[.int .i64 0, .int .i64 0, .int .i64 0, .slice none 0 0] 48)).heap.size = w.heap.size + 2 := by simp
  have hs1 := hs.thr hB
  have HA := hide (fun W hs2 => rsasked_ok A n c cs d lv bf g0 g1 wn W (show n ≤ 200 by omega) hg hd hv hbf hwn h0 h1 hgg hs2)
  have HC := hide (fun W hT2 hs2 => choose_ok A n c cs d lv bf g0 g1 wn W hT2 hn hg hd hv hbf hgg hs2)
  have HZ := hide hz1
  clear hg hd hv hbf hwn h0 h1 hgg hs hz1
  obtain ⟨y0, y1, _⟩ := q0.facts2
  go_enter Tryz.func10, Tryz.ntmps10
  go_wp2_with fail
  generalize ((w.alloc _).alloc _) = w1 at *
  refine (HA.out w1 hs1).mono ?_
  rintro e w2 ⟨rfl, hb2⟩
  have hB2 := bthr hB hb2 hB.size
  have hz2 := hb2.size
  replace q0 := q0.below hb2 q0.lt
  replace q1 := q1.below hb2 q1.lt
  have hs2 := hs1.thr hb2
  have hT2 := hT.below hB2 hw0
  clear y0 y1 hB hs1 hb2 HA hT
  obtain ⟨y0, y1, _⟩ := q0.facts2
  go_wp2_with fail
  refine (HC.out w2 hT2 hs2).mono ?_
  rintro e w3 ⟨s, A4, c4, hs4, rfl, hy, hb3⟩
  have HS := hide hs4
  have HB3 := hide (bthr hB2 hb3 hB2.size)
  replace q1 := q1.below hb3 q1.lt
  have HY := hide (ownsRow_base hy (show w.heap.size + 2 ≤ w2.heap.size by have := HZ.out; omega))
  obtain ⟨rl, hrl⟩ : ∃ rl, rl = chRel wn s := ⟨_, rfl⟩
  have HRL := hide hrl
  rw [← hrl]
  clear hs4 hB2 q0 hs2 hT2 hy hb3 y0 y1 HC hrl
  obtain ⟨v0, v1, v2, v3, vF⟩ := q1.facts4c
  clear q1
  rcases s with ⟨lo, hi, lb, mb, ys, f0, f1⟩
  simp only at HY ⊢
  go_wp2
  refine bodyPost_ret (v := .tuple #[.agg #[.int .i64 rl, .int .i64 lo, .int .i64 hi, .slice A4 ys.length c4], .int .i64 0]) (by simp [results, Tryz.results10, go_sem, v0, v1, v2, v3]) rfl ⟨⟨lo, hi, lb, mb, ys, f0, f1⟩, A4, c4, HS.out, by rw [HRL.out], ownsRow_base (base := w.heap.size + 2) ?_ (by omega), ?_⟩
  · repeat (first | with_reducible exact HY.out | with_reducible refine own_setc ?_ (by simp) _)
  · repeat (first | with_reducible exact HB3.out | with_reducible refine Below.setCell ?_ (by simp) _)
end Go.Proofs.YtodamjjlnagpjaaGreatDoor
