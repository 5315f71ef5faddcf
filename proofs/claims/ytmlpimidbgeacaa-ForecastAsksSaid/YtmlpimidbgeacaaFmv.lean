/-
  The walk of ForecastMoves: it answers true. Conditions: its bundle and its list can be read, its number is one of 64 bits.
-/
import Derived.Test.YtmlpimidbgeacaaProg
import Derived.Test.YtmlpimidbgeacaaFod
import Derived.Test.YtmlpimidbgeacaaFbr
import Derived.Test.YtmlpimidbgeacaaFlz
import Derived.Test.YtmlpimidbgeacaaFra
import Derived.Lib.OwnKind
namespace Go.Proofs.Ytmlpimidbgeacaa
open Go.RowKit

theorem bdOwn_blk {w : World} {base g j : Nat} {x : Bd} {cs : Array Value} (h : BdOwn w base x) (hq : Blk w g 27 cs) (u : Value) : BdOwn (w.setCell ⟨g, j, none⟩ u) base x := by
  have key : ∀ (e : TypeId) (size n : Nat) (v : Value) (xs : List Value), e ≠ 27 → w.ownsRow base e size v n xs → v.ownBlock ≠ some g := fun e size n v xs he ho hv => by
    obtain ⟨c, fz, hc⟩ := Lib.ownsRow_kind ho g hv
    unfold Blk at hq
    rw [hq] at hc
    injection hc with hc
    injection hc with _ h2 _
    exact he h2.symm
  exact ⟨own_setF h.1 (key _ _ _ _ _ (by decide) h.1) u, fun s hs => own_setF (show w.ownsRow base 3 1 (.slice s.A s.n s.c) s.n (ints s.fl) from h.2 s hs) (key _ _ _ _ _ (by decide) (h.2 s hs)) u⟩
theorem bdOwn_set3 {w : World} {base g : Nat} {x : Bd} {a0 a1 a2 : Value} (h : BdOwn w base x) (hq : Blk w g 27 #[a0, a1, a2]) (u0 u1 u2 : Value) : BdOwn (((w.setCell ⟨g, 0, none⟩ u0).setCell ⟨g, 1, none⟩ u1).setCell ⟨g, 2, none⟩ u2) base x :=
  bdOwn_blk (bdOwn_blk (bdOwn_blk h hq u0) (hq.set_ 0 u0) u1) ((hq.set_ 0 u0).set_ 1 u1) u2
theorem grown_set3 {a w : World} {g b : Nat} (h : a.grownBy w (some b)) (hg : a.heap.size ≤ g) (u0 u1 u2 : Value) : a.grownBy (((w.setCell ⟨g, 0, none⟩ u0).setCell ⟨g, 1, none⟩ u1).setCell ⟨g, 2, none⟩ u2) (some b) :=
  grown_set (p := ⟨g, 2, none⟩) (grown_set (p := ⟨g, 1, none⟩) (grown_set (p := ⟨g, 0, none⟩) h (.inr hg) u0) (.inr hg) u1) (.inr hg) u2
theorem dk_set3 {w : World} {g b : Nat} (h : Dk w b) (hg : b < g) (u0 u1 u2 : Value) : Dk (((w.setCell ⟨g, 0, none⟩ u0).setCell ⟨g, 1, none⟩ u1).setCell ⟨g, 2, none⟩ u2) b :=
  ((h.set (p := ⟨g, 0, none⟩) hg _).set (p := ⟨g, 1, none⟩) hg _).set (p := ⟨g, 2, none⟩) hg _
/-- the list of the law: bundles of the call's own, and the argument behind them -/
structure MvP (w : World) (b base : Nat) (A : Option Addr) (n c : Nat) (bs : List Bd) (raw : Bd) (W : World) : Prop where
  row : W.ownsRow base 27 3 (.slice A n c) n (bdCells (bs ++ [raw]))
  own : ∀ x ∈ bs, BdOwn W base x
  deck : Dk W b
  bel : Below w.heap.size w W
section
variable {w W W' : World} {b base : Nat} {A : Option Addr} {n c : Nat} {bs : List Bd} {raw : Bd}
theorem MvP.below (h : MvP w b base A n c bs raw W) (hb : Below W.heap.size W W') : MvP w b base A n c bs raw W' :=
  ⟨ownsRow_below h.row hb, fun x hx => (h.own x hx).below hb, h.deck.below hb, bthr h.bel hb h.bel.size⟩
theorem MvP.next (h : MvP w b base A n c bs raw W) (hg : W.grownBy W' (some b)) (hD : Dk W' b) (h1 : b < base) (h2 : w.heap.size ≤ b) : MvP w b base A n c bs raw W' :=
  ⟨own_deckF h.row hg h1, fun x hx => ⟨own_deckF (h.own x hx).1 hg h1, fun s hs => own_deckF ((h.own x hx).2 s hs) hg h1⟩, hD, below_grown h.bel hg h.bel.size h2⟩
theorem MvP.ok (h : MvP w b base A n c bs raw W) (hr : raw.ok w w.heap.size) : BdsOk W W.heap.size A n c (bs ++ [raw]) :=
  bds_own h.row (fun x hx => by
    rcases List.mem_append.1 hx with h1 | h1
    · exact (h.own x h1).ok
    · rw [List.mem_singleton] at h1; subst h1
      exact Bd.ok.thr hr h.bel)
end
/-- two results of one question are the same -/
theorem res_same {wa wb wa' wb' : World} {b x y : Bd} {st : Nat} {wd : Bool} {E : Int} (h1 : BdRes wa b st wd E x wa') (h2 : BdRes wb b st wd E y wb') : x.fr = y.fr ∧ x.n = y.n ∧ x.wd = y.wd ∧ x.ss.map dat = y.ss.map dat := by
  by_cases hE : E = 0
  · obtain ⟨a1, a2, a3, a4, _⟩ := h1.1 hE
    obtain ⟨c1, c2, c3, c4, _⟩ := h2.1 hE
    have hd := a4.trans c4.symm
    have hl : x.ss.length = y.ss.length := by
      have := congrArg List.length hd
      simpa using this
    exact ⟨a1.trans c1.symm, by omega, a2.trans c2.symm, hd⟩
  · rw [h1.2.1 hE, h2.2.1 hE]
    exact ⟨rfl, rfl, rfl, rfl⟩
theorem res_ok {w w' : World} {b x : Bd} {st : Nat} {wd : Bool} {E : Int} (h : BdRes w b st wd E x w') : x.ok w' w'.heap.size := by
  by_cases hE : E = 0
  · exact (h.1 hE).2.2.2.2.1.ok
  · rw [h.2.1 hE]
    exact ⟨Sl.none_ _ _ _, by simp [bd0]⟩
theorem pair_same {x y : Bd} (h : x.fr = y.fr ∧ x.n = y.n ∧ x.wd = y.wd ∧ x.ss.map dat = y.ss.map dat) (w : World) (hx : x.ok w w.heap.size) (hy : y.ok w w.heap.size) :
    Calls Try.prog 29 #[.agg x.arr, .agg y.arr] w fun e w' => e = .returned (.bool true) ∧ Below w.heap.size w w' := by
  obtain ⟨fr, A, n, c, ss, wd⟩ := x
  obtain ⟨fr', A', n', c', ss', wd'⟩ := y
  simp only at h
  obtain ⟨rfl, rfl, rfl, hd⟩ := h
  exact bsame_yes fr A A' n c c' ss ss' wd w hx hy hd
theorem arr2_at {w : World} {g j : Nat} {t : TypeId} {x y : Int} (h : Blk w g t #[.int .i64 x, .int .i64 y]) (hj : j < 2) : ∃ u : Int, w.cell? ⟨g, j, none⟩ = some (.int .i64 u) ∧ (u = x ∨ u = y) := by
  obtain ⟨a, b, _⟩ := h.facts2
  match j, hj with
  | 0, _ => exact ⟨_, a, .inl rfl⟩
  | 1, _ => exact ⟨_, b, .inr rfl⟩
set_option maxHeartbeats 3200000 in
set_option maxRecDepth 20000 in
theorem fmoves_walk {raw : Bd} {A : Option Addr} {n c : Nat} {zs : List Int} {w : World} (hraw : raw.ok w w.heap.size) (hs : Sl w w.heap.size 1 A n c (ints zs)) (tm : Int) (htm : -9223372036854775808 ≤ tm ∧ tm ≤ 9223372036854775807) :
    Calls Try.prog 7 #[.agg raw.arr, .slice A n c, .int .i64 tm] w fun e w' => e = .returned (.bool true) ∧ Below w.heap.size w w' := by
  obtain ⟨htm0, htm1⟩ := htm
  have HRAW := hide hraw
  clear hraw
  have q0 := Blk.new w 27 raw.arr
  have hB0 := bel1 (w := w) (o := .cells raw.arr 27)
  have hs0 := hs.thr hB0
  have hz0 : (w.alloc (.cells raw.arr 27)).heap.size = w.heap.size + 1 := by simp
  obtain ⟨rf, rA, rn, rc, rss, rwd⟩ := raw
  unfold Bd.arr at q0 hB0 hs0 hz0 ⊢
  simp only at q0 hB0 hs0 hz0 ⊢
  clear hs
  go_enter Try.func7, Try.ntmps7
  go_wp2_with fail
  generalize w.alloc _ = w0 at *
  refine (new_any _ _ _ _ _ hs0).mono ?_
  rintro e w1 ⟨rfl, hD1, hb1⟩
  rw [hz0] at hD1
  simp only [hz0]
  have hw1 := hD1.lt
  have q1 := q0.below hb1 q0.lt
  have HB1 := hide (bthr hB0 hb1 hB0.size)
  clear hs0 hb1 hB0 q0
  go_wp2_with fail
  refine (next_any (w.heap.size + 1) 5 (by omega) _ hD1).mono ?_
  rintro e w2 ⟨kx, rfl, hk0, hk1, hD2, hg2, hz2⟩
  obtain ⟨k0, rfl⟩ : ∃ k0 : Nat, kx = (k0 : Int) := ⟨kx.toNat, by omega⟩
  have hk4 : k0 ≤ 4 := by omega
  have hw2 : w.heap.size + 1 < w2.heap.size := by omega
  have HQ2 := hide (q1.only hg2 (by omega))
  have HB2 := hide (below_grown HB1.out hg2 HB1.out.size (by omega))
  clear hk0 hk1 hg2 hz2 hD1 HB1 q1 hz0
  go_wp2_with fail
  go_loopw [8, 9] (fun lv v wr => ∃ (q : Nat) (z : Int), q ≤ k0 + 1 ∧ v = .int .i64 z ∧ z + 1 = (q : Int) ∧ LsP w2 (w.heap.size + 1) (fun _ => True) (k0 + 1) q wr lv) (fun _ v _ => (intOf v + 1).toNat)
  case atStart => exact ⟨k0 + 1, (k0 : Int), Nat.le_refl _, rfl, by omega, none, 0, [], rfl, by simp, by simp, World.ownsRow_nil _ _ _ _, by simp, hD2, grown_refl _ _⟩
  case round =>
    obtain ⟨q, z, hq, rfl, hz, A', c', bs, rfl, hqb, hP, ho, hap, hD, hG⟩ := hrel
    by_cases hlt : 0 ≤ z
    · have HO := hide ho
      have HAP := hide hap
      have HG := hide hG
      have hwr : w2.heap.size ≤ wr.heap.size := hG.size
      clear hP ho hap hG
      go_wp2_with fail
      refine (bundle_any _ _ hD).mono ?_
      rintro e w3 ⟨x, rfl, hf, hl, hn, hgd, ho1, ho2, hD3, hg3⟩
      have HBX := hide (show BdOwn w3 wr.heap.size x from ⟨ho1, ho2⟩)
      have HX := hide (show 1 ≤ x.n ∧ x.n ≤ 4 ∧ ∀ s ∈ x.ss, 1 ≤ s.n ∧ s.n ≤ 6 from by
        obtain ⟨nn, h1, h2, h3⟩ := hgd
        exact ⟨by omega, by omega, fun s hs => by have := (h3 s hs).2.1; omega⟩)
      have p4 := Blk.new w3 27 x.arr
      have HBX4 := hide (HBX.out.alloc (.cells x.arr 27))
      have HG4 := hide (grown_alloc hg3 (.cells x.arr 27))
      have hD4 := hD3.alloc (.cells x.arr 27)
      have hw3 : wr.heap.size ≤ w3.heap.size := hg3.size
      have HQZ := hide (show q - 1 + 1 + bs.length = k0 + 1 by omega)
      have hbl : bs.length < 549755813888 := by omega
      obtain ⟨fr, B, m, d, ss, wd⟩ := x
      unfold Bd.arr at p4 HBX4 HG4 hD4 ⊢
      simp only at p4 HBX4 HG4 hD4 ⊢
      clear hf hl hn hgd ho1 ho2 hD3 hg3 hD hqb HBX
      go_wp2_with fail
      generalize w3.alloc _ = w4 at *
      generalize w3.heap.size = g10 at *
      refine (next_any (w.heap.size + 1) 5 (by omega) _ hD4).mono ?_
      rintro e w5 ⟨y, rfl, hy0, hy1, hD5, hg5, hz5⟩
      have hD5 := hide hD5
      have hg := hide (grown_trans HG4.out hg5)
      have p5 := p4.only hg5 (by omega)
      have hbx5 := hide (show BdOwn w5 wr.heap.size ⟨fr, B, m, d, ss, wd⟩ from ⟨own_deckF HBX4.out.1 hg5 (by omega), fun s hs => own_deckF (HBX4.out.2 s hs) hg5 (by omega)⟩)
      have q5 := hide ((HQ2.out.only HG.out (by omega)).only hg.out (by omega))
      clear hg5 hz5 HBX4 HG4 hD4 p4
      by_cases hy : y = 0
      · subst hy
        obtain ⟨c0, c1, c2, cf⟩ := p5.facts3
        go_wp2_with fail
        refine (odd_any (w.heap.size + 1) wr.heap.size ⟨fr, B, m, d, ss, wd⟩ w5 hD5.out (by omega) hg.out.size hbx5.out HX.out.1 HX.out.2.1 HX.out.2.2).mono ?_
        rintro e w6 ⟨x', rfl, hbx6, hD6, hg6⟩
        obtain ⟨fr', B', m', d', ss', wd'⟩ := x'
        have p6 := p5.only hg6 (by omega)
        have HBX9 := hide (bdOwn_set3 hbx6 p6 (.int .i64 fr') (.slice B' m' d') (.bool wd'))
        have HD9 := hide (dk_set3 hD6 (g := g10) (by omega) (.int .i64 fr') (.slice B' m' d') (.bool wd'))
        have G9 := hide (grown_set3 (grown_trans hg.out hg6) hw3 (.int .i64 fr') (.slice B' m' d') (.bool wd'))
        have p9 := p6.set3 (.int .i64 fr') (.slice B' m' d') (.bool wd')
        clear c0 c1 c2 cf
        obtain ⟨c0, c1, c2, cf⟩ := p6.facts3
        clear p5 p6 hbx6 hD6 hg6 hbx5 hD5
        unfold Bd.arr
        simp only
        go_upto_region 9 with fail
        clear c0 c1 c2 cf
        generalize World.setCell _ _ _ = w9 at *
        have o9 := own_deckF HO.out G9.out (by omega)
        have hz9 : w2.heap.size ≤ w9.heap.size := Nat.le_trans hwr G9.out.size
        obtain ⟨c0, c1, c2, cf⟩ := p9.facts3
        clear p9
        go_wp2_with (at_builtin; refine wpList_push rfl _ _ _ rfl w2.heap.size _ _ slBd _ _ _ rfl o9 _ _ rfl rfl rfl hbl hz9 ?_)
        intro v' w10 hv10 hg10 hn10
        obtain ⟨gv, cv, rfl, _, _⟩ := hv10.form (by omega)
        have HR := hide (lsp_step (q := q - 1) (k0 := k0 + 1) (P := fun _ => True) (by omega) HQZ.out (fun _ _ => trivial) trivial HO.out HAP.out HG.out HBX9.out HD9.out G9.out hv10 hg10 hn10)
        clear o9 hv10 hg10 hn10 c0 c1 c2 cf
        go_wp2
        go_roundw
        case rel => exact ⟨q - 1, z - 1, by omega, by go_num, by omega, HR.out⟩
        case measure => simp [intOf]; omega
      · have hy0 : (y == 0) = false := by simp [hy]
        have p9 := p5
        have HBX9 := hbx5
        have HD9 := hD5
        have G9 := hg
        clear p5 hbx5 hD5 hg
        rename World => w9
        have o9 := own_deckF HO.out G9.out (by omega)
        have hz9 : w2.heap.size ≤ w9.heap.size := Nat.le_trans hwr G9.out.size
        obtain ⟨c0, c1, c2, cf⟩ := p9.facts3
        clear p9
        go_wp2_with (at_builtin; refine wpList_push rfl _ _ _ rfl w2.heap.size _ _ slBd _ _ _ rfl o9 _ _ rfl rfl rfl hbl hz9 ?_)
        intro v' w10 hv10 hg10 hn10
        obtain ⟨gv, cv, rfl, _, _⟩ := hv10.form (by omega)
        have HR := hide (lsp_step (q := q - 1) (k0 := k0 + 1) (P := fun _ => True) (by omega) HQZ.out (fun _ _ => trivial) trivial HO.out HAP.out HG.out HBX9.out HD9.out G9.out hv10 hg10 hn10)
        clear o9 hv10 hg10 hn10 c0 c1 c2 cf
        go_wp2
        go_roundw
        case rel => exact ⟨q - 1, z - 1, by omega, by go_num, by omega, HR.out⟩
        case measure => simp [intOf]; omega
    · have hz1 : z = -1 := by omega
      have hq0 : q = 0 := by omega
      obtain ⟨m, hm⟩ : ∃ m, bs.length = m := ⟨_, rfl⟩
      rw [hm] at ho hap
      have hm5 : m ≤ 5 := by omega
      have HM := hide hm
      have q5 := HQ2.out.only hG (by omega)
      have HAP := hide hap
      have HG := hide hG
      have HD := hide hD
      have hwr : w2.heap.size ≤ wr.heap.size := hG.size
      clear hap hP hD hG hqb hq hz
      subst hz1
      try simp only [hm]
      clear hm
      obtain ⟨c0, c1, c2, cf⟩ := q5.facts3
      have hm6 : m < 549755813888 := by omega
      go_wp2_with (at_builtin; refine wpList_push rfl _ _ _ rfl w2.heap.size _ _ slBd _ _ _ rfl ho _ _ rfl rfl rfl hm6 hwr ?_)
      intro v' w3 hv3 hg3 hn3
      obtain ⟨gv, cv, rfl, _, _⟩ := hv3.form (by omega)
      have HMV := hide (show MvP w (w.heap.size + 1) w2.heap.size (some ⟨gv, 0, none⟩) (m + 1) cv bs ⟨rf, rA, rn, rc, rss, rwd⟩ w3 from
        ⟨by rw [bdCells_append, bdCells_one]; exact hv3, fun x hx => ((HAP.out x hx).push hg3 hn3).1, HD.out.otherF hg3 (fun k hk => by have := (ho.lt k hk).1; omega), (below_grown HB2.out HG.out HB2.out.size (by omega)).grown hg3 (by have := HB2.out.size; omega) (fun k hk => by have := (ho.lt k hk).1; omega)⟩)
      obtain ⟨N, hN⟩ : ∃ N, m + 1 = N := ⟨_, rfl⟩
      rw [hN] at HMV
      have hNi : (m : Int) + 1 = (N : Int) := by omega
      have HLN := hide (show (bs ++ [(⟨rf, rA, rn, rc, rss, rwd⟩ : Bd)]).length = N by rw [List.length_append, HM.out]; simpa using hN)
      have hN6 : N ≤ 6 := by omega
      clear hv3 hg3 hn3 ho HAP HG HD HB2 HQ2 q5 c0 c1 c2 cf hD2
      generalize hall : bs ++ [(⟨rf, rA, rn, rc, rss, rwd⟩ : Bd)] = all at *
      have HALL := hide hall
      clear hall
      try simp only [hN]
      go_wp2_with fail
      go_loopw [53] (fun v wq => ∃ j : Nat, j ≤ N ∧ v = .int .i64 j ∧ MvP w (w.heap.size + 1) w2.heap.size (some ⟨gv, 0, none⟩) N cv bs ⟨rf, rA, rn, rc, rss, rwd⟩ wq) (fun v _ => N - (intOf v).toNat)
      case atStart => exact ⟨0, by omega, rfl, HMV.out⟩
      case round =>
        obtain ⟨j, hj, rfl, hmv⟩ := hrel
        rename World => wq
        by_cases hjn : j < N
        · have hL := HLN.out
          have hok := hmv.ok HRAW.out
          rw [HALL.out] at hok
          obtain ⟨bl, ol, hA, hbl, hcl⟩ := hok.1.at_ hjn
          injection hA with hA
          injection hA with hA1 hA2 _
          subst hA1 hA2
          obtain ⟨x, ex⟩ : ∃ x, all[j]'(by omega) = x := ⟨_, rfl⟩
          obtain ⟨e0, e1, e2⟩ := bd_cells hcl (by omega) ex
          have hx := hok.2 x (by rw [← ex]; exact List.getElem_mem _)
          have HX := hide hx
          have HMEM := hide (show x ∈ bs ++ [(⟨rf, rA, rn, rc, rss, rwd⟩ : Bd)] by rw [HALL.out, ← ex]; exact List.getElem_mem _)
          have hbg : w.heap.size + 1 < wq.heap.size := hmv.deck.lt
          have HMQ := hide hmv
          have hji : (j : Int) < (N : Int) := by omega
          obtain ⟨xf, xA, xn, xc, xs, xw⟩ := x
          simp only [Nat.zero_add] at e0 e1 e2
          obtain ⟨er, her⟩ : ∃ er, Bd.err ⟨xf, xA, xn, xc, xs, xw⟩ = er := ⟨_, rfl⟩
          have HW := hide (fun (W : World) h => withdraw_any ⟨xf, xA, xn, xc, xs, xw⟩ W h)
          have HRW := hide (fun (W : World) h => rwithdraw_any ⟨xf, xA, xn, xc, xs, xw⟩ W h)
          rw [her] at HW HRW
          unfold Bd.arr at HW HRW
          simp only at HW HRW
          have hee : (er != er) = false := by simp
          have p12 := Blk.new wq 27 #[.int .i64 xf, .slice xA xn xc, .bool xw]
          have hb12 := bel1 (w := wq) (o := .cells #[.int .i64 xf, .slice xA xn xc, .bool xw] 27)
          have HX3 := hide (Bd.ok.thr HX.out hb12)
          have HM3 := hide (HMQ.out.below hb12)
          clear hcl hok hmv ex hx her hL hbl hb12 HX HMQ
          go_upto_region 14 with fail
          clear e0 e1 e2
          generalize wq.alloc _ = w4 at *
          generalize wq.heap.size = g12 at *
          obtain ⟨c0, c1, c2, cf⟩ := p12.facts3
          go_wp2_with fail
          refine (HW.out w4 HX3.out).mono ?_
          rintro e w5 ⟨x1, rfl, hr1⟩
          have hb5 := hr1.2.2
          have HR1 := hide hr1
          have HO1 := hide (res_ok hr1)
          obtain ⟨f1, A1, n1, c1', s1, d1⟩ := x1
          have p13 := Blk.new w5 27 #[.int .i64 f1, .slice A1 n1 c1', .bool d1]
          have hb6 := bel1 (w := w5) (o := .cells #[.int .i64 f1, .slice A1 n1 c1', .bool d1] 27)
          have hb56 := bthr hb5 hb6 hb5.size
          replace p12 := p12.below hb56 p12.lt
          replace HO1 := hide (Bd.ok.thr HO1.out hb6)
          have HX6 := hide (Bd.ok.thr HX3.out hb56)
          have HM6 := hide (HM3.out.below hb56)
          clear hr1 hb5 hb6 hb56 c0 c1 c2 cf HX3 HM3 HW
          simp only
          go_upto_region 15 with fail
          generalize w5.alloc _ = w6 at *
          generalize w5.heap.size = g13 at *
          obtain ⟨c0, c1, c2, cf⟩ := p12.facts3
          go_wp2_with fail
          refine (HRW.out w6 HX6.out).mono ?_
          rintro e w7 ⟨x2, rfl, hr2⟩
          have hb7 := hr2.2.2
          have HPS := hide (res_same HR1.out hr2)
          have HO2 := hide (res_ok hr2)
          obtain ⟨f2, A2, n2, c2', s2, d2⟩ := x2
          have p15 := Blk.new w7 27 #[.int .i64 f2, .slice A2 n2 c2', .bool d2]
          have hb8 := bel1 (w := w7) (o := .cells #[.int .i64 f2, .slice A2 n2 c2', .bool d2] 27)
          have hb78 := bthr hb7 hb8 hb7.size
          replace p12 := p12.below hb78 p12.lt
          replace p13 := p13.below hb78 p13.lt
          replace HO1 := hide (Bd.ok.thr HO1.out hb78)
          replace HO2 := hide (Bd.ok.thr HO2.out hb8)
          have HX8 := hide (Bd.ok.thr HX6.out hb78)
          have HM8 := hide (HM6.out.below hb78)
          clear hr2 hb7 hb8 hb78 c0 c1 c2 cf HX6 HM6 HRW HR1
          simp only
          go_upto_region 16 with fail
          generalize w7.alloc _ = w8 at *
          generalize w7.heap.size = g15 at *
          obtain ⟨c0, c1, c2, cf⟩ := p13.facts3
          obtain ⟨d0, d1', d2', df⟩ := p15.facts3
          have HSM := hide (pair_same HPS.out w8 HO1.out HO2.out)
          unfold Bd.arr at HSM
          simp only at HSM
          go_wp2_with fail
          refine HSM.out.mono ?_
          rintro e w9 ⟨rfl, hb9⟩
          replace p12 := p12.below hb9 p12.lt
          have HX9 := hide (Bd.ok.thr HX8.out hb9)
          have HM9 := hide (HM8.out.below hb9)
          clear hb9 c0 c1 c2 cf d0 d1' d2' df HX8 HM8 HO1 HO2 HPS HSM p13 p15 hee
          go_wp2_with fail
          refine (next_any (w.heap.size + 1) 26 (by omega) _ HM9.out.deck).mono ?_
          rintro e w10 ⟨v, rfl, hv0, hv1, hD10, hg10, hz10⟩
          have hv26 : 0 ≤ v ∧ v < 26 := by omega
          have HM10 := hide (HM9.out.next hg10 hD10 (by omega) (by omega))
          have p12b := (p12.only hg10 (by omega)).alloc (.cells #[.int .i64 tm, .int .i64 v] 3)
          have p79 := Blk.new w10 3 #[.int .i64 tm, .int .i64 v]
          have HM11 := hide (HM10.out.below (bel1 (o := .cells #[.int .i64 tm, .int .i64 v] 3)))
          have HX11 := hide ((HM11.out.ok HRAW.out).2 _ HMEM.out)
          clear hv0 hv1 hD10 hg10 hz10 p12 HX9 HM9 HM10
          go_upto_region 19 with fail
          generalize w10.alloc _ = w11 at *
          generalize w10.heap.size = g79 at *
          have P12 := hide p12b
          have P79 := hide p79
          clear p12b p79
          go_loopw [81] (fun u wx => ∃ k : Nat, k ≤ 2 ∧ u = .int .i64 k ∧ Below w11.heap.size w11 wx) (fun u _ => 2 - (intOf u).toNat)
          case atStart => exact ⟨0, by omega, rfl, Below.refl _ _⟩
          case round =>
            obtain ⟨k, hk, rfl, hbk⟩ := hrel
            rename World => wx
            by_cases hk2 : k < 2
            · obtain ⟨t, lt, htt⟩ := arr2_at (P79.out.below hbk P79.out.lt) hk2
              have htl : t ≤ 9223372036854775807 := by omega
              have hki : (k : Int) < 2 := by omega
              have hki0 : (0 : Int) ≤ (k : Int) := by omega
              have p12 := P12.out.below hbk P12.out.lt
              have HXk := hide (Bd.ok.thr HX11.out hbk)
              have HMk := hide (HM11.out.below hbk)
              have HBK := hide hbk
              obtain ⟨se, hse⟩ : ∃ se, shE ⟨xf, xA, xn, xc, xs, xw⟩ t = se := ⟨_, rfl⟩
              have HS := hide (fun (W : World) h => shift_any ⟨xf, xA, xn, xc, xs, xw⟩ t W h)
              have HRS := hide (fun (W : World) h => rshift_any ⟨xf, xA, xn, xc, xs, xw⟩ t htl W h)
              rw [hse] at HS HRS
              unfold Bd.arr at HS HRS
              simp only at HS HRS
              have hee : (se != se) = false := by simp
              have HTL := hide htl
              clear hbk hse htt htl
              obtain ⟨c0, c1, c2, cf⟩ := p12.facts3
              go_wp2_with fail
              refine (HS.out wx HXk.out).mono ?_
              rintro e w12 ⟨x1, rfl, hr1⟩
              have hb5 := hr1.2.2
              have HR1 := hide hr1
              have HO1 := hide (res_ok hr1)
              obtain ⟨f1, A1, n1, c1', s1, d1⟩ := x1
              have p19 := Blk.new w12 27 #[.int .i64 f1, .slice A1 n1 c1', .bool d1]
              have hb6 := bel1 (w := w12) (o := .cells #[.int .i64 f1, .slice A1 n1 c1', .bool d1] 27)
              have hb56 := bthr hb5 hb6 hb5.size
              have HBK2 := hide (bthr HBK.out hb56 HBK.out.size)
              replace p12 := p12.below hb56 p12.lt
              replace HO1 := hide (Bd.ok.thr HO1.out hb6)
              replace HXk := hide (Bd.ok.thr HXk.out hb56)
              replace HMk := hide (HMk.out.below hb56)
              clear hr1 hb5 hb6 hb56 c0 c1 c2 cf HS HBK
              simp only
              go_upto_region 22 with fail
              generalize w12.alloc _ = w13 at *
              generalize w12.heap.size = g19 at *
              obtain ⟨c0, c1, c2, cf⟩ := p12.facts3
              go_wp2_with fail
              refine (HRS.out w13 HXk.out).mono ?_
              rintro e w14 ⟨x2, rfl, hr2⟩
              have hb7 := hr2.2.2
              have HPS := hide (res_same HR1.out hr2)
              have HO2 := hide (res_ok hr2)
              obtain ⟨f2, A2, n2, c2', s2, d2⟩ := x2
              have p21 := Blk.new w14 27 #[.int .i64 f2, .slice A2 n2 c2', .bool d2]
              have hb8 := bel1 (w := w14) (o := .cells #[.int .i64 f2, .slice A2 n2 c2', .bool d2] 27)
              have hb78 := bthr hb7 hb8 hb7.size
              have HBK3 := hide (bthr HBK2.out hb78 HBK2.out.size)
              replace p19 := p19.below hb78 p19.lt
              replace HO1 := hide (Bd.ok.thr HO1.out hb78)
              replace HO2 := hide (Bd.ok.thr HO2.out hb8)
              replace HMk := hide (HMk.out.below hb78)
              clear hr2 hb7 hb8 hb78 c0 c1 c2 cf HXk HRS HR1 HBK2 p12
              simp only
              go_upto_region 23 with fail
              generalize w14.alloc _ = w15 at *
              generalize w14.heap.size = g21 at *
              have HLA := hide (latest_any (some ⟨gv, 0, none⟩) N cv all t w15 (by have h := HMk.out.ok HRAW.out; rw [HALL.out] at h; exact h))
              have HLB := hide (fun (W : World) (hW : Below w15.heap.size w15 W) => rlatest_any (some ⟨gv, 0, none⟩) N cv all t HTL.out W (by have h := (HMk.out.below hW).ok HRAW.out; rw [HALL.out] at h; exact h))
              obtain ⟨li, hli⟩ : ∃ li, (latL t all N).getD 0 = li := ⟨_, rfl⟩
              obtain ⟨lu, hlu⟩ : ∃ lu, (latL t all N).isSome = lu := ⟨_, rfl⟩
              rw [hli, hlu] at HLA HLB
              have hii : ((li : Int) != (li : Int)) = false := by simp
              have huu : (lu != lu) = false := by simp
              clear hli hlu HMk HTL
              go_wp2_with fail
              refine HLA.out.mono ?_
              rintro e w16 ⟨rfl, hb16⟩
              have HB16 := hide hb16
              go_wp2_with fail
              refine (HLB.out w16 hb16).mono ?_
              rintro e w17 ⟨rfl, hb17⟩
              have hb1617 := bthr HB16.out hb17 HB16.out.size
              have HBK4 := hide (bthr HBK3.out hb1617 HBK3.out.size)
              replace p19 := p19.below hb1617 p19.lt
              replace p21 := p21.below hb1617 p21.lt
              replace HO1 := hide (Bd.ok.thr HO1.out hb1617)
              replace HO2 := hide (Bd.ok.thr HO2.out hb1617)
              have HSM := hide (pair_same HPS.out w17 HO1.out HO2.out)
              unfold Bd.arr at HSM
              simp only at HSM
              obtain ⟨c0, c1, c2, cf⟩ := p19.facts3
              obtain ⟨d0, d1', d2', df⟩ := p21.facts3
              clear hb16 hb17 HB16 hb1617 HLA HLB HBK3 HPS HO1 HO2
              go_wp2_with fail
              refine HSM.out.mono ?_
              rintro e w18 ⟨rfl, hb18⟩
              have HBK5 := hide (bthr HBK4.out hb18 HBK4.out.size)
              clear hb18 HBK4 HSM c0 c1 c2 cf d0 d1' d2' df p19 p21
              go_wp2
              go_roundw
              case rel => exact ⟨k + 1, by omega, by go_num, HBK5.out⟩
              case measure => simp [intOf]; omega
            · have hk3 : ¬ ((k : Int) < 2) := by omega
              have HMk := hide (HM11.out.below hbk)
              clear hbk
              go_wp2
              go_roundw
              case rel => exact ⟨j + 1, by omega, by go_num, HMk.out⟩
              case measure => simp [intOf]; omega
        · have hjn2 : ¬ ((j : Int) < (N : Int)) := by omega
          have HBZ := hide hmv.bel
          clear hmv
          go_wp2_with fail
          refine (awake_any _).mono ?_
          rintro e wz ⟨rfl, hbz⟩
          have HBY := hide (bthr HBZ.out hbz HBZ.out.size)
          clear hbz
          go_wp2
          go_ret
          exact ⟨rfl, HBY.out⟩
end Go.Proofs.Ytmlpimidbgeacaa
