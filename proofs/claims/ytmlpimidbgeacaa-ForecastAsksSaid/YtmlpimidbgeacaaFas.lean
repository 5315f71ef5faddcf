/-
  The walk of ForecastAsks: it answers true. Conditions: its bundle and its list can be read, its numbers are of 64 bits.
-/
import Derived.Test.YtmlpimidbgeacaaProg
import Derived.Test.YtmlpimidbgeacaaFmv
import Derived.Test.YtmlpimidbgeacaaFqv
import Derived.Test.YtmlpimidbgeacaaFrq
import Derived.Test.YtmlpimidbgeacaaFrx
import Derived.Test.YtmlpimidbgeacaaFrv
import Derived.Test.YtmlpimidbgeacaaSame
namespace Go.Proofs.Ytmlpimidbgeacaa
open Go.RowKit

/-- the three bundles of the law: two of the call's own, the argument between them -/
structure AsP (w : World) (base b g14 : Nat) (x raw : Bd) (g : Nat) (y : Bd) (W : World) : Prop where
  row : Blk W g 27 #[.int .i64 x.fr, .slice x.A x.n x.c, .bool x.wd, .int .i64 raw.fr, .slice raw.A raw.n raw.c, .bool raw.wd, .int .i64 y.fr, .slice y.A y.n y.c, .bool y.wd]
  box : Blk W g14 27 x.arr
  own1 : BdOwn W base x
  own2 : BdOwn W base y
  deck : Dk W b
  bel : Below w.heap.size w W
  ne : g ≠ b ∧ g14 ≠ b
theorem asp_of {w w4 w5 : World} {base b g14 : Nat} {x raw y : Bd} (p4 : Blk w4 g14 27 x.arr) (hx : BdOwn w4 base x) (hB : Below w.heap.size w w4) (hby : BdOwn w5 base y) (hD : Dk w5 b) (hg : w4.drew.grownBy w5 (some b)) (hbb : b < base) (hne : g14 ≠ b) (hwb : w.heap.size ≤ b) :
    AsP w base b g14 x raw w5.heap.size y (w5.alloc (.cells #[.int .i64 x.fr, .slice x.A x.n x.c, .bool x.wd, .int .i64 raw.fr, .slice raw.A raw.n raw.c, .bool raw.wd, .int .i64 y.fr, .slice y.A y.n y.c, .bool y.wd] 27)) := by
  have hg4 : w4.grownBy w5 (some b) := ⟨hg.os, hg.tape, hg.output, hg.size, hg.block⟩
  have hx5 : BdOwn w5 base x := ⟨own_deckF hx.1 hg4 hbb, fun s hs => own_deckF (hx.2 s hs) hg4 hbb⟩
  exact ⟨Blk.new _ _ _, (p4.only hg4 hne).alloc _, hx5.alloc _, hby.alloc _, hD.alloc _, (below_grown hB hg4 hB.size hwb).alloc (below_grown hB hg4 hB.size hwb).size _, fun e => by have := hD.lt; omega, hne⟩
theorem asp_at {w W : World} {base b g14 g : Nat} {x raw y : Bd} (h : AsP w base b g14 x raw g y W) (hraw : raw.ok w w.heap.size) {k : Nat} (hk : k < 3) : ∃ z : Bd, W.cell? ⟨g, k * 3, none⟩ = some (.int .i64 z.fr) ∧ W.cell? ⟨g, k * 3 + 1, none⟩ = some (.slice z.A z.n z.c) ∧ W.cell? ⟨g, k * 3 + 2, none⟩ = some (.bool z.wd) ∧ z.ok W W.heap.size ∧ (z = x ∨ z = raw ∨ z = y) := by
  have hf := h.row.facts.1
  match k, hk with
  | 0, _ => exact ⟨x, hf 0, hf 1, hf 2, h.own1.ok, .inl rfl⟩
  | 1, _ => exact ⟨raw, hf 3, hf 4, hf 5, Bd.ok.thr hraw h.bel, .inr (.inl rfl)⟩
  | 2, _ => exact ⟨y, hf 6, hf 7, hf 8, h.own2.ok, .inr (.inr rfl)⟩
theorem AsP.below {w W W' : World} {base b g14 g : Nat} {x raw y : Bd} (h : AsP w base b g14 x raw g y W) (hb : Below W.heap.size W W') : AsP w base b g14 x raw g y W' :=
  ⟨h.row.below hb h.row.lt, h.box.below hb h.box.lt, h.own1.below hb, h.own2.below hb, h.deck.below hb, bthr h.bel hb h.bel.size, h.ne⟩
theorem AsP.next {w W W' : World} {base b g14 g : Nat} {x raw y : Bd} (h : AsP w base b g14 x raw g y W) (hg : W.drew.grownBy W' (some b)) (hD : Dk W' b) (h1 : b < base) (h2 : w.heap.size ≤ b) : AsP w base b g14 x raw g y W' := by
  have hg' : W.grownBy W' (some b) := ⟨hg.os, hg.tape, hg.output, hg.size, hg.block⟩
  exact ⟨h.row.only hg' h.ne.1, h.box.only hg' h.ne.2, ⟨own_deckF h.own1.1 hg' h1, fun s hs => own_deckF (h.own1.2 s hs) hg' h1⟩, ⟨own_deckF h.own2.1 hg' h1, fun s hs => own_deckF (h.own2.2 s hs) hg' h1⟩, hD, below_grown h.bel hg' h.bel.size h2, h.ne⟩
theorem AsP.okz {w W : World} {base b g14 g : Nat} {x raw y z : Bd} (h : AsP w base b g14 x raw g y W) (hraw : raw.ok w w.heap.size) (hz : z = x ∨ z = raw ∨ z = y) : z.ok W W.heap.size := by
  rcases hz with rfl | rfl | rfl
  · exact h.own1.ok
  · exact Bd.ok.thr hraw h.bel
  · exact h.own2.ok
/-- one bundle of the three in a box of its own, and the steps that it is asked for -/
structure AsQ (w : World) (base b g14 : Nat) (x raw : Bd) (g : Nat) (y : Bd) (g16 : Nat) (z : Bd) (tm : Int) (g70 : Nat) (T : Int) (W : World) : Prop where
  asp : AsP w base b g14 x raw g y W
  box : Blk W g16 27 z.arr
  arr : Blk W g70 3 #[.int .i64 tm, .int .i64 T]
  le : T ≤ 1000
theorem asq_of {w w8 w9 : World} {base b g14 g g16 : Nat} {x raw y z : Bd} {tm T : Int} (h : AsP w base b g14 x raw g y w8) (p : Blk w8 g16 27 z.arr) (hg : w8.drew.grownBy w9 (some b)) (hD : Dk w9 b) (h1 : b < base) (h2 : w.heap.size ≤ b) (h3 : g16 ≠ b) (hT : T ≤ 1000) :
    AsQ w base b g14 x raw g y g16 z tm w9.heap.size T (w9.alloc (.cells #[.int .i64 tm, .int .i64 T] 3)) := by
  have hg' : w8.grownBy w9 (some b) := ⟨hg.os, hg.tape, hg.output, hg.size, hg.block⟩
  exact ⟨(h.next hg hD h1 h2).below (bel1 (o := .cells #[.int .i64 tm, .int .i64 T] 3)), (p.only hg' h3).alloc _, Blk.new _ _ _, hT⟩
theorem qok_one {b : Bd} {t n d x y : Int} {w w1 u u1 : World} (h1 : QOk b t n d w x w1) (h2 : QOk b t n d u y u1) : x = y := by
  by_cases h : qE b t n d = 0
  · exact qv_one (h1.1 h) (h2.1 h)
  · rw [h1.2.1 h, h2.2.1 h]
theorem quant_both (z : Bd) (t a d : Int) (ht : t ≤ 9223372036854775807) : ∃ qe : Int, (∀ W : World, z.ok W W.heap.size → Calls Try.prog 13 #[.agg z.arr, .int .i64 t, .int .i64 a, .int .i64 d] W fun e w' => ∃ x : Int, e = .returned (.tuple #[.int .i64 x, .int .i64 qe]) ∧ QOk z t a d W x w') ∧
    (∀ W : World, z.ok W W.heap.size → Calls Try.prog 20 #[.agg z.arr, .int .i64 t, .int .i64 a, .int .i64 d] W fun e w' => ∃ x : Int, e = .returned (.tuple #[.int .i64 x, .int .i64 qe]) ∧ QOk z t a d W x w') :=
  ⟨_, fun W h => quantileL_any z t a d W h, fun W h => rquantile_any z t a d ht W h⟩
theorem mean_both (z : Bd) (t : Int) (ht : t ≤ 9223372036854775807) : ∃ mv me : Int, (∀ W : World, z.ok W W.heap.size → Calls Try.prog 14 #[.agg z.arr, .int .i64 t] W fun e w' => e = .returned (.tuple #[.int .i64 mv, .int .i64 me]) ∧ Below W.heap.size W w') ∧
    (∀ W : World, z.ok W W.heap.size → Calls Try.prog 21 #[.agg z.arr, .int .i64 t] W fun e w' => e = .returned (.tuple #[.int .i64 mv, .int .i64 me]) ∧ Below W.heap.size W w') :=
  ⟨_, _, fun W h => mean_any z t W h, fun W h => rmean_any z t ht W h⟩
theorem exc_both (z : Bd) (t f : Int) (ht : t ≤ 9223372036854775807) : ∃ ev eu ee : Int, (∀ W : World, z.ok W W.heap.size → Calls Try.prog 16 #[.agg z.arr, .int .i64 t, .int .i64 f] W fun e w' => e = .returned (.tuple #[.int .i64 ev, .int .i64 eu, .int .i64 ee]) ∧ Below W.heap.size W w') ∧
    (∀ W : World, z.ok W W.heap.size → Calls Try.prog 22 #[.agg z.arr, .int .i64 t, .int .i64 f] W fun e w' => e = .returned (.tuple #[.int .i64 ev, .int .i64 eu, .int .i64 ee]) ∧ Below W.heap.size W w') :=
  ⟨_, _, _, fun W h => exceeds_any z t f W h, fun W h => rexceeds_any z t f ht W h⟩
theorem vol_both (z : Bd) (t : Int) : ∃ ve : Int, (∀ W : World, z.ok W W.heap.size → Calls Try.prog 23 #[.agg z.arr, .int .i64 t] W fun e w' => ∃ v, e = .returned (.tuple #[v, .int .i64 ve]) ∧ VOk W z t v w') ∧
    (∀ W : World, z.ok W W.heap.size → Calls Try.prog 24 #[.agg z.arr, .int .i64 t] W fun e w' => ∃ v, e = .returned (.tuple #[v, .int .i64 ve]) ∧ VOk W z t v w') :=
  ⟨_, fun W h => volumes_any z t W h, fun W h => rvolumes_any z t W h⟩
/-- two answers of Volumes are the same list -/
theorem vol_same {wa wa' wb wb' : World} {b : Bd} {st : Int} {u v : Value} (h1 : VOk wa b st u wa') (h2 : VOk wb b st v wb') (hab : Below wa'.heap.size wa' wb') : ∃ A n c A2 n2 c2, u = .slice A n c ∧ v = .slice A2 n2 c2 ∧
    Calls Try.prog 25 #[.slice A n c, .slice A2 n2 c2] wb' fun e w' => e = .returned (.bool true) ∧ Below wb'.heap.size wb' w' := by
  obtain ⟨h1, _⟩ := h1
  obtain ⟨h2, _⟩ := h2
  by_cases h : volE b st = 0
  · rw [if_pos h] at h1 h2
    obtain ⟨A, c, rfl, s1⟩ := own_sl h1
    obtain ⟨A2, c2, rfl, s2⟩ := own_sl h2
    exact ⟨_, _, _, _, _, _, rfl, rfl, (same_any A c _ A2 c2 _ _ _ wb' (s1.thr hab) s2).mono fun e w' ⟨he, hb⟩ => ⟨by rw [he]; simp [sameB], hb⟩⟩
  · rw [if_neg h] at h1 h2
    subst h1 h2
    exact ⟨_, _, _, _, _, _, rfl, rfl, (same_any none 0 [] none 0 [] 0 0 wb' (Sl.none_ _ _ _) (Sl.none_ _ _ _)).mono fun e w' ⟨he, hb⟩ => ⟨by rw [he]; simp [sameB], hb⟩⟩
theorem pair_at {w : World} {g j : Nat} {t : TypeId} {a b c d : Int} (h : Blk w g t #[.int .i64 a, .int .i64 b, .int .i64 c, .int .i64 d]) (hj : j < 2) : ∃ u v : Int, w.cell? ⟨g, j * 2, none⟩ = some (.int .i64 u) ∧ w.cell? ⟨g, j * 2 + 1, none⟩ = some (.int .i64 v) := by
  have hf := h.facts.1
  match j, hj with
  | 0, _ => exact ⟨a, b, hf 0, hf 1⟩
  | 1, _ => exact ⟨c, d, hf 2, hf 3⟩
set_option maxHeartbeats 3200000 in
set_option maxRecDepth 20000 in
theorem fasks_walk {raw : Bd} {A : Option Addr} {n c : Nat} {zs : List Int} {w : World} (hraw : raw.ok w w.heap.size) (hs : Sl w w.heap.size 1 A n c (ints zs)) (tm : Int) (htm : -9223372036854775808 ≤ tm ∧ tm ≤ 9223372036854775807) (nv dv fv : Int) :
    Calls Try.prog 5 #[.agg raw.arr, .slice A n c, .int .i64 tm, .int .i64 nv, .int .i64 dv, .int .i64 fv] w fun e w' => e = .returned (.bool true) ∧ Below w.heap.size w w' := by
  obtain ⟨htm0, htm1⟩ := htm
  have HRAW := hide hraw
  clear hraw
  have q0 := Blk.new w 27 raw.arr
  have hB0 := bel1 (w := w) (o := .cells raw.arr 27)
  have hs0 := hs.thr hB0
  have hz0 : (w.alloc (.cells raw.arr 27)).heap.size = w.heap.size + 1 := by simp
  obtain ⟨rf, rA, rn, rc, rss, rwd⟩ := raw
  unfold Bd.arr at q0 hB0 hs0 hz0 ⊢
  simp only at q0 hB0 hs0 hz0 ⊢
  clear hs
  go_enter Try.func5, Try.ntmps5
  go_wp2_with fail
  generalize w.alloc _ = w0 at *
  refine (new_any _ _ _ _ _ hs0).mono ?_
  rintro e w1 ⟨rfl, hD1, hb1⟩
  rw [hz0] at hD1
  simp only [hz0]
  have hw1 := hD1.lt
  have q1 := q0.below hb1 q0.lt
  have HB1 := hide (bthr hB0 hb1 hB0.size)
  clear hs0 hb1 hB0 q0
  go_wp2_with fail
  refine (bundle_any _ _ hD1).mono ?_
  rintro e w3 ⟨x, rfl, hf, hl, hn, hgd, ho1, ho2, hD3, hg3⟩
  have HBX := hide (show BdOwn w3 w1.heap.size x from ⟨ho1, ho2⟩)
  have HX := hide (show 1 ≤ x.n ∧ x.n ≤ 4 ∧ ∀ s ∈ x.ss, 1 ≤ s.n ∧ s.n ≤ 6 from by
    obtain ⟨nn, h1, h2, h3⟩ := hgd
    exact ⟨by omega, by omega, fun s hs => by have := (h3 s hs).2.1; omega⟩)
  have HFR := hide hf
  have p4 := Blk.new w3 27 x.arr
  have HBX4 := hide (HBX.out.alloc (.cells x.arr 27))
  have HG4 := hide (grown_alloc hg3 (.cells x.arr 27))
  have hD4 := hD3.alloc (.cells x.arr 27)
  have q4 := (q1.only hg3 (by omega)).alloc (.cells x.arr 27)
  have hw3 : w1.heap.size ≤ w3.heap.size := hg3.size
  obtain ⟨xf, xA, xn, xc, xs, xw⟩ := x
  unfold Bd.arr at p4 HBX4 HG4 hD4 q4 ⊢
  simp only at p4 HBX4 HG4 hD4 q4 ⊢
  clear hl hn hgd ho1 ho2 hD3 hg3 HBX hf q1
  go_upto_region 3 with fail
  generalize w3.alloc _ = w4 at *
  generalize w3.heap.size = g14 at *
  obtain ⟨c0, c1, c2, cf⟩ := p4.facts3
  obtain ⟨r0, r1, r2, rr⟩ := q4.facts3
  have HD4 := hide hD4
  have hg14 : g14 < w4.heap.size := p4.lt
  have hbb : w.heap.size + 1 < w4.heap.size := hD4.lt
  have hw4 : w1.heap.size ≤ w4.heap.size := HG4.out.size
  have HB4 := hide (below_grown HB1.out HG4.out HB1.out.size (by omega))
  go_cut [52, 53, 54] (fun v52 v53 v54 wx => v53 = .int .i64 3 ∧ v54 = .int .i64 0 ∧ ∃ (g : Nat) (y : Bd), v52 = .slice (some ⟨g, 0, none⟩) 3 3 ∧ AsP w w1.heap.size (w.heap.size + 1) g14 ⟨xf, xA, xn, xc, xs, xw⟩ ⟨rf, rA, rn, rc, rss, rwd⟩ g y wx)
  case first =>
    go_region_law (go_simp; go_at_call 17; refine (odd_any (w.heap.size + 1) w1.heap.size ⟨xf, xA, xn, xc, xs, xw⟩ w4.drew HD4.out (by omega) hw4 HBX4.out HX.out.1 HX.out.2.1 HX.out.2.2).mono ?_; rintro e w5 ⟨⟨yf, yA, yn, yc, ys, yw⟩, rfl, hby, hD5, hg5⟩; dsimp only [Bd.arr]; obtain ⟨t0, t1, t2, tf⟩ := ((Blk.drew p4).only hg5 (by omega)).facts3; obtain ⟨s0, s1, s2, sf⟩ := ((Blk.drew q4).only hg5 (by omega)).facts3)
    all_goals
      go_wp2_with fail
      go_meet
      exact ⟨rfl, rfl, _, _, rfl, asp_of (x := ⟨xf, xA, xn, xc, xs, xw⟩) (raw := ⟨rf, rA, rn, rc, rss, rwd⟩) p4 HBX4.out HB4.out hby hD5 hg5 (by omega) (by omega) (by omega)⟩
  case rest =>
    obtain ⟨rfl, rfl, g52, y, rfl, hP⟩ := hcut
    have HP := hide hP
    clear hP c0 c1 c2 cf r0 r1 r2 rr p4 q4 hD4 HD4 HBX4 HG4 HB4 HB1 hD1
    go_wp2_with fail
    go_loopw [54] (fun v wr => ∃ k : Nat, k ≤ 3 ∧ v = .int .i64 k ∧ AsP w w1.heap.size (w.heap.size + 1) g14 ⟨xf, xA, xn, xc, xs, xw⟩ ⟨rf, rA, rn, rc, rss, rwd⟩ g52 y wr) (fun v _ => 3 - (intOf v).toNat)
    case atStart => exact ⟨0, by omega, rfl, HP.out⟩
    case round =>
      obtain ⟨k, hk, rfl, hP⟩ := hrel
      rename World => wr
      by_cases hlt : k < 3
      · obtain ⟨z, e0, e1, e2, hz, hzz⟩ := asp_at hP HRAW.out hlt
        have HZZ := hide hzz
        have HC1 := hide (fun (W : World) h => fcheck_any z W h)
        have HC2 := hide (fun (W : World) h => rfcheck_any z W h)
        have p16 := Blk.new wr 27 z.arr
        have hb2 := bel1 (w := wr) (o := .cells z.arr 27)
        have HZ := hide (Bd.ok.thr hz hb2)
        have HP2 := hide (hP.below hb2)
        have hki : (k : Int) < 3 := by omega
        have hgb : w.heap.size + 1 < wr.heap.size := hP.deck.lt
        generalize Bd.err z = er at *
        obtain ⟨zf, zA, zn, zc, zs, zw⟩ := z
        unfold Bd.arr at p16 hb2 HC1 HC2 HZ HP2
        simp only at p16 hb2 HC1 HC2 HZ HP2 e0 e1 e2
        clear hP hz hb2 hzz
        go_upto_region 6 with fail
        clear e0 e1 e2
        generalize wr.alloc _ = w7 at *
        generalize wr.heap.size = g16 at *
        obtain ⟨b0, b1, b2, _⟩ := p16.facts3
        have hee : (er != er) = false := by simp
        have hne : Nonempty (InW fun W => Below w7.heap.size w7 W) := ⟨⟨w7, Below.refl _ _⟩⟩
        replace b0 := inv_cell b0
        replace b1 := inv_cell b1
        replace b2 := inv_cell b2
        refine wp_region_inv (I := fun W => Below w7.heap.size w7 W) (by kernel_rfl) (by kernel_rfl) (Below.refl _ _).drew ?_
        repeat (go_big_quiet_step (first | (go_at_call 18; refine inv_call (inv_closed w7) (HC1.out _ (Bd.ok.thr HZ.out (InW.ok (I := fun W => Below w7.heap.size w7 W) _)))) | (go_at_call 19; refine inv_call (inv_closed w7) (HC2.out _ (Bd.ok.thr HZ.out (InW.ok (I := fun W => Below w7.heap.size w7 W) _))))))
        refine wpQuiet_nil ?_
        rintro _ ⟨⟨w8, h8⟩, rfl⟩
        rename World => w8
        have HP8 := hide (HP2.out.below h8)
        have P16 := hide (p16.below h8 p16.lt)
        have q14 := HP8.out.box
        have HD8 := hide HP8.out.deck
        unfold Bd.arr at q14
        simp only at q14
        obtain ⟨d0, d1, d2, df⟩ := q14.facts3
        have HF : 0 ≤ xf ∧ xf < 20 := HFR.out
        have hg16b : g16 ≠ w.heap.size + 1 := by omega
        have hg14b : g14 ≠ w.heap.size + 1 := HP8.out.ne.2
        clear b0 b1 b2 hne h8 HZ HP2 p16 HC1 HC2 hee
        go_wp2_with fail
        go_cut [70, 71, 72] (fun v70 v71 v72 wx => v71 = .int .i64 2 ∧ v72 = .int .i64 0 ∧ ∃ (g70 : Nat) (T : Int), v70 = .slice (some ⟨g70, 0, none⟩) 2 2 ∧ AsQ w w1.heap.size (w.heap.size + 1) g14 ⟨xf, xA, xn, xc, xs, xw⟩ ⟨rf, rA, rn, rc, rss, rwd⟩ g52 y g16 ⟨zf, zA, zn, zc, zs, zw⟩ tm g70 T wx)
        case first =>
          go_region_law (go_simp; go_at_call 12; refine (next_any (w.heap.size + 1) 8 (by omega) w8.drew HD8.out).mono ?_; rintro e w9 ⟨v, rfl, hv0, hv1, hD9, hg9, hz9⟩; clear hz9; obtain ⟨t0, t1, t2, tf⟩ := ((Blk.drew q14).only hg9 hg14b).facts3)
          all_goals
            go_wp2_with fail
            go_meet
            exact ⟨rfl, rfl, _, _, rfl, asq_of HP8.out P16.out hg9 hD9 (by omega) (by omega) hg16b (show IntKind.i64.wrap (IntKind.i64.wrap (xf + v) - 1) ≤ 1000 by rw [show IntKind.i64.wrap (xf + v) = xf + v by rw [IntKind.wrap_i64]; omega, IntKind.wrap_i64]; omega)⟩
        case rest =>
          rename World => w11
          obtain ⟨rfl, rfl, g70, T, rfl, hQ⟩ := hcut
          have HT := hQ.le
          have P16 := hide hQ.box
          have P70 := hide hQ.arr
          have HQ := hide hQ.asp
          have HZ11 := hide (hQ.asp.okz HRAW.out HZZ.out)
          clear hQ q14 HP8 HD8 HF d0 d1 d2 df
          go_wp2_with fail
          go_loopw [72] (fun u wq => ∃ j : Nat, j ≤ 2 ∧ u = .int .i64 j ∧ Below w11.heap.size w11 wq) (fun u _ => 2 - (intOf u).toNat)
          case atStart => exact ⟨0, by omega, rfl, Below.refl _ _⟩
          case round =>
            obtain ⟨j, hj, rfl, hbj⟩ := hrel
            rename World => wq
            by_cases hj2 : j < 2
            · obtain ⟨t, lt, htt⟩ := arr2_at (P70.out.below hbj P70.out.lt) hj2
              have htl : t ≤ 9223372036854775807 := by omega
              have HTL := hide htl
              have hji : (j : Int) < 2 := by omega
              have hji0 : (0 : Int) ≤ (j : Int) := by omega
              have HBJ := hide hbj
              clear hbj htt
              go_upto_region 11 with fail
              clear lt
              go_wp2_with fail
              refine (mod_any nv 6 (by omega) (by omega) _).mono ?_
              rintro e w' ⟨rfl, rfl⟩
              obtain ⟨n6, hn6, hn0, hn1⟩ : ∃ n6 : Int, nv % 6 = n6 ∧ 0 ≤ n6 ∧ n6 < 6 := ⟨_, rfl, Int.emod_nonneg _ (by omega), Int.emod_lt_of_pos _ (by omega)⟩
              rw [hn6]
              clear hn6
              go_wp2_with fail
              refine (mod_any dv 6 (by omega) (by omega) _).mono ?_
              rintro e w' ⟨rfl, rfl⟩
              obtain ⟨d6, hd6, hd0, hd1⟩ : ∃ d6 : Int, dv % 6 = d6 ∧ 0 ≤ d6 ∧ d6 < 6 := ⟨_, rfl, Int.emod_nonneg _ (by omega), Int.emod_lt_of_pos _ (by omega)⟩
              rw [hd6]
              clear hd6
              have p86 := Blk.new wq 44 #[.int .i64 nv, .int .i64 dv, .int .i64 (1 + n6), .int .i64 (1 + d6)]
              have HB12 := hide (bthr HBJ.out (bel1 (w := wq) (o := .cells #[.int .i64 nv, .int .i64 dv, .int .i64 (1 + n6), .int .i64 (1 + d6)] 44)) HBJ.out.size)
              clear HBJ
              go_upto_region 12 with fail
              generalize wq.alloc _ = w12 at *
              generalize wq.heap.size = g86 at *
              have P86 := hide p86
              clear p86
              go_loopw [88] (fun u wx => ∃ i : Nat, i ≤ 2 ∧ u = .int .i64 i ∧ Below w12.heap.size w12 wx) (fun u _ => 2 - (intOf u).toNat)
              case atStart => exact ⟨0, by omega, rfl, Below.refl _ _⟩
              case round =>
                obtain ⟨i, hi, rfl, hbi⟩ := hrel
                rename World => wx
                by_cases hi2 : i < 2
                · obtain ⟨a, d, l0, l1⟩ := pair_at (P86.out.below hbi P86.out.lt) hi2
                  have hii : (i : Int) < 2 := by omega
                  have hii0 : (0 : Int) ≤ (i : Int) := by omega
                  have p20 := Blk.new wx 44 #[.int .i64 a, .int .i64 d]
                  have HBI := hide (bthr hbi (bel1 (w := wx) (o := .cells #[.int .i64 a, .int .i64 d] 44)) hbi.size)
                  obtain ⟨qe, H1, H2⟩ := quant_both ⟨zf, zA, zn, zc, zs, zw⟩ t a d HTL.out
                  unfold Bd.arr at H1 H2
                  simp only at H1 H2
                  have H1 := hide H1
                  have H2 := hide H2
                  clear hbi
                  go_upto_region 14 with fail
                  clear l0 l1
                  generalize wx.alloc _ = w13 at *
                  generalize wx.heap.size = g20 at *
                  have HB13 := hide (bthr HB12.out HBI.out HB12.out.size)
                  have p16 := P16.out.below HB13.out P16.out.lt
                  unfold Bd.arr at p16
                  simp only at p16
                  obtain ⟨b0, b1, b2, bf⟩ := p16.facts3
                  obtain ⟨c0, c1, cf⟩ := p20.facts2
                  go_wp2_with fail
                  refine (H1.out w13 (Bd.ok.thr HZ11.out HB13.out)).mono ?_
                  rintro e w14 ⟨x1, rfl, hx1⟩
                  have hb14 := hx1.2.2
                  have HX1 := hide hx1
                  have HB14 := hide (bthr HB13.out hb14 HB13.out.size)
                  have HI14 := hide (bthr HBI.out hb14 HBI.out.size)
                  replace p16 := p16.below hb14 p16.lt
                  replace p20 := p20.below hb14 p20.lt
                  clear hx1 hb14 b0 b1 b2 bf c0 c1 cf
                  obtain ⟨b0, b1, b2, bf⟩ := p16.facts3
                  obtain ⟨c0, c1, cf⟩ := p20.facts2
                  go_wp2_with fail
                  refine (H2.out w14 (Bd.ok.thr HZ11.out HB14.out)).mono ?_
                  rintro e w15 ⟨x2, rfl, hx2⟩
                  obtain rfl : x1 = x2 := qok_one HX1.out hx2
                  have HI15 := hide (bthr HI14.out hx2.2.2 HI14.out.size)
                  have h11 : (x1 != x1) = false := by simp
                  have h12 : (qe != qe) = false := by simp
                  clear hx2 b0 b1 b2 bf c0 c1 cf p16 p20 HX1 H1 H2
                  go_wp2
                  go_roundw
                  case rel => exact ⟨i + 1, by omega, by go_num, HI15.out⟩
                  case measure => simp [intOf]; omega
                · have hi3 : ¬ ((i : Int) < 2) := by omega
                  have HB16 := hide (bthr HB12.out hbi HB12.out.size)
                  clear hbi
                  obtain ⟨mv, me, H1, H2⟩ := mean_both ⟨zf, zA, zn, zc, zs, zw⟩ t HTL.out
                  unfold Bd.arr at H1 H2
                  simp only at H1 H2
                  have H1 := hide H1
                  have H2 := hide H2
                  have p16 := P16.out.below HB16.out P16.out.lt
                  unfold Bd.arr at p16
                  simp only at p16
                  obtain ⟨b0, b1, b2, bf⟩ := p16.facts3
                  go_wp2_with fail
                  refine (H1.out wx (Bd.ok.thr HZ11.out HB16.out)).mono ?_
                  rintro e w17 ⟨rfl, hb17⟩
                  have HB17 := hide (bthr HB16.out hb17 HB16.out.size)
                  replace p16 := p16.below hb17 p16.lt
                  clear hb17 b0 b1 b2 bf
                  obtain ⟨b0, b1, b2, bf⟩ := p16.facts3
                  go_wp2_with fail
                  refine (H2.out w17 (Bd.ok.thr HZ11.out HB17.out)).mono ?_
                  rintro e w18 ⟨rfl, hb18⟩
                  have HB18 := hide (bthr HB17.out hb18 HB17.out.size)
                  have h11 : (mv != mv) = false := by simp
                  have h12 : (me != me) = false := by simp
                  clear hb18 b0 b1 b2 bf p16 H1 H2
                  go_wp2_with fail
                  refine (mod_any fv 12 (by omega) (by omega) _).mono ?_
                  rintro e w' ⟨rfl, rfl⟩
                  obtain ⟨f12, hf12⟩ : ∃ f12 : Int, fv % 12 = f12 := ⟨_, rfl⟩
                  rw [hf12]
                  clear hf12 h11 h12
                  have p144 := Blk.new w18 3 #[.int .i64 fv, .int .i64 f12]
                  have HB19 := hide (bthr HB18.out (bel1 (w := w18) (o := .cells #[.int .i64 fv, .int .i64 f12] 3)) HB18.out.size)
                  go_upto_region 24 with fail
                  generalize w18.alloc _ = w19 at *
                  generalize w18.heap.size = g144 at *
                  have P144 := hide p144
                  clear p144
                  go_loopw [146] (fun u wy => ∃ m : Nat, m ≤ 2 ∧ u = .int .i64 m ∧ Below w19.heap.size w19 wy) (fun u _ => 2 - (intOf u).toNat)
                  case atStart => exact ⟨0, by omega, rfl, Below.refl _ _⟩
                  case round =>
                    obtain ⟨m, hm, rfl, hbm⟩ := hrel
                    rename World => wy
                    have HBM := hide hbm
                    have HB20 := hide (bthr HB19.out hbm HB19.out.size)
                    by_cases hm2 : m < 2
                    · obtain ⟨f, l0, _⟩ := arr2_at (P144.out.below hbm P144.out.lt) hm2
                      have hmi : (m : Int) < 2 := by omega
                      have hmi0 : (0 : Int) ≤ (m : Int) := by omega
                      clear hbm
                      obtain ⟨ev, eu, ee, H1, H2⟩ := exc_both ⟨zf, zA, zn, zc, zs, zw⟩ t f HTL.out
                      unfold Bd.arr at H1 H2
                      simp only at H1 H2
                      have H1 := hide H1
                      have H2 := hide H2
                      have p16 := P16.out.below HB20.out P16.out.lt
                      unfold Bd.arr at p16
                      simp only at p16
                      obtain ⟨b0, b1, b2, bf⟩ := p16.facts3
                      go_wp2_with fail
                      refine (H1.out wy (Bd.ok.thr HZ11.out HB20.out)).mono ?_
                      rintro e w21 ⟨rfl, hb21⟩
                      have HB21 := hide (bthr HB20.out hb21 HB20.out.size)
                      have HM21 := hide (bthr HBM.out hb21 HBM.out.size)
                      replace p16 := p16.below hb21 p16.lt
                      clear hb21 b0 b1 b2 bf
                      obtain ⟨b0, b1, b2, bf⟩ := p16.facts3
                      go_wp2_with fail
                      refine (H2.out w21 (Bd.ok.thr HZ11.out HB21.out)).mono ?_
                      rintro e w22 ⟨rfl, hb22⟩
                      have HM22 := hide (bthr HM21.out hb22 HM21.out.size)
                      have h11 : (ev != ev) = false := by simp
                      have h12 : (eu != eu) = false := by simp
                      have h13 : (ee != ee) = false := by simp
                      clear hb22 b0 b1 b2 bf p16 H1 H2
                      go_wp2
                      go_roundw
                      case rel => exact ⟨m + 1, by omega, by go_num, HM22.out⟩
                      case measure => simp [intOf]; omega
                    · have hm3 : ¬ ((m : Int) < 2) := by omega
                      clear hbm
                      go_wp2
                      go_roundw
                      case rel => exact ⟨j + 1, by omega, by go_num, HB20.out⟩
                      case measure => simp [intOf]; omega
            · have hj3 : ¬ ((j : Int) < 2) := by omega
              have HBJ := hide hbj
              clear hbj
              go_wp2_with fail
              refine (mod_any nv 8 (by omega) (by omega) _).mono ?_
              rintro e w' ⟨rfl, rfl⟩
              obtain ⟨n8, hn8⟩ : ∃ n8 : Int, nv % 8 = n8 := ⟨_, rfl⟩
              rw [hn8]
              clear hn8
              have p184 := Blk.new wq 3 #[.int .i64 nv, .int .i64 n8]
              have HB12 := hide (bthr HBJ.out (bel1 (w := wq) (o := .cells #[.int .i64 nv, .int .i64 n8] 3)) HBJ.out.size)
              clear HBJ
              go_upto_region 33 with fail
              generalize wq.alloc _ = w12 at *
              generalize wq.heap.size = g184 at *
              have P184 := hide p184
              clear p184
              go_loopw [186] (fun u wx => ∃ i : Nat, i ≤ 2 ∧ u = .int .i64 i ∧ Below w12.heap.size w12 wx) (fun u _ => 2 - (intOf u).toNat)
              case atStart => exact ⟨0, by omega, rfl, Below.refl _ _⟩
              case round =>
                obtain ⟨i, hi, rfl, hbi⟩ := hrel
                rename World => wx
                have HBI := hide hbi
                have HB13 := hide (bthr HB12.out hbi HB12.out.size)
                by_cases hi2 : i < 2
                · obtain ⟨st, l0, _⟩ := arr2_at (P184.out.below hbi P184.out.lt) hi2
                  have hii : (i : Int) < 2 := by omega
                  have hii0 : (0 : Int) ≤ (i : Int) := by omega
                  clear hbi
                  obtain ⟨ve, H1, H2⟩ := vol_both ⟨zf, zA, zn, zc, zs, zw⟩ st
                  unfold Bd.arr at H1 H2
                  simp only at H1 H2
                  have H1 := hide H1
                  have H2 := hide H2
                  have p16 := P16.out.below HB13.out P16.out.lt
                  unfold Bd.arr at p16
                  simp only at p16
                  obtain ⟨b0, b1, b2, bf⟩ := p16.facts3
                  go_wp2_with fail
                  refine (H1.out wx (Bd.ok.thr HZ11.out HB13.out)).mono ?_
                  rintro e w14 ⟨u1, rfl, hx1⟩
                  have hb14 := hx1.2
                  have HX1 := hide hx1
                  have HB14 := hide (bthr HB13.out hb14 HB13.out.size)
                  have HI14 := hide (bthr HBI.out hb14 HBI.out.size)
                  replace p16 := p16.below hb14 p16.lt
                  clear hx1 hb14 b0 b1 b2 bf
                  obtain ⟨b0, b1, b2, bf⟩ := p16.facts3
                  go_wp2_with fail
                  refine (H2.out w14 (Bd.ok.thr HZ11.out HB14.out)).mono ?_
                  rintro e w15 ⟨u2, rfl, hx2⟩
                  obtain ⟨A1, n1, c1', A2, n2, c2', rfl, rfl, hsm⟩ := vol_same HX1.out hx2 hx2.2
                  have HSM := hide hsm
                  have HI15 := hide (bthr HI14.out hx2.2 HI14.out.size)
                  have h12 : (ve != ve) = false := by simp
                  clear hx2 hsm b0 b1 b2 bf p16 HX1 H1 H2
                  go_wp2_with fail
                  refine HSM.out.mono ?_
                  rintro e w16 ⟨rfl, hb16⟩
                  have HI16 := hide (bthr HI15.out hb16 HI15.out.size)
                  clear hb16
                  go_wp2
                  go_roundw
                  case rel => exact ⟨i + 1, by omega, by go_num, HI16.out⟩
                  case measure => simp [intOf]; omega
                · have hi3 : ¬ ((i : Int) < 2) := by omega
                  clear hbi
                  have HP9 := hide (HQ.out.below HB13.out)
                  go_wp2
                  go_roundw
                  case rel => exact ⟨k + 1, by omega, by go_num, HP9.out⟩
                  case measure => simp [intOf]; omega
      · have hk2 : ¬ ((k : Int) < 3) := by omega
        have HBZ := hide hP.bel
        clear hP
        go_wp2_with fail
        refine (awake_any _).mono ?_
        rintro e wz ⟨rfl, hbz⟩
        have HBY := hide (bthr HBZ.out hbz HBZ.out.size)
        clear hbz
        go_wp2
        go_ret
        exact ⟨rfl, HBY.out⟩
end Go.Proofs.Ytmlpimidbgeacaa
