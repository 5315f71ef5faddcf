/-
  The contract of the reference's Choose where its arguments are right: the choice is the plain one. Conditions: each condition is valid, there are 200 at most, and so are the day, the level, the releases and the bounds.
-/
import Derived.Test.YtphgddanbgdemaaDoorProg
import Derived.Test.YtphgddanbgdemaaDoorChs
import Derived.Test.YtphgddanbgdemaaDoorPushN
namespace Go.Proofs.YtphgddanbgdemaaDoor
open Go.RowKit

def yCells (ys : List (Int × Int)) : List Value := ys.flatMap fun y => [.int .i64 y.1, .int .i64 y.2]
theorem yCells_append (a b : List (Int × Int)) : yCells (a ++ b) = yCells a ++ yCells b := by simp [yCells]
theorem slYield : SlT Tryd.prog 24 49 2 := slT_of (z := .agg #[.int .i64 0, .int .i64 0]) (bytes := 16) Tryd.underlying24 (by kernel_rfl) rfl (by decide) (by decide)
theorem Blk.facts4 {w : World} {g : Nat} {t : TypeId} {a b c d : Value} (h : Blk w g t #[a, b, c, d]) : w.cell? ⟨g, 0, none⟩ = some a ∧ w.cell? ⟨g, 1, none⟩ = some b ∧ w.cell? ⟨g, 2, none⟩ = some c ∧ w.cell? ⟨g, 3, none⟩ = some d ∧ (∀ o, w.frozen? ⟨g, o, none⟩ = false) := by
  unfold Blk at h
  exact ⟨by simp [World.cell?, h], by simp [World.cell?, h], by simp [World.cell?, h], by simp [World.cell?, h], fun o => by simp [World.frozen?, h]⟩
theorem Blk.setB {w : World} {g : Nat} {t : TypeId} {cs : Array Value} (h : Blk w g t cs) (i : Nat) (u : Value) : Blk (w.setCell ⟨g, i, none⟩ u) g t (cs.setIfInBounds i u) := by
  unfold Blk at h ⊢
  simp [World.setCell, Array.getElem?_modify, h]
theorem Blk.farB {w : World} {g : Nat} {t : TypeId} {cs : Array Value} (h : Blk w g t cs) {p : Addr} (hp : g ≠ p.block) (u : Value) : Blk (w.setCell p u) g t cs := (Below.heap_setCell w p u g hp).trans h
def ChoPost (w : World) (n : Nat) (cs : List Cd) (d lv bf g0 g1 wn : Int) (e : Ending) (w' : World) : Prop := ∃ (os : List Int) (s : Chs) (A : Option Addr) (c : Nat), OrdOf cs n os ∧ s = chAll bf cs g0 g1 (ractL cs d lv os) ∧ e = .returned (.tuple #[.agg #[.int .i64 (chRel wn s), .int .i64 s.lo, .int .i64 s.hi, .slice A s.ys.length c], .int .i64 0]) ∧ Sl w' w'.heap.size 2 A s.ys.length c (yCells s.ys) ∧ Below w.heap.size w w'
/-- What a choice's loop leaves as it was: all below w2, and what lies from w3 to w4. -/
def Stays (w2 w3 w4 wr : World) : Prop := Below w2.heap.size w2 wr ∧ w4.heap.size ≤ wr.heap.size ∧ ∀ b, w3.heap.size ≤ b → b < w4.heap.size → wr.heap[b]? = w4.heap[b]?
section
variable {w2 w3 w4 wr wr' : World}
theorem Stays.below (h : Stays w2 w3 w4 wr) (hb : Below wr.heap.size wr wr') : Stays w2 w3 w4 wr' :=
  ⟨h.1.trans (hb.mono h.1.size), Nat.le_trans h.2.1 hb.size, fun b h1 h2 => (hb.block b (Nat.lt_of_lt_of_le h2 h.2.1)).trans (h.2.2 b h1 h2)⟩
theorem Stays.alloc (h : Stays w2 w3 w4 wr) (o : Obj) : Stays w2 w3 w4 (wr.alloc o) := h.below bel1
theorem Stays.set_ (h : Stays w2 w3 w4 wr) {p : Addr} (h1 : w2.heap.size ≤ p.block) (h2 : p.block < w3.heap.size ∨ w4.heap.size ≤ p.block) (u : Value) : Stays w2 w3 w4 (wr.setCell p u) :=
  ⟨h.1.setCell h1 u, by simpa [World.setCell] using h.2.1, fun b g1 g2 => (Below.heap_setCell wr p u b (by omega)).trans (h.2.2 b g1 g2)⟩
theorem Stays.grown (h : Stays w2 w3 w4 wr) {row : Option Nat} (hg : wr.grownBy wr' row) (hr : ∀ k, row = some k → w4.heap.size ≤ k) (h24 : w2.heap.size ≤ w4.heap.size) : Stays w2 w3 w4 wr' :=
  ⟨h.1.grown hg h.1.size (fun k hk => Nat.le_trans h24 (hr k hk)), Nat.le_trans h.2.1 hg.size, fun b g1 g2 => (hg.block b (Nat.lt_of_lt_of_le g2 h.2.1) (fun e => by have := hr b e.symm; omega)).trans (h.2.2 b g1 g2)⟩
theorem Stays.cell (h : Stays w2 w3 w4 wr) {b o : Nat} (h1 : w3.heap.size ≤ b) (h2 : b < w4.heap.size) : wr.cell? ⟨b, o, none⟩ = w4.cell? ⟨b, o, none⟩ := World.cell?_of_block (h.2.2 b h1 h2)
end
theorem sl_own {w : World} {base n c size : Nat} {e : TypeId} {A : Option Addr} {xs : List Value} (h : w.ownsRow base e size (.slice A n c) n xs) : Sl w w.heap.size size A n c xs := by
  obtain ⟨A', c', he, hs⟩ := own_sl h
  injection he with e1 _ e3
  rw [e1, e3]; exact hs
theorem own_set {w : World} {base n : Nat} {e : TypeId} {size : Nat} {v : Value} {xs : List Value} (h : w.ownsRow base e size v n xs) {p : Addr} (hp : p.block < base) (u : Value) : (w.setCell p u).ownsRow base e size v n xs :=
  h.kept (row := some p.block) ⟨rfl, rfl, rfl, by simp [World.setCell], fun i _ hne => Below.heap_setCell w p u i (fun e => hne (by rw [e]))⟩ (by
    cases hv : v.ownBlock with
    | none => exact .inl rfl
    | some g => exact .inr (fun e => by injection e with e; have := (h.lt g hv).1; omega))
theorem own_new {w : World} {base n : Nat} {e : TypeId} {size : Nat} {v : Value} {xs : List Value} {o : Obj} (h : (w.alloc o).ownsRow base e size v n xs) {i : Nat} {g : Nat} (hg : v.ownBlock ≠ some g) (u : Value) : ((w.alloc o).setCell ⟨g, i, none⟩ u).ownsRow base e size v n xs :=
  h.kept (row := some g) ⟨rfl, rfl, rfl, by simp [World.setCell], fun j _ hne => Below.heap_setCell _ _ u j (fun e => hne (by rw [e]))⟩ (.inr hg)
theorem Blk.grownF {w w' : World} {g : Nat} {t : TypeId} {cs : Array Value} {row : Option Nat} (h : Blk w g t cs) (hg : w.grownBy w' row) (hr : ∀ k, row = some k → g ≠ k) : Blk w' g t cs := (hg.block g h.lt (fun e => hr g e.symm rfl)).trans h
theorem ract_mem {cs : List Cd} {d lv : Int} {os : List Int} {n k : Nat} (ho : OrdOf cs n os) (h : k < (ractL cs d lv os).length) : 0 ≤ (ractL cs d lv os).getD k 0 ∧ (ractL cs d lv os).getD k 0 < n := by
  have hm := gd_mem h
  unfold ractL at hm
  exact ho.in_ (List.mem_filter.1 hm).1
set_option maxHeartbeats 16000000 in
set_option maxRecDepth 20000 in
theorem rchoose_ok (A : Option Addr) (n c : Nat) (cs : List Cd) (d lv bf g0 g1 wn : Int) (w : World) (hn : n ≤ 200) (hg : ∀ x ∈ cs, x.err = 0) (hd : wit d 364 = true) (hv : wit lv 16777216 = true) (hbf : wit bf 1073741824 = true) (hwn : wit wn 1073741824 = true) (h0 : wit g0 1073741824 = true) (h1 : wit g1 1073741824 = true) (hgg : g0 ≤ g1) (hs : Sl w w.heap.size 7 A n c (cdCells cs)) :
    Calls Tryd.prog 7 #[.slice A n c, .int .i64 d, .int .i64 lv, .int .i64 bf, .agg #[.int .i64 g0, .int .i64 g1], .int .i64 wn] w (ChoPost w n cs d lv bf g0 g1 wn) := by
  have hl : n = cs.length := by have := hs.1; rw [cdCells_length] at this; omega
  have HL := hide hl
  have HG := hide hg
  have HD := hide hd
  have HV := hide hv
  have HBF := hide hbf
  have HWN := hide hwn
  have H0 := hide h0
  have H1 := hide h1
  have HGG := hide hgg
  have q0 := (Blk.new w 23 #[.int .i64 g0, .int .i64 g1]).alloc (.cells #[.int .i64 0, .int .i64 0, .int .i64 0, .slice none 0 0] 26)
  have q1 := Blk.new (w.alloc (.cells #[.int .i64 g0, .int .i64 g1] 23)) 26 #[.int .i64 0, .int .i64 0, .int .i64 0, .slice none 0 0]
  rw [World.size_alloc] at q1
  have hB := (bel1 (w := w) (o := .cells #[.int .i64 g0, .int .i64 g1] 23)).alloc (by simp) (.cells #[.int .i64 0, .int .i64 0, .int .i64 0, .slice none 0 0] 26)
  have hs1 := hs.thr hB
  clear hl hg hd hv hbf hwn h0 h1 hs hgg
  obtain ⟨y0, y1, _⟩ := q0.facts2
  go_enter Tryd.func7, Tryd.ntmps7
  go_wp2_with fail
  generalize hw1 : ((w.alloc _).alloc _) = w1 at *
  have hz0 : w1.heap.size = w.heap.size + 2 := by rw [← hw1]; simp
  clear hw1
  refine (rwrong_ok A n c cs d lv bf g0 g1 wn w1 hn HG.out HD.out HV.out HBF.out HWN.out H0.out H1.out HGG.out hs1).mono ?_
  rintro e w2 ⟨rfl, hb2⟩
  have hB2 := bthr hB hb2 hB.size
  replace q0 := q0.below hb2 q0.lt
  replace q1 := q1.below hb2 q1.lt
  have hs2 := hs1.thr hb2
  have hb2s := hb2.size
  have HS2 := hide hs2
  have HB2 := hide hB2
  have HQ1 := hide q1
  clear y0 y1 hB hs1
  obtain ⟨y0, y1, _⟩ := q0.facts2
  have q2 := (Blk.new w2 26 #[.int .i64 0, .int .i64 g0, .int .i64 g1, .slice none 0 0]).alloc (.cells #[.int .i64 0, .int .i64 0] 23)
  have q3 := Blk.new (w2.alloc (.cells #[.int .i64 0, .int .i64 g0, .int .i64 g1, .slice none 0 0] 26)) 23 #[.int .i64 0, .int .i64 0]
  rw [World.size_alloc] at q3
  have hB3 := (hB2.alloc hB2.size (.cells #[.int .i64 0, .int .i64 g0, .int .i64 g1, .slice none 0 0] 26)).alloc (by have := hB2.size; simp; omega) (.cells #[.int .i64 0, .int .i64 0] 23)
  have hs3 := (hs2.allocw (.cells #[.int .i64 0, .int .i64 g0, .int .i64 g1, .slice none 0 0] 26)).allocw (.cells #[.int .i64 0, .int .i64 0] 23)
  replace q1 := (q1.alloc (.cells #[.int .i64 0, .int .i64 g0, .int .i64 g1, .slice none 0 0] 26)).alloc (.cells #[.int .i64 0, .int .i64 0] 23)
  have hz1 := hB2.size
  have hzz : w.heap.size + 2 ≤ w2.heap.size := by have := hb2s; omega
  have hB23 : Below w2.heap.size w2 ((w2.alloc (.cells #[.int .i64 0, .int .i64 g0, .int .i64 g1, .slice none 0 0] 26)).alloc (.cells #[.int .i64 0, .int .i64 0] 23)) := bel1.alloc (by simp) _
  clear hs2 q0
  go_wp2_with fail
  generalize hw3 : ((w2.alloc _).alloc _) = w3 at *
  have hz3 : w3.heap.size = w2.heap.size + 2 := by rw [← hw3]; simp
  clear hw3
  refine (ractive_ok A n c cs d lv w3 hn HG.out HD.out HV.out hs3).mono ?_
  rintro e w4 ⟨va, os, rfl, ho, ha, hb4⟩
  have hq1 := q1.below hb4 q1.lt
  replace q2 := q2.below hb4 q2.lt
  replace q3 := q3.below hb4 q3.lt
  have HS4 := hide (hs3.thr hb4)
  have hB4 := bthr hB3 hb4 hB3.size
  have hz4 := hb4.size
  have HO := hide ho
  have hLn := ho.len
  have hle := ract_le cs d lv os
  have HX := hide (fun (k : Nat) (h : k < (ractL cs d lv os).length) => ract_mem HO.out h)
  obtain ⟨xs, hxs⟩ : ∃ xs, xs = ractL cs d lv os := ⟨_, rfl⟩
  rw [← hxs] at ha HX hle
  have HXS := hide hxs
  obtain ⟨q, hq⟩ : ∃ q, q = xs.length := ⟨_, rfl⟩
  rw [← hq] at ha HX hle
  have HQ := hide hq
  obtain ⟨A4, c4, rfl, hsa⟩ := own_sl ha
  have HSA := hide (fun (wr : World) (hst : Stays w2 w3 w4 wr) (k : Nat) (hk : k < q) => show ∃ b, A4 = some ⟨b, 0, none⟩ ∧ wr.cell? ⟨b, k, none⟩ = some (.int .i64 (xs.getD k 0)) by
    obtain ⟨g, cp, hv, hg0, hg1⟩ := ha.form (by omega)
    injection hv with e1 e2 e3
    obtain ⟨b, o, hA, _, hc⟩ := hsa.at_ hk
    rw [e1] at hA
    injection hA with hA
    injection hA with hA1 hA2
    subst hA1
    refine ⟨g, e1, ?_⟩
    have := hc k _ (ints_get xs k (by rw [← hq]; exact hk))
    rw [← hA2, Nat.zero_add] at this
    exact (hst.cell hg0 hg1).trans this)
  have HB4 := hide (show Below w2.heap.size w2 w4 from bthr hB23 hb4 hB23.size)
  clear ha hsa hxs hq ho hb4 hs3 hB3 hB4 q1 hq1 hB23
  go_wp2
  go_loopw [16, 17, 50] (fun vl vm vi wr => ∃ (k : Nat) (lo hi lb mb f0 f1 : Int) (ys : List (Int × Int)) (yv : Value), k ≤ q ∧ vi = .int .i64 k ∧ vl = .int .i64 lb ∧ vm = .int .i64 mb ∧ Hid (chAll bf cs g0 g1 (xs.take k) = ⟨lo, hi, lb, mb, ys, f0, f1⟩) ∧ Blk wr w2.heap.size 26 #[.int .i64 0, .int .i64 lo, .int .i64 hi, yv] ∧ Blk wr (w2.heap.size + 1) 23 #[.int .i64 f0, .int .i64 f1] ∧ wr.ownsRow w4.heap.size 49 2 yv ys.length (yCells ys) ∧ Hid (ys.length ≤ k) ∧ Stays w2 w3 w4 wr) (fun _ _ vi _ => q - (intOf vi).toNat)
  case atStart => exact ⟨0, g0, g1, -1, -1, 0, 0, [], .slice none 0 0, by omega, rfl, rfl, rfl, hide rfl, q2, q3, World.ownsRow_nil _ _ _ _, hide (Nat.le_refl 0), ⟨HB4.out, Nat.le_refl _, fun _ _ _ => rfl⟩⟩
  case round =>
    obtain ⟨k, lo, hi, lb, mb, f0, f1, ys, yv, hk, rfl, rfl, rfl, hst, b2, b3, hy, hyl, stay⟩ := hrel
    have hlh := chAll_le (bf := bf) (cs := cs) HGG.out (xs.take k)
    rw [hst.out] at hlh
    simp only at hlh
    by_cases hlt : k < q
    · obtain ⟨bA, rfl, ca⟩ := HSA.out _ stay k hlt
      obtain ⟨p0, p1⟩ := HX.out k hlt
      obtain ⟨p, hp⟩ : ∃ p : Nat, xs.getD k 0 = (p : Int) := ⟨(xs.getD k 0).toNat, by omega⟩
      rw [hp] at ca
      have hL := HL.out
      obtain ⟨bl, ol, rfl, _, hcl⟩ := (HS2.out.below stay.1).at_ (show p < n by omega)
      rcases ep : cs[p]'(by omega) with ⟨r, kd, vv, f, t, x, y⟩
      obtain ⟨e0, e1, e2, e3, e4, e5, e6⟩ := cd_cells (B := 0) (n := 0) (c := 0) hcl (by omega) ep
      have hek := HG.out _ (List.getElem_mem (show p < cs.length by omega))
      rw [ep] at hek
      have hgd : cs.getD ((p : Int)).toNat cdz = ⟨r, kd, vv, f, t, x, y⟩ := by simp [List.getD_eq_getElem?_getD, show p < cs.length by omega, ep]
      have HBN := hide (fun W => show Calls Tryd.prog 21 #[.agg #[.int .i64 r, .int .i64 kd, .int .i64 vv, .int .i64 f, .int .i64 t, .int .i64 x, .int .i64 y], .int .i64 bf] W fun e w' => e = .returned (.tuple #[.agg #[.int .i64 (bLeast ⟨r, kd, vv, f, t, x, y⟩ bf), .int .i64 (bMost ⟨r, kd, vv, f, t, x, y⟩ bf)], .bool true]) ∧ Below W.heap.size W w' from
        (rbounds_any ⟨r, kd, vv, f, t, x, y⟩ bf W).mono fun e w' ⟨h1, h2⟩ => ⟨by rw [h1, bnd_yes (by unfold bOk; rw [HBF.out, hek]; rfl)], h2⟩)
      obtain ⟨hb0, hb01, hb1⟩ := bnd_le hek (wit_iff.1 HBF.out)
      have HYY := hide (fun (h : max lo (bLeast ⟨r, kd, vv, f, t, x, y⟩ bf) ≤ min hi (bMost ⟨r, kd, vv, f, t, x, y⟩ bf)) => show chAll bf cs g0 g1 (xs.take (k + 1)) = ⟨max lo (bLeast ⟨r, kd, vv, f, t, x, y⟩ bf), min hi (bMost ⟨r, kd, vv, f, t, x, y⟩ bf), if lo < bLeast ⟨r, kd, vv, f, t, x, y⟩ bf then (p : Int) else lb, if bMost ⟨r, kd, vv, f, t, x, y⟩ bf < hi then (p : Int) else mb, ys, f0, f1⟩ by
        rw [chAll_snoc (by rw [← HQ.out]; exact hlt), hst.out, hp]; unfold chStep; rw [hgd]; simp only; rw [if_pos h])
      have HNN := hide (fun (h : min hi (bMost ⟨r, kd, vv, f, t, x, y⟩ bf) < max lo (bLeast ⟨r, kd, vv, f, t, x, y⟩ bf)) => show chAll bf cs g0 g1 (xs.take (k + 1)) = ⟨lo, hi, lb, mb, ys ++ [((p : Int), if bMost ⟨r, kd, vv, f, t, x, y⟩ bf < lo then lb else mb)], if ys = [] then bLeast ⟨r, kd, vv, f, t, x, y⟩ bf else f0, if ys = [] then bMost ⟨r, kd, vv, f, t, x, y⟩ bf else f1⟩ by
        rw [chAll_snoc (by rw [← HQ.out]; exact hlt), hst.out, hp]; unfold chStep; rw [hgd]; simp only; rw [if_neg (Int.not_le.2 h)])
      generalize bLeast ⟨r, kd, vv, f, t, x, y⟩ bf = b0 at *
      generalize bMost ⟨r, kd, vv, f, t, x, y⟩ bf = b1 at *
      have i2 : (0 : Int) ≤ (p : Int) := by omega
      have i3 : (p : Int) < (n : Int) := by omega
      have HYL := hide (show ys.length ≤ k from hyl.out)
      clear hcl ep hek hgd hL p0 p1 hp hyl hst
      go_wp2_with fail
      refine (HBN.out _).mono ?_
      rintro e w5 ⟨rfl, hb5⟩
      have st6 := (stay.below hb5).alloc (.cells #[.int .i64 b0, .int .i64 b1] 23)
      have b26 := (b2.below hb5 b2.lt).alloc (.cells #[.int .i64 b0, .int .i64 b1] 23)
      have b36 := (b3.below hb5 b3.lt).alloc (.cells #[.int .i64 b0, .int .i64 b1] 23)
      have hy6 := (ownsRow_below hy hb5).alloc (.cells #[.int .i64 b0, .int .i64 b1] 23)
      have q23 := Blk.new w5 23 #[.int .i64 b0, .int .i64 b1]
      have hlt5 := (stay.below hb5).2.1
      clear hb5 b2 b3 hy stay e0 e1 e2 e3 e4 e5 e6 ca HBN
      obtain ⟨d0, d1, d2, d3, _⟩ := b26.facts4
      obtain ⟨x0, x1, _⟩ := q23.facts2
      go_wp2_with fail
      generalize (w5.alloc _) = w6 at *
      have hsz3 := hz3
      by_cases hok : max lo b0 ≤ min hi b1
      · have HY := hide (HYY.out hok)
        clear HYY HNN
        by_cases c1 : lo < b0
        · by_cases c2 : b1 < hi
          · have HY2 := hide (show chAll bf cs g0 g1 (xs.take (k + 1)) = ⟨b0, b1, (p : Int), (p : Int), ys, f0, f1⟩ by rw [HY.out, if_pos c1, if_pos c2, show max lo b0 = b0 by omega, show min hi b1 = b1 by omega])
            have HM := hide (fun W => (rmeet_any lo hi b0 b1 W).mono (R' := fun e w' => e = .returned (.tuple #[.agg #[.int .i64 b0, .int .i64 b1], .bool true]) ∧ Below W.heap.size W w') fun e w' ⟨h1, h2⟩ => ⟨by rw [h1, met_yes (m := b0) (n := b1) hlh hb01 (by omega) (by omega) (by omega)], h2⟩)
            clear hok
            refine (HM.out _).mono ?_
            rintro e w7 ⟨rfl, hb7⟩
            have st8 := (st6.below hb7).alloc (.cells #[.int .i64 b0, .int .i64 b1] 23)
            have b28 := (b26.below hb7 b26.lt).alloc (.cells #[.int .i64 b0, .int .i64 b1] 23)
            have b38 := (b36.below hb7 b36.lt).alloc (.cells #[.int .i64 b0, .int .i64 b1] 23)
            have hy8 := (ownsRow_below hy6 hb7).alloc (.cells #[.int .i64 b0, .int .i64 b1] 23)
            have q25 := Blk.new w7 23 #[.int .i64 b0, .int .i64 b1]
            have hz7 := Nat.le_trans st6.2.1 hb7.size
            have n1 : ¬ w2.heap.size = w7.heap.size := by omega
            clear hb7 st6 b26 b36 hy6 q23 d0 d1 d2 d3 x0 x1 HM
            obtain ⟨d0, d1, d2, d3, dF⟩ := b28.facts4
            obtain ⟨x0, x1, _⟩ := q25.facts2
            have HB28 := hide b28
            have HB38 := hide b38
            have HY8 := hide hy8
            have HST8 := hide st8
            clear b28 b38 hy8 st8 q25
            go_wp2
            go_roundw
            case rel => exact ⟨k + 1, _, _, _, _, f0, f1, ys, yv, by omega, by go_num, rfl, rfl, HY2, (HB28.out.setB 1 _).setB 2 _, (HB38.out.farB (by simp) _).farB (by simp) _, own_set (own_set HY8.out (by simp; omega) _) (by simp; omega) _, hide (Nat.le_succ_of_le HYL.out), (HST8.out.set_ (Nat.le_refl _) (.inl (by simp; omega)) _).set_ (Nat.le_refl _) (.inl (by simp; omega)) _⟩
            case measure => simp [intOf]; omega
          · have HY2 := hide (show chAll bf cs g0 g1 (xs.take (k + 1)) = ⟨b0, hi, (p : Int), mb, ys, f0, f1⟩ by rw [HY.out, if_pos c1, if_neg c2, show max lo b0 = b0 by omega, show min hi b1 = hi by omega])
            have HM := hide (fun W => (rmeet_any lo hi b0 b1 W).mono (R' := fun e w' => e = .returned (.tuple #[.agg #[.int .i64 b0, .int .i64 hi], .bool true]) ∧ Below W.heap.size W w') fun e w' ⟨h1, h2⟩ => ⟨by rw [h1, met_yes (m := b0) (n := hi) hlh hb01 (by omega) (by omega) (by omega)], h2⟩)
            clear hok
            refine (HM.out _).mono ?_
            rintro e w7 ⟨rfl, hb7⟩
            have st8 := (st6.below hb7).alloc (.cells #[.int .i64 b0, .int .i64 hi] 23)
            have b28 := (b26.below hb7 b26.lt).alloc (.cells #[.int .i64 b0, .int .i64 hi] 23)
            have b38 := (b36.below hb7 b36.lt).alloc (.cells #[.int .i64 b0, .int .i64 hi] 23)
            have hy8 := (ownsRow_below hy6 hb7).alloc (.cells #[.int .i64 b0, .int .i64 hi] 23)
            have q25 := Blk.new w7 23 #[.int .i64 b0, .int .i64 hi]
            have hz7 := Nat.le_trans st6.2.1 hb7.size
            have n1 : ¬ w2.heap.size = w7.heap.size := by omega
            clear hb7 st6 b26 b36 hy6 q23 d0 d1 d2 d3 x0 x1 HM
            obtain ⟨d0, d1, d2, d3, dF⟩ := b28.facts4
            obtain ⟨x0, x1, _⟩ := q25.facts2
            have HB28 := hide b28
            have HB38 := hide b38
            have HY8 := hide hy8
            have HST8 := hide st8
            clear b28 b38 hy8 st8 q25
            go_wp2
            go_roundw
            case rel => exact ⟨k + 1, _, _, _, _, f0, f1, ys, yv, by omega, by go_num, rfl, rfl, HY2, (HB28.out.setB 1 _).setB 2 _, (HB38.out.farB (by simp) _).farB (by simp) _, own_set (own_set HY8.out (by simp; omega) _) (by simp; omega) _, hide (Nat.le_succ_of_le HYL.out), (HST8.out.set_ (Nat.le_refl _) (.inl (by simp; omega)) _).set_ (Nat.le_refl _) (.inl (by simp; omega)) _⟩
            case measure => simp [intOf]; omega
        · by_cases c2 : b1 < hi
          · have HY2 := hide (show chAll bf cs g0 g1 (xs.take (k + 1)) = ⟨lo, b1, lb, (p : Int), ys, f0, f1⟩ by rw [HY.out, if_neg c1, if_pos c2, show max lo b0 = lo by omega, show min hi b1 = b1 by omega])
            have HM := hide (fun W => (rmeet_any lo hi b0 b1 W).mono (R' := fun e w' => e = .returned (.tuple #[.agg #[.int .i64 lo, .int .i64 b1], .bool true]) ∧ Below W.heap.size W w') fun e w' ⟨h1, h2⟩ => ⟨by rw [h1, met_yes (m := lo) (n := b1) hlh hb01 (by omega) (by omega) (by omega)], h2⟩)
            clear hok
            refine (HM.out _).mono ?_
            rintro e w7 ⟨rfl, hb7⟩
            have st8 := (st6.below hb7).alloc (.cells #[.int .i64 lo, .int .i64 b1] 23)
            have b28 := (b26.below hb7 b26.lt).alloc (.cells #[.int .i64 lo, .int .i64 b1] 23)
            have b38 := (b36.below hb7 b36.lt).alloc (.cells #[.int .i64 lo, .int .i64 b1] 23)
            have hy8 := (ownsRow_below hy6 hb7).alloc (.cells #[.int .i64 lo, .int .i64 b1] 23)
            have q25 := Blk.new w7 23 #[.int .i64 lo, .int .i64 b1]
            have hz7 := Nat.le_trans st6.2.1 hb7.size
            have n1 : ¬ w2.heap.size = w7.heap.size := by omega
            clear hb7 st6 b26 b36 hy6 q23 d0 d1 d2 d3 x0 x1 HM
            obtain ⟨d0, d1, d2, d3, dF⟩ := b28.facts4
            obtain ⟨x0, x1, _⟩ := q25.facts2
            have HB28 := hide b28
            have HB38 := hide b38
            have HY8 := hide hy8
            have HST8 := hide st8
            clear b28 b38 hy8 st8 q25
            go_wp2
            go_roundw
            case rel => exact ⟨k + 1, _, _, _, _, f0, f1, ys, yv, by omega, by go_num, rfl, rfl, HY2, (HB28.out.setB 1 _).setB 2 _, (HB38.out.farB (by simp) _).farB (by simp) _, own_set (own_set HY8.out (by simp; omega) _) (by simp; omega) _, hide (Nat.le_succ_of_le HYL.out), (HST8.out.set_ (Nat.le_refl _) (.inl (by simp; omega)) _).set_ (Nat.le_refl _) (.inl (by simp; omega)) _⟩
            case measure => simp [intOf]; omega
          · have HY2 := hide (show chAll bf cs g0 g1 (xs.take (k + 1)) = ⟨lo, hi, lb, mb, ys, f0, f1⟩ by rw [HY.out, if_neg c1, if_neg c2, show max lo b0 = lo by omega, show min hi b1 = hi by omega])
            have HM := hide (fun W => (rmeet_any lo hi b0 b1 W).mono (R' := fun e w' => e = .returned (.tuple #[.agg #[.int .i64 lo, .int .i64 hi], .bool true]) ∧ Below W.heap.size W w') fun e w' ⟨h1, h2⟩ => ⟨by rw [h1, met_yes (m := lo) (n := hi) hlh hb01 (by omega) (by omega) (by omega)], h2⟩)
            clear hok
            refine (HM.out _).mono ?_
            rintro e w7 ⟨rfl, hb7⟩
            have st8 := (st6.below hb7).alloc (.cells #[.int .i64 lo, .int .i64 hi] 23)
            have b28 := (b26.below hb7 b26.lt).alloc (.cells #[.int .i64 lo, .int .i64 hi] 23)
            have b38 := (b36.below hb7 b36.lt).alloc (.cells #[.int .i64 lo, .int .i64 hi] 23)
            have hy8 := (ownsRow_below hy6 hb7).alloc (.cells #[.int .i64 lo, .int .i64 hi] 23)
            have q25 := Blk.new w7 23 #[.int .i64 lo, .int .i64 hi]
            have hz7 := Nat.le_trans st6.2.1 hb7.size
            have n1 : ¬ w2.heap.size = w7.heap.size := by omega
            clear hb7 st6 b26 b36 hy6 q23 d0 d1 d2 d3 x0 x1 HM
            obtain ⟨d0, d1, d2, d3, dF⟩ := b28.facts4
            obtain ⟨x0, x1, _⟩ := q25.facts2
            have HB28 := hide b28
            have HB38 := hide b38
            have HY8 := hide hy8
            have HST8 := hide st8
            clear b28 b38 hy8 st8 q25
            go_wp2
            go_roundw
            case rel => exact ⟨k + 1, _, _, _, _, f0, f1, ys, yv, by omega, by go_num, rfl, rfl, HY2, (HB28.out.setB 1 _).setB 2 _, (HB38.out.farB (by simp) _).farB (by simp) _, own_set (own_set HY8.out (by simp; omega) _) (by simp; omega) _, hide (Nat.le_succ_of_le HYL.out), (HST8.out.set_ (Nat.le_refl _) (.inl (by simp; omega)) _).set_ (Nat.le_refl _) (.inl (by simp; omega)) _⟩
            case measure => simp [intOf]; omega
      · have HN := hide (HNN.out (Int.not_le.1 hok))
        clear HYY HNN
        have HM := hide (fun W => (rmeet_any lo hi b0 b1 W).mono (R' := fun e w' => e = .returned (.tuple #[.agg #[.int .i64 0, .int .i64 0], .bool false]) ∧ Below W.heap.size W w') fun e w' ⟨h1, h2⟩ => ⟨by rw [h1, met_no (by omega)], h2⟩)
        clear hok
        refine (HM.out _).mono ?_
        rintro e w7 ⟨rfl, hb7⟩
        have st7 := (st6.below hb7).alloc (.cells #[.int .i64 0, .int .i64 0] 23)
        have b27 := (b26.below hb7 b26.lt).alloc (.cells #[.int .i64 0, .int .i64 0] 23)
        have b37 := (b36.below hb7 b36.lt).alloc (.cells #[.int .i64 0, .int .i64 0] 23)
        have hy7 := (ownsRow_below hy6 hb7).alloc (.cells #[.int .i64 0, .int .i64 0] 23)
        have q237 := (q23.below hb7 q23.lt).alloc (.cells #[.int .i64 0, .int .i64 0] 23)
        have hz7 := Nat.le_trans st6.2.1 hb7.size
        clear hb7 st6 b26 b36 hy6 q23 d0 d1 d2 d3 x0 x1 HM
        obtain ⟨Ay, cy, rfl, _⟩ := own_sl hy7
        have hL200 : ys.length ≤ 200 := by have := HYL.out; omega
        have n1 : ¬ w2.heap.size = w7.heap.size + 1 := by omega
        have n2 : ¬ w7.heap.size + 1 = w2.heap.size := by omega
        have n3 : ¬ w2.heap.size + 1 = w7.heap.size + 1 := by omega
        have n4 : ¬ w7.heap.size + 1 = w2.heap.size + 1 := by omega
        have n5 : ¬ w2.heap.size + 1 = w2.heap.size := by omega
        have n6 : ¬ w2.heap.size = w2.heap.size + 1 := by omega
        by_cases c1 : b1 < lo
        · by_cases c2 : ys = []
          · have hlen : ys.length = 0 := by rw [c2]; rfl
            have HN2 := hide (show chAll bf cs g0 g1 (xs.take (k + 1)) = ⟨lo, hi, lb, mb, ys ++ [((p : Int), lb)], b0, b1⟩ by rw [HN.out, if_pos c1, if_pos c2, if_pos c2])
            have hbl : ((ys.length : Int) == 0) = true := by simp; omega
            have hbl2 : (ys.length == 0) = true := by simp; omega
            have HN0 := hide c2
            have HLEN := hide hlen
            clear c2 hlen
            have m1 := (b27.alloc (.cells #[.int .i64 p, .int .i64 mb] 49)).facts4.2.1
            have m2 := (q237.alloc (.cells #[.int .i64 p, .int .i64 mb] 49)).facts2.2.1
            have m3 := (Blk.new (w7.alloc (.cells #[.int .i64 0, .int .i64 0] 23)) 49 #[.int .i64 p, .int .i64 mb]).facts2
            rw [World.size_alloc] at m3
            obtain ⟨m4, m5, m6⟩ := m3
            have st8 := st7.alloc (.cells #[.int .i64 p, .int .i64 lb] 49)
            have b28 := b27.alloc (.cells #[.int .i64 p, .int .i64 lb] 49)
            have b38 := b37.alloc (.cells #[.int .i64 p, .int .i64 lb] 49)
            have hy8 := hy7.alloc (.cells #[.int .i64 p, .int .i64 lb] 49)
            have q27 := Blk.new (w7.alloc (.cells #[.int .i64 0, .int .i64 0] 23)) 49 #[.int .i64 p, .int .i64 lb]
            rw [World.size_alloc] at q27
            obtain ⟨d0, d1, d2, d3, dF⟩ := b28.facts4
            obtain ⟨z0, z1, zF⟩ := b38.facts2
            obtain ⟨v0, v1, vF⟩ := q27.facts2
            obtain ⟨x0, x1, _⟩ := (q237.alloc (.cells #[.int .i64 p, .int .i64 lb] 49)).facts2
            have HB28 := hide b28
            have HB38 := hide b38
            have HST8 := hide st8
            have HY8 := hide hy8
            clear st7 b27 b37 hy7 q237 st8 b28 b38 hy8 q27
            have hy9 := (own_set (own_set HY8.out (p := ⟨w2.heap.size + 1, 0, none⟩) (by show w2.heap.size + 1 < w4.heap.size; omega) (.int .i64 b0)) (p := ⟨w2.heap.size + 1, 1, none⟩) (by show w2.heap.size + 1 < w4.heap.size; omega) (.int .i64 b1))
            have hz9 : w4.heap.size ≤ ((((w7.alloc (.cells #[.int .i64 0, .int .i64 0] 23)).alloc (.cells #[.int .i64 p, .int .i64 lb] 49)).setCell ⟨w2.heap.size + 1, 0, none⟩ (.int .i64 b0)).setCell ⟨w2.heap.size + 1, 1, none⟩ (.int .i64 b1)).heap.size := by simp [World.setCell]; omega
            have st9 := ((HST8.out.set_ (p := ⟨w2.heap.size + 1, 0, none⟩) (by show w2.heap.size ≤ w2.heap.size + 1; omega) (.inl (by show w2.heap.size + 1 < w3.heap.size; omega)) (.int .i64 b0)).set_ (p := ⟨w2.heap.size + 1, 1, none⟩) (by show w2.heap.size ≤ w2.heap.size + 1; omega) (.inl (by show w2.heap.size + 1 < w3.heap.size; omega)) (.int .i64 b1))
            have b29 := ((HB28.out.farB (p := ⟨w2.heap.size + 1, 0, none⟩) (by show w2.heap.size ≠ w2.heap.size + 1; omega) (.int .i64 b0)).farB (p := ⟨w2.heap.size + 1, 1, none⟩) (by show w2.heap.size ≠ w2.heap.size + 1; omega) (.int .i64 b1))
            have b39 := ((HB38.out.setB 0 (.int .i64 b0)).setB 1 (.int .i64 b1))
            have HST9 := hide st9
            have HB29 := hide b29
            have HB39 := hide b39
            clear st9 b29 b39
            go_wp2_with (at_builtin; refine wpList_pushG (w7.heap.size + 1 + 1) (by simp [World.setCell]) rfl _ _ _ rfl w4.heap.size _ _ slYield _ _ _ rfl hy9 _ _ rfl rfl rfl (by omega) hz9 ?_)
            intro v' w9 hv9 hg9 _
            obtain ⟨gv, cv, rfl, _, _⟩ := hv9.form (by omega)
            have b2a := HB29.out.grownF hg9 (fun k hk => by have := (hy9.lt k hk).1; omega)
            have b3a := HB39.out.grownF hg9 (fun k hk => by have := (hy9.lt k hk).1; omega)
            have sta := HST9.out.grown hg9 (fun k hk => (hy9.lt k hk).1) (by omega)
            have hva := own_cells hv9 (ys := yCells (ys ++ [((p : Int), lb)])) (by rw [yCells_append]; rfl)
            clear d0 d1 d2 d3 dF z0 z1 zF v0 v1 vF x0 x1 m1 m2 m4 m5 m6
            obtain ⟨d0, d1, d2, d3, dF⟩ := b2a.facts4
            have B2A := hide b2a
            have B3A := hide (show Blk w9 (w2.heap.size + 1) 23 #[.int .i64 b0, .int .i64 b1] from b3a)
            have STA := hide sta
            have HVA := hide hva
            clear b2a b3a sta hva hv9 hg9 hy9
            go_wp2
            go_roundw
            case rel => exact ⟨k + 1, lo, hi, lb, mb, _, _, ys ++ [((p : Int), lb)], _, by omega, by go_num, rfl, rfl, HN2, B2A.out.setB 3 _, B3A.out.farB (by simp) _, by rw [show (ys ++ [((p : Int), lb)]).length = ys.length + 1 by simp]; exact own_set HVA.out (by simp; omega) _, hide (by rw [show (ys ++ [((p : Int), lb)]).length = ys.length + 1 by simp]; exact Nat.succ_le_succ HYL.out), STA.out.set_ (Nat.le_refl _) (.inl (by simp; omega)) _⟩
            case measure => simp [intOf]; omega
          · have hlen : ¬ ys.length = 0 := fun h => c2 (List.eq_nil_of_length_eq_zero h)
            have HN2 := hide (show chAll bf cs g0 g1 (xs.take (k + 1)) = ⟨lo, hi, lb, mb, ys ++ [((p : Int), lb)], f0, f1⟩ by rw [HN.out, if_pos c1, if_neg c2, if_neg c2])
            have hbl : ((ys.length : Int) == 0) = false := by simp; omega
            have hbl2 : (ys.length == 0) = false := by simp; omega
            have HN0 := hide c2
            have HLEN := hide hlen
            clear c2 hlen
            have m1 := (b27.alloc (.cells #[.int .i64 p, .int .i64 mb] 49)).facts4.2.1
            have m2 := (q237.alloc (.cells #[.int .i64 p, .int .i64 mb] 49)).facts2.2.1
            have m3 := (Blk.new (w7.alloc (.cells #[.int .i64 0, .int .i64 0] 23)) 49 #[.int .i64 p, .int .i64 mb]).facts2
            rw [World.size_alloc] at m3
            obtain ⟨m4, m5, m6⟩ := m3
            have st8 := st7.alloc (.cells #[.int .i64 p, .int .i64 lb] 49)
            have b28 := b27.alloc (.cells #[.int .i64 p, .int .i64 lb] 49)
            have b38 := b37.alloc (.cells #[.int .i64 p, .int .i64 lb] 49)
            have hy8 := hy7.alloc (.cells #[.int .i64 p, .int .i64 lb] 49)
            have q27 := Blk.new (w7.alloc (.cells #[.int .i64 0, .int .i64 0] 23)) 49 #[.int .i64 p, .int .i64 lb]
            rw [World.size_alloc] at q27
            obtain ⟨d0, d1, d2, d3, dF⟩ := b28.facts4
            obtain ⟨z0, z1, zF⟩ := b38.facts2
            obtain ⟨v0, v1, vF⟩ := q27.facts2
            obtain ⟨x0, x1, _⟩ := (q237.alloc (.cells #[.int .i64 p, .int .i64 lb] 49)).facts2
            have HB28 := hide b28
            have HB38 := hide b38
            have HST8 := hide st8
            have HY8 := hide hy8
            clear st7 b27 b37 hy7 q237 st8 b28 b38 hy8 q27
            have hy9 := HY8.out
            have hz9 : w4.heap.size ≤ ((w7.alloc (.cells #[.int .i64 0, .int .i64 0] 23)).alloc (.cells #[.int .i64 p, .int .i64 lb] 49)).heap.size := by simp; omega
            have st9 := HST8.out
            have b29 := HB28.out
            have b39 := HB38.out
            have HST9 := hide st9
            have HB29 := hide b29
            have HB39 := hide b39
            clear st9 b29 b39
            go_wp2_with (at_builtin; refine wpList_pushG (w7.heap.size + 1 + 1) (by simp) rfl _ _ _ rfl w4.heap.size _ _ slYield _ _ _ rfl hy9 _ _ rfl rfl rfl (by omega) hz9 ?_)
            intro v' w9 hv9 hg9 _
            obtain ⟨gv, cv, rfl, _, _⟩ := hv9.form (by omega)
            have b2a := HB29.out.grownF hg9 (fun k hk => by have := (hy9.lt k hk).1; omega)
            have b3a := HB39.out.grownF hg9 (fun k hk => by have := (hy9.lt k hk).1; omega)
            have sta := HST9.out.grown hg9 (fun k hk => (hy9.lt k hk).1) (by omega)
            have hva := own_cells hv9 (ys := yCells (ys ++ [((p : Int), lb)])) (by rw [yCells_append]; rfl)
            clear d0 d1 d2 d3 dF z0 z1 zF v0 v1 vF x0 x1 m1 m2 m4 m5 m6
            obtain ⟨d0, d1, d2, d3, dF⟩ := b2a.facts4
            have B2A := hide b2a
            have B3A := hide (show Blk w9 (w2.heap.size + 1) 23 #[.int .i64 f0, .int .i64 f1] from b3a)
            have STA := hide sta
            have HVA := hide hva
            clear b2a b3a sta hva hv9 hg9 hy9
            go_wp2
            go_roundw
            case rel => exact ⟨k + 1, lo, hi, lb, mb, _, _, ys ++ [((p : Int), lb)], _, by omega, by go_num, rfl, rfl, HN2, B2A.out.setB 3 _, B3A.out.farB (by simp) _, by rw [show (ys ++ [((p : Int), lb)]).length = ys.length + 1 by simp]; exact own_set HVA.out (by simp; omega) _, hide (by rw [show (ys ++ [((p : Int), lb)]).length = ys.length + 1 by simp]; exact Nat.succ_le_succ HYL.out), STA.out.set_ (Nat.le_refl _) (.inl (by simp; omega)) _⟩
            case measure => simp [intOf]; omega
        · by_cases c2 : ys = []
          · have hlen : ys.length = 0 := by rw [c2]; rfl
            have HN2 := hide (show chAll bf cs g0 g1 (xs.take (k + 1)) = ⟨lo, hi, lb, mb, ys ++ [((p : Int), mb)], b0, b1⟩ by rw [HN.out, if_neg c1, if_pos c2, if_pos c2])
            have hbl : ((ys.length : Int) == 0) = true := by simp; omega
            have hbl2 : (ys.length == 0) = true := by simp; omega
            have HN0 := hide c2
            have HLEN := hide hlen
            clear c2 hlen
            have st8 := st7.alloc (.cells #[.int .i64 p, .int .i64 mb] 49)
            have b28 := b27.alloc (.cells #[.int .i64 p, .int .i64 mb] 49)
            have b38 := b37.alloc (.cells #[.int .i64 p, .int .i64 mb] 49)
            have hy8 := hy7.alloc (.cells #[.int .i64 p, .int .i64 mb] 49)
            have q27 := Blk.new (w7.alloc (.cells #[.int .i64 0, .int .i64 0] 23)) 49 #[.int .i64 p, .int .i64 mb]
            rw [World.size_alloc] at q27
            obtain ⟨d0, d1, d2, d3, dF⟩ := b28.facts4
            obtain ⟨z0, z1, zF⟩ := b38.facts2
            obtain ⟨v0, v1, vF⟩ := q27.facts2
            obtain ⟨x0, x1, _⟩ := (q237.alloc (.cells #[.int .i64 p, .int .i64 mb] 49)).facts2
            have HB28 := hide b28
            have HB38 := hide b38
            have HST8 := hide st8
            have HY8 := hide hy8
            clear st7 b27 b37 hy7 q237 st8 b28 b38 hy8 q27
            have hy9 := (own_set (own_set HY8.out (p := ⟨w2.heap.size + 1, 0, none⟩) (by show w2.heap.size + 1 < w4.heap.size; omega) (.int .i64 b0)) (p := ⟨w2.heap.size + 1, 1, none⟩) (by show w2.heap.size + 1 < w4.heap.size; omega) (.int .i64 b1))
            have hz9 : w4.heap.size ≤ ((((w7.alloc (.cells #[.int .i64 0, .int .i64 0] 23)).alloc (.cells #[.int .i64 p, .int .i64 mb] 49)).setCell ⟨w2.heap.size + 1, 0, none⟩ (.int .i64 b0)).setCell ⟨w2.heap.size + 1, 1, none⟩ (.int .i64 b1)).heap.size := by simp [World.setCell]; omega
            have st9 := ((HST8.out.set_ (p := ⟨w2.heap.size + 1, 0, none⟩) (by show w2.heap.size ≤ w2.heap.size + 1; omega) (.inl (by show w2.heap.size + 1 < w3.heap.size; omega)) (.int .i64 b0)).set_ (p := ⟨w2.heap.size + 1, 1, none⟩) (by show w2.heap.size ≤ w2.heap.size + 1; omega) (.inl (by show w2.heap.size + 1 < w3.heap.size; omega)) (.int .i64 b1))
            have b29 := ((HB28.out.farB (p := ⟨w2.heap.size + 1, 0, none⟩) (by show w2.heap.size ≠ w2.heap.size + 1; omega) (.int .i64 b0)).farB (p := ⟨w2.heap.size + 1, 1, none⟩) (by show w2.heap.size ≠ w2.heap.size + 1; omega) (.int .i64 b1))
            have b39 := ((HB38.out.setB 0 (.int .i64 b0)).setB 1 (.int .i64 b1))
            have HST9 := hide st9
            have HB29 := hide b29
            have HB39 := hide b39
            clear st9 b29 b39
            go_wp2_with (at_builtin; refine wpList_pushG (w7.heap.size + 1 + 1) (by simp [World.setCell]) rfl _ _ _ rfl w4.heap.size _ _ slYield _ _ _ rfl hy9 _ _ rfl rfl rfl (by omega) hz9 ?_)
            intro v' w9 hv9 hg9 _
            obtain ⟨gv, cv, rfl, _, _⟩ := hv9.form (by omega)
            have b2a := HB29.out.grownF hg9 (fun k hk => by have := (hy9.lt k hk).1; omega)
            have b3a := HB39.out.grownF hg9 (fun k hk => by have := (hy9.lt k hk).1; omega)
            have sta := HST9.out.grown hg9 (fun k hk => (hy9.lt k hk).1) (by omega)
            have hva := own_cells hv9 (ys := yCells (ys ++ [((p : Int), mb)])) (by rw [yCells_append]; rfl)
            clear d0 d1 d2 d3 dF z0 z1 zF v0 v1 vF x0 x1
            obtain ⟨d0, d1, d2, d3, dF⟩ := b2a.facts4
            have B2A := hide b2a
            have B3A := hide (show Blk w9 (w2.heap.size + 1) 23 #[.int .i64 b0, .int .i64 b1] from b3a)
            have STA := hide sta
            have HVA := hide hva
            clear b2a b3a sta hva hv9 hg9 hy9
            go_wp2
            go_roundw
            case rel => exact ⟨k + 1, lo, hi, lb, mb, _, _, ys ++ [((p : Int), mb)], _, by omega, by go_num, rfl, rfl, HN2, B2A.out.setB 3 _, B3A.out.farB (by simp) _, by rw [show (ys ++ [((p : Int), mb)]).length = ys.length + 1 by simp]; exact own_set HVA.out (by simp; omega) _, hide (by rw [show (ys ++ [((p : Int), mb)]).length = ys.length + 1 by simp]; exact Nat.succ_le_succ HYL.out), STA.out.set_ (Nat.le_refl _) (.inl (by simp; omega)) _⟩
            case measure => simp [intOf]; omega
          · have hlen : ¬ ys.length = 0 := fun h => c2 (List.eq_nil_of_length_eq_zero h)
            have HN2 := hide (show chAll bf cs g0 g1 (xs.take (k + 1)) = ⟨lo, hi, lb, mb, ys ++ [((p : Int), mb)], f0, f1⟩ by rw [HN.out, if_neg c1, if_neg c2, if_neg c2])
            have hbl : ((ys.length : Int) == 0) = false := by simp; omega
            have hbl2 : (ys.length == 0) = false := by simp; omega
            have HN0 := hide c2
            have HLEN := hide hlen
            clear c2 hlen
            have st8 := st7.alloc (.cells #[.int .i64 p, .int .i64 mb] 49)
            have b28 := b27.alloc (.cells #[.int .i64 p, .int .i64 mb] 49)
            have b38 := b37.alloc (.cells #[.int .i64 p, .int .i64 mb] 49)
            have hy8 := hy7.alloc (.cells #[.int .i64 p, .int .i64 mb] 49)
            have q27 := Blk.new (w7.alloc (.cells #[.int .i64 0, .int .i64 0] 23)) 49 #[.int .i64 p, .int .i64 mb]
            rw [World.size_alloc] at q27
            obtain ⟨d0, d1, d2, d3, dF⟩ := b28.facts4
            obtain ⟨z0, z1, zF⟩ := b38.facts2
            obtain ⟨v0, v1, vF⟩ := q27.facts2
            obtain ⟨x0, x1, _⟩ := (q237.alloc (.cells #[.int .i64 p, .int .i64 mb] 49)).facts2
            have HB28 := hide b28
            have HB38 := hide b38
            have HST8 := hide st8
            have HY8 := hide hy8
            clear st7 b27 b37 hy7 q237 st8 b28 b38 hy8 q27
            have hy9 := HY8.out
            have hz9 : w4.heap.size ≤ ((w7.alloc (.cells #[.int .i64 0, .int .i64 0] 23)).alloc (.cells #[.int .i64 p, .int .i64 mb] 49)).heap.size := by simp; omega
            have st9 := HST8.out
            have b29 := HB28.out
            have b39 := HB38.out
            have HST9 := hide st9
            have HB29 := hide b29
            have HB39 := hide b39
            clear st9 b29 b39
            go_wp2_with (at_builtin; refine wpList_pushG (w7.heap.size + 1 + 1) (by simp) rfl _ _ _ rfl w4.heap.size _ _ slYield _ _ _ rfl hy9 _ _ rfl rfl rfl (by omega) hz9 ?_)
            intro v' w9 hv9 hg9 _
            obtain ⟨gv, cv, rfl, _, _⟩ := hv9.form (by omega)
            have b2a := HB29.out.grownF hg9 (fun k hk => by have := (hy9.lt k hk).1; omega)
            have b3a := HB39.out.grownF hg9 (fun k hk => by have := (hy9.lt k hk).1; omega)
            have sta := HST9.out.grown hg9 (fun k hk => (hy9.lt k hk).1) (by omega)
            have hva := own_cells hv9 (ys := yCells (ys ++ [((p : Int), mb)])) (by rw [yCells_append]; rfl)
            clear d0 d1 d2 d3 dF z0 z1 zF v0 v1 vF x0 x1
            obtain ⟨d0, d1, d2, d3, dF⟩ := b2a.facts4
            have B2A := hide b2a
            have B3A := hide (show Blk w9 (w2.heap.size + 1) 23 #[.int .i64 f0, .int .i64 f1] from b3a)
            have STA := hide sta
            have HVA := hide hva
            clear b2a b3a sta hva hv9 hg9 hy9
            go_wp2
            go_roundw
            case rel => exact ⟨k + 1, lo, hi, lb, mb, _, _, ys ++ [((p : Int), mb)], _, by omega, by go_num, rfl, rfl, HN2, B2A.out.setB 3 _, B3A.out.farB (by simp) _, by rw [show (ys ++ [((p : Int), mb)]).length = ys.length + 1 by simp]; exact own_set HVA.out (by simp; omega) _, hide (by rw [show (ys ++ [((p : Int), mb)]).length = ys.length + 1 by simp]; exact Nat.succ_le_succ HYL.out), STA.out.set_ (Nat.le_refl _) (.inl (by simp; omega)) _⟩
            case measure => simp [intOf]; omega
    · obtain rfl : k = q := by omega
      rw [List.take_of_length_le (by rw [← HQ.out]; exact Nat.le_refl _)] at hst
      have HST := hide (show (⟨lo, hi, lb, mb, ys, f0, f1⟩ : Chs) = chAll bf cs g0 g1 (ractL cs d lv os) by rw [← HXS.out, hst.out])
      have HLH := hide hlh
      obtain ⟨Ay, cy, rfl, _⟩ := own_sl hy
      obtain ⟨d0, d1, d2, d3, _⟩ := b2.facts4
      clear hst hyl
      go_wp2_with fail
      refine (rclamp_any wn lo hi _).mono ?_
      rintro e w5 ⟨rfl, hb5⟩
      have HB5 := hide (show Below w.heap.size w w5 from (HB2.out.trans (stay.1.mono HB2.out.size)).trans (hb5.mono (Nat.le_trans HB2.out.size stay.1.size)))
      have hy5 := hide (ownsRow_below hy hb5)
      have b25 := b2.below hb5 b2.lt
      have b35 := b3.below hb5 b3.lt
      have q15 := (HQ1.out.below stay.1 (by omega)).below hb5 (by have := stay.1.size; omega)
      have hw5 := Nat.le_trans stay.2.1 hb5.size
      have r0 : rclB wn lo hi = max lo (min wn hi) := by unfold rclB; rw [if_neg (by have := HLH.out; omega)]
      have R0 := hide r0
      generalize rclB wn lo hi = rel at *
      clear d0 d1 d2 d3 b2 b3 hy hb5 stay r0
      obtain ⟨d0, d1, d2, d3, dF⟩ := b25.facts4
      obtain ⟨z0, z1, zF⟩ := b35.facts2
      obtain ⟨u0, u1, u2, u3, uF⟩ := q15.facts4
      have k1 : ¬ w.heap.size + 1 = w2.heap.size := by omega
      have k2 : ¬ w2.heap.size = w.heap.size + 1 := by omega
      have k3 : ¬ w2.heap.size + 1 = w2.heap.size := by omega
      have k4 : ¬ w2.heap.size = w2.heap.size + 1 := by omega
      have k5 : ¬ w2.heap.size + 1 = w.heap.size + 1 := by omega
      have k6 : ¬ w.heap.size + 1 = w2.heap.size + 1 := by omega
      have HB25 := hide b25
      have HB35 := hide b35
      have HQ15 := hide q15
      clear b25 b35 q15
      by_cases c2 : ys = []
      · have hlen : ys.length = 0 := by rw [c2]; rfl
        have HR := hide (show chRel wn ⟨lo, hi, lb, mb, ys, f0, f1⟩ = rel by unfold chRel; rw [if_pos c2, R0.out])
        have hgt : decide ((0 : Int) < (ys.length : Int)) = false := by simp; omega
        have hgt2 : decide (0 < ys.length) = false := by simp; omega
        have HC2 := hide c2
        have HLEN := hide hlen
        clear c2 hlen
        go_wp2
        refine bodyPost_ret (v := .tuple #[.agg #[.int .i64 rel, .int .i64 lo, .int .i64 hi, .slice Ay ys.length cy], .int .i64 0]) (by simp [results, Tryd.results7, go_sem, u0, u1, u2, u3]) rfl ⟨os, _, Ay, cy, HO.out, HST.out, by rw [HR.out], sl_own (base := w4.heap.size) (e := 49) ?_, ?_⟩
        · repeat (first | with_reducible exact hy5.out | with_reducible refine own_set ?_ (by simp <;> omega) _)
        · repeat (first | with_reducible exact HB5.out | with_reducible refine Below.setCell ?_ (by simp <;> omega) _)
      · have hlen : ¬ ys.length = 0 := fun h => c2 (List.eq_nil_of_length_eq_zero h)
        have hgt : decide ((0 : Int) < (ys.length : Int)) = true := by simp; omega
        have hgt2 : decide (0 < ys.length) = true := by simp; omega
        have HC2 := hide c2
        have HLEN := hide hlen
        by_cases c3 : f1 < lo
        · have HR := hide (show chRel wn ⟨lo, hi, lb, mb, ys, f0, f1⟩ = lo by unfold chRel; rw [if_neg c2, if_pos c3])
          clear c2 hlen
          have M2 := (show Blk ((w5.setCell ⟨w2.heap.size, 0, none⟩ (.int .i64 rel)).setCell ⟨w2.heap.size, 0, none⟩ (.int .i64 hi)) w2.heap.size 26 #[.int .i64 hi, .int .i64 lo, .int .i64 hi, .slice Ay ys.length cy] from (HB25.out.setB 0 (.int .i64 rel)).setB 0 (.int .i64 hi))
          have M3 := (show Blk (((w5.setCell ⟨w2.heap.size, 0, none⟩ (.int .i64 rel)).setCell ⟨w2.heap.size, 0, none⟩ (.int .i64 hi)).setCell ⟨w2.heap.size, 0, none⟩ (.int .i64 lo)) w2.heap.size 26 #[.int .i64 lo, .int .i64 lo, .int .i64 hi, .slice Ay ys.length cy] from M2.setB 0 (.int .i64 lo))
          have N3 := ((HQ15.out.farB (p := ⟨w2.heap.size, 0, none⟩) k1 (.int .i64 rel)).farB (p := ⟨w2.heap.size, 0, none⟩) k1 (.int .i64 hi)).farB (p := ⟨w2.heap.size, 0, none⟩) k1 (.int .i64 lo)
          obtain ⟨p0, p1, p2, p3, pF⟩ := M2.facts4
          obtain ⟨r0, r1, r2, r3, rF⟩ := M3.facts4
          obtain ⟨s0, s1, s2, s3, sF⟩ := N3.facts4
          clear M2 M3 N3
          go_wp2
          refine bodyPost_ret (v := .tuple #[.agg #[.int .i64 lo, .int .i64 lo, .int .i64 hi, .slice Ay ys.length cy], .int .i64 0]) (by simp [results, Tryd.results7, go_sem, u0, u1, u2, u3]) rfl ⟨os, _, Ay, cy, HO.out, HST.out, by rw [HR.out], sl_own (base := w4.heap.size) (e := 49) ?_, ?_⟩
          · repeat (first | with_reducible exact hy5.out | with_reducible refine own_set ?_ (by simp <;> omega) _)
          · repeat (first | with_reducible exact HB5.out | with_reducible refine Below.setCell ?_ (by simp <;> omega) _)
        · have HR := hide (show chRel wn ⟨lo, hi, lb, mb, ys, f0, f1⟩ = hi by unfold chRel; rw [if_neg c2, if_neg c3])
          clear c2 hlen
          go_wp2
          refine bodyPost_ret (v := .tuple #[.agg #[.int .i64 hi, .int .i64 lo, .int .i64 hi, .slice Ay ys.length cy], .int .i64 0]) (by simp [results, Tryd.results7, go_sem, u0, u1, u2, u3]) rfl ⟨os, _, Ay, cy, HO.out, HST.out, by rw [HR.out], sl_own (base := w4.heap.size) (e := 49) ?_, ?_⟩
          · repeat (first | with_reducible exact hy5.out | with_reducible refine own_set ?_ (by simp <;> omega) _)
          · repeat (first | with_reducible exact HB5.out | with_reducible refine Below.setCell ?_ (by simp <;> omega) _)
end Go.Proofs.YtphgddanbgdemaaDoor
