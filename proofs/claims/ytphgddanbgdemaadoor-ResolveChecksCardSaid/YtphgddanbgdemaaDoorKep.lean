/-
  A block that is known whole, read as a slice. No condition.
  Contracts of Keeps and Kept at valid conditions, 200 at most. Conditions: these, the table of kinds, and a valid day, level and releases.
-/
import Derived.Test.YtphgddanbgdemaaDoorProg
import Derived.Test.YtphgddanbgdemaaDoorPer
import Derived.Test.YtphgddanbgdemaaDoorApp
import Derived.Test.YtphgddanbgdemaaDoorAcv
namespace Go.Proofs.YtphgddanbgdemaaDoor
open Go.RowKit

theorem bth {a b c : World} (h : Below a.heap.size a b) (k : Below b.heap.size b c) : Below a.heap.size a c := bthr h k h.size
theorem Sl.of_blkN {w : World} {g n size : Nat} {t : TypeId} {cs : Array Value} {xs : List Value} (h : Blk w g t cs) (hx : cs.toList = xs) (hn : xs.length = n * size) (hm : n ≤ maxLen) : Sl w w.heap.size size (some ⟨g, 0, none⟩) n n xs :=
  ⟨hn, Nat.le_refl _, hm, fun _ => ⟨g, 0, rfl, h.lt, fun j u hu => by
    rw [h.facts.1, ← hu, ← hx]; simp⟩⟩
end Go.Proofs.YtphgddanbgdemaaDoor
namespace Go.Proofs.YtphgddanbgdemaaDoor
open Go.RowKit

def kepB (c : Cd) (bf rl : Int) : Bool := decide (bLeast c bf ≤ rl) && decide (rl ≤ bMost c bf)
set_option maxHeartbeats 1600000 in
set_option maxRecDepth 20000 in
theorem keeps_ok (c : Cd) (bf rl : Int) (w : World) (hT : KT w) (he : c.err = 0) (hb : 0 ≤ bf ∧ bf ≤ 1073741824) : Calls Tryd.prog 49 #[.agg c.arr, .int .i64 bf, .int .i64 rl] w fun e w' => e = .returned (.bool (kepB c bf rl)) ∧ Below w.heap.size w w' := by
  have h0 := Blk.new w 47 c.arr
  have hB := bel1 (w := w) (o := .cells c.arr 47)
  have hT2 := hT.alloc (.cells c.arr 47)
  have hk := (err_zero he).2.1
  have hv := (rest_iff.1 (err_zero he).2.2).1
  have HP := hide (fun W (hW : KT W) => permits_any c bf W hW hk hv hb)
  have HE := hide (show kepB c bf rl = (decide (bLeast c bf ≤ rl) && decide (rl ≤ bMost c bf)) from rfl)
  generalize bLeast c bf = l at *
  generalize bMost c bf = m at *
  generalize kepB c bf rl = kb at *
  clear hk hv he
  obtain ⟨r, k, v, f, t, a, b⟩ := c
  unfold Cd.arr at h0 hB hT2 HP ⊢
  go_enter Tryd.func49, Tryd.ntmps49
  go_wp2_with fail
  generalize (w.alloc _) = w2 at *
  refine (HP.out _ hT2).mono ?_
  rintro e w3 ⟨rfl, hb1⟩
  have hB1 := bthr hB hb1 hB.size
  have h1 := Blk.new w3 23 #[.int .i64 l, .int .i64 m]
  have hB2 := hide (hB1.alloc hB1.size (.cells #[.int .i64 l, .int .i64 m] 23))
  obtain ⟨c0, c1, _⟩ := h1.facts2
  clear hB hb1 h0 hB1 h1
  by_cases g1 : l ≤ rl <;> by_cases g2 : rl ≤ m
  all_goals
    go_wp2
    go_ret
    exact ⟨ret_bool (by rw [HE.out]; simp [g1, g2]), hB2.out⟩
/-- Does a release keep the condition of number i? -/
def kepC (cs : List Cd) (bf rl : Int) (i : Int) : Bool := kepB (cs.getD i.toNat cd0) bf rl
def keptL (cs : List Cd) (d lv bf rl : Int) : List Int := keepL (fun i => !kepC cs bf rl i) (actC cs d lv)
def violL (cs : List Cd) (d lv bf rl : Int) : List Int := keepL (fun i => kepC cs bf rl i) (actC cs d lv)
def KptPost (w : World) (cs : List Cd) (d lv bf rl : Int) (e : Ending) (w' : World) : Prop := ∃ (A : Option Addr) (c : Nat) (A2 : Option Addr) (c2 : Nat),
  e = .returned (.tuple #[.slice A (keptL cs d lv bf rl).length c, .slice A2 (violL cs d lv bf rl).length c2, .int .i64 0]) ∧ Sl w' w'.heap.size 1 A (keptL cs d lv bf rl).length c (ints (keptL cs d lv bf rl)) ∧ Sl w' w'.heap.size 1 A2 (violL cs d lv bf rl).length c2 (ints (violL cs d lv bf rl)) ∧ Below w.heap.size w w'
/-- Two own rows do not share their block. -/
def Apart (v q : Value) : Prop := ∀ g, v.ownBlock = some g → q.ownBlock ≠ some g
theorem Apart.left {v v' q : Value} {N : Nat} (h : Apart v q) (hq : ∀ k, q.ownBlock = some k → k < N) (h' : v'.ownBlock = v.ownBlock ∨ ∃ g, v'.ownBlock = some g ∧ N ≤ g) : Apart v' q := by
  intro g hg e
  rcases h' with h' | ⟨g', h1, h2⟩
  · exact h g (h' ▸ hg) e
  · have := hq g e; rw [h1] at hg; injection hg; omega
theorem Apart.symm {v q : Value} (h : Apart v q) : Apart q v := fun g h1 h2 => h g h2 h1
theorem Apart.or {v q : Value} (h : Apart v q) : v.ownBlock = none ∨ v.ownBlock ≠ q.ownBlock := by
  cases hv : v.ownBlock with
  | none => exact .inl rfl
  | some g => exact .inr fun e => h g hv e.symm
theorem actC_in {cs : List Cd} {d lv : Int} {k : Nat} (h : k < (actC cs d lv).length) : 0 ≤ (actC cs d lv).getD k 0 ∧ (actC cs d lv).getD k 0 < cs.length := by
  have : (actC cs d lv).getD k 0 ∈ actC cs d lv := by
    rw [List.getD_eq_getElem?_getD, List.getElem?_eq_getElem h]; exact List.getElem_mem _
  unfold actC keepL at this
  exact ordC_mem _ (List.mem_filter.1 this).1
set_option maxHeartbeats 3200000 in
set_option maxRecDepth 20000 in
theorem kept_ok (A : Option Addr) (n c : Nat) (cs : List Cd) (d lv bf rl : Int) (w : World) (hT : KT w) (hn : n ≤ 200) (hg : ∀ x ∈ cs, x.err = 0) (hd : wit d 364 = true) (hv : wit lv 16777216 = true) (hbf : 0 ≤ bf ∧ bf ≤ 1073741824) (hrl : 0 ≤ rl ∧ rl ≤ 1073741824) (hs : Sl w w.heap.size 7 A n c (cdCells cs)) :
    Calls Tryd.prog 28 #[.slice A n c, .int .i64 d, .int .i64 lv, .int .i64 bf, .int .i64 rl] w (KptPost w cs d lv bf rl) := by
  have hw0 := hT.pos
  have hl : n = cs.length := by have := hs.1; rw [cdCells_length] at this; omega
  have HG := hide hg
  have HL := hide hl
  have HBF := hide hbf
  have hB := bel1 (w := w) (o := .cells #[.int .i64 bf, .int .i64 rl] 3)
  have hs1 := hs.thr hB
  have HF := hide (Sl.of_blkN (n := 2) (size := 1) (xs := ints [bf, rl]) (Blk.new w 3 #[.int .i64 bf, .int .i64 rl]) rfl rfl (by unfold maxLen; omega))
  have HZ := hide (show ∀ z ∈ [bf, rl], 0 ≤ z ∧ z ≤ 1073741824 by intro z hz; simp at hz; rcases hz with rfl | rfl <;> assumption)
  clear hg hl hbf hs
  go_enter Tryd.func28, Tryd.ntmps28
  go_wp2_with fail
  generalize (w.alloc _) = w2 at *
  refine (asked_ok A n c cs d lv (some ⟨w.heap.size, 0, none⟩) 2 2 [bf, rl] w2 (by omega) HG.out hd hv HZ.out hs1 HF.out).mono ?_
  rintro e w3 ⟨rfl, hb3⟩
  have hB3 := bthr hB hb3 hB.size
  have hs3 := hs1.thr hb3
  clear hB hb3 hs1 HF
  go_wp2_with fail
  refine (active_ok A n c cs d lv w3 hn HG.out hd hv hs3).mono ?_
  rintro e w4 ⟨A4, c4, rfl, ha, hb4⟩
  have hB4 := bthr hB3 hb4 hB3.size
  have HS := hide (hs3.thr hb4)
  have HA := hide ha
  have HB4 := hide hB4
  have HT4 := hide (hT.below hB4 hw0)
  clear hB3 hb4 hs3 ha hB4 hd hv hrl
  have HIN := hide (fun (k : Nat) (h : k < (actC cs d lv).length) => actC_in (cs := cs) (d := d) (lv := lv) h)
  have HK := hide (show keptL cs d lv bf rl = keepL (fun i => !kepC cs bf rl i) (actC cs d lv) from rfl)
  have HV := hide (show violL cs d lv bf rl = keepL (fun i => kepC cs bf rl i) (actC cs d lv) from rfl)
  have hq20 : (actC cs d lv).length ≤ 200 := by
    have h1 := keepL_le (fun i => !appC cs d lv i) (ordC cs)
    rw [ordC_length] at h1
    have h3 := HL.out
    unfold actC; omega
  generalize actC cs d lv = xs at *
  obtain ⟨q, hq⟩ : ∃ q, q = xs.length := ⟨_, rfl⟩
  have HQ := hide hq
  rw [← hq] at HA hq20 ⊢
  clear hq
  obtain ⟨p, hp⟩ : ∃ p : Int → Bool, p = kepC cs bf rl := ⟨_, rfl⟩
  have HP := hide hp
  have HK2 := hide (HK.out.trans (show keepL (fun i => !kepC cs bf rl i) xs = keepL (fun i => !p i) xs by rw [hp]))
  have HV2 := hide (HV.out.trans (show keepL (fun i => kepC cs bf rl i) xs = keepL (fun i => p i) xs by rw [hp]))
  clear HK HV hp
  go_wp2
  go_loopw [16, 17, 39] (fun v u i wr => ∃ k : Nat, k ≤ q ∧ i = .int .i64 k ∧ wr.ownsRow w4.heap.size 3 1 v (keepL (fun i => !p i) (xs.take k)).length (ints (keepL (fun i => !p i) (xs.take k))) ∧ wr.ownsRow w4.heap.size 3 1 u (keepL (fun i => p i) (xs.take k)).length (ints (keepL (fun i => p i) (xs.take k))) ∧ Apart v u ∧ Below w4.heap.size w4 wr) (fun _ _ i _ => q - (intOf i).toNat)
  case atStart => exact ⟨0, by omega, rfl, World.ownsRow_nil _ _ _ _, World.ownsRow_nil _ _ _ _, (fun g hg => by simp [Value.ownBlock] at hg), Below.refl _ _⟩
  case round =>
    obtain ⟨k, hk, rfl, h1, h2, hap, hb⟩ := hrel
    by_cases hlt : k < q
    · have hQ := HQ.out
      obtain ⟨o0, o1⟩ := HIN.out k (by omega)
      obtain ⟨bo, oo, rfl, hbo, hco⟩ := (HA.out.thr hb).at_ hlt
      have co := hco k _ (ints_get xs k (by omega))
      have hM := HL.out
      obtain ⟨m, hm⟩ : ∃ m : Nat, xs.getD k 0 = (m : Int) := ⟨(xs.getD k 0).toNat, by omega⟩
      rw [hm] at co
      have hmn : m < n := by omega
      obtain ⟨bl, ol, rfl, hbl, hcl⟩ := (HS.out.thr hb).at_ hmn
      rcases ek : cs[m]'(by omega) with ⟨r, k1, v1, f1, t1, x1, y1⟩
      obtain ⟨e0, e1, e2, e3, e4, e5, e6⟩ := cd_cells (B := 0) (n := 0) (c := 0) hcl (by omega) ek
      have hek := HG.out _ (List.getElem_mem (show m < cs.length by omega))
      rw [ek] at hek
      have hpm : p m = kepB ⟨r, k1, v1, f1, t1, x1, y1⟩ bf rl := by
        rw [HP.out]; unfold kepC; simp [List.getD_eq_getElem?_getD, show m < cs.length by omega, ek]
      have HKP := hide (fun W (hW : KT W) => show Calls Tryd.prog 49 #[.agg #[.int .i64 r, .int .i64 k1, .int .i64 v1, .int .i64 f1, .int .i64 t1, .int .i64 x1, .int .i64 y1], .int .i64 bf, .int .i64 rl] W fun e w' => e = .returned (.bool (p m)) ∧ Below W.heap.size W w' by
        rw [hpm]; exact keeps_ok ⟨r, k1, v1, f1, t1, x1, y1⟩ bf rl W hW hek HBF.out)
      have HI1 := hide (fun (h : p (xs.getD k 0) = true) => keepL_snoc_in (p := fun i => !p i) (xs := xs) (k := k) (by omega) (by rw [h]; rfl))
      have HO1 := hide (fun (h : p (xs.getD k 0) = false) => keepL_snoc_out (p := fun i => !p i) (xs := xs) (k := k) (by omega) (by rw [h]; rfl))
      have HI2 := hide (fun (h : p (xs.getD k 0) = false) => keepL_snoc_in (p := fun i => p i) (xs := xs) (k := k) (by omega) h)
      have HO2 := hide (fun (h : p (xs.getD k 0) = true) => keepL_snoc_out (p := fun i => p i) (xs := xs) (k := k) (by omega) h)
      rw [hm] at HI1 HI2 HO1 HO2
      have hk1 := keepL_le (fun i => !p i) (xs.take k)
      have hk2 := keepL_le (fun i => p i) (xs.take k)
      rw [List.length_take] at hk1 hk2
      have HTb := hide (HT4.out.below hb HT4.out.pos)
      have m0 : (0 : Int) ≤ (m : Int) := by omega
      have m1 : (m : Int) < (n : Int) := by omega
      have HH1 := hide h1
      have HH2 := hide h2
      have HAP := hide hap
      have HB := hide hb
      clear o0 o1 hM hQ ek hek hpm hco hcl hm h1 h2 hap hb
      go_wp2_with fail
      refine (HKP.out _ HTb.out).mono ?_
      rintro e w5 ⟨rfl, hb5⟩
      have hz5 := Nat.le_trans HB.out.size hb5.size
      have hB5 := HB.out.trans (hb5.mono HB.out.size)
      have hv5 := ownsRow_below HH1.out hb5
      have hu5 := ownsRow_below HH2.out hb5
      clear hb5 e0 e1 e2 e3 e4 e5 e6 co HH1 HH2 HKP
      cases hp : p m
      · have A1 := hide (HO1.out hp)
        have A2 := hide (HI2.out hp)
        clear hp
        go_wp2_with (at_builtin; refine wpList_push rfl _ _ _ rfl w4.heap.size _ _ slInt _ _ _ rfl hu5 _ _ rfl rfl rfl (by omega) hz5 ?_)
        intro v' w6 hu6 hg6 hn6
        have hv6 := hide (hv5.kept hg6 HAP.out.or)
        have hap6 := hide (HAP.out.symm.left (fun k hk => (hv5.lt k hk).2) hn6).symm
        have hB6 := hide (hB5.trans (below_push hu5 hg6 hz5))
        have hu7 := hide (own_cells hu6 (ys := ints (keepL (fun i => p i) (xs.take (k + 1)))) (by rw [A2.out, ints_append]; rfl))
        clear hv5 hu5 hu6 hg6 hn6 hB5
        go_wp2
        go_roundw
        case rel => exact ⟨k + 1, by omega, by go_num, by rw [A1.out]; exact hv6.out, by rw [show (keepL (fun i => p i) (xs.take (k + 1))).length = (keepL (fun i => p i) (xs.take k)).length + 1 by rw [A2.out]; simp]; exact hu7.out, hap6.out, hB6.out⟩
        case measure => simp [intOf]; omega
      · have A1 := hide (HI1.out hp)
        have A2 := hide (HO2.out hp)
        clear hp
        go_wp2_with (at_builtin; refine wpList_push rfl _ _ _ rfl w4.heap.size _ _ slInt _ _ _ rfl hv5 _ _ rfl rfl rfl (by omega) hz5 ?_)
        intro v' w6 hv6 hg6 hn6
        have hu6 := hide (hu5.kept hg6 HAP.out.symm.or)
        have hap6 := hide (HAP.out.left (fun k hk => (hu5.lt k hk).2) hn6)
        have hB6 := hide (hB5.trans (below_push hv5 hg6 hz5))
        have hv7 := hide (own_cells hv6 (ys := ints (keepL (fun i => !p i) (xs.take (k + 1)))) (by rw [A1.out, ints_append]; rfl))
        clear hv5 hu5 hv6 hg6 hn6 hB5
        go_wp2
        go_roundw
        case rel => exact ⟨k + 1, by omega, by go_num, by rw [show (keepL (fun i => !p i) (xs.take (k + 1))).length = (keepL (fun i => !p i) (xs.take k)).length + 1 by rw [A1.out]; simp]; exact hv7.out, by rw [A2.out]; exact hu6.out, hap6.out, hB6.out⟩
        case measure => simp [intOf]; omega
    · obtain rfl : k = q := by omega
      rw [List.take_of_length_le (by have := HQ.out; omega)] at h1 h2
      obtain ⟨A1, c1, rfl, s1⟩ := own_sl h1
      obtain ⟨A2, c2, rfl, s2⟩ := own_sl h2
      have S1 := hide s1
      have S2 := hide s2
      have HB5 := hide (bthr HB4.out hb HB4.out.size)
      clear h1 h2 s1 s2 hb hap
      go_wp2
      refine bodyPost_ret (v := .tuple #[.slice A1 (keepL (fun i => !p i) xs).length c1, .slice A2 (keepL (fun i => p i) xs).length c2, .int .i64 0]) (by simp [results, Tryd.results28, go_sem]) rfl ⟨A1, c1, A2, c2, by rw [HK2.out, HV2.out], by rw [HK2.out]; exact S1.out, by rw [HV2.out]; exact S2.out, HB5.out⟩
end Go.Proofs.YtphgddanbgdemaaDoor
