/-
  The contract of the program's Choose where its arguments are right: the choice is the plain one. Conditions: each condition is valid, there are 200 at most, the table of kinds, and a valid day, level, releases and bounds.
  The sanity check of the choices' laws returns true. Condition: the table of kinds.
-/
import Derived.Test.YtphgddanbgdemaaDoorProg
import Derived.Test.YtphgddanbgdemaaDoorRsd
import Derived.Test.YtphgddanbgdemaaDoorMad
namespace Go.Proofs.YtphgddanbgdemaaDoor
open Go.RowKit

/-- what the program's Choose answers -/
def PChoP (w : World) (cs : List Cd) (d lv bf g0 g1 wn : Int) (e : Ending) (w' : World) : Prop := ∃ (s : Chs) (A : Option Addr) (c : Nat), s = chAll bf cs g0 g1 (actC cs d lv) ∧ e = .returned (.tuple #[.agg #[.int .i64 (chRel wn s), .int .i64 s.lo, .int .i64 s.hi, .slice A s.ys.length c], .int .i64 0]) ∧ w'.ownsRow w.heap.size 49 2 (.slice A s.ys.length c) s.ys.length (yCells s.ys) ∧ Below w.heap.size w w'
set_option maxHeartbeats 1600000 in
set_option maxRecDepth 20000 in
theorem Choose_ok (A : Option Addr) (n c : Nat) (cs : List Cd) (d lv bf g0 g1 wn : Int) (w : World) (hT : KT w) (hn : n ≤ 200) (hg : ∀ x ∈ cs, x.err = 0) (hd : wit d 364 = true) (hv : wit lv 16777216 = true) (hbf : wit bf 1073741824 = true) (hwn : wit wn 1073741824 = true) (h0 : wit g0 1073741824 = true) (h1 : wit g1 1073741824 = true) (hgg : g0 ≤ g1) (hs : Sl w w.heap.size 7 A n c (cdCells cs)) :
    Calls Tryd.prog 15 #[.slice A n c, .int .i64 d, .int .i64 lv, .int .i64 bf, .agg #[.int .i64 g0, .int .i64 g1], .int .i64 wn] w (PChoP w cs d lv bf g0 g1 wn) := by
  have hw0 := hT.pos
  have q0 := (Blk.new w 23 #[.int .i64 g0, .int .i64 g1]).alloc (.cells #[.int .i64 0, .int .i64 0, .int .i64 0, .slice none 0 0] 26)
  have q1 := Blk.new (w.alloc (.cells #[.int .i64 g0, .int .i64 g1] 23)) 26 #[.int .i64 0, .int .i64 0, .int .i64 0, .slice none 0 0]
  rw [World.size_alloc] at q1
  have hB := (bel1 (w := w) (o := .cells #[.int .i64 g0, .int .i64 g1] 23)).alloc (by simp) (.cells #[.int .i64 0, .int .i64 0, .int .i64 0, .slice none 0 0] 26)
  have hz1 : ((w.alloc (.cells #[.int .i64 g0, .int .i64 g1] 23)).alloc (.cells #[.int .i64 0, .int .i64 0, .int .i64 0, .slice none 0 0] 26)).heap.size = w.heap.size + 2 := by simp
  have hs1 := hs.thr hB
  have HA := hide (fun W hs2 => rsasked_ok A n c cs d lv bf g0 g1 wn W (show n ≤ 200 by omega) hg hd hv hbf hwn h0 h1 hgg hs2)
  have HC := hide (fun W hT2 hs2 => choose_ok A n c cs d lv bf g0 g1 wn W hT2 hn hg hd hv hbf hgg hs2)
  have HZ := hide hz1
  clear hg hd hv hbf hwn h0 h1 hgg hs hz1
  obtain ⟨y0, y1, _⟩ := q0.facts2
  go_enter Tryd.func15, Tryd.ntmps15
  go_wp2_with fail
  generalize ((w.alloc _).alloc _) = w1 at *
  refine (HA.out w1 hs1).mono ?_
  rintro e w2 ⟨rfl, hb2⟩
  have hB2 := bthr hB hb2 hB.size
  have hz2 := hb2.size
  replace q0 := q0.below hb2 q0.lt
  replace q1 := q1.below hb2 q1.lt
  have hs2 := hs1.thr hb2
  have hT2 := hT.below hB2 hw0
  clear y0 y1 hB hs1 hb2 HA hT
  obtain ⟨y0, y1, _⟩ := q0.facts2
  go_wp2_with fail
  refine (HC.out w2 hT2 hs2).mono ?_
  rintro e w3 ⟨s, A4, c4, hs4, rfl, hy, hb3⟩
  have HS := hide hs4
  have HB3 := hide (bthr hB2 hb3 hB2.size)
  replace q1 := q1.below hb3 q1.lt
  have HY := hide (ownsRow_base hy (show w.heap.size + 2 ≤ w2.heap.size by have := HZ.out; omega))
  obtain ⟨rl, hrl⟩ : ∃ rl, rl = chRel wn s := ⟨_, rfl⟩
  have HRL := hide hrl
  rw [← hrl]
  clear hs4 hB2 q0 hs2 hT2 hy hb3 y0 y1 HC hrl
  obtain ⟨v0, v1, v2, v3, vF⟩ := q1.facts4
  clear q1
  rcases s with ⟨lo, hi, lb, mb, ys, f0, f1⟩
  simp only at HY ⊢
  go_wp2
  refine bodyPost_ret (v := .tuple #[.agg #[.int .i64 rl, .int .i64 lo, .int .i64 hi, .slice A4 ys.length c4], .int .i64 0]) (by simp [results, Tryd.results15, go_sem, v0, v1, v2, v3]) rfl ⟨⟨lo, hi, lb, mb, ys, f0, f1⟩, A4, c4, HS.out, by rw [HRL.out], ownsRow_base (base := w.heap.size + 2) ?_ (by omega), ?_⟩
  · repeat (first | with_reducible exact HY.out | with_reducible refine own_set ?_ (by simp) _)
  · repeat (first | with_reducible exact HB3.out | with_reducible refine Below.setCell ?_ (by simp) _)
end Go.Proofs.YtphgddanbgdemaaDoor
namespace Go.Proofs.YtphgddanbgdemaaDoor
open Go.RowKit

def exM : Cd := ⟨1, 2, 10, 0, 364, 0, 16777216⟩
def exL : Cd := ⟨2, 1, 20, 0, 364, 0, 16777216⟩
theorem ex_s : (chAll 0 [exM, exL] 0 100 (actC [exM, exL] 0 0)).ys = [(1, 0)] ∧ chRel 50 (chAll 0 [exM, exL] 0 100 (actC [exM, exL] 0 0)) = 10 := by decide +kernel
theorem ex_ok : ∀ x ∈ [exM, exL], x.err = 0 := by decide +kernel
theorem ex_w : worstF [exM, exL] [(1, 0)] = 2 := by decide +kernel
set_option maxHeartbeats 1600000 in
set_option maxRecDepth 20000 in
theorem awake_any (w : World) (hT : KT w) : Calls Tryd.prog 4 #[] w fun e w' => e = .returned (.bool true) ∧ Below w.heap.size w w' := by
  have hw0 := hT.pos
  have HC := hide (fun W hT2 hs2 => Choose_ok (some ⟨w.heap.size + 1, 0, none⟩) 2 2 [exM, exL] 0 0 0 0 100 50 W hT2 (by omega) ex_ok (by decide) (by decide) (by decide) (by decide) (by decide) (by decide) (by omega) hs2)
  have hB := (bel1 (w := w) (o := .cells #[.int .i64 0, .int .i64 364] 45)).alloc (by simp) (.cells (exM.arr ++ exL.arr) 47)
  have q1 := Blk.new (w.alloc (.cells #[.int .i64 0, .int .i64 364] 45)) 47 (exM.arr ++ exL.arr)
  rw [World.size_alloc] at q1
  have hs := Sl.of_blkN (n := 2) (size := 7) (xs := cdCells [exM, exL]) q1 rfl rfl (by unfold maxLen; omega)
  have hq0 := (Blk.new w 45 #[.int .i64 0, .int .i64 364]).facts2
  obtain ⟨z0, z1, _⟩ := hq0
  clear q1
  rw [show exM.arr ++ exL.arr = #[.int .i64 1, .int .i64 2, .int .i64 10, .int .i64 0, .int .i64 364, .int .i64 0, .int .i64 16777216, .int .i64 2, .int .i64 1, .int .i64 20, .int .i64 0, .int .i64 364, .int .i64 0, .int .i64 16777216] from rfl] at hB hs
  go_enter Tryd.func4, Tryd.ntmps4
  go_wp2_with fail
  generalize ((w.alloc _).alloc _) = w2 at *
  refine (HC.out w2 (hT.below hB hw0) hs).mono ?_
  rintro e w3 ⟨s, A3, c3, hs3, rfl, hy3, hb3⟩
  have hE := ex_s
  rw [← hs3] at hE
  obtain ⟨hys, hrl⟩ := hE
  rw [hys] at hy3
  rw [hrl, hys]
  have HB3 := hide (bthr hB hb3 hB.size)
  have hs4 := hs.thr hb3
  simp only [List.length_singleton] at hy3 ⊢
  obtain ⟨g, c, he, _, _⟩ := hy3.form (by omega)
  injection he with e1 _ e3
  subst e1 e3
  have hsy := sl_own hy3
  generalize s.lo = lo
  generalize s.hi = hi
  have hbx := bel1 (w := w3) (o := .cells #[.int .i64 10, .int .i64 lo, .int .i64 hi, .slice (some ⟨g, 0, none⟩) 1 c3] 26)
  have q3 := Blk.new w3 26 #[.int .i64 10, .int .i64 lo, .int .i64 hi, .slice (some ⟨g, 0, none⟩) 1 c3]
  have hs5 := hs4.thr hbx
  have hy5 := hsy.thr hbx
  obtain ⟨b9, o9, he9, _, hc9⟩ := hy5.at_ (show 0 < 1 by omega)
  injection he9 with he9
  injection he9 with e1 e2 _
  subst e1 e2
  have y0 := hc9 0 (.int .i64 1) rfl
  have y1 := hc9 1 (.int .i64 0) rfl
  obtain ⟨c0, c1, c2, c4, cF⟩ := q3.facts4
  have HB5 := hide (bthr HB3.out hbx HB3.out.size)
  clear hs3 hys hrl hb3 hs hs4 hy3 hsy hbx q3 hc9 hB z0 z1 HC
  have HW := hide (fun W hs2 hy2 => worst_any (some ⟨w.heap.size + 1, 0, none⟩) (some ⟨g, 0, none⟩) 2 2 1 c3 [exM, exL] [(1, 0)] 10 lo hi W hs2 hy2)
  rw [ex_w] at HW
  go_wp2_with fail
  refine (HW.out _ hs5 hy5).mono ?_
  rintro e w6 ⟨rfl, hb6⟩
  have HB6 := hide (bthr HB5.out hb6 HB5.out.size)
  clear hb6 c0 c1 c2 c4 cF y0 y1 hs5 hy5 HW
  go_wp2
  go_ret
  exact ⟨rfl, HB6.out⟩
end Go.Proofs.YtphgddanbgdemaaDoor
