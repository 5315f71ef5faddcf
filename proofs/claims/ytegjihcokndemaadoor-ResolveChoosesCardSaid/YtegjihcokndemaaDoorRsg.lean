/-
  The contract of the program's Choose where its arguments are right: the choice is the plain one. Conditions: each condition is valid, there are 200 at most, the table of kinds, and a valid day, level, releases and bounds.
-/
import Derived.Test.YtegjihcokndemaaDoorProg
import Derived.Test.YtegjihcokndemaaDoorRsd
namespace Go.Proofs.YtegjihcokndemaaDoor
open Go.RowKit

/-- what the program's Choose answers -/
def PChoP (w : World) (cs : List Cd) (d lv bf g0 g1 wn : Int) (e : Ending) (w' : World) : Prop := ∃ (s : Chs) (A : Option Addr) (c : Nat), s = chAll bf cs g0 g1 (actC cs d lv) ∧ e = .returned (.tuple #[.agg #[.int .i64 (chRel wn s), .int .i64 s.lo, .int .i64 s.hi, .slice A s.ys.length c], .int .i64 0]) ∧ w'.ownsRow w.heap.size 81 2 (.slice A s.ys.length c) s.ys.length (yCells s.ys) ∧ Below w.heap.size w w'
set_option maxHeartbeats 1600000 in
set_option maxRecDepth 20000 in
theorem Choose_ok (A : Option Addr) (n c : Nat) (cs : List Cd) (d lv bf g0 g1 wn : Int) (w : World) (hT : KT w) (hn : n ≤ 200) (hg : ∀ x ∈ cs, x.err = 0) (hd : wit d 364 = true) (hv : wit lv 16777216 = true) (hbf : wit bf 1073741824 = true) (hwn : wit wn 1073741824 = true) (h0 : wit g0 1073741824 = true) (h1 : wit g1 1073741824 = true) (hgg : g0 ≤ g1) (hs : Sl w w.heap.size 7 A n c (cdCells cs)) :
    Calls Tryd.prog 27 #[.slice A n c, .int .i64 d, .int .i64 lv, .int .i64 bf, .agg #[.int .i64 g0, .int .i64 g1], .int .i64 wn] w (PChoP w cs d lv bf g0 g1 wn) := by
  have hw0 := hT.pos
  have q0 := (Blk.new w 47 #[.int .i64 g0, .int .i64 g1]).alloc (.cells #[.int .i64 0, .int .i64 0, .int .i64 0, .slice none 0 0] 58)
  have q1 := Blk.new (w.alloc (.cells #[.int .i64 g0, .int .i64 g1] 47)) 58 #[.int .i64 0, .int .i64 0, .int .i64 0, .slice none 0 0]
  rw [World.size_alloc] at q1
  have hB := (bel1 (w := w) (o := .cells #[.int .i64 g0, .int .i64 g1] 47)).alloc (by simp) (.cells #[.int .i64 0, .int .i64 0, .int .i64 0, .slice none 0 0] 58)
  have hz1 : ((w.alloc (.cells #[.int .i64 g0, .int .i64 g1] 47)).alloc (.cells #[.int .i64 0, .int .i64 0, .int .i64 0, .slice none 0 0] 58)).heap.size = w.heap.size + 2 := by simp
  have hs1 := hs.thr hB
  have HA := hide (fun W hs2 => rsasked_ok A n c cs d lv bf g0 g1 wn W (show n ≤ 200 by omega) hg hd hv hbf hwn h0 h1 hgg hs2)
  have HC := hide (fun W hT2 hs2 => choose_ok A n c cs d lv bf g0 g1 wn W hT2 hn hg hd hv hbf hgg hs2)
  have HZ := hide hz1
  clear hg hd hv hbf hwn h0 h1 hgg hs hz1
  obtain ⟨y0, y1, _⟩ := q0.facts2
  go_enter Tryd.func27, Tryd.ntmps27
  go_wp2_with fail
  generalize ((w.alloc _).alloc _) = w1 at *
  refine (HA.out w1 hs1).mono ?_
  rintro e w2 ⟨rfl, hb2⟩
  have hB2 := bthr hB hb2 hB.size
  have hz2 := hb2.size
  replace q0 := q0.below hb2 q0.lt
  replace q1 := q1.below hb2 q1.lt
  have hs2 := hs1.thr hb2
  have hT2 := hT.below hB2 hw0
  clear y0 y1 hB hs1 hb2 HA hT
  obtain ⟨y0, y1, _⟩ := q0.facts2
  go_wp2_with fail
  refine (HC.out w2 hT2 hs2).mono ?_
  rintro e w3 ⟨s, A4, c4, hs4, rfl, hy, hb3⟩
  have HS := hide hs4
  have HB3 := hide (bthr hB2 hb3 hB2.size)
  replace q1 := q1.below hb3 q1.lt
  have HY := hide (ownsRow_base hy (show w.heap.size + 2 ≤ w2.heap.size by have := HZ.out; omega))
  obtain ⟨rl, hrl⟩ : ∃ rl, rl = chRel wn s := ⟨_, rfl⟩
  have HRL := hide hrl
  rw [← hrl]
  clear hs4 hB2 q0 hs2 hT2 hy hb3 y0 y1 HC hrl
  obtain ⟨v0, v1, v2, v3, vF⟩ := q1.facts4
  clear q1
  rcases s with ⟨lo, hi, lb, mb, ys, f0, f1⟩
  simp only at HY ⊢
  go_wp2
  refine bodyPost_ret (v := .tuple #[.agg #[.int .i64 rl, .int .i64 lo, .int .i64 hi, .slice A4 ys.length c4], .int .i64 0]) (by simp [results, Tryd.results27, go_sem, v0, v1, v2, v3]) rfl ⟨⟨lo, hi, lb, mb, ys, f0, f1⟩, A4, c4, HS.out, by rw [HRL.out], ownsRow_base (base := w.heap.size + 2) ?_ (by omega), ?_⟩
  · repeat (first | with_reducible exact HY.out | with_reducible refine own_set ?_ (by simp) _)
  · repeat (first | with_reducible exact HB3.out | with_reducible refine Below.setCell ?_ (by simp) _)
end Go.Proofs.YtegjihcokndemaaDoor
