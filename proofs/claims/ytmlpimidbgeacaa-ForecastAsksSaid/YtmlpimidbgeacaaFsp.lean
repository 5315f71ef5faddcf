/-
  The contract of sorted over scenarios, whatever their number: a row of the call's own with the same scenarios, by a number of each, ascending. Conditions: there is one at least, they can be read, and the number is told by a function that writes nothing that was there.
-/
import Derived.Test.YtmlpimidbgeacaaProg
import Derived.Test.YtmlpimidbgeacaaFso
import Derived.Test.YtmlpimidbgeacaaStf
namespace Go.Proofs.Ytmlpimidbgeacaa
open Go.RowKit

set_option maxHeartbeats 1600000 in
set_option maxRecDepth 20000 in
theorem sortedL_ok (a : Addr) (n c : Nat) (ss : List Sc) (h0 : 0 < n) (hn : n ≤ 1048576) (kf : FuncId) (cap : Array Value) (f : Sc → Int) (w : World) (hs : ScsOk w w.heap.size (some a) n c ss) (hf : TellsS w ss kf cap f) :
    Calls Try.prog 37 #[.slice (some a) n c, .func (.func kf) #[] cap] w (SortedPost w n ss f) := by
  have HL := hide hs.len
  have HS := hide hs
  have HF := hide hf
  have q0 := Blk.new w 65 #[.func (.func kf) #[] cap]
  have hB := bel1 (w := w) (o := .cells #[.func (.func kf) #[] cap] 65)
  clear hs hf
  go_enter Try.func37, Try.ntmps37
  go_wp2_with fail
  generalize w.alloc _ = w1 at *
  refine (clone_scs a n c ss (by omega) w1 (HS.out.thr hB).1).mono ?_
  rintro e w2 ⟨v, rfl, hv, hb2⟩
  obtain ⟨g, cv, rfl, hcv, hcm⟩ := hv.form h0
  have hB2 := bthr hB hb2 hB.size
  have hg := hv.lt g rfl
  have hcap := own_cap hv
  have hx : IRow (encS ss) w2 g (idxs ss.length) := IRow.of_own (by rw [encS_all]; exact hv)
  have hc0 : w2.cell? ⟨w.heap.size, 0, none⟩ = some (.func (.func kf) #[] cap) := (q0.below hb2 q0.lt).facts.1 0
  have hgw : w.heap.size < g := by have := hB.size; have := q0.lt; omega
  have hCS : CmpSays (encS ss) w2 g 52 #[.pointer (some ⟨w.heap.size, 0, none⟩)] (fun x y => cmp3 (f (encS ss x)) (f (encS ss y))) (fun i => 0 ≤ i ∧ i < n) := by
    refine ⟨cfS, fun x y W hx hy hW => ?_⟩
    have hBW : Below w.heap.size w W := ⟨hW.os.trans hB2.os, hW.tape.trans hB2.tape, hW.output.trans hB2.output, Nat.le_trans hB2.size hW.size, fun i hi => (hW.block i (Nat.lt_of_lt_of_le hi hB2.size) (fun e => by injection e with e; omega)).trans (hB2.block i hi)⟩
    refine scmp_any w ss kf cap f HF.out w.heap.size _ _ (encS_mem (by have := HL.out; omega)) (encS_mem (by have := HL.out; omega)) W hBW ?_
    exact hW.cell hc0 (fun e => by injection e with e; simp only at e; omega)
  have HSO := hide (sortstable_any (encS ss) w2 g _ _ _ _ hCS (fun x y => f (encS ss x) ≤ f (encS ss y)) (fun x y z h1 h2 => Int.le_trans h1 h2) n cv hn (idxs ss.length) (by rw [idxs_len, HL.out]) (fun x hx => by have := idxs_mem.1 hx; have := HL.out; omega) (List.pairwise_of_forall fun x y => by unfold Fits cmp3; constructor <;> intro h <;> (try simp only at h) <;> (split at h <;> (try split at h) <;> omega)) w2 (grown_refl _ _) hx)
  have HHB := hide hB2
  have hFF : ∀ s ∈ ss, s.ok w2 w2.heap.size := fun s hs => ((HS.out.2 s hs).thr hB2)
  have HFF := hide hFF
  clear hCS hx hc0 hv hb2 hB hB2 hFF
  go_wp2_with fail
  refine HSO.out.mono ?_
  rintro e w3 ⟨zs, rfl, hp, ho, hx3, hg3⟩
  have hzl : zs.length = n := by rw [hp.length_eq, idxs_len, HL.out]
  have hB3 : Below w.heap.size w w3 := below_grown HHB.out hg3 HHB.out.size (by omega)
  have hperm : (zs.map (encS ss)).Perm ss := by
    have := hp.map (encS ss)
    rwa [encS_all] at this
  have HR := hide (show SortedPost w n ss f (.returned (.slice (some ⟨g, 0, none⟩) n cv)) w3 from ⟨g, cv, zs.map (encS ss), rfl, hperm, List.pairwise_map.2 ho, ⟨sl_of_row hx3 hzl (by omega) (by omega), fun s hs => (hp_ok hperm (fun s hs => (HS.out.2 s hs).below hB3) s hs).more hB3.size⟩, hB3⟩)
  clear hp ho hx3 hg3 hperm hB3 HSO
  go_wp2
  go_ret
  exact HR.out
end Go.Proofs.Ytmlpimidbgeacaa
