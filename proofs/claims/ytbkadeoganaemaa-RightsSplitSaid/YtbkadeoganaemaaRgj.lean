/-
  The sanity check of chapter 11 answers true; rights that mk.Rights makes are valid. No condition.
-/
import Derived.Test.YtbkadeoganaemaaProg
import Derived.Test.YtbkadeoganaemaaRgk
namespace Go.Proofs.Ytbkadeoganaemaa
open Go.RowKit

theorem sl_ownv {w : World} {base size n c : Nat} {e : TypeId} {A : Option Addr} {xs : List Value} (h : w.ownsRow base e size (.slice A n c) n xs) : Sl w w.heap.size size A n c xs := by
  obtain ⟨A', c', e', h'⟩ := own_sl h
  injection e' with e1 _ e3
  subst e1 e3
  exact h'
theorem good_ck {rs : List Rt} (h : ∀ r ∈ rs, RtGood r) (hl : rs.length ≤ 200) : ckR rs = 0 := by
  unfold ckR
  rw [if_neg (by omega), rtsErr_zero]
  intro r hr
  obtain ⟨h1, h2, h3, h4⟩ := h r hr
  unfold Rt.err
  rw [wit_of h1.1 (by omega), wit_of h2.1 (by omega)]
  have : okSpan r.f r.t = true := by unfold okSpan; rw [wit_of h3.1 (by omega), wit_of h4.1 (by omega)]; rfl
  rw [this]; simp
theorem dateR_in {rs : List Rt} (h : ckR rs = 0) (x : Int) : 0 ≤ dateR rs x ∧ dateR rs x ≤ 16777216 := by
  unfold dateR
  rw [List.getD_eq_getElem?_getD]
  rcases e : rs[x.toNat]? with _ | r
  · simp [rt0]
  · exact ((ck_ok h).2 r (List.mem_of_getElem? e)).1
def exR : List Rt := [⟨1900, 5, 0, 364⟩, ⟨1950, 5, 0, 364⟩, ⟨1950, 10, 0, 364⟩]
theorem ex_all : allotR exR 0 12 = [5, 2, 5] ∧ ckR exR = 0 ∧ (actF exR 0 exR.length).length ≤ 12 := ⟨by kernel_rfl, by kernel_rfl, by decide⟩
set_option maxHeartbeats 1600000 in
set_option maxRecDepth 20000 in
theorem awake_any (w : World) : Calls Try.prog 13 #[] w fun e w' => e = .returned (.bool true) ∧ Below w.heap.size w w' := by
  have b1 := Blk.new w 29 #[.int .i64 0, .int .i64 364]
  have b2 := Blk.new (w.alloc (.cells #[.int .i64 0, .int .i64 364] 29)) 31 #[.int .i64 1900, .int .i64 5, .int .i64 0, .int .i64 364, .int .i64 1950, .int .i64 5, .int .i64 0, .int .i64 364, .int .i64 1950, .int .i64 10, .int .i64 0, .int .i64 364]
  rw [World.size_alloc] at b2
  have hB := (bel1 (w := w) (o := .cells #[.int .i64 0, .int .i64 364] 29)).alloc (by simp) (.cells #[.int .i64 1900, .int .i64 5, .int .i64 0, .int .i64 364, .int .i64 1950, .int .i64 5, .int .i64 0, .int .i64 364, .int .i64 1950, .int .i64 10, .int .i64 0, .int .i64 364] 31)
  have hsl : Sl ((w.alloc (.cells #[.int .i64 0, .int .i64 364] 29)).alloc (.cells #[.int .i64 1900, .int .i64 5, .int .i64 0, .int .i64 364, .int .i64 1950, .int .i64 5, .int .i64 0, .int .i64 364, .int .i64 1950, .int .i64 10, .int .i64 0, .int .i64 364] 31)) ((w.alloc (.cells #[.int .i64 0, .int .i64 364] 29)).alloc (.cells #[.int .i64 1900, .int .i64 5, .int .i64 0, .int .i64 364, .int .i64 1950, .int .i64 5, .int .i64 0, .int .i64 364, .int .i64 1950, .int .i64 10, .int .i64 0, .int .i64 364] 31)).heap.size 4 (some ⟨w.heap.size + 1, 0, none⟩) 3 3 (rtCells exR) :=
    ⟨rfl, Nat.le_refl _, by unfold maxLen; omega, fun _ => ⟨w.heap.size + 1, 0, rfl, b2.lt, fun j u hu => by
      rw [b2.facts.1, Nat.zero_add, ← hu]
      simp [exR, rtCells, Rt.arr]⟩⟩
  have HAL := hide (Allot_any _ 3 3 exR 0 12 _ hsl ex_all.2.1 (by decide) ⟨by omega, by omega⟩ ex_all.2.2)
  rw [ex_all.1] at HAL
  clear hsl b2
  obtain ⟨c0, c1, cf⟩ := b1.facts2
  clear b1
  go_enter Try.func13, Try.ntmps13
  go_upto_region 3 with fail
  clear c0 c1 cf
  generalize (w.alloc _).alloc _ = w2 at *
  go_wp2_with fail
  refine HAL.out.mono ?_
  rintro e w3 ⟨v, rfl, hv, hb3⟩
  obtain ⟨Ag, cg, rfl, hsg⟩ := own_sl hv
  have hB3 := bthr hB hb3 hB.size
  have b4 := Blk.new w3 3 #[.int .i64 5, .int .i64 2, .int .i64 5]
  have hb4 := bel1 (w := w3) (o := .cells #[.int .i64 5, .int .i64 2, .int .i64 5] 3)
  have hs4 : Sl (w3.alloc (.cells #[.int .i64 5, .int .i64 2, .int .i64 5] 3)) (w3.alloc (.cells #[.int .i64 5, .int .i64 2, .int .i64 5] 3)).heap.size 1 (some ⟨w3.heap.size, 0, none⟩) 3 3 (ints [5, 2, 5]) :=
    ⟨rfl, Nat.le_refl _, by unfold maxLen; omega, fun _ => ⟨w3.heap.size, 0, rfl, b4.lt, fun j u hu => by
      rw [b4.facts.1, Nat.zero_add, ← hu]
      simp [ints]⟩⟩
  have HSM := hide (same_any Ag cg [5, 2, 5] _ 3 [5, 2, 5] 3 3 _ (hsg.thr hb4) hs4)
  rw [show sameB [5, 2, 5] [5, 2, 5] = true by decide] at HSM
  have HB4 := hide (bthr hB3 hb4 hB3.size)
  clear hv hb3 hsg hB3 b4 hb4 hs4 hB HAL
  go_wp2_with fail
  refine HSM.out.mono ?_
  rintro e w5 ⟨rfl, hb5⟩
  have HB5 := hide (bthr HB4.out hb5 HB4.out.size)
  clear hb5
  go_wp2
  go_ret
  exact ⟨rfl, HB5.out⟩
end Go.Proofs.Ytbkadeoganaemaa
