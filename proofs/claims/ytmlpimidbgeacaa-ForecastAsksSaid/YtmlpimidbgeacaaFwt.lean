/-
  Contracts of weight, of every, and of Mean: the sum of the weights of those asked for; the mean, or the first error. Condition: the bundle can be read; weight: it is valid.
-/
import Derived.Test.YtmlpimidbgeacaaProg
import Derived.Test.YtmlpimidbgeacaaFlv
namespace Go.Proofs.Ytmlpimidbgeacaa
open Go.RowKit

/-- The sum of some numbers of scenarios. -/
def sumS (f : Sc → Int) : List Sc → Int
  | [] => 0
  | s :: t => f s + sumS f t
theorem sumS_append (f : Sc → Int) : ∀ (a b : List Sc), sumS f (a ++ b) = sumS f a + sumS f b
  | [], b => by simp [sumS]
  | s :: t, b => by simp only [List.cons_append, sumS]; rw [sumS_append f t b]; omega
theorem sumS_take {f : Sc → Int} {ss : List Sc} {k : Nat} (h : k < ss.length) {s : Sc} (e : ss[k] = s) : sumS f (ss.take (k + 1)) = sumS f (ss.take k) + f s := by
  rw [List.take_succ_eq_append_getElem h, sumS_append, e]; simp [sumS]
theorem sumS_bnd {f : Sc → Int} {M : Int} (h0 : 0 ≤ M) : ∀ (ss : List Sc), (∀ s ∈ ss, 0 ≤ f s ∧ f s ≤ M) → 0 ≤ sumS f ss ∧ sumS f ss ≤ ss.length * M
  | [], _ => by simp [sumS]
  | s :: t, h => by
    have h1 := h s (by simp)
    have h2 := sumS_bnd h0 t (fun s hs => h s (by simp [hs]))
    simp only [sumS, List.length_cons]
    rw [Int.natCast_succ, Int.add_mul]
    omega
theorem sumS_mono {f : Sc → Int} : ∀ (ss : List Sc) (k : Nat), (∀ s ∈ ss, 0 ≤ f s) → sumS f (ss.take k) ≤ sumS f ss
  | [], k, _ => by simp [sumS]
  | s :: t, 0, h => by
    have h2 : 0 ≤ sumS f (s :: t) := by
      have key : ∀ ss : List Sc, (∀ s ∈ ss, 0 ≤ f s) → 0 ≤ sumS f ss := by
        intro ss
        induction ss with
        | nil => intro _; simp [sumS]
        | cons a l ih => intro h; simp only [sumS]; have := h a (by simp); have := ih (fun s hs => h s (by simp [hs])); omega
      exact key _ h
    simpa [sumS] using h2
  | s :: t, k + 1, h => by
    simp only [List.take_succ_cons, sumS]
    have := sumS_mono t k (fun s hs => h s (by simp [hs]))
    omega
def wOf (p : Sc → Bool) (s : Sc) : Int := if p s then s.wt else 0
def SaysS (w0 : World) (ss : List Sc) (kf : FuncId) (cap : Array Value) (p : Sc → Bool) : Prop :=
  (∀ (a : Array Value) (W : World), (callFunc kf a).run Try.prog W = .ok (.enter kf a) W) ∧
  ∀ s ∈ ss, ∀ W : World, Below w0.heap.size w0 W → Calls Try.prog kf (#[.agg s.arr] ++ cap) W fun e w' => e = .returned (.bool (p s)) ∧ Below W.heap.size W w'
theorem every_any (s : Sc) (w : World) : Calls Try.prog 36 #[.agg s.arr] w fun e w' => e = .returned (.bool true) ∧ Below w.heap.size w w' := by
  unfold Sc.arr
  go_enter Try.func36, Try.ntmps36
  go_wp2
  go_ret
  exact ⟨rfl, bel1⟩
theorem every_says (w0 : World) (ss : List Sc) : SaysS w0 ss 36 #[] (fun _ => true) :=
  ⟨fun _ _ => by kernel_rfl, fun s _ W _ => every_any s W⟩
set_option maxHeartbeats 1600000 in
set_option maxRecDepth 20000 in
theorem weight_any (b : Bd) (kf : FuncId) (cap : Array Value) (p : Sc → Bool) (w : World) (hb : b.ok w w.heap.size) (hv : BdV b) (hf : SaysS w b.ss kf cap p) :
    Calls Try.prog 35 #[.agg b.arr, .func (.func kf) #[] cap] w fun e w' => e = .returned (.int .i64 (sumS (wOf p) b.ss)) ∧ Below w.heap.size w w' := by
  have q0 := Blk.new w 27 b.arr
  have hB := bel1 (w := w) (o := .cells b.arr 27)
  have hb1 := Bd.ok.thr hb hB
  have hn := hv.n
  have HWT := hide (fun s hs => (hv.sc s hs).1)
  obtain ⟨fr, A, n, c, ss, wd⟩ := b
  unfold Bd.arr at q0 hB hb1 ⊢
  simp only at q0 hB hn HWT hf hb1 ⊢
  have HF := hide hf.2
  have hcf := hf.1
  have HS := hide (show ScsOk _ _ A n c ss from hb1)
  have hl : n = ss.length := HS.out.len
  have HL := hide hl
  obtain ⟨c0, c1, c2, _⟩ := q0.facts3
  clear hb hb1 hv hf hl
  go_enter Try.func35, Try.ntmps35
  go_upto_region 2 with fail
  generalize hw1 : w.alloc _ = w1 at *
  have hz1 : w.heap.size ≤ w1.heap.size := hB.size
  clear hw1
  go_wp2
  clear c0 c1 c2 q0
  go_loopw [5, 11] (fun sm i wr => ∃ k : Nat, k ≤ n ∧ i = .int .i64 k ∧ sm = .int .i64 (sumS (wOf p) (ss.take k)) ∧ Below w1.heap.size w1 wr) (fun _ i _ => n - (intOf i).toNat)
  case atStart => exact ⟨0, by omega, rfl, rfl, Below.refl _ _⟩
  case round =>
    obtain ⟨k, hk, rfl, rfl, hb⟩ := hrel
    by_cases hlt : k < n
    · have hL := HL.out
      obtain ⟨bl, ol, rfl, _, hcl⟩ := (HS.out.thr hb).1.at_ hlt
      rcases ek : ss[k]'(by omega) with ⟨wt, A1, n1, c1, fl⟩
      obtain ⟨e0, e1⟩ := sc_cells hcl (by omega) ek
      simp only at e0 e1
      have hmem : (⟨wt, A1, n1, c1, fl⟩ : Sc) ∈ ss := by rw [← ek]; exact List.getElem_mem _
      have hwt := HWT.out _ hmem
      simp only at hwt
      have HCL := hide (fun W hW => HF.out _ hmem W hW)
      have HST := hide (sumS_take (f := wOf p) (show k < ss.length by omega) ek)
      have hbnd := sumS_bnd (f := wOf p) (M := 10000) (by omega) (ss.take k) (fun s hs => by
        have := HWT.out s (List.mem_of_mem_take hs)
        unfold wOf; split <;> omega)
      rw [List.length_take, Nat.min_eq_left (by omega)] at hbnd
      unfold wOf at HST
      simp only at HST
      unfold Sc.arr at HCL
      simp only at HCL
      have hb2 := hb.alloc hb.size (.cells #[.int .i64 wt, .slice A1 n1 c1] 32)
      have hbx := hB.trans (hb2.mono hz1)
      have q1 := Blk.new wr 32 #[.int .i64 wt, .slice A1 n1 c1]
      have hki : (k : Int) < (n : Int) := by omega
      have HB2 := hide hb2
      have HBX := hide hbx
      clear hcl ek hmem hL hb hb2 hbx
      go_upto_region 5 with fail
      clear e0 e1
      generalize wr.alloc _ = w5 at *
      generalize wr.heap.size = g5 at *
      obtain ⟨x0, x1, _⟩ := q1.facts2
      obtain ⟨sm, hsm⟩ : ∃ sm, sm = sumS (wOf p) (ss.take k) := ⟨_, rfl⟩
      have HSM := hide hsm
      have hsb : 0 ≤ sm ∧ sm ≤ 500000 := by rw [hsm]; omega
      obtain ⟨hs0, hs1⟩ := hsb
      rw [show sumS (fun s => if p s = true then s.wt else 0) (ss.take k) = sm from hsm.symm] at HST
      simp only [← hsm]
      clear hsm hbnd
      obtain ⟨pb, hpb⟩ : ∃ pb, p ⟨wt, A1, n1, c1, fl⟩ = pb := ⟨_, rfl⟩
      rw [hpb] at HST HCL
      clear hpb
      go_wp2_with fail
      refine (HCL.out w5 HBX.out).mono ?_
      rintro e w6 ⟨rfl, hb6⟩
      have q6 := q1.below hb6 q1.lt
      have HB6 := hide (HB2.out.trans (hb6.mono HB2.out.size))
      clear hb6 x0 x1 q1 HCL
      obtain ⟨x0, x1, _⟩ := q6.facts2
      obtain ⟨w0, w1'⟩ := hwt
      cases pb
      · have HX := hide (show sumS (wOf p) (ss.take (k + 1)) = sm from HST.out.trans (by simp))
        clear HST
        go_wp2
        go_roundw
        case rel => exact ⟨k + 1, by omega, by go_num, by rw [HX.out], HB6.out⟩
        case measure => simp [intOf]; omega
      · have HX := hide (show sumS (wOf p) (ss.take (k + 1)) = sm + wt from HST.out.trans (by simp))
        clear HST
        go_wp2
        go_roundw
        case rel => exact ⟨k + 1, by omega, by go_num, by rw [HX.out], HB6.out⟩
        case measure => simp [intOf]; omega
    · have hki : ¬ ((k : Int) < (n : Int)) := by omega
      have HX := hide (show sumS (wOf p) (ss.take k) = sumS (wOf p) ss by rw [List.take_of_length_le (by have := HL.out; omega)])
      have HBZ := hide (bthr hB hb hz1)
      clear hb
      rw [HX.out]
      go_wp2
      go_ret
      exact ⟨rfl, HBZ.out⟩
end Go.Proofs.Ytmlpimidbgeacaa
