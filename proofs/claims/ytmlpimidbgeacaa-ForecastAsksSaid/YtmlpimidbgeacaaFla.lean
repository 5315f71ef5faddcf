/-
  The contract of forecast.Latest: the last bundle that is live and covers a step. Condition: the list can be read.
-/
import Derived.RangeFuncNested
import Derived.RangeFuncBound
import Derived.RangeFuncCalls
import Derived.RangeFuncLeaves
import Derived.RangeFuncBox
import Derived.Shelf.Abstract
import Derived.WalkKit
import Derived.OwnWalkIn
import Derived.TacticsInMore
import Derived.LoopNIn
import Derived.LoopIn
import Derived.Test.YtmlpimidbgeacaaProg
import Derived.Test.YtmlpimidbgeacaaFbl
namespace Go.Proofs.Ytmlpimidbgeacaa
open Go.RowKit Go.Shelf
attribute [local go_sem] Oper.semAt_some

/-! the plain law -/
theorem latL_none {t : Int} {bs : List Bd} : ∀ {n : Nat}, (∀ j b, j < n → bs[j]? = some b → stepE b t ≠ 0) → latL t bs n = none
  | 0, _ => by unfold latL; rfl
  | n + 1, h => by
    have ih := latL_none (n := n) (fun j b hj => h j b (by omega))
    rcases hb : bs[n]? with _ | b
    · conv => lhs; unfold latL
      rw [hb]; exact ih
    · rw [latL_miss hb (h n b (by omega) hb)]; exact ih
theorem latL_at {t : Int} {bs : List Bd} {k : Nat} {b : Bd} (hk : bs[k]? = some b) (h0 : stepE b t = 0) : ∀ {n : Nat}, k < n → (∀ j b, k < j → j < n → bs[j]? = some b → stepE b t ≠ 0) → latL t bs n = some k
  | 0, h, _ => absurd h (Nat.not_lt_zero _)
  | n + 1, h, hm => by
    by_cases e : k = n
    · subst e; exact latL_hit hk h0
    · have ih := latL_at hk h0 (n := n) (by omega) (fun j b h1 h2 => hm j b h1 (by omega))
      rcases hb : bs[n]? with _ | b
      · conv => lhs; unfold latL
        rw [hb]; exact ih
      · rw [latL_miss hb (hm n b (by omega) (by omega) hb)]; exact ih
/-- a place in the list -/
abbrev BIx (bs : List Bd) := { k : Nat // k < bs.length }
/-- the last k places, from the end down -/
def DownTo {bs : List Bd} (ys : List (BIx bs)) (k : Nat) : Prop := ys.map (·.1) = (List.range k).map (fun j => bs.length - 1 - j)
theorem downTo_nil {bs : List Bd} : DownTo ([] : List (BIx bs)) 0 := rfl
theorem downTo_succ {bs : List Bd} {ys : List (BIx bs)} {k : Nat} (h : DownTo ys k) {x : BIx bs} (hx : x.1 + k + 1 = bs.length) : DownTo (ys ++ [x]) (k + 1) := by
  unfold DownTo at *
  rw [List.map_append, h, List.range_succ, List.map_append]
  simp; omega
theorem downTo_len {bs : List Bd} {ys : List (BIx bs)} {k : Nat} (h : DownTo ys k) : ys.length = k := by
  have := congrArg List.length h
  simpa using this
theorem downTo_mem {bs : List Bd} {ys : List (BIx bs)} {k j : Nat} (h : DownTo ys k) (h1 : j < bs.length) (h2 : bs.length ≤ j + k) : ∃ x ∈ ys, x.1 = j := by
  have hm : j ∈ ys.map (·.1) := by
    rw [h, List.mem_map]
    exact ⟨bs.length - 1 - j, by rw [List.mem_range]; omega, by omega⟩
  obtain ⟨x, hx, e⟩ := List.mem_map.1 hm
  exact ⟨x, hx, e⟩
theorem downTo_last {bs : List Bd} {ini : List (BIx bs)} {x : BIx bs} {k : Nat} (h : DownTo (ini ++ [x]) k) : DownTo ini (k - 1) ∧ x.1 = bs.length - k ∧ 0 < k := by
  have hl := downTo_len h
  simp at hl
  subst hl
  unfold DownTo at *
  rw [List.map_append, List.range_succ, List.map_append] at h
  obtain ⟨h1, h2⟩ := List.append_inj' h rfl
  refine ⟨by simpa using h1, ?_, by omega⟩
  simp at h2; omega
/-! the iterator -/
def KeepL (n₀ Bs : Nat) (W W' : World) : Prop := Below n₀ W W' ∧ W'.heap[Bs]? = W.heap[Bs]?
theorem keeps_below {B : Nat} {W W' : World} (h : Below W.heap.size W W') : KeepsFrom B W W' :=
  ⟨h.size, fun k o _ hk _ => (h.block k (Array.getElem?_eq_some_iff.1 hk).1).trans hk⟩
theorem blk_own {β : Type} (B : Nat) (t : TypeId) (f : β → Array Value) : Own (fun s W => Blk W B t (f s)) := fun s X Y row hs hg hrow =>
  (hg.block B hs.lt (fun e' => by obtain ⟨o, ho, hc⟩ := hrow B e'.symm; rw [show X.heap[B]? = _ from hs] at ho; cases ho; cases hc)).trans hs

set_option maxRecDepth 100000 in
set_option maxHeartbeats 1000000 in
theorem back1_in (m : Nat) (hm : 1 ≤ m) (l Bs n₀ : Nat) (A : Option Addr) (n c : Nat) (bs : List Bd) (J Jx : List (BIx bs) → World → Prop)
    (hY : ∀ pre (x : BIx bs) W, J pre W → pre.length < n → YieldAt Fence.wide (m - 1) Try.prog l #[.int .i64 (x.1 : Int), .agg (bs[x.1]'x.2).arr] W fun e W' =>
      (e = .returned (.bool true) ∧ J (pre ++ [x]) W' ∧ KeepL n₀ Bs W W') ∨ (e = .returned (.bool false) ∧ Jx (pre ++ [x]) W'))
    (W : World) (hBs : Boxed W Bs 42 (.slice A n c)) (hs : BdsOk W n₀ A n c bs) (h0 : J [] W) :
    CallsIn Fence.wide m Try.prog 57 #[.func (.yield l) #[] #[], .pointer (some ⟨Bs, 0, none⟩)] W fun e W' => (∃ v, e = .returned v) ∧
      ((∃ ys, DownTo ys n ∧ J ys W') ∨ (∃ pre, (∃ k, k ≤ n ∧ DownTo pre k) ∧ Jx pre W')) := by
  have hn63 : n ≤ 9223372036854775807 := by have a1 := hs.1.2.1; have a2 := hs.1.2.2.1; unfold maxLen at a2; omega
  have HL := hide hs.len
  have HS := hide hs
  have hc0 := hBs.cell
  clear hs
  refine callsIn_of_wp Try.func57 rfl trivial ?_ rfl
  simp only [Try.ntmps57, List.size_toArray, List.length_cons, List.length_nil, Nat.reduceAdd, Nat.reduceSub, Array.replicate_succ, Array.replicate_zero, List.push_toArray, List.append_toArray, List.nil_append, List.cons_append]
  gi_wp2
  gi_loopw [3] (fun v wr => ∃ (k : Nat) (z : Int), k ≤ n ∧ v = .int .i64 z ∧ z + 1 + k = (n : Int) ∧ (∃ ys, DownTo ys k ∧ J ys wr) ∧ KeepL n₀ Bs W wr) (fun v _ => (intOf v + 1).toNat)
  case atStart => exact ⟨0, (n : Int) - 1, by omega, rfl, by omega, ⟨[], downTo_nil, h0⟩, Below.refl _ _, rfl⟩
  case round =>
    obtain ⟨k, z, hk, rfl, hz, ⟨ys, hys, hJ⟩, hkp⟩ := hrel
    by_cases hz0 : 0 ≤ z
    · obtain ⟨q, rfl⟩ : ∃ q : Nat, z = (q : Int) := ⟨z.toNat, by omega⟩
      have hL := HL.out
      have hq : q < bs.length := by omega
      obtain ⟨fn, tmps, assign, body, hy, hR⟩ := hY ys ⟨q, hq⟩ wr hJ (by rw [downTo_len hys]; omega)
      obtain ⟨bl, ol, rfl, hbl, hcl⟩ := HS.out.1.at_ (show q < n by omega)
      obtain ⟨b, eb⟩ : ∃ b, bs[q] = b := ⟨_, rfl⟩
      dsimp only at hy
      rw [eb] at hy
      obtain ⟨d0, d1, d2⟩ := bd_cells (w := wr) (g := bl) (o := ol) (fun j u hu => (hkp.1.cell (p := ⟨bl, ol + j, none⟩) hbl).trans (hcl j u hu)) hq eb
      unfold Bd.arr at hy
      have hcw := (show Boxed wr Bs 42 _ from hkp.2.trans hBs).cell
      have hqi : (q : Int) < (n : Int) := by omega
      have hqn : q < n := by omega
      have HZ := hide (show q + k + 1 = bs.length by omega)
      have HK := hide (show k + 1 ≤ n by omega)
      have HQ := hide hz
      have HKP := hide hkp
      have HYS := hide (fun W' => show KeepL n₀ Bs wr W' → KeepL n₀ Bs W W' from fun h => ⟨hkp.1.trans h.1, h.2.trans hkp.2⟩)
      clear hcl hz hz0 hL eb hkp hc0 hk
      gi_wp2
      refine hR.mono ?_
      rintro e W3 (⟨rfl, hJ3, hk3⟩ | ⟨rfl, hJx3⟩)
      · gi_wp2
        go_roundw
        case rel => exact ⟨k + 1, (q : Int) - 1, HK.out, by go_num, by have := HQ.out; omega, ⟨_, downTo_succ hys HZ.out, hJ3⟩, HYS.out _ hk3⟩
        case measure => first | (simp [intOf]; done) | (simp [intOf]; omega)
      · gi_wp2
        refine bodyPost_ret (results_none rfl _ _ _) rfl ?_
        exact ⟨⟨_, rfl⟩, .inr ⟨_, ⟨k + 1, HK.out, downTo_succ hys HZ.out⟩, hJx3⟩⟩
    · obtain rfl : k = n := by omega
      gi_wp2
      go_end0
      exact ⟨⟨_, rfl⟩, .inl ⟨ys, hys, hJ⟩⟩

theorem back_stops (m : Nat) (hm : 1 ≤ m) (Bs n₀ : Nat) (A : Option Addr) (n c : Nat) (bs : List Bd) (w : World) (hn₀ : n₀ ≤ w.heap.size) (hBs : Boxed w Bs 42 (.slice A n c)) (hI : BdsOk w n₀ A n c bs) :
    SeqStopsK Fence.wide m Try.prog 57 #[.pointer (some ⟨Bs, 0, none⟩)] (fun x : BIx bs => #[.int .i64 (x.1 : Int), .agg (bs[x.1]'x.2).arr]) (KeepL n₀ Bs) (fun ys => DownTo ys n) (fun pre => ∃ k, k ≤ n ∧ DownTo pre k) n w := fun l J Jx W hW _ _ hY h0 =>
  back1_in m hm l Bs n₀ A n c bs J Jx hY W ((hW.block _ (Array.getElem?_eq_some_iff.1 hBs).1).trans hBs) ⟨hI.1.below (hW.mono hn₀), fun b hb => ScsOk.below (hI.2 b hb) (hW.mono hn₀)⟩ h0

theorem backward_any (A : Option Addr) (n c : Nat) (w : World) :
    Calls Try.prog 47 #[.slice A n c] w fun e w' => e = .returned (.func (.func 57) #[] #[.pointer (some ⟨w.heap.size, 0, none⟩)]) ∧
      w.alloc (.cells #[.slice A n c] 42) = w' := by
  have hmf : ∀ (fn : Fn) (first cap : Array Value) (w : World), (Instr.makeFunc fn first cap).run Try.prog w = .ok (.func fn first cap) w := fun _ _ _ _ => rfl
  go_enter Try.func47, Try.ntmps47
  go_wp2
  go_ret
  exact ⟨rfl, rfl⟩
/-! Latest -/
def LatB (w : World) (t : Int) (i : Int) (ok : Bool) (W : World) : Prop := Boxed W w.heap.size 3 (.int .i64 t) ∧ Boxed W (w.heap.size + 1) 3 (.int .i64 i) ∧ Boxed W (w.heap.size + 1 + 1) 4 (.bool ok)
theorem latB_own {β : Type} (w : World) (t : Int) (f : β → Int) (g : β → Bool) : Own (fun s W => LatB w t (f s) (g s) W) := fun s X Y row hs hg hr =>
  ⟨boxed_own _ _ (fun _ => _) s X Y row hs.1 hg hr, boxed_own _ _ (fun s => .int .i64 (f s)) s X Y row hs.2.1 hg hr, boxed_own _ _ (fun s => .bool (g s)) s X Y row hs.2.2 hg hr⟩

theorem boxed_thr {W W' : World} {B : Nat} {ty : TypeId} {v : Value} (h : Boxed W B ty v) (hb : Below W.heap.size W W') : Boxed W' B ty v := (hb.block _ (Array.getElem?_eq_some_iff.1 h).1).trans h
theorem latB_thr {w W W' : World} {t i : Int} {ok : Bool} (h : LatB w t i ok W) (hb : Below W.heap.size W W') : LatB w t i ok W' := ⟨boxed_thr h.1 hb, boxed_thr h.2.1 hb, boxed_thr h.2.2 hb⟩
theorem latB_set {w W : World} {t i : Int} {ok : Bool} (h : LatB w t i ok W) (j : Int) (up : Bool) : LatB w t j up ((W.setCell ⟨w.heap.size + 1, 0, none⟩ (.int .i64 j)).setCell ⟨w.heap.size + 1 + 1, 0, none⟩ (.bool up)) :=
  ⟨(h.1.other (by omega) _).other (by omega) _, (h.2.1.set _).other (by omega) _, (h.2.2.other (by omega) _).set _⟩

set_option maxRecDepth 100000 in
set_option maxHeartbeats 1000000 in
theorem latest_any (A : Option Addr) (n c : Nat) (bs : List Bd) (t : Int) (w : World) (hs : BdsOk w w.heap.size A n c bs) :
    Calls Try.prog 26 #[.slice A n c, .int .i64 t] w fun e w' => e = .returned (.tuple #[.int .i64 ((latL t bs n).getD 0 : Nat), .bool (latL t bs n).isSome]) ∧ Below w.heap.size w w' := by
  have HS := hide hs
  have HL := hide hs.len
  clear hs
  refine (callsIn_wide (n := 6)).1 ?_
  refine callsIn_of_wp_marks Try.func26 rfl trivial ?_ rfl
  simp only [Try.ntmps26, List.size_toArray, List.length_cons, List.length_nil, Nat.reduceAdd, Nat.reduceSub, Array.replicate_succ, Array.replicate_zero, List.push_toArray, List.append_toArray, List.nil_append, List.cons_append]
  gi_wp2_with (refine ⟨trivial, ?_⟩; gi_at_call 47; refine (callsIn_wide.2 (backward_any _ _ _ _)).mono ?_; rintro e w' ⟨rfl, rfl⟩)
  have bT := Boxed.new w 3 (.int .i64 t)
  have bI := Boxed.new (w.alloc (.cells #[.int .i64 t] 3)) 3 (.int .i64 0)
  have bO := Boxed.new ((w.alloc (.cells #[.int .i64 t] 3)).alloc (.cells #[.int .i64 0] 3)) 4 (.bool false)
  have bS := Boxed.new (((w.alloc (.cells #[.int .i64 t] 3)).alloc (.cells #[.int .i64 0] 3)).alloc (.cells #[.bool false] 4)) 42 (.slice A n c)
  rw [World.size_alloc] at bI
  rw [World.size_alloc, World.size_alloc] at bO
  rw [World.size_alloc, World.size_alloc, World.size_alloc] at bS
  have hL0 : LatB w t 0 false ((((w.alloc (.cells #[.int .i64 t] 3)).alloc (.cells #[.int .i64 0] 3)).alloc (.cells #[.bool false] 4)).alloc (.cells #[.slice A n c] 42)) := ⟨((bT.alloc _).alloc _).alloc _, (bI.alloc _).alloc _, bO.alloc _⟩
  have hB0 : Below w.heap.size w ((((w.alloc (.cells #[.int .i64 t] 3)).alloc (.cells #[.int .i64 0] 3)).alloc (.cells #[.bool false] 4)).alloc (.cells #[.slice A n c] 42)) := ((((Below.refl _ w).alloc (Nat.le_refl _) _).alloc (by simp) _).alloc (by simp; omega) _).alloc (by simp; omega) _
  have hsz : ((((w.alloc (.cells #[.int .i64 t] 3)).alloc (.cells #[.int .i64 0] 3)).alloc (.cells #[.bool false] 4)).alloc (.cells #[.slice A n c] 42)).heap.size = w.heap.size + 4 := by simp
  clear bT bI bO
  generalize ((((w.alloc (.cells #[.int .i64 t] 3)).alloc (.cells #[.int .i64 0] 3)).alloc (.cells #[.bool false] 4)).alloc (.cells #[.slice A n c] 42)) = W0 at *
  have hs0 : BdsOk W0 w.heap.size A n c bs := ⟨HS.out.1.below hB0, fun b hb => ScsOk.below (HS.out.2 b hb) hB0⟩
  refine wpIn_rangeFunc_ownH rfl (by omega) (gf := 57) (lb := #[.pointer (some ⟨w.heap.size + 1 + 1 + 1, 0, none⟩)]) rfl trivial (enters_of Try.func57 (by kernel_rfl) rfl)
    (back_stops 5 (by omega) (w.heap.size + 1 + 1 + 1) w.heap.size A n c bs W0 (by omega) bS hs0) ?kt ?kb (Below.refl _ _) (fun _ => rfl)
    (fun pre W => (∀ p ∈ pre, stepE (bs[p.1]'p.2) t ≠ 0) ∧ LatB w t 0 false W ∧ Below w.heap.size w W ∧ w.heap.size + 4 ≤ W.heap.size)
    (fun cd pre W => (cd = .ret ∧ ∃ ini last, pre = ini ++ [last] ∧ (∀ p ∈ ini, stepE (bs[p.1]'p.2) t ≠ 0) ∧ stepE (bs[last.1]'last.2) t = 0 ∧ LatB w t (last.1 : Nat) true W) ∧ Below w.heap.size w W)
    (OwnFrom.and (ownFrom_pure _ _) (OwnFrom.and (Own.from (latB_own w t (fun _ => 0) (fun _ => false)) _) (OwnFrom.and (ownFrom_below (Nat.le_refl _) (by omega)) (fun _ X Y row h hg hr => Nat.le_trans h hg.size))))
    (fun cd => OwnFrom.and (Own.from (fun s X Y row hs hg hr => by obtain ⟨hc, ini, last, e1, e2, e3, e4⟩ := hs; exact ⟨hc, ini, last, e1, e2, e3, latB_own w t (fun _ : Unit => (last.1 : Int)) (fun _ => true) () X Y row e4 hg hr⟩) _) (ownFrom_below (Nat.le_refl _) (by omega)))
    ⟨by simp, hL0, hB0, by omega⟩
    (fun x a' W => ∃ Bx, w.heap.size + 4 ≤ Bx ∧ Blk W Bx 27 (bs[x.1]'x.2).arr ∧ a' = { tmps := #[.slice A n c, .int .i64 t, undef, .pointer (some ⟨w.heap.size, 0, none⟩), .pointer (some ⟨w.heap.size + 1, 0, none⟩), .pointer (some ⟨w.heap.size + 1 + 1, 0, none⟩), .int .i64 (x.1 : Int), .pointer (some ⟨Bx, 0, none⟩), .slice A n c,
      .func (.func 57) #[] #[.pointer (some ⟨w.heap.size + 1 + 1 + 1, 0, none⟩)], .int .i64 (x.1 : Int), .agg (bs[x.1]'x.2).arr, undef, undef, undef, undef, undef], defers := [] })
    ?hax ?assign ?body ?done ?stop
  case kt => rintro X Y Z ⟨a1, a2⟩ ⟨b1, b2⟩; exact ⟨a1.trans b1, b2.trans a2⟩
  case kb =>
    intro W l o o' hl ho hc _
    have hlt := (Array.getElem?_eq_some_iff.1 ho).1
    exact ⟨(Below.refl _ W).grown (grownBy_putObj' W l o') (by omega) (fun k e => by cases e; omega), World.putObj_heap_other (by omega)⟩
  case hax =>
    rintro x a' s X Y row ⟨Bx, h1, h2, h3⟩ hg hr
    exact ⟨Bx, h1, Own.from (blk_own Bx 27 (fun _ : Unit => (bs[x.1]'x.2).arr)) _ () X Y row h2 hg hr, h3⟩
  case assign =>
    rintro l pre x W K ⟨hi1, hi2, hi3, hi4⟩ hK
    obtain ⟨b, eb⟩ : ∃ b, bs[x.1]'x.2 = b := ⟨_, rfl⟩
    rw [eb] at hK ⊢
    have hK2 := hK _ (W.alloc (.cells b.arr 27)) ((KeepsOthers.alloc _ _).from _) ⟨(Below.refl _ W).alloc hi3.size _, Below.heap_alloc _ _ _ (by omega)⟩
      ⟨hi1, ⟨hi2.1.alloc _, hi2.2.1.alloc _, hi2.2.2.alloc _⟩, hi3.alloc hi3.size _, by simp; omega⟩ ⟨W.heap.size, hi4, Blk.new _ _ _, rfl⟩
    unfold Bd.arr at hK2 ⊢
    clear hK
    gi_wp2
    exact hK2
  case body =>
    rintro l pre x a' W hl ⟨r, hr⟩ ⟨hi1, hi2, hi3, hi4⟩ ⟨Bx, hBx, hbk, rfl⟩ hlt
    obtain ⟨b, eb⟩ : ∃ b, bs[x.1]'x.2 = b := ⟨_, rfl⟩
    have hok : b.ok W W.heap.size := by
      have h := HS.out.2 b (by rw [← eb]; exact List.getElem_mem _)
      exact Bd.ok.thr h hi3
    have HSA := hide (step_any b t W hok)
    have HEB := hide (show stepE (bs[x.1]'x.2) t = stepE b t by rw [eb])
    have HI := hide hi1
    rw [eb] at hbk ⊢
    generalize stepE b t = se at *
    unfold Bd.arr at hbk HSA ⊢
    obtain ⟨c0, c1, c2, _⟩ := hbk.facts3
    have k0 := hi2.1.cell
    have l5 : 1 ≤ 6 - 1 - 1 := by omega
    clear hok hi1 hr
    by_cases hse : se = 0
    · have hq : (se == 0) = true := by simp [hse]
      have HSE := hide (HEB.out.trans hse)
      clear hse
      gi_wp2_with (refine ⟨trivial, ?_⟩; gi_at_call 39; refine (CallsIn.inRound l (callsIn_wide.2 HSA.out)).mono ?_; rintro e w' ⟨rfl, hb2⟩; have m2 := latB_thr hi2 hb2; have m0 := m2.2.1.cell; have m1 := m2.2.2.cell; have f0 := m2.2.1.frozen; have f1 := m2.2.2.frozen)
      refine ⟨(keeps_below hb2).trans (((KeepsOthers.setCell _ _ _).from _).trans ((KeepsOthers.setCell _ _ _).from _)), ⟨rfl, pre, x, rfl, HI.out, HSE.out, latB_set m2 _ _⟩, ?_⟩
      exact ((bthr hi3 hb2 hi3.size).setCell (p := ⟨w.heap.size + 1, 0, none⟩) (by simp) _).setCell (p := ⟨w.heap.size + 1 + 1, 0, none⟩) (by simp; omega) _
    · have hq : (se == 0) = false := by simp [hse]
      have HSE := hide (show stepE (bs[x.1]'x.2) t ≠ 0 by rw [HEB.out]; exact hse)
      clear hse
      gi_wp2_with (refine ⟨trivial, ?_⟩; gi_at_call 39; refine (CallsIn.inRound l (callsIn_wide.2 HSA.out)).mono ?_; rintro e w' ⟨rfl, hb2⟩)
      refine ⟨keeps_below hb2, ⟨hb2.mono hi3.size, hb2.block _ (by omega)⟩, fun p hp => (List.mem_append.1 hp).elim (HI.out p) (fun e => by simp at e; subst e; exact HSE.out), latB_thr hi2 hb2, bthr hi3 hb2 hi3.size, Nat.le_trans hi4 hb2.size⟩
  case done =>
    rintro D ys W hD hys ⟨hi1, hi2, hi3, hi4⟩ hK
    have HN := hide (show latL t bs n = none from latL_none (fun j b hj hb => by
      have hl := HL.out
      obtain ⟨x, hx, e⟩ := downTo_mem hys (j := j) (by omega) (by omega)
      have h := hi1 x hx
      have e2 : bs[x.1]'x.2 = b := by
        rw [← e, List.getElem?_eq_getElem x.2] at hb
        exact Option.some.inj hb
      rw [e2] at h; exact h))
    have m0 := hi2.2.1.cell
    have m1 := hi2.2.2.cell
    have f0 := hi2.2.1.frozen
    have f1 := hi2.2.2.frozen
    clear hi1 hys
    gi_wp2
    have m2 := latB_set hi2 0 false
    have hK' := (KeepsOthers.setCell (W.setCell ⟨w.heap.size + 1, 0, none⟩ (.int .i64 0)) ⟨w.heap.size + 1 + 1, 0, none⟩ (.bool false)).same D _ ((KeepsOthers.setCell W ⟨w.heap.size + 1, 0, none⟩ (.int .i64 0)).same D _ hK rfl) rfl
    refine ⟨by simp, .inl ⟨_, _, rfl, run_takeDeferred hK', ?_⟩⟩
    have n0 := cell_kept m2.2.1.cell (grownBy_putObj' _ D (.deferred none)) (fun r e => by cases e; exact ⟨_, hK', rfl⟩)
    have n1 := cell_kept m2.2.2.cell (grownBy_putObj' _ D (.deferred none)) (fun r e => by cases e; exact ⟨_, hK', rfl⟩)
    refine ⟨.tuple #[.int .i64 0, .bool false], ?_, by rw [HN.out]; rfl, ((hi3.setCell (p := ⟨w.heap.size + 1, 0, none⟩) (by simp) _).setCell (p := ⟨w.heap.size + 1 + 1, 0, none⟩) (by simp; omega) _).trans (belowK_b (w := w) (Nat.le_refl _) _ D _ _ (by omega) hK' rfl rfl)⟩
    simp [results, Try.f26, go_sem, n0, n1]
  case stop =>
    rintro D cd pre W hD ⟨k, hk, hpre⟩ ⟨⟨rfl, ini, last, rfl, e2, e3, m2⟩, hB⟩ hK
    have HN := hide (show latL t bs n = some last.1 from by
      have hl := HL.out
      obtain ⟨h1, h2, h3⟩ := downTo_last hpre
      refine latL_at (List.getElem?_eq_getElem last.2) e3 (by omega) (fun j b hj hjn hb => ?_)
      obtain ⟨x, hx, e⟩ := downTo_mem h1 (j := j) (by omega) (by omega)
      have h := e2 x hx
      have e2 : bs[x.1]'x.2 = b := by
        rw [← e, List.getElem?_eq_getElem x.2] at hb
        exact Option.some.inj hb
      rw [e2] at h; exact h)
    clear e2 e3 hpre
    gi_wp2
    refine ⟨by simp, .inl ⟨_, _, rfl, run_takeDeferred hK, ?_⟩⟩
    have n0 := cell_kept m2.2.1.cell (grownBy_putObj' _ D (.deferred none)) (fun r e => by cases e; exact ⟨_, hK, rfl⟩)
    have n1 := cell_kept m2.2.2.cell (grownBy_putObj' _ D (.deferred none)) (fun r e => by cases e; exact ⟨_, hK, rfl⟩)
    refine ⟨.tuple #[.int .i64 (last.1 : Nat), .bool true], ?_, by rw [HN.out]; rfl, hB.trans (belowK_b (w := w) (Nat.le_refl _) _ D _ _ (by omega) hK rfl rfl)⟩
    simp [results, Try.f26, go_sem, n0, n1]
end Go.Proofs.Ytmlpimidbgeacaa
