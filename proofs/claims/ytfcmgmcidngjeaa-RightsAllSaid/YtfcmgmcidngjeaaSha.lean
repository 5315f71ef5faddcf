/-
  The contract of quantity.Share at valid weights, 20 at most, and a valid amount. Conditions: these.
-/
import Derived.Test.YtfcmgmcidngjeaaProg
import Derived.Test.YtfcmgmcidngjeaaShr
import Derived.Test.YtfcmgmcidngjeaaFind
import Derived.Laws.OwnMore
namespace Go.Proofs.Ytfcmgmcidngjeaa
open Go.RowKit

theorem cfS1 : ∀ (a : Array Value) (W : World), (callFunc 44 a).run Try.prog W = .ok (.enter 44 a) W := fun _ _ => by kernel_rfl
theorem cfS2 : ∀ (a : Array Value) (W : World), (callFunc 47 a).run Try.prog W = .ok (.enter 47 a) W := fun _ _ => by kernel_rfl
theorem wrong_any (v : Int) (w : World) : Calls Try.prog 44 #[.int .i64 v] w fun e w' => e = .returned (.bool (!wit v 10000)) ∧ w = w' := by
  go_enter Try.func44, Try.ntmps44
  go_wp2_with (go_at_call 23; refine (within_any _ _ _).mono ?_; rintro e w' ⟨rfl, rfl⟩)
  go_ret
  exact ⟨rfl, rfl⟩
theorem prod_in {a x : Int} (ha : 0 ≤ a ∧ a ≤ 274877906944) (hx : 0 ≤ x ∧ x ≤ 10000) : 0 ≤ a * x ∧ a * x ≤ 2748779069440000 := by
  refine ⟨Int.mul_nonneg ha.1 hx.1, ?_⟩
  have := Int.mul_le_mul ha.2 hx.2 hx.1 (by omega)
  omega
theorem mod_in {p S : Int} (hS : 0 < S) : 0 ≤ p % S ∧ p % S < S := ⟨Int.emod_nonneg _ (by omega), Int.emod_lt_of_pos _ hS⟩
set_option maxRecDepth 20000 in
theorem scmp_any (a S : Int) (ws : List Int) (A : Option Addr) (n c g2 g3 g7 B : Nat) (x y : Int) (W : World) (ha : 0 ≤ a ∧ a ≤ 274877906944) (hS : 0 < S ∧ S ≤ 4611686018427387904) (hw : ∀ w ∈ ws, 0 ≤ w ∧ w ≤ 10000) (hs : Sl W B 1 A n c (ints ws)) (hx : 0 ≤ x ∧ x < n) (hy : 0 ≤ y ∧ y < n)
    (c2 : W.cell? ⟨g2, 0, none⟩ = some (.int .i64 a)) (c3 : W.cell? ⟨g3, 0, none⟩ = some (.slice A n c)) (c7 : W.cell? ⟨g7, 0, none⟩ = some (.int .i64 S)) :
    Calls Try.prog 47 #[.int .i64 x, .int .i64 y, .pointer (some ⟨g2, 0, none⟩), .pointer (some ⟨g3, 0, none⟩), .pointer (some ⟨g7, 0, none⟩)] W fun e w' => e = .returned (.int .i64 (cmpA a S ws x y)) ∧ Below W.heap.size W w' := by
  have hl : n = ws.length := by have := hs.1; rw [ints_length] at this; omega
  obtain ⟨i, rfl⟩ : ∃ i : Nat, x = (i : Int) := ⟨x.toNat, by omega⟩
  obtain ⟨j, rfl⟩ : ∃ j : Nat, y = (j : Int) := ⟨y.toNat, by omega⟩
  obtain ⟨b, o, rfl, _, hc⟩ := hs.at_ (k := i) (by omega)
  have ci := hc i _ (ints_get ws i (by omega))
  have cj := hc j _ (ints_get ws j (by omega))
  have wi : 0 ≤ ws.getD i 0 ∧ ws.getD i 0 ≤ 10000 := by
    rw [List.getD_eq_getElem?_getD, List.getElem?_eq_getElem (by omega)]; exact hw _ (List.getElem_mem _)
  have wj : 0 ≤ ws.getD j 0 ∧ ws.getD j 0 ≤ 10000 := by
    rw [List.getD_eq_getElem?_getD, List.getElem?_eq_getElem (by omega)]; exact hw _ (List.getElem_mem _)
  have HE := hide (show cmpA a S ws i j = (a * ws.getD j 0) % S - (a * ws.getD i 0) % S by simp [cmpA, remA])
  generalize ws.getD i 0 = u at *
  generalize ws.getD j 0 = v at *
  have hl2 := hide hl
  clear hs hw hc hl
  obtain ⟨p0, p1⟩ := prod_in ha wi
  obtain ⟨q0, q1⟩ := prod_in ha wj
  have HE2 := hide (show wrap64 (a * v % S - a * u % S) = cmpA a S ws i j by
    obtain ⟨r0, r1⟩ := mod_in (p := a * u) hS.1
    obtain ⟨s0, s1⟩ := mod_in (p := a * v) hS.1
    rw [HE.out, IntWalk.wrap64_in _ ⟨by omega, by omega⟩])
  obtain ⟨S0, S1⟩ := hS
  obtain ⟨a0, a1⟩ := ha
  obtain ⟨x0, x1⟩ := hx
  obtain ⟨y0, y1⟩ := hy
  clear HE wi wj
  go_enter Try.func47, Try.ntmps47
  go_wp2_with fail
  go_quiet (fail)
  go_wp2
  go_ret
  exact ⟨ret_int HE2.out, below_drewN (Below.refl _ _) _⟩
set_option maxRecDepth 20000 in
/-- SortStableFunc at no more than 20 integers. -/
theorem sstable_any (w0 : World) (g : Nat) (kc : FuncId) (cap : Array Value) (f : Int → Int → Int) (ok : Int → Prop) (hf : CmpSays w0 g kc cap f ok) (n c : Nat) (hn : n ≤ 20) (xs : List Int) (hl : xs.length = n) (hok : ∀ x ∈ xs, ok x) (w : World) (hw : w0.grownBy w (some g)) (hx : IRow w g xs) :
    Calls Try.prog 46 #[.slice (some ⟨g, 0, none⟩) n c, .func (.func kc) #[] cap] w fun e w' => e = .returned (.tuple #[]) ∧ IRow w' g (sortK f xs) ∧ w.grownBy w' (some g) := by
  have H := hide (stb_any w0 g kc cap f ok hf n c hn xs hl hok w hw hx)
  clear hf hl hok hx
  go_enter Try.func46, Try.ntmps46
  go_wp2_with fail
  refine H.out.mono ?_
  rintro e w1 ⟨rfl, hx1, hg1⟩
  go_wp2
  go_end0
  exact ⟨rfl, hx1, hg1⟩
end Go.Proofs.Ytfcmgmcidngjeaa
